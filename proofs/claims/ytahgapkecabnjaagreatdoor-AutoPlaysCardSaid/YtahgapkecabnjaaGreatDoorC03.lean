/- Maps of the model as functions from keys to elements: the laws of look-up, store, delete, len and of a new map; and an invariant rule for a region that draws its order. -/
import Derived.Maps.Keyed
import Derived.MapViews
import Derived.Carry
import Derived.OwnWalk
import Derived.WalkKit
import Derived.Orders
import Derived.KernelRfl
import Derived.RegionTactic
import Derived.DeepKeys4
import Derived.Test.YtahgapkecabnjaaGreatDoorProg
import Derived.Outline
import Derived.LoopTactic
import Derived.Lib.Hide
import Derived.Deep.LoopGhost
import Derived.Test.YtahgapkecabnjaaGreatDoorC02
import Derived.Test.YtahgapkecabnjaaGreatDoorC00
import Derived.Deep.QuietTactic
import Derived.BigQuiet
import Derived.WalkSmall
import Derived.WalkLawsBesides
namespace Go.Proofs.YtahgapkecabnjaaGreatDoor
set_option linter.unusedSimpArgs false
set_option linter.unusedVariables false
open Go Go.RowKit Go.Maps Go.MapKept
open Go.ChangeMaps (setBlock)

/-- The entries 'es' under 'clock' are those of the function f. -/
structure MapIs (P : Program) (k : TypeId) (es : Array MapEntry) (clock : Nat) (f : Value → Option Value) : Prop where
  stamped : Stamped es clock
  keys : ∀ e ∈ es.toList, ∃ l, keyOf P k e.key = some l
  has : ∀ e ∈ es.toList, f e.key = some e.val
  only : ∀ v x, f v = some x → ∃ e ∈ es.toList, e.key = v ∧ e.val = x

/-- Block b is a map that holds just what f says. -/
def IsMap (w : World) (P : Program) (k : TypeId) (b : Nat) (f : Value → Option Value) : Prop :=
  ∃ es clock, w.heap[b]? = some (.map es clock) ∧ MapIs P k es clock f

open Classical in
noncomputable def upd (f : Value → Option Value) (k : Value) (x : Option Value) : Value → Option Value := fun v => if v = k then x else f v

theorem upd_same (f : Value → Option Value) (k : Value) (x : Option Value) : upd f k x k = x := by simp [upd]
theorem upd_other (f : Value → Option Value) {k v : Value} (x : Option Value) (h : v ≠ k) : upd f k x v = f v := by simp [upd, h]

theorem IsMap.congr {w : World} {P : Program} {k : TypeId} {b : Nat} {f g : Value → Option Value} (h : IsMap w P k b f) (e : ∀ v, f v = g v) : IsMap w P k b g := by
  rw [← funext e]; exact h

theorem IsMap.of_block {w w' : World} {P : Program} {k : TypeId} {b : Nat} {f : Value → Option Value} (h : IsMap w P k b f) (e : w'.heap[b]? = w.heap[b]?) : IsMap w' P k b f := by
  obtain ⟨es, c, hb, hm⟩ := h
  exact ⟨es, c, e.trans hb, hm⟩

theorem IsMap.lt {w : World} {P : Program} {k : TypeId} {b : Nat} {f : Value → Option Value} (h : IsMap w P k b f) : b < w.heap.size := by
  obtain ⟨es, c, hb, _⟩ := h
  exact (Array.getElem?_eq_some_iff.1 hb).1

theorem IsMap.below {w w' : World} {P : Program} {k : TypeId} {b B : Nat} {f : Value → Option Value} (h : IsMap w P k b f) (hb : Below B w w') (hB : b < B) : IsMap w' P k b f :=
  h.of_block (hb.block b hB)

theorem IsMap.alloc {w : World} {P : Program} {k : TypeId} {b : Nat} {f : Value → Option Value} (h : IsMap w P k b f) (o : Obj) : IsMap (w.alloc o) P k b f :=
  h.of_block (Below.heap_alloc w o b h.lt)

/-- A new map. -/
theorem IsMap.made (w : World) (P : Program) (k : TypeId) : IsMap (w.alloc (.map #[] 0)) P k w.heap.size (fun _ => none) :=
  ⟨#[], 0, (MapKept.heap_alloc w _).1, stamped_empty 0, by simp, by simp, by simp⟩

section
variable {P : Program} {k : TypeId} {w : World} {b : Nat} {f : Value → Option Value} {t e : TypeId}

theorem MapIs.none_of {es : Array MapEntry} {clock : Nat} (M : MapIs P k es clock f) {key : Value} (h : ∀ e ∈ es.toList, e.key ≠ key) : f key = none := by
  cases hf : f key with
  | none => rfl
  | some x =>
    obtain ⟨e, he, hk, _⟩ := M.only key x hf
    exact absurd hk (h e he)

/-- 'm[k]' and 'v, ok := m[k]'. -/
theorem IsMap.lookup (h : IsMap w P k b f) (K : Keyed P k) (ht : P.underlying t = some (.map k e)) {z : Value} (hz : (zeroValue e).run P w = .ok z w)
    {key : Value} {kl : Lit} (hkey : keyOf P k key = some kl) (c : Bool) :
    (Instr.lookup t (.map (some b)) key c).run P w = .ok (if c then .tuple #[(f key).getD z, .bool (f key).isSome] else (f key).getD z) w := by
  obtain ⟨es, clock, hb, M⟩ := h
  rcases K.find w hkey es.toList M.keys with ⟨h1, h2⟩ | ⟨j, e0, h1, h2, h3⟩
  · have := M.none_of h2
    simp [Instr.lookup, run_underlying ht, MapKept.run_getObj_map hb, K.check w _ hkey, h1, hz, Result.andThen, this]
  · have hm0 : e0 ∈ es.toList := List.mem_of_getElem? h2
    have := M.has e0 hm0
    rw [h3] at this
    simp [Instr.lookup, run_underlying ht, MapKept.run_getObj_map hb, K.check w _ hkey, h1, Result.andThen, this]

theorem set_heap_same {o : Obj} (hb : b < w.heap.size) : (setBlock w b o).heap[b]? = some o := by
  simp [setBlock, Array.getElem?_setIfInBounds, hb]
theorem set_heap_other {o : Obj} {i : Nat} (h : i ≠ b) : (setBlock w b o).heap[i]? = w.heap[i]? := by
  simp [setBlock, Array.getElem?_setIfInBounds, Ne.symm h]

/-- 'm[k] = v'. -/
theorem IsMap.update (h : IsMap w P k b f) (K : Keyed P k) (ht : P.underlying t = some (.map k e)) {key : Value} {kl : Lit} (hkey : keyOf P k key = some kl) (val : Value) :
    ∃ o, (Instr.mapUpdate t (.map (some b)) key val).run P w = .ok () (setBlock w b o) ∧ IsMap (setBlock w b o) P k b (upd f key (some val)) := by
  have hlt := h.lt
  obtain ⟨es, clock, hb, M⟩ := h
  rcases K.find w hkey es.toList M.keys with ⟨h1, h2⟩ | ⟨j, e0, h1, h2, h3⟩
  · refine ⟨.map (es.push ⟨key, val, clock⟩) (clock + 1), ?_, es.push ⟨key, val, clock⟩, clock + 1, set_heap_same hlt, stamped_push M.stamped h2, ?_, ?_, ?_⟩
    · simp [Instr.mapUpdate, run_underlying ht, MapKept.run_getObj_map hb, K.check w false hkey, h1, MapKept.run_setObj_map _ hb, Result.andThen, setBlock]
    · intro x hx
      simp only [Array.toList_push, List.mem_append, List.mem_singleton] at hx
      rcases hx with hx | rfl
      · exact M.keys x hx
      · exact ⟨_, hkey⟩
    · intro x hx
      simp only [Array.toList_push, List.mem_append, List.mem_singleton] at hx
      rcases hx with hx | rfl
      · rw [upd_other _ _ (h2 x hx)]; exact M.has x hx
      · exact upd_same _ _ _
    · intro v x hv
      by_cases hvk : v = key
      · subst hvk
        rw [upd_same] at hv
        refine ⟨⟨v, val, clock⟩, by simp, rfl, by simpa using hv⟩
      · rw [upd_other _ _ hvk] at hv
        obtain ⟨e1, he1, hh⟩ := M.only v x hv
        exact ⟨e1, by simp [he1], hh⟩
  · have hj : es[j]? = some e0 := by simpa using h2
    have hm0 : e0 ∈ es.toList := List.mem_of_getElem? h2
    have hjl : j < es.toList.length := (List.getElem?_eq_some_iff.1 h2).1
    have hkeyf : ∀ e', es[j]? = some e' → ({ e' with key := key, val := val } : MapEntry).key = e'.key := fun e' he' => by rw [hj] at he'; cases he'; exact h3.symm
    have hlist : (es.modify j (fun e' => { e' with key := key, val := val })).toList = es.toList.set j { e0 with key := key, val := val } := by rw [Array.toList_modify, ChangeMaps.modify_eq_set _ _ _ _ h2]
    have hpw := ((stamped_iff es clock).1 M.stamped).2.2
    have other : ∀ i (hi : i < es.toList.length), i ≠ j → es.toList[i].key ≠ key := by
      intro i hi hne hk
      rw [← h3] at hk
      have hej : es.toList[j] = e0 := by
        have := List.getElem?_eq_getElem hjl
        rw [h2] at this; exact (Option.some.inj this).symm
      rcases Nat.lt_or_gt_of_ne hne with hlt' | hgt
      · exact List.pairwise_iff_getElem.1 hpw i j hi hjl hlt' (by rw [hk, hej])
      · exact List.pairwise_iff_getElem.1 hpw j i hjl hi hgt (by rw [hk, hej])
    have who : ∀ x ∈ es.toList.set j { e0 with key := key, val := val }, x = { e0 with key := key, val := val } ∨ (x ∈ es.toList ∧ x.key ≠ key) := by
      intro x hx
      obtain ⟨i, hi, ex⟩ := List.getElem_of_mem hx
      rw [List.getElem_set] at ex
      split at ex
      · exact Or.inl ex.symm
      · rename_i hne
        have hi' : i < es.toList.length := by simpa using hi
        exact Or.inr ⟨ex ▸ List.getElem_mem hi', ex ▸ other i hi' (fun e1 => hne e1.symm)⟩
    refine ⟨.map (es.modify j (fun e' => { e' with key := key, val := val })) clock, ?_, es.modify j (fun e' => { e' with key := key, val := val }), clock, set_heap_same hlt,
      stamped_modify M.stamped _ _ (fun _ _ => rfl) (fun e' _ he' => hkeyf e' he'), ?_, ?_, ?_⟩
    · simp [Instr.mapUpdate, run_underlying ht, MapKept.run_getObj_map hb, K.check w false hkey, h1, hj, h3, K.stays w hkey, MapKept.run_setObj_map _ hb, Result.andThen, setBlock]
    · intro x hx
      rw [hlist] at hx
      rcases who x hx with rfl | ⟨hx', _⟩
      · exact ⟨_, hkey⟩
      · exact M.keys x hx'
    · intro x hx
      rw [hlist] at hx
      rcases who x hx with rfl | ⟨hx', hne⟩
      · exact upd_same _ _ _
      · rw [upd_other _ _ hne]; exact M.has x hx'
    · intro v x hv
      by_cases hvk : v = key
      · subst hvk
        rw [upd_same] at hv
        refine ⟨{ e0 with key := v, val := val }, ?_, rfl, by simpa using hv⟩
        rw [hlist]
        exact List.mem_iff_getElem.2 ⟨j, by simpa using hjl, by simp⟩
      · rw [upd_other _ _ hvk] at hv
        obtain ⟨e1, he1, hh⟩ := M.only v x hv
        refine ⟨e1, ?_, hh⟩
        rw [hlist]
        obtain ⟨i, hi, ei⟩ := List.getElem_of_mem he1
        have hij : i ≠ j := by
          rintro rfl
          apply hvk
          rw [← hh.1, ← ei, ← h3]
          have := List.getElem?_eq_getElem hi
          rw [h2] at this; rw [← Option.some.inj this]
        exact List.mem_iff_getElem.2 ⟨i, by simpa using hi, by rw [List.getElem_set, if_neg (Ne.symm hij)]; exact ei⟩
end

/-! ### Keys that are structs or arrays -/
theorem keyOf_wide {P : Program} {k : TypeId} {v : Value} (hwide : (match P.underlying k with | some (.array _ _) | some (.struct _) => true | _ => false) = true) (hT : P.keyType k = true) (hf : v.formed P k = true)
    (hne : (P.types.size != 0) = true) {ls : List Lit} (h : ∀ m, P.keyLits (m + 2) k v.cells.toList = some ls) : keyOf P k v = some (.string (keyBytes ls)) := by
  obtain ⟨m, hm⟩ := Nat.exists_eq_add_one_of_ne_zero (bne_iff_ne.1 hne)
  have h2 : P.keyLits (P.types.size + 1) k v.cells.toList = some ls := by rw [hm]; exact h m
  unfold keyOf
  split
  · simp [hT, hf, h2]
  · simp [hT, hf, h2]
  · rename_i h3 h4
    exfalso
    split at hwide
    · exact h3 _ _ ‹_›
    · exact h4 _ ‹_›
    · cases hwide

/-! ### Only one block has changed -/
structure OnlyB (b : Nat) (w w' : World) : Prop where
  os : w'.os = w.os
  tape : w'.tape = w.tape
  output : w'.output = w.output
  drawn : w'.drawn = w.drawn
  size : w'.heap.size = w.heap.size
  other : ∀ i, i ≠ b → w'.heap[i]? = w.heap[i]?

theorem OnlyB.refl (b : Nat) (w : World) : OnlyB b w w := ⟨rfl, rfl, rfl, rfl, rfl, fun _ _ => rfl⟩
theorem OnlyB.trans {b : Nat} {w1 w2 w3 : World} (h : OnlyB b w1 w2) (h' : OnlyB b w2 w3) : OnlyB b w1 w3 :=
  ⟨h'.os.trans h.os, h'.tape.trans h.tape, h'.output.trans h.output, h'.drawn.trans h.drawn, h'.size.trans h.size, fun i hi => (h'.other i hi).trans (h.other i hi)⟩
theorem OnlyB.set (w : World) (b : Nat) (o : Obj) : OnlyB b w (setBlock w b o) :=
  ⟨rfl, rfl, rfl, rfl, by simp [setBlock], fun _ hi => set_heap_other hi⟩
theorem OnlyB.below {B b : Nat} {w w' : World} (h : OnlyB b w w') (hb : B ≤ b) : Below B w w' :=
  ⟨h.os, h.tape, h.output, Nat.le_of_eq h.size.symm, fun i hi => h.other i (by omega)⟩

/-! ### The stores of a map's literal, in whatever order -/
section
variable {P : Program} {ops : Array Oper} {Q : Exit → Act → World → Prop} {md : Region.Mode} {k t e : TypeId} {b : Nat} {A : Act}

theorem ready_nil_of_all {L : Array Bool} (h : ∀ i, L.getD i true = true) : Region.ready md ops L = [] := by
  rw [List.eq_nil_iff_forall_not_mem]
  intro i hi
  have := (mem_ready.1 hi).1
  rw [h i] at this
  cases this

/-- ins: the operations' numbers, the keys, the elements. f: the map behind them all. -/
theorem wpAny_inserts (K : Keyed P k) (ht : P.underlying t = some (.map k e)) (f : Value → Option Value) (fuel : Nat) :
    ∀ (n : Nat) (ins : List (Nat × Value × Value)) (L : Array Bool) (f0 : Value → Option Value) (w : World), ins.length = n →
    (∀ x ∈ ins, ∃ o m ki ci, ops[x.1]? = some o ∧ o.op = .insert t m ki ci ∧ o.guard = none ∧ o.dst = none ∧ A.eval m = .map (some b) ∧ A.eval ki = x.2.1 ∧ A.eval ci = x.2.2 ∧ (∃ kl, keyOf P k x.2.1 = some kl) ∧ x.1 < L.size) →
    (ins.map (·.1)).Nodup →
    (∀ x ∈ ins, L.getD x.1 true = false ∧ x.1 ∈ Region.ready md ops L) →
    (∀ i, L.getD i true = false → i ∈ ins.map (·.1) ∨ ∃ o, ops[i]? = some o ∧ ∀ j ∈ ins.map (·.1), ∃ e ∈ o.after, Region.binds md e = true ∧ e.on = j) →
    IsMap w P k b f0 → (∀ x ∈ ins, f x.2.1 = some x.2.2) → (∀ v, (∀ x ∈ ins, v ≠ x.2.1) → f v = f0 v) →
    (∀ w' L', OnlyB b w w' → IsMap w' P k b f → L'.size = L.size → (∀ i, L'.getD i true = (L.getD i true || decide (i ∈ ins.map (·.1)))) → wpAny P md ops Q fuel L' A w') →
    wpAny P md ops Q (fuel + n) L A w
  | 0, ins, L, f0, w, hn, _, _, _, _, hm, _, hf0, H => by
    obtain rfl := List.eq_nil_of_length_eq_zero hn
    exact H w L (OnlyB.refl _ _) (hm.congr fun v => (hf0 v (by simp)).symm) rfl (by simp)
  | n + 1, ins, L, f0, w, hn, hops, hnd, hL, htail, hm, hf, hf0, H => by
    classical
    obtain ⟨x0, hx0⟩ : ∃ x, x ∈ ins := List.exists_mem_of_length_pos (by omega)
    show (Region.ready md ops L = [] → Q .normal A w) ∧ ∀ i ∈ Region.ready md ops L, wpOp P ops Q i (wpAny P md ops Q (fuel + n) (L.setIfInBounds i true)) A w
    refine ⟨fun h => ?_, fun i hi => ?_⟩
    · have := (hL x0 hx0).2
      rw [h] at this
      cases this
    · have hmem : i ∈ ins.map (·.1) := by
        rcases htail i (mem_ready.1 hi).1 with h | ⟨o, ho, h⟩
        · exact h
        · obtain ⟨ed, hed, hb, hon⟩ := h x0.1 (List.mem_map.2 ⟨x0, hx0, rfl⟩)
          obtain ⟨_, o', ho', hall⟩ := mem_ready.1 hi
          rw [ho] at ho'
          cases ho'
          have h1 := hall ed hed hb
          have h2 := (hL x0 hx0).1
          rw [hon] at h1
          have : x0.1 < L.size := by obtain ⟨_, _, _, _, _, _, _, _, _, _, _, _, h⟩ := hops x0 hx0; exact h
          simp [this] at h1 h2
          rw [h1] at h2
          cases h2
      obtain ⟨x, hx, rfl⟩ := List.mem_map.1 hmem
      obtain ⟨o, m, ki, ci, ho, hop, hg, hd, hem, hek, hec, ⟨kl, hkl⟩, hlt⟩ := hops x hx
      obtain ⟨ob, hrun, hm'⟩ := hm.update K ht hkl x.2.2
      have hperm := List.perm_cons_erase hx
      have hnd' : ((ins.erase x).map (·.1)).Nodup ∧ x.1 ∉ (ins.erase x).map (·.1) := by
        have := (hperm.map (·.1)).nodup_iff.1 hnd
        rw [List.map_cons, List.nodup_cons] at this
        exact ⟨this.2, this.1⟩
      have hmemE : ∀ i, i ∈ ins.map (·.1) ↔ i = x.1 ∨ i ∈ (ins.erase x).map (·.1) := fun i => by
        rw [(hperm.map (·.1)).mem_iff, List.map_cons, List.mem_cons]
      unfold wpOp
      simp only [ho]
      have hw : Region.wanted o (yielded ops A.tmps) = true := by simp [Region.wanted, hg]
      rw [if_pos hw]
      refine .inl ?_
      have hexec : (execOp A.eval o).run P w = .ok .skip (setBlock w b ob) := by
        simp [execOp, hop, hem, hek, hec, hrun, Result.andThen]
      unfold Oper.wp
      rw [hexec, Oper.upon_skip, hd]
      show wpAny P md ops Q (fuel + n) (L.setIfInBounds x.1 true) A (setBlock w b ob)
      have hset : ∀ i, (L.setIfInBounds x.1 true).getD i true = (L.getD i true || decide (i = x.1)) := fun i => by
        by_cases hi : i = x.1
        · subst hi; simp [hlt]
        · rw [getD_set_ne true (Ne.symm hi)]; simp [hi]
      refine wpAny_inserts K ht f fuel n (ins.erase x) (L.setIfInBounds x.1 true) (upd f0 x.2.1 (some x.2.2)) (setBlock w b ob) (by rw [List.length_erase_of_mem hx]; omega)
        (fun y hy => ?_) hnd'.1 (fun y hy => ?_) (fun i hi' => ?_) hm' (fun y hy => hf y (List.mem_of_mem_erase hy)) (fun v hv => ?_) (fun w' L' h1 h2 h3 h4 => ?_)
      · obtain ⟨o, m, ki, ci, h1, h2, h3, h4, h5, h6, h7, h8, h9⟩ := hops y (List.mem_of_mem_erase hy)
        exact ⟨o, m, ki, ci, h1, h2, h3, h4, h5, h6, h7, h8, by simpa using h9⟩
      · have hne : y.1 ≠ x.1 := fun e => hnd'.2 (List.mem_map.2 ⟨y, hy, e⟩)
        exact ⟨by rw [getD_set_ne true (Ne.symm hne)]; exact (hL y (List.mem_of_mem_erase hy)).1, ready_mono (hL y (List.mem_of_mem_erase hy)).2 hne⟩
      · rw [hset, Bool.or_eq_false_iff, decide_eq_false_iff_not] at hi'
        rcases htail i hi'.1 with h | ⟨o, h0, h⟩
        · exact .inl (((hmemE i).1 h).resolve_left hi'.2)
        · exact .inr ⟨o, h0, fun j hj => h j ((hmemE j).2 (.inr hj))⟩
      · by_cases hvx : v = x.2.1
        · subst hvx; rw [upd_same]; exact hf x hx
        · rw [upd_other _ _ hvx]
          refine hf0 v fun y hy => ?_
          rcases List.mem_cons.1 (hperm.mem_iff.1 hy) with rfl | hy'
          · exact hvx
          · exact hv y hy'
      · refine H w' L' ((OnlyB.set w b ob).trans h1) h2 (by rw [h3]; simp) (fun i => ?_)
        rw [h4, hset]
        by_cases hi1 : i = x.1
        · subst hi1; simp [(hmemE x.1).2 (.inl rfl)]
        · have : decide (i ∈ ins.map (·.1)) = decide (i ∈ (ins.erase x).map (·.1)) := by
            rw [decide_eq_decide, hmemE]; simp [hi1]
          rw [this]; simp [hi1]

/-- The checks of 'wpAny_inserts' as one closed Bool. -/
def insB (md : Region.Mode) (ops : Array Oper) (L : Array Bool) (idx : List Nat) : Bool :=
  ((List.range L.size).all fun i => L.getD i true || idx.contains i || (match ops[i]? with | some o => idx.all fun j => o.after.toList.any fun e => Region.binds md e && e.on == j | none => false)) &&
  (idx.all fun i => (Region.ready md ops L).contains i && !L.getD i true && decide (i < L.size)) && decide idx.Nodup

theorem wpAny_inserts' (K : Keyed P k) (ht : P.underlying t = some (.map k e)) (f : Value → Option Value) (fuel : Nat) (ins : List (Nat × Value × Value)) (L : Array Bool) (f0 : Value → Option Value) (w : World)
    (hops : ∀ x ∈ ins, ∃ o m ki ci, ops[x.1]? = some o ∧ o.op = .insert t m ki ci ∧ o.guard = none ∧ o.dst = none ∧ A.eval m = .map (some b) ∧ A.eval ki = x.2.1 ∧ A.eval ci = x.2.2 ∧ (∃ kl, keyOf P k x.2.1 = some kl))
    (hB : insB md ops L (ins.map (·.1)) = true)
    (hm : IsMap w P k b f0) (hf : ∀ x ∈ ins, f x.2.1 = some x.2.2) (hf0 : ∀ v, (∀ x ∈ ins, v ≠ x.2.1) → f v = f0 v)
    (H : ∀ w', OnlyB b w w' → IsMap w' P k b f → wpAny P md ops Q fuel ((List.range L.size).map fun i => L.getD i true || (ins.map (·.1)).contains i).toArray A w') :
    wpAny P md ops Q (fuel + ins.length) L A w := by
  simp only [insB, Bool.and_eq_true, List.all_eq_true, decide_eq_true_eq] at hB
  obtain ⟨⟨h1, h2⟩, h3⟩ := hB
  refine wpAny_inserts K ht f fuel ins.length ins L f0 w rfl (fun x hx => ?_) h3 (fun x hx => ?_) (fun i hi => ?_) hm hf hf0 (fun w' L' g1 g2 g3 g4 => ?_)
  · obtain ⟨o, m, ki, ci, e1, e2, e3, e4, e5, e6, e7, e8⟩ := hops x hx
    exact ⟨o, m, ki, ci, e1, e2, e3, e4, e5, e6, e7, e8, (h2 x.1 (List.mem_map.2 ⟨x, hx, rfl⟩)).2⟩
  · have := h2 x.1 (List.mem_map.2 ⟨x, hx, rfl⟩)
    exact ⟨by simpa using this.1.2, by simpa using this.1.1⟩
  · by_cases hlt : i < L.size
    · have := h1 i (List.mem_range.2 hlt)
      rw [hi, Bool.false_or, Bool.or_eq_true] at this
      rcases this with h | h
      · exact .inl (by simpa using h)
      · split at h
        · rename_i o ho
          refine .inr ⟨o, ho, fun j hj => ?_⟩
          rw [List.all_eq_true] at h
          have := h j hj
          rw [List.any_eq_true] at this
          obtain ⟨ed, hed, hb⟩ := this
          rw [Bool.and_eq_true, beq_iff_eq] at hb
          exact ⟨ed, by simpa using hed, hb.1, hb.2⟩
        · cases h
    · simp [Nat.not_lt.1 hlt] at hi
  · have he : L' = ((List.range L.size).map fun i => L.getD i true || (ins.map (·.1)).contains i).toArray := by
      apply Array.ext
      · simp [g3]
      · intro i hi1 hi2
        have := g4 i
        have e1 : L'.getD i true = L'[i] := by simp [hi1]
        rw [e1] at this
        rw [this, List.getElem_toArray, List.getElem_map, List.getElem_range, Bool.eq_iff_iff]
        simp
    rw [he]
    exact H w' g1 g2
end
end Go.Proofs.YtahgapkecabnjaaGreatDoor
/- The walk of trace.moves: a map's literal in any order, then two loops that store. -/
namespace Go.Proofs.YtahgapkecabnjaaGreatDoor
set_option linter.unusedSimpArgs false
set_option linter.unusedVariables false
open Go Go.RowKit Go.Maps Go.MapKept
open Go.ChangeMaps (setBlock)

def mkey (s : Int) (r : Bool) (k : Int) : Value := .agg #[.int .i64 s, .bool r, .int .i64 k]

theorem mkey_keyed : Keyed Tryz.prog 159 := Keyed.of_law (deep_law_laid (by kernel_rfl) (m := 3) (by decide) (of_decide_eq_true (by kernel_rfl)) (by kernel_rfl) (by kernel_rfl))

theorem types_pos : (Tryz.prog.types.size != 0) = true := by kernel_rfl
theorem cells_int : Tryz.prog.cellsOf 3 = 1 := by kernel_rfl
theorem cells_bool : Tryz.prog.cellsOf 4 = 1 := by kernel_rfl
theorem cells_move : Tryz.prog.cellsOf 159 = 3 := by kernel_rfl
theorem keyType_move : Tryz.prog.keyType 159 = true := by kernel_rfl

theorem mkey_key {s k : Int} (r : Bool) (hs : (Lit.int .i64 s).wf = true) (hk : (Lit.int .i64 k).wf = true) : ∃ kl, keyOf Tryz.prog 159 (mkey s r k) = some kl :=
  ⟨_, keyOf_wide (by rw [Tryz.underlying159]) keyType_move (by simp [mkey, Value.formed, Tryz.underlying159, cells_move]) types_pos
    (ls := [.int .i64 s, .bool r, .int .i64 k]) fun m => by
      simp [mkey, Value.cells, Program.keyLits, cells_move, cells_int, cells_bool, Tryz.underlying159, Tryz.underlying3, Tryz.underlying4, hs, hk]⟩

/-- The literal's table. -/
def baseL : List ((Int × Bool × Int) × Int) := [((1, false, 2), 1), ((1, true, 3), 2), ((2, false, 2), 2), ((2, true, 3), 2), ((2, false, 1), 3), ((2, false, 4), 4), ((3, false, 4), 4), ((3, true, 4), 5), ((4, false, 4), 4), ((4, true, 4), 6), ((5, false, 4), 6), ((5, true, 4), 5), ((6, false, 4), 6), ((6, true, 4), 6)]
def baseT (s : Int) (r : Bool) (k : Int) : Option Int := (baseL.find? fun x => decide (x.1 = (s, r, k))).map (·.2)

/-- Block b is a map that holds just the table g. -/
def HoldsT (w : World) (b : Nat) (g : Int → Bool → Int → Option Int) : Prop := ∃ f, IsMap w Tryz.prog 159 b f ∧ ∀ s r k, f (mkey s r k) = (g s r k).map (.int .i64)

def litL : List (Nat × Value × Value) := [(2, mkey 1 false 2, .int .i64 1), (4, mkey 1 true 3, .int .i64 2), (6, mkey 2 false 2, .int .i64 2), (8, mkey 2 true 3, .int .i64 2), (10, mkey 2 false 1, .int .i64 3), (12, mkey 2 false 4, .int .i64 4), (14, mkey 3 false 4, .int .i64 4), (16, mkey 3 true 4, .int .i64 5), (18, mkey 4 false 4, .int .i64 4), (20, mkey 4 true 4, .int .i64 6), (22, mkey 5 false 4, .int .i64 6), (24, mkey 5 true 4, .int .i64 5), (26, mkey 6 false 4, .int .i64 6), (28, mkey 6 true 4, .int .i64 6)]
open Classical in
noncomputable def litF : Value → Option Value := fun v => (baseL.find? fun x => decide (mkey x.1.1 x.1.2.1 x.1.2.2 = v)).map fun x => .int .i64 x.2
theorem mkey_inj {s r k s' r' k'} : mkey s r k = mkey s' r' k' ↔ s = s' ∧ r = r' ∧ k = k' := by simp [mkey]
theorem litF_mkey (s : Int) (r : Bool) (k : Int) : litF (mkey s r k) = (baseT s r k).map (.int .i64) := by
  classical
  unfold litF baseT
  have : (fun x : (Int × Bool × Int) × Int => decide (mkey x.1.1 x.1.2.1 x.1.2.2 = mkey s r k)) = fun x => decide (x.1 = (s, r, k)) := by
    funext x
    obtain ⟨⟨a, b, c⟩, d⟩ := x
    rw [decide_eq_decide]
    simp [mkey_inj]
  rw [Option.map_map, this]
  rfl
theorem litF_some : ∀ x ∈ litL, litF x.2.1 = some x.2.2 := by
  unfold litL
  repeat (refine List.forall_mem_cons.2 ⟨by show litF (mkey _ _ _) = _; rw [litF_mkey]; rfl, ?_⟩)
  simp
theorem litF_none (v : Value) (h : ∀ x ∈ litL, v ≠ x.2.1) : litF v = none := by
  unfold litF
  rw [Option.map_eq_none_iff, List.find?_eq_none]
  simp only [litL, List.forall_mem_cons] at h
  simp only [baseL, List.forall_mem_cons, decide_eq_true_eq]
  simp only [ne_eq, eq_comm (a := v)] at h
  simpa using h
/-- The table behind i rounds over the replies. -/
def done_ (i : Nat) (r : Bool) : Bool := if r then decide (2 ≤ i) else decide (1 ≤ i)
def stage (i : Nat) (s : Int) (r : Bool) (k : Int) : Option Int :=
  if k = 1 ∧ 3 ≤ s ∧ s ≤ 6 ∧ done_ i r = true then some s else if k = 5 ∧ 1 ≤ s ∧ s ≤ 7 ∧ done_ i r = true then some 7 else baseT s r k
def stage1 (i : Nat) (b : Bool) (j : Int) (s : Int) (r : Bool) (k : Int) : Option Int := if k = 1 ∧ 3 ≤ s ∧ s < j ∧ r = b then some s else stage i s r k
def stage2 (i : Nat) (b : Bool) (j : Int) (s : Int) (r : Bool) (k : Int) : Option Int := if k = 5 ∧ 1 ≤ s ∧ s < j ∧ r = b then some 7 else stage1 i b 7 s r k
theorem stage_zero (s : Int) (r : Bool) (k : Int) : stage 0 s r k = baseT s r k := by
  have h : done_ 0 r = false := by cases r <;> rfl
  unfold stage; rw [if_neg (by simp [h]), if_neg (by simp [h])]
theorem stage1_start (i : Nat) (b : Bool) (s : Int) (r : Bool) (k : Int) : stage1 i b 3 s r k = stage i s r k := by
  unfold stage1; rw [if_neg (by omega)]
theorem stage2_start (i : Nat) (b : Bool) (s : Int) (r : Bool) (k : Int) : stage2 i b 1 s r k = stage1 i b 7 s r k := by
  unfold stage2; rw [if_neg (by omega)]
theorem stage1_step (i : Nat) (b : Bool) (j : Int) (hj : 3 ≤ j) (s : Int) (r : Bool) (k : Int) : (if s = j ∧ r = b ∧ k = 1 then some j else stage1 i b j s r k) = stage1 i b (j + 1) s r k := by
  unfold stage1
  by_cases h : s = j ∧ r = b ∧ k = 1
  · obtain ⟨rfl, rfl, rfl⟩ := h
    rw [if_pos ⟨rfl, rfl, rfl⟩, if_pos ⟨rfl, hj, by omega, rfl⟩]
  · rw [if_neg h]
    by_cases h2 : k = 1 ∧ 3 ≤ s ∧ s < j ∧ r = b
    · rw [if_pos h2, if_pos ⟨h2.1, h2.2.1, by omega, h2.2.2.2⟩]
    · rw [if_neg h2, if_neg]
      rintro ⟨h3, h4, h5, h6⟩
      by_cases hs : s = j
      · exact h ⟨hs, h6, h3⟩
      · exact h2 ⟨h3, h4, by omega, h6⟩
theorem stage2_step (i : Nat) (b : Bool) (j : Int) (hj : 1 ≤ j) (s : Int) (r : Bool) (k : Int) : (if s = j ∧ r = b ∧ k = 5 then some 7 else stage2 i b j s r k) = stage2 i b (j + 1) s r k := by
  unfold stage2
  by_cases h : s = j ∧ r = b ∧ k = 5
  · obtain ⟨rfl, rfl, rfl⟩ := h
    rw [if_pos ⟨rfl, rfl, rfl⟩, if_pos ⟨rfl, hj, by omega, rfl⟩]
  · rw [if_neg h]
    by_cases h2 : k = 5 ∧ 1 ≤ s ∧ s < j ∧ r = b
    · rw [if_pos h2, if_pos ⟨h2.1, h2.2.1, by omega, h2.2.2.2⟩]
    · rw [if_neg h2, if_neg]
      rintro ⟨h3, h4, h5, h6⟩
      by_cases hs : s = j
      · exact h ⟨hs, h6, h3⟩
      · exact h2 ⟨h3, h4, by omega, h6⟩
theorem stage_next (i : Nat) (b : Bool) (hb : (i = 0 ∧ b = false) ∨ (i = 1 ∧ b = true)) (s : Int) (r : Bool) (k : Int) : stage2 i b 8 s r k = stage (i + 1) s r k := by
  unfold stage2 stage1 stage
  rcases hb with ⟨rfl, rfl⟩ | ⟨rfl, rfl⟩ <;> cases r <;> simp [done_] <;>
  · by_cases hk : k = 1
    · subst hk; simp; repeat' split
      all_goals first | rfl | omega
    · by_cases hk5 : k = 5
      · subst hk5; simp; repeat' split
        all_goals first | rfl | omega
      · simp [hk, hk5]

theorem HoldsT.congr {w : World} {b : Nat} {g g' : Int → Bool → Int → Option Int} (h : HoldsT w b g) (e : ∀ s r k, g s r k = g' s r k) : HoldsT w b g' := by
  obtain ⟨f, hm, hf⟩ := h
  exact ⟨f, hm, fun s r k => by rw [hf, e]⟩
theorem HoldsT.of_block {w w' : World} {b : Nat} {g : Int → Bool → Int → Option Int} (h : HoldsT w b g) (e : w'.heap[b]? = w.heap[b]?) : HoldsT w' b g := by
  obtain ⟨f, hm, hf⟩ := h
  exact ⟨f, hm.of_block e, hf⟩
theorem HoldsT.put {w : World} {b : Nat} {g : Int → Bool → Int → Option Int} (h : HoldsT w b g) {s : Int} (r : Bool) {k : Int} (v : Int) (hs : (Lit.int .i64 s).wf = true) (hk : (Lit.int .i64 k).wf = true) :
    ∃ o, (Instr.mapUpdate 155 (.map (some b)) (.agg #[.int .i64 s, .bool r, .int .i64 k]) (.int .i64 v)).run Tryz.prog w = .ok () (setBlock w b o) ∧
      HoldsT (setBlock w b o) b (fun s' r' k' => if s' = s ∧ r' = r ∧ k' = k then some v else g s' r' k') := by
  obtain ⟨f, hm, hf⟩ := h
  obtain ⟨kl, hkl⟩ := mkey_key r hs hk
  obtain ⟨o, hrun, hm'⟩ := hm.update mkey_keyed Tryz.underlying155 hkl (.int .i64 v)
  refine ⟨o, hrun, _, hm', fun s' r' k' => ?_⟩
  by_cases he : s' = s ∧ r' = r ∧ k' = k
  · obtain ⟨rfl, rfl, rfl⟩ := he
    rw [upd_same]; dsimp only; rw [if_pos ⟨rfl, rfl, rfl⟩]; rfl
  · rw [upd_other _ _ (fun h => he (mkey_inj.1 h))]; dsimp only; rw [if_neg he, hf]

end Go.Proofs.YtahgapkecabnjaaGreatDoor
/- The walk of trace.moves. -/
namespace Go.Proofs.YtahgapkecabnjaaGreatDoor
set_option linter.unusedSimpArgs false
set_option linter.unusedVariables false
open Go Go.RowKit Go.Maps Go.MapKept
open Go.ChangeMaps (setBlock)

/-- What else stands while the loops go. -/
def Rest (w : World) (b0 : Nat) (wr : World) : Prop := Below b0 w wr ∧ wr.heap.size = b0 + 2 ∧ wr.cell? ⟨b0 + 1, 0, none⟩ = some (.bool false) ∧ wr.cell? ⟨b0 + 1, 1, none⟩ = some (.bool true)
theorem Rest.set {w : World} {b0 : Nat} {wr : World} (h : Rest w b0 wr) (o : Obj) : Rest w b0 (setBlock wr b0 o) := by
  obtain ⟨h1, h2, h3, h4⟩ := h
  have hO := OnlyB.set wr b0 o
  exact ⟨h1.trans (hO.below (Nat.le_refl _)), hO.size.trans h2, (World.cell?_of_block (w := wr) (hO.other _ (by show b0 + 1 ≠ b0; omega))).trans h3, (World.cell?_of_block (w := wr) (hO.other _ (by show b0 + 1 ≠ b0; omega))).trans h4⟩

def MovesPost (w : World) (e : Ending) (w' : World) : Prop := ∃ b, e = .returned (.map (some b)) ∧ HoldsT w' b (stage 2) ∧ Below w.heap.size w w'

set_option maxHeartbeats 4000000 in
set_option maxRecDepth 100000 in
theorem moves_any (w : World) : Calls Tryz.prog 112 #[] w (MovesPost w) := by
  have hmm := @run_makeMap Tryz.prog
  go_enter Tryz.func112, Tryz.ntmps112
  go_wp2
  refine wp_region_any (by kernel_rfl) ?_
  refine wpAny_take (i := 1) (v := mkey 1 false 2) rfl (by kernel_rfl) (by kernel_rfl) (by kernel_rfl) (fun _ _ _ h => h) (Or.inl ⟨by rfl, fun w => by go_simp; rfl⟩) ?_
  refine wpAny_take (i := 3) (v := mkey 1 true 3) rfl (by kernel_rfl) (by kernel_rfl) (by kernel_rfl) (fun _ _ _ h => h) (Or.inl ⟨by rfl, fun w => by go_simp; rfl⟩) ?_
  refine wpAny_take (i := 5) (v := mkey 2 false 2) rfl (by kernel_rfl) (by kernel_rfl) (by kernel_rfl) (fun _ _ _ h => h) (Or.inl ⟨by rfl, fun w => by go_simp; rfl⟩) ?_
  refine wpAny_take (i := 7) (v := mkey 2 true 3) rfl (by kernel_rfl) (by kernel_rfl) (by kernel_rfl) (fun _ _ _ h => h) (Or.inl ⟨by rfl, fun w => by go_simp; rfl⟩) ?_
  refine wpAny_take (i := 9) (v := mkey 2 false 1) rfl (by kernel_rfl) (by kernel_rfl) (by kernel_rfl) (fun _ _ _ h => h) (Or.inl ⟨by rfl, fun w => by go_simp; rfl⟩) ?_
  refine wpAny_take (i := 11) (v := mkey 2 false 4) rfl (by kernel_rfl) (by kernel_rfl) (by kernel_rfl) (fun _ _ _ h => h) (Or.inl ⟨by rfl, fun w => by go_simp; rfl⟩) ?_
  refine wpAny_take (i := 13) (v := mkey 3 false 4) rfl (by kernel_rfl) (by kernel_rfl) (by kernel_rfl) (fun _ _ _ h => h) (Or.inl ⟨by rfl, fun w => by go_simp; rfl⟩) ?_
  refine wpAny_take (i := 15) (v := mkey 3 true 4) rfl (by kernel_rfl) (by kernel_rfl) (by kernel_rfl) (fun _ _ _ h => h) (Or.inl ⟨by rfl, fun w => by go_simp; rfl⟩) ?_
  refine wpAny_take (i := 17) (v := mkey 4 false 4) rfl (by kernel_rfl) (by kernel_rfl) (by kernel_rfl) (fun _ _ _ h => h) (Or.inl ⟨by rfl, fun w => by go_simp; rfl⟩) ?_
  refine wpAny_take (i := 19) (v := mkey 4 true 4) rfl (by kernel_rfl) (by kernel_rfl) (by kernel_rfl) (fun _ _ _ h => h) (Or.inl ⟨by rfl, fun w => by go_simp; rfl⟩) ?_
  refine wpAny_take (i := 21) (v := mkey 5 false 4) rfl (by kernel_rfl) (by kernel_rfl) (by kernel_rfl) (fun _ _ _ h => h) (Or.inl ⟨by rfl, fun w => by go_simp; rfl⟩) ?_
  refine wpAny_take (i := 23) (v := mkey 5 true 4) rfl (by kernel_rfl) (by kernel_rfl) (by kernel_rfl) (fun _ _ _ h => h) (Or.inl ⟨by rfl, fun w => by go_simp; rfl⟩) ?_
  refine wpAny_take (i := 25) (v := mkey 6 false 4) rfl (by kernel_rfl) (by kernel_rfl) (by kernel_rfl) (fun _ _ _ h => h) (Or.inl ⟨by rfl, fun w => by go_simp; rfl⟩) ?_
  refine wpAny_take (i := 27) (v := mkey 6 true 4) rfl (by kernel_rfl) (by kernel_rfl) (by kernel_rfl) (fun _ _ _ h => h) (Or.inl ⟨by rfl, fun w => by go_simp; rfl⟩) ?_
  refine wpAny_ready (rs := [0]) (by kernel_rfl) (by simp) ?_
  refine AllReady.cons rfl (fun K hK => ?_) AllReady.nil
  go_simp
  refine hK _ _ ?_
  clear hK K
  refine wpAny_inserts' (b := w.heap.size) mkey_keyed Tryz.underlying155 litF 2 litL _ (fun _ => none) _ ?_ (by kernel_rfl) ((IsMap.made w _ _).of_block rfl) litF_some litF_none (fun w1 ho hm => ?_)
  · unfold litL
    repeat (refine List.forall_mem_cons.2 ⟨⟨_, _, _, _, rfl, rfl, rfl, rfl, rfl, rfl, rfl, mkey_key _ (by decide) (by decide)⟩, ?_⟩)
    simp
  refine wpAny_take (i := 29) (v := .map (some w.heap.size)) rfl (by kernel_rfl) (by kernel_rfl) (by kernel_rfl) (fun _ _ _ h => h) (Or.inl ⟨by rfl, fun w => by go_simp⟩) ?_
  refine wpAny_take (i := 30) (v := .map (some w.heap.size)) rfl (by kernel_rfl) (by kernel_rfl) (by kernel_rfl) (fun _ _ _ h => h) (Or.inl ⟨by rfl, fun w => by go_simp⟩) ?_
  refine wpAny_done (by kernel_rfl) ?_ _
  have hb1 : Below w.heap.size w w1 := ((Below.refl _ w).alloc (Nat.le_refl _) (.map #[] 0)).drew.trans (ho.below (Nat.le_refl _))
  have hs1 : w1.heap.size = w.heap.size + 1 := by rw [ho.size]; simp
  have hT : HoldsT w1 w.heap.size baseT := ⟨litF, hm, litF_mkey⟩
  have hle : w.heap.size ≤ w.heap.size := Nat.le_refl _
  clear hm ho hmm
  generalize hbb : w.heap.size = b0 at *
  have hbb' := Lib.hid hbb
  clear hbb
  go_wp2
  have hc0 : (w1.alloc (.cells #[.bool false, .bool true] 4)).cell? ⟨b0 + 1, 0, none⟩ = some (.bool false) := by rw [← hs1]; simp
  have hc1 : (w1.alloc (.cells #[.bool false, .bool true] 4)).cell? ⟨b0 + 1, 1, none⟩ = some (.bool true) := by rw [← hs1]; simp
  have hs2 : (w1.alloc (.cells #[.bool false, .bool true] 4)).heap.size = b0 + 2 := by simp [hs1]
  have hT2 : HoldsT (w1.alloc (.cells #[.bool false, .bool true] 4)) b0 (stage 0) := (hT.of_block (Below.heap_alloc _ _ _ (by omega))).congr fun s r k => (stage_zero s r k).symm
  have hb2 : Below b0 w (w1.alloc (.cells #[.bool false, .bool true] 4)) := hb1.alloc (by omega) _
  generalize w1.alloc (.cells #[.bool false, .bool true] 4) = w2 at *
  clear hT hb1 hs1 w1
  go_loopw [24] (fun n wr => ∃ i : Nat, i ≤ 2 ∧ n = .int .i64 i ∧ HoldsT wr b0 (stage i) ∧ Below b0 w wr ∧ wr.heap.size = b0 + 2 ∧ wr.cell? ⟨b0 + 1, 0, none⟩ = some (.bool false) ∧ wr.cell? ⟨b0 + 1, 1, none⟩ = some (.bool true)) (fun n _ => 2 - (intOf n).toNat)
  case atStart => exact ⟨0, by omega, rfl, hT2, hb2, hs2, hc0, hc1⟩
  case round =>
    clear hT2 hb2 hs2 hc0 hc1
    obtain ⟨i, hi, rfl, hT, hb, hs, hc0, hc1⟩ := hrel
    by_cases hi2 : i < 2
    · have hb01 : ∃ b : Bool, ((i = 0 ∧ b = false) ∨ (i = 1 ∧ b = true)) ∧ wr.cell? ⟨b0 + 1, i, none⟩ = some (.bool b) := by
        obtain rfl | rfl : i = 0 ∨ i = 1 := by omega
        · exact ⟨false, .inl ⟨rfl, rfl⟩, hc0⟩
        · exact ⟨true, .inr ⟨rfl, rfl⟩, hc1⟩
      obtain ⟨b, hib, hcb⟩ := hb01
      have hR : Rest w b0 wr := ⟨hb, hs, hc0, hc1⟩
      have hT1 : HoldsT wr b0 (stage1 i b 3) := hT.congr fun s r k => (stage1_start i b s r k).symm
      clear hb hs hc0 hc1 hT
      have hIB := Lib.hid hib
      clear hib
      go_wp2
      go_loopw [4] (fun n wr => ∃ j : Nat, 3 ≤ j ∧ j ≤ 7 ∧ n = .int .i64 j ∧ HoldsT wr b0 (stage1 i b j) ∧ Rest w b0 wr) (fun n _ => 7 - (intOf n).toNat)
      case atStart => exact ⟨3, by omega, by omega, rfl, hT1, hR⟩
      case round =>
        clear hT1 hR hcb
        obtain ⟨j, hj3, hj7, rfl, hT, hR⟩ := hrel
        by_cases hlt : j < 7
        · obtain ⟨o, hrun, hT'⟩ := hT.put (s := (j : Int)) b (k := 1) j (WalkArith.wf_i64 (by omega)) (by decide)
          go_wp2
          go_roundw
          case rel => exact ⟨j + 1, by omega, by omega, by go_num, hT'.congr (stage1_step i b j (by omega)), hR.set o⟩
          case measure => simp [intOf]; omega
        · obtain rfl : j = 7 := by omega
          have hT1 : HoldsT wr b0 (stage2 i b 1) := hT.congr fun s r k => (stage2_start i b s r k).symm
          clear hT
          go_wp2
          go_loopw [5] (fun n wr => ∃ j : Nat, 1 ≤ j ∧ j ≤ 8 ∧ n = .int .i64 j ∧ HoldsT wr b0 (stage2 i b j) ∧ Rest w b0 wr) (fun n _ => 8 - (intOf n).toNat)
          case atStart => exact ⟨1, by omega, by omega, rfl, hT1, hR⟩
          case round =>
            clear hT1 hR
            obtain ⟨j, hj3, hj7, rfl, hT, hR⟩ := hrel
            by_cases hlt : j < 8
            · obtain ⟨o, hrun, hT'⟩ := hT.put (s := (j : Int)) b (k := 5) 7 (WalkArith.wf_i64 (by omega)) (by decide)
              go_wp2
              go_roundw
              case rel => exact ⟨j + 1, by omega, by omega, by go_num, hT'.congr (stage2_step i b j (by omega)), hR.set o⟩
              case measure => simp [intOf]; omega
            · obtain rfl : j = 8 := by omega
              go_wp2
              go_roundw
              case rel => exact ⟨i + 1, by omega, by go_num, hT.congr (stage_next i b hIB.out), hR.1, hR.2.1, hR.2.2.1, hR.2.2.2⟩
              case measure => simp [intOf]; omega
    · obtain rfl : i = 2 := by omega
      go_wp2
      go_ret
      exact ⟨b0, rfl, hT, by rw [hbb'.out]; exact hb⟩
end Go.Proofs.YtahgapkecabnjaaGreatDoor
/- trace.Next. -/
namespace Go.Proofs.YtahgapkecabnjaaGreatDoor
set_option linter.unusedSimpArgs false
set_option linter.unusedVariables false
open Go Go.RowKit Go.Maps Go.MapKept

theorem kindF_range (f : Int) : 0 ≤ kindF f ∧ kindF f ≤ 5 := by
  unfold kindF
  repeat' split
  all_goals omega

theorem HoldsT.look {w : World} {b : Nat} {g : Int → Bool → Int → Option Int} (h : HoldsT w b g) {s : Int} (r : Bool) {k : Int} (hs : (Lit.int .i64 s).wf = true) (hk : (Lit.int .i64 k).wf = true) :
    (Instr.lookup 155 (.map (some b)) (.agg #[.int .i64 s, .bool r, .int .i64 k]) true).run Tryz.prog w = .ok (.tuple #[.int .i64 ((g s r k).getD 0), .bool (g s r k).isSome]) w := by
  obtain ⟨f, hm, hf⟩ := h
  obtain ⟨kl, hkl⟩ := mkey_key r hs hk
  have := hm.lookup mkey_keyed Tryz.underlying155 (z := .int .i64 0) (by kernel_rfl) hkl true
  rw [hf] at this
  cases hg : g s r k <;> simpa [hg, mkey] using this

def nextF (s : Int) (r : Bool) (f : Int) : Int × Bool := ((stage 2 s r (kindF f)).getD 0, (stage 2 s r (kindF f)).isSome)

def NextPost (s : Int) (r : Bool) (f : Int) (w : World) (e : Ending) (w' : World) : Prop :=
  e = .returned (.tuple #[.int .i64 (nextF s r f).1, .bool (nextF s r f).2]) ∧ Below w.heap.size w w'

set_option maxHeartbeats 1000000 in
theorem next_any (s : Int) (r : Bool) (f : Int) (w : World) (hs : (Lit.int .i64 s).wf = true) :
    Calls Tryz.prog 88 #[.int .i64 s, .bool r, .int .u8 f] w (NextPost s r f w) := by
  have hk := kindF_range f
  go_enter Tryz.func88, Tryz.ntmps88
  go_wp2_with fail
  refine (moves_any _).mono ?_
  rintro e w1 ⟨b, rfl, hT, hb⟩
  have hl := hT.look r (k := kindF f) hs (WalkArith.wf_i64 (by omega))
  go_wp2_with (go_at_call 113; refine (kind_any _ _).mono ?_; rintro e w' ⟨rfl, rfl⟩)
  go_ret2
  exact ⟨rfl, hb⟩

/-! ### The fixed fact and the law's own function -/
theorem openF_syn : openF 2 = (1, true) := by decide

theorem next_val (s : Int) (r : Bool) (f t : Int) (ok : Bool) (w : World) (hs : (Lit.int .i64 s).wf = true) (h : nextF s r f = (t, ok)) :
    Calls Tryz.prog 88 #[.int .i64 s, .bool r, .int .u8 f] w fun e w' => e = .returned (.tuple #[.int .i64 t, .bool ok]) ∧ Below w.heap.size w w' :=
  (next_any s r f w hs).mono fun e w' hp => by unfold NextPost at hp; rw [h] at hp; exact hp
theorem open_val (f t : Int) (ok : Bool) (w : World) (h : openF f = (t, ok)) :
    Calls Tryz.prog 111 #[.int .u8 f] w fun e w' => e = .returned (.tuple #[.int .i64 t, .bool ok]) ∧ w' = w :=
  (open_any f w).mono fun e w' hp => by rw [h] at hp; exact hp

/-- The plain law: Next of the program is Next of the reference, state by state. -/
theorem has_eq (f g : Int) : hasF f g = (f / g % 2 == 1) := rfl

theorem moves_law_flags : ∀ f : Fin 256, openF f.val = refOpenF f.val := by decide +kernel
theorem openF_eq (f : Int) (h0 : 0 ≤ f) (h1 : f ≤ 255) : openF f = refOpenF f := by
  obtain ⟨n, rfl⟩ := Int.eq_ofNat_of_zero_le h0
  exact moves_law_flags ⟨n, by omega⟩
theorem next_law_small : ∀ (s : Fin 9) (r : Bool) (f : Fin 256), nextF s.val r f.val = refNextF s.val r f.val := by decide +kernel
theorem stage_out (s : Int) (r : Bool) (k : Int) (h : s < 1 ∨ 7 < s) : stage 2 s r k = none := by
  unfold stage
  rw [if_neg (by omega), if_neg (by omega)]
  simp only [baseT, Option.map_eq_none_iff, List.find?_eq_none, baseL, List.forall_mem_cons, decide_eq_true_eq, Prod.mk.injEq]
  repeat (refine ⟨by omega, ?_⟩)
  simp
theorem nextF_eq (s : Int) (r : Bool) (f : Int) (h0 : 0 ≤ f) (h1 : f ≤ 255) : nextF s r f = refNextF s r f := by
  by_cases hs : s < 1 ∨ 7 < s
  · unfold nextF refNextF
    rw [stage_out s r _ hs, if_pos hs]; rfl
  · obtain ⟨n, rfl⟩ := Int.eq_ofNat_of_zero_le h0
    obtain ⟨m, rfl⟩ := Int.eq_ofNat_of_zero_le (show 0 ≤ s by omega)
    exact next_law_small ⟨m, by omega⟩ r ⟨n, by omega⟩
end Go.Proofs.YtahgapkecabnjaaGreatDoor
/- Walks of package fsm and of its reference. -/
namespace Go.Proofs.YtahgapkecabnjaaGreatDoor
set_option linter.unusedSimpArgs false
set_option linter.unusedVariables false
open Go Go.RowKit

/-- A packet. -/
structure Pk where
  proto : Int
  src : Int
  dst : Int
  sport : Int
  dport : Int
  flags : Int
  kind : Int

def pkC (p : Pk) : Array Value := #[.int .u8 p.proto, .int .u32 p.src, .int .u32 p.dst, .int .u16 p.sport, .int .u16 p.dport, .int .u8 p.flags, .int .u8 p.kind]

def goesF (r : Bool) (p : Pk) : Bool :=
  if (p.proto == 17) = true then true else if (p.proto == 1) = true then ((p.kind == 8) && !r) || ((p.kind == 0) && r) else false

set_option maxHeartbeats 1000000 in
theorem goes_any (r : Bool) (p : Pk) (w : World) :
    Calls Tryz.prog 89 #[.bool r, .agg (pkC p)] w fun e w' => e = .returned (.bool (goesF r p)) ∧ Below w.heap.size w w' := by
  unfold pkC
  go_enter Tryz.func89, Tryz.ntmps89
  go_wp2
  all_goals
    go_ret
    refine ⟨congrArg (fun b => Ending.returned (.bool b)) ?_, (Below.refl _ _).alloc (Nat.le_refl _) _⟩
    cases r <;> simp_all [goesF]

def fopenF (p : Pk) : Int × Bool :=
  if (p.proto == 6) = true then openF p.flags else if (p.proto == 17) = true then (8, true) else if (p.proto == 1) = true then if (p.kind == 8) = true then (8, true) else (0, false) else (0, false)

set_option maxHeartbeats 1000000 in
theorem fopen_any (p : Pk) (w : World) :
    Calls Tryz.prog 86 #[.agg (pkC p)] w fun e w' => e = .returned (.tuple #[.int .i64 (fopenF p).1, .bool (fopenF p).2]) ∧ Below w.heap.size w w' := by
  unfold pkC
  go_enter Tryz.func86, Tryz.ntmps86
  go_wp2_with (go_at_call 111; refine (open_any _ _).mono ?_; rintro e w' ⟨rfl, rfl⟩)
  all_goals
    go_ret2
    refine ⟨?_, (Below.refl _ _).alloc (Nat.le_refl _) _⟩
    simp_all [fopenF]

def nearF (n lo hi : Int) : Int := max lo (min n hi)

set_option maxHeartbeats 1000000 in
theorem near_any (n lo hi : Int) (w : World) :
    Calls Tryz.prog 90 #[.int .i64 n, .int .i64 lo, .int .i64 hi] w fun e w' => e = .returned (.int .i64 (nearF n lo hi)) ∧ w' = w := by
  go_enter Tryz.func90, Tryz.ntmps90
  go_wp2
  all_goals
    go_ret
    exact ⟨congrArg (fun b => Ending.returned (.int .i64 b)) (by unfold nearF; omega), rfl⟩

theorem near_val (n lo hi m : Int) (w : World) (h : nearF n lo hi = m) :
    Calls Tryz.prog 90 #[.int .i64 n, .int .i64 lo, .int .i64 hi] w fun e w' => e = .returned (.int .i64 m) ∧ w' = w := by rw [← h]; exact near_any n lo hi w

/-- How long a state lasts. -/
def longF (ts : Nat → Int) (s : Int) : Int := if 0 ≤ s ∧ s < 16 then ts s.toNat else 0
def untilF (ts : Nat → Int) (s c : Int) : Int := min (nearF c 0 1099511627775 + nearF (longF ts s) 1 1048576) 1099511627775

/-- An array of 16 numbers. -/
def arr16 (f : Nat → Int) : Array Value := #[.int .i64 (f 0), .int .i64 (f 1), .int .i64 (f 2), .int .i64 (f 3), .int .i64 (f 4), .int .i64 (f 5), .int .i64 (f 6), .int .i64 (f 7), .int .i64 (f 8), .int .i64 (f 9), .int .i64 (f 10), .int .i64 (f 11), .int .i64 (f 12), .int .i64 (f 13), .int .i64 (f 14), .int .i64 (f 15)]
theorem arr16_at (f : Nat → Int) (j : Nat) (hj : j < 16) : (arr16 f)[j]? = some (.int .i64 (f j)) := by
  have : j = 0 ∨ j = 1 ∨ j = 2 ∨ j = 3 ∨ j = 4 ∨ j = 5 ∨ j = 6 ∨ j = 7 ∨ j = 8 ∨ j = 9 ∨ j = 10 ∨ j = 11 ∨ j = 12 ∨ j = 13 ∨ j = 14 ∨ j = 15 := by omega
  rcases this with h | h | h | h | h | h | h | h | h | h | h | h | h | h | h | h <;> subst h <;> rfl

theorem until_tail {a b : Int} (ha : 0 ≤ a) (ha' : a ≤ 1099511627775) (hb : 1 ≤ b) (hb' : b ≤ 1048576) : 0 ≤ a + b ∧ a + b ≤ 1099512676351 := by omega
theorem nearF_bd (n lo hi : Int) (h : lo ≤ hi) : lo ≤ nearF n lo hi ∧ nearF n lo hi ≤ hi := by unfold nearF; omega

set_option maxHeartbeats 2000000 in
theorem until_any (ts : Nat → Int) (s c : Int) (w : World) :
    Calls Tryz.prog 55 #[.agg (arr16 ts), .int .i64 s, .int .i64 c] w fun e w' => e = .returned (.int .i64 (untilF ts s c)) ∧ Below w.heap.size w w' := by
  obtain ⟨m1, e1⟩ : ∃ m, nearF c 0 1099511627775 = m := ⟨_, rfl⟩
  obtain ⟨m2, e2⟩ : ∃ m, nearF (longF ts s) 1 1048576 = m := ⟨_, rfl⟩
  have b1 := nearF_bd c 0 1099511627775 (by omega)
  have b2 := nearF_bd (longF ts s) 1 1048576 (by omega)
  have hfin : untilF ts s c = min (m1 + m2) 1099511627775 := by unfold untilF; rw [e1, e2]
  rw [e1] at b1
  rw [e2] at b2
  have E1 := Lib.hid e1
  have HF := Lib.hid hfin
  clear e1 hfin
  have fin : ∀ (w' : World) (e : Ending), e = .returned (.int .i64 (min (m1 + m2) 1099511627775)) → Below w.heap.size w w' → e = .returned (.int .i64 (untilF ts s c)) ∧ Below w.heap.size w w' := fun w' e he hb => ⟨by rw [HF.out]; exact he, hb⟩
  have FIN := Lib.hid fin
  clear fin
  by_cases hs : 0 ≤ s ∧ s < 16
  · obtain ⟨h0, h16⟩ := hs
    obtain ⟨n, rfl⟩ := Int.eq_ofNat_of_zero_le h0
    have hc : (w.alloc (.cells (arr16 ts) 22)).cell? ⟨w.heap.size, n, none⟩ = some (.int .i64 (longF ts n)) := by
      have := arr16_at ts n (by omega)
      simp [this, longF, h16]
    have E2 := Lib.hid e2
    clear e2
    generalize arr16 ts = X at *
    go_enter Tryz.func55, Tryz.ntmps55
    go_wp2_with fail
    refine (near_val c 0 _ m1 _ E1.out).mono ?_
    rintro e w1 ⟨rfl, rfl⟩
    go_wp2_with fail
    refine (near_val _ 1 _ m2 _ E2.out).mono ?_
    rintro e w1 ⟨rfl, rfl⟩
    go_wp2_with fail
    all_goals
      go_ret
      exact FIN.out _ _ (congrArg (fun b => Ending.returned (.int .i64 b)) (by omega)) ((Below.refl _ _).alloc (Nat.le_refl _) _)
  · have hl : longF ts s = 0 := by unfold longF; rw [if_neg hs]
    rw [hl] at e2
    have E2 := Lib.hid e2
    clear e2 hl
    have hb : (decide (0 ≤ s) = true ∧ decide (s < 16) = false) ∨ decide (0 ≤ s) = false := by
      by_cases h0 : 0 ≤ s
      · exact .inl ⟨decide_eq_true h0, decide_eq_false (fun h => hs ⟨h0, h⟩)⟩
      · exact .inr (decide_eq_false h0)
    clear hs
    rcases hb with ⟨h0, h16⟩ | h0
    all_goals
      generalize arr16 ts = X at *
      go_enter Tryz.func55, Tryz.ntmps55
      go_wp2_with fail
      refine (near_val c 0 _ m1 _ E1.out).mono ?_
      rintro e w1 ⟨rfl, rfl⟩
      go_wp2_with fail
      refine (near_val _ 1 _ m2 _ E2.out).mono ?_
      rintro e w1 ⟨rfl, rfl⟩
      go_wp2_with fail
      all_goals
        go_ret
        exact FIN.out _ _ (congrArg (fun b => Ending.returned (.int .i64 b)) (by omega)) ((Below.refl _ _).alloc (Nat.le_refl _) _)

set_option maxHeartbeats 2000000 in
theorem refUntil_any (ts : Nat → Int) (s c : Int) (w : World) :
    Calls Tryz.prog 100 #[.agg (arr16 ts), .int .i64 s, .int .i64 c] w fun e w' => e = .returned (.int .i64 (untilF ts s c)) ∧ Below w.heap.size w w' := by
  obtain ⟨g, eg⟩ : ∃ g, longF ts s = g := ⟨_, rfl⟩
  have hfin : ∀ (w' : World) (m : Int), m = min (max 0 (min c 1099511627775) + max 1 (min g 1048576)) 1099511627775 → Below w.heap.size w w' → (Ending.returned (.int .i64 m) = .returned (.int .i64 (untilF ts s c)) ∧ Below w.heap.size w w') := fun w' m hm hb => by
    refine ⟨?_, hb⟩
    rw [hm]
    unfold untilF nearF
    rw [eg]
  have FIN := Lib.hid hfin
  clear hfin
  by_cases hs : 0 ≤ s ∧ s < 16
  · obtain ⟨h0, h16⟩ := hs
    obtain ⟨n, rfl⟩ := Int.eq_ofNat_of_zero_le h0
    have hc : (w.alloc (.cells (arr16 ts) 22)).cell? ⟨w.heap.size, n, none⟩ = some (.int .i64 g) := by
      have := arr16_at ts n (by omega)
      rw [← eg]
      simp [this, longF, h16]
    clear eg
    have h15 : (n : Int) ≤ 15 := by omega
    generalize arr16 ts = X at *
    go_enter Tryz.func100, Tryz.ntmps100
    go_wp2
    all_goals
      go_ret
      exact FIN.out _ _ (by omega) ((Below.refl _ _).alloc (Nat.le_refl _) _)
  · have hl : g = 0 := by rw [← eg]; unfold longF; rw [if_neg hs]
    clear eg
    subst hl
    have hb : (decide (0 ≤ s) = true ∧ decide (s ≤ 15) = false) ∨ decide (0 ≤ s) = false := by
      by_cases h0 : 0 ≤ s
      · exact .inl ⟨decide_eq_true h0, decide_eq_false (fun h => hs ⟨h0, by omega⟩)⟩
      · exact .inr (decide_eq_false h0)
    clear hs
    rcases hb with ⟨h0, h16⟩ | h0
    all_goals
      generalize arr16 ts = X at *
      go_enter Tryz.func100, Tryz.ntmps100
      go_wp2
      all_goals
        go_ret
        exact FIN.out _ _ (by omega) ((Below.refl _ _).alloc (Nat.le_refl _) _)
end Go.Proofs.YtahgapkecabnjaaGreatDoor
/- Walks of fsm.Next, of the reference's Open and Next, and the fixed fact. -/
namespace Go.Proofs.YtahgapkecabnjaaGreatDoor
set_option linter.unusedSimpArgs false
set_option linter.unusedVariables false
open Go Go.RowKit

theorem below_box {w w1 : World} {o : Obj} (h : Below (w.alloc o).heap.size (w.alloc o) w1) : Below w.heap.size w w1 :=
  ((Below.refl _ w).alloc (Nat.le_refl _) o).trans (h.mono (by simp))

def fnextF (s : Int) (r : Bool) (p : Pk) : Int × Bool :=
  if (p.proto == 6) = true then nextF s r p.flags
  else if (s == 8) = false ∧ (s == 9) = false then (0, false)
  else if goesF r p = false then (0, false) else if r = true then (9, true) else (s, true)

def PairPost (q : Int × Bool) (w : World) (e : Ending) (w' : World) : Prop := e = .returned (.tuple #[.int .i64 q.1, .bool q.2]) ∧ Below w.heap.size w w'

theorem pair_end {q : Int × Bool} {t : Int} {ok : Bool} {w w' : World} (h : q = (t, ok)) (hb : Below w.heap.size w w') : PairPost q w (.returned (.tuple #[.int .i64 t, .bool ok])) w' := by
  subst h; exact ⟨rfl, hb⟩

set_option maxHeartbeats 2000000 in
theorem fnext_any (s : Int) (r : Bool) (p : Pk) (w : World) (hs : (Lit.int .i64 s).wf = true) :
    Calls Tryz.prog 54 #[.int .i64 s, .bool r, .agg (pkC p)] w (PairPost (fnextF s r p) w) := by
  by_cases h6 : (p.proto == 6) = true
  · obtain ⟨t, ok, e⟩ : ∃ t ok, nextF s r p.flags = (t, ok) := ⟨_, _, rfl⟩
    have hf : fnextF s r p = (t, ok) := by unfold fnextF; rw [if_pos h6, e]
    have E := Lib.hid e
    have HF := Lib.hid hf
    clear e hf
    unfold pkC
    go_enter Tryz.func54, Tryz.ntmps54
    go_wp2_with fail
    refine (next_val s r p.flags t ok _ hs E.out).mono ?_
    rintro e w1 ⟨rfl, h1⟩
    go_wp2_with fail
    go_ret2
    exact pair_end HF.out (below_box h1)
  · have h6 : (p.proto == 6) = false := by simpa using h6
    obtain ⟨g, eg⟩ : ∃ g, goesF r p = g := ⟨_, rfl⟩
    have hf : fnextF s r p = (if (s == 8) = false ∧ (s == 9) = false then (0, false) else if g = false then (0, false) else if r = true then (9, true) else (s, true)) := by unfold fnextF; rw [if_neg (by simp [h6]), eg]
    have HF := Lib.hid hf
    have EG := Lib.hid eg
    clear hf eg
    have goes_val : ∀ W, Calls Tryz.prog 89 #[.bool r, .agg (pkC p)] W fun e w' => e = .returned (.bool g) ∧ Below W.heap.size W w' := fun W => by
      have := goes_any r p W
      rw [EG.out] at this
      exact this
    have GV := Lib.hid goes_val
    clear goes_val
    unfold pkC
    by_cases h8 : s = 8 ∨ s = 9
    · have hf2 : fnextF s r p = (if g = false then (0, false) else if r = true then (9, true) else (s, true)) := by
        rw [HF.out, if_neg]
        rcases h8 with rfl | rfl <;> simp
      have HF2 := Lib.hid hf2
      clear hf2 HF
      have hb : ((s == 8) = true ∧ (s != 8) = false) ∨ ((s == 9) = true ∧ (s != 9) = false ∧ (s == 8) = false ∧ (s != 8) = true) := by
        rcases h8 with rfl | rfl <;> simp
      clear h8
      rcases hb with ⟨h1, h2⟩ | ⟨h1, h2, h3, h4⟩
      all_goals
        cases g <;> cases r
        all_goals
          go_enter Tryz.func54, Tryz.ntmps54
          go_wp2_with fail
          refine (GV.out _).mono ?_
          rintro e w1 ⟨rfl, hw1⟩
          go_wp2_with fail
          go_ret2
          exact pair_end (by rw [HF2.out]; rfl) (below_box hw1)
    · have hf2 : fnextF s r p = (0, false) := by
        rw [HF.out, if_pos]
        simp only [beq_eq_false_iff_ne]
        omega
      have HF2 := Lib.hid hf2
      have h1 : (s == 8) = false := beq_eq_false_iff_ne.2 (by omega)
      have h2 : (s == 9) = false := beq_eq_false_iff_ne.2 (by omega)
      have h3 : (s != 8) = true := by rw [bne_iff_ne]; omega
      have h4 : (s != 9) = true := by rw [bne_iff_ne]; omega
      clear hf2 HF h8
      go_enter Tryz.func54, Tryz.ntmps54
      go_wp2_with fail
      go_ret2
      exact pair_end HF2.out ((Below.refl _ _).alloc (Nat.le_refl _) _)

set_option maxHeartbeats 2000000 in
theorem refFopen_any (p : Pk) (w : World) (hf : 0 ≤ p.flags) (hf' : p.flags ≤ 255) :
    Calls Tryz.prog 75 #[.agg (pkC p)] w (PairPost (fopenF p) w) := by
  by_cases h6 : (p.proto == 6) = true
  · obtain ⟨t, ok, e⟩ : ∃ t ok, openF p.flags = (t, ok) := ⟨_, _, rfl⟩
    have e' : refOpenF p.flags = (t, ok) := by rw [← openF_eq _ hf hf']; exact e
    have hfo : fopenF p = (t, ok) := by unfold fopenF; rw [if_pos h6, e]
    have E := Lib.hid e'
    have HF := Lib.hid hfo
    clear e e' hfo
    unfold pkC
    go_enter Tryz.func75, Tryz.ntmps75
    go_wp2_with fail
    refine (refOpen_any p.flags _ hf hf').mono ?_
    rw [E.out]
    rintro e w1 ⟨rfl, rfl⟩
    go_wp2_with fail
    go_ret2
    exact pair_end HF.out ((Below.refl _ _).alloc (Nat.le_refl _) _)
  · have h6 : (p.proto == 6) = false := by simpa using h6
    have hfo : fopenF p = (if (p.proto == 17) = true then (8, true) else if (p.proto == 1) = true then if (p.kind == 8) = true then (8, true) else (0, false) else (0, false)) := by unfold fopenF; rw [if_neg (by simp [h6])]
    have HF := Lib.hid hfo
    clear hfo
    unfold pkC
    go_enter Tryz.func75, Tryz.ntmps75
    go_wp2_with fail
    all_goals
      go_ret2
      refine pair_end ?_ ((Below.refl _ _).alloc (Nat.le_refl _) _)
      rw [HF.out]
      go_light
      simp_all

def refFnextF (s : Int) (r : Bool) (p : Pk) : Int × Bool := fnextF s r p

set_option maxHeartbeats 2000000 in
theorem refFnext_any (s : Int) (r : Bool) (p : Pk) (w : World) (hf : 0 ≤ p.flags) (hf' : p.flags ≤ 255) :
    Calls Tryz.prog 71 #[.int .i64 s, .bool r, .agg (pkC p)] w (PairPost (fnextF s r p) w) := by
  by_cases h6 : (p.proto == 6) = true
  · obtain ⟨t, ok, e⟩ : ∃ t ok, nextF s r p.flags = (t, ok) := ⟨_, _, rfl⟩
    have e' : refNextF s r p.flags = (t, ok) := by rw [← nextF_eq s r _ hf hf']; exact e
    have hfo : fnextF s r p = (t, ok) := by unfold fnextF; rw [if_pos h6, e]
    have E := Lib.hid e'
    have HF := Lib.hid hfo
    clear e e' hfo
    unfold pkC
    go_enter Tryz.func71, Tryz.ntmps71
    go_wp2_with fail
    refine (refNext_any s r p.flags _ hf hf').mono ?_
    rw [E.out]
    rintro e w1 ⟨rfl, rfl⟩
    go_wp2_with fail
    go_ret2
    exact pair_end HF.out ((Below.refl _ _).alloc (Nat.le_refl _) _)
  · have h6 : (p.proto == 6) = false := by simpa using h6
    have hfo : fnextF s r p = (if (s == 8) = false ∧ (s == 9) = false then (0, false) else if goesF r p = false then (0, false) else if r = true then (9, true) else (s, true)) := by unfold fnextF; rw [if_neg (by simp [h6])]
    have HF := Lib.hid hfo
    clear hfo
    unfold pkC
    cases r
    all_goals
      go_enter Tryz.func71, Tryz.ntmps71
      go_wp2_with fail
      all_goals
        go_ret2
        refine pair_end ?_ ((Below.refl _ _).alloc (Nat.le_refl _) _)
        have hF := HF.out
        clear HF
        go_light
        simp_all [goesF]
end Go.Proofs.YtahgapkecabnjaaGreatDoor
