/- Maps of the model as functions from keys to elements: the laws of look-up, store, delete, len and of a new map; and an invariant rule for a region that draws its order. -/
import Derived.Maps.Keyed
import Derived.MapViews
import Derived.Carry
import Derived.OwnWalk
import Derived.WalkKit
import Derived.Orders
import Derived.KernelRfl
import Derived.Maps.RangeWalk
import Derived.Sort.MapsRangeIn
import Derived.RangeFuncSeq
import Derived.Test.YtahgapkecabnjaaProg
import Derived.Outline
import Derived.Deep.Light
import Derived.RegionTactic
import Derived.DeepKeys4
import Derived.LoopTactic
import Derived.Lib.Hide
import Derived.Deep.LoopGhost
namespace Go.Proofs.Ytahgapkecabnjaa
set_option linter.unusedSimpArgs false
set_option linter.unusedVariables false
open Go Go.RowKit Go.Maps Go.MapKept
open Go.ChangeMaps (setBlock)

/-- The entries 'es' under 'clock' are those of the function f. -/
structure MapIs (P : Program) (k : TypeId) (es : Array MapEntry) (clock : Nat) (f : Value → Option Value) : Prop where
  stamped : Stamped es clock
  keys : ∀ e ∈ es.toList, ∃ l, keyOf P k e.key = some l
  has : ∀ e ∈ es.toList, f e.key = some e.val
  only : ∀ v x, f v = some x → ∃ e ∈ es.toList, e.key = v ∧ e.val = x

/-- Block b is a map that holds just what f says. -/
def IsMap (w : World) (P : Program) (k : TypeId) (b : Nat) (f : Value → Option Value) : Prop :=
  ∃ es clock, w.heap[b]? = some (.map es clock) ∧ MapIs P k es clock f

open Classical in
noncomputable def upd (f : Value → Option Value) (k : Value) (x : Option Value) : Value → Option Value := fun v => if v = k then x else f v

theorem upd_same (f : Value → Option Value) (k : Value) (x : Option Value) : upd f k x k = x := by simp [upd]
theorem upd_other (f : Value → Option Value) {k v : Value} (x : Option Value) (h : v ≠ k) : upd f k x v = f v := by simp [upd, h]

theorem IsMap.congr {w : World} {P : Program} {k : TypeId} {b : Nat} {f g : Value → Option Value} (h : IsMap w P k b f) (e : ∀ v, f v = g v) : IsMap w P k b g := by
  rw [← funext e]; exact h

theorem IsMap.of_block {w w' : World} {P : Program} {k : TypeId} {b : Nat} {f : Value → Option Value} (h : IsMap w P k b f) (e : w'.heap[b]? = w.heap[b]?) : IsMap w' P k b f := by
  obtain ⟨es, c, hb, hm⟩ := h
  exact ⟨es, c, e.trans hb, hm⟩

theorem IsMap.lt {w : World} {P : Program} {k : TypeId} {b : Nat} {f : Value → Option Value} (h : IsMap w P k b f) : b < w.heap.size := by
  obtain ⟨es, c, hb, _⟩ := h
  exact (Array.getElem?_eq_some_iff.1 hb).1

theorem IsMap.below {w w' : World} {P : Program} {k : TypeId} {b B : Nat} {f : Value → Option Value} (h : IsMap w P k b f) (hb : Below B w w') (hB : b < B) : IsMap w' P k b f :=
  h.of_block (hb.block b hB)

theorem IsMap.alloc {w : World} {P : Program} {k : TypeId} {b : Nat} {f : Value → Option Value} (h : IsMap w P k b f) (o : Obj) : IsMap (w.alloc o) P k b f :=
  h.of_block (Below.heap_alloc w o b h.lt)

/-- A new map. -/
theorem IsMap.made (w : World) (P : Program) (k : TypeId) : IsMap (w.alloc (.map #[] 0)) P k w.heap.size (fun _ => none) :=
  ⟨#[], 0, (MapKept.heap_alloc w _).1, stamped_empty 0, by simp, by simp, by simp⟩

section
variable {P : Program} {k : TypeId} {w : World} {b : Nat} {f : Value → Option Value} {t e : TypeId}

theorem MapIs.none_of {es : Array MapEntry} {clock : Nat} (M : MapIs P k es clock f) {key : Value} (h : ∀ e ∈ es.toList, e.key ≠ key) : f key = none := by
  cases hf : f key with
  | none => rfl
  | some x =>
    obtain ⟨e, he, hk, _⟩ := M.only key x hf
    exact absurd hk (h e he)

/-- 'm[k]' and 'v, ok := m[k]'. -/
theorem IsMap.lookup (h : IsMap w P k b f) (K : Keyed P k) (ht : P.underlying t = some (.map k e)) {z : Value} (hz : (zeroValue e).run P w = .ok z w)
    {key : Value} {kl : Lit} (hkey : keyOf P k key = some kl) (c : Bool) :
    (Instr.lookup t (.map (some b)) key c).run P w = .ok (if c then .tuple #[(f key).getD z, .bool (f key).isSome] else (f key).getD z) w := by
  obtain ⟨es, clock, hb, M⟩ := h
  rcases K.find w hkey es.toList M.keys with ⟨h1, h2⟩ | ⟨j, e0, h1, h2, h3⟩
  · have := M.none_of h2
    simp [Instr.lookup, run_underlying ht, MapKept.run_getObj_map hb, K.check w _ hkey, h1, hz, Result.andThen, this]
  · have hm0 : e0 ∈ es.toList := List.mem_of_getElem? h2
    have := M.has e0 hm0
    rw [h3] at this
    simp [Instr.lookup, run_underlying ht, MapKept.run_getObj_map hb, K.check w _ hkey, h1, Result.andThen, this]

theorem set_heap_same {o : Obj} (hb : b < w.heap.size) : (setBlock w b o).heap[b]? = some o := by
  simp [setBlock, Array.getElem?_setIfInBounds, hb]
theorem set_heap_other {o : Obj} {i : Nat} (h : i ≠ b) : (setBlock w b o).heap[i]? = w.heap[i]? := by
  simp [setBlock, Array.getElem?_setIfInBounds, Ne.symm h]

/-- 'm[k] = v'. -/
theorem IsMap.update (h : IsMap w P k b f) (K : Keyed P k) (ht : P.underlying t = some (.map k e)) {key : Value} {kl : Lit} (hkey : keyOf P k key = some kl) (val : Value) :
    ∃ o, (Instr.mapUpdate t (.map (some b)) key val).run P w = .ok () (setBlock w b o) ∧ IsMap (setBlock w b o) P k b (upd f key (some val)) := by
  have hlt := h.lt
  obtain ⟨es, clock, hb, M⟩ := h
  rcases K.find w hkey es.toList M.keys with ⟨h1, h2⟩ | ⟨j, e0, h1, h2, h3⟩
  · refine ⟨.map (es.push ⟨key, val, clock⟩) (clock + 1), ?_, es.push ⟨key, val, clock⟩, clock + 1, set_heap_same hlt, stamped_push M.stamped h2, ?_, ?_, ?_⟩
    · simp [Instr.mapUpdate, run_underlying ht, MapKept.run_getObj_map hb, K.check w false hkey, h1, MapKept.run_setObj_map _ hb, Result.andThen, setBlock]
    · intro x hx
      simp only [Array.toList_push, List.mem_append, List.mem_singleton] at hx
      rcases hx with hx | rfl
      · exact M.keys x hx
      · exact ⟨_, hkey⟩
    · intro x hx
      simp only [Array.toList_push, List.mem_append, List.mem_singleton] at hx
      rcases hx with hx | rfl
      · rw [upd_other _ _ (h2 x hx)]; exact M.has x hx
      · exact upd_same _ _ _
    · intro v x hv
      by_cases hvk : v = key
      · subst hvk
        rw [upd_same] at hv
        refine ⟨⟨v, val, clock⟩, by simp, rfl, by simpa using hv⟩
      · rw [upd_other _ _ hvk] at hv
        obtain ⟨e1, he1, hh⟩ := M.only v x hv
        exact ⟨e1, by simp [he1], hh⟩
  · have hj : es[j]? = some e0 := by simpa using h2
    have hm0 : e0 ∈ es.toList := List.mem_of_getElem? h2
    have hjl : j < es.toList.length := (List.getElem?_eq_some_iff.1 h2).1
    have hkeyf : ∀ e', es[j]? = some e' → ({ e' with key := key, val := val } : MapEntry).key = e'.key := fun e' he' => by rw [hj] at he'; cases he'; exact h3.symm
    have hlist : (es.modify j (fun e' => { e' with key := key, val := val })).toList = es.toList.set j { e0 with key := key, val := val } := by rw [Array.toList_modify, ChangeMaps.modify_eq_set _ _ _ _ h2]
    have hpw := ((stamped_iff es clock).1 M.stamped).2.2
    have other : ∀ i (hi : i < es.toList.length), i ≠ j → es.toList[i].key ≠ key := by
      intro i hi hne hk
      rw [← h3] at hk
      have hej : es.toList[j] = e0 := by
        have := List.getElem?_eq_getElem hjl
        rw [h2] at this; exact (Option.some.inj this).symm
      rcases Nat.lt_or_gt_of_ne hne with hlt' | hgt
      · exact List.pairwise_iff_getElem.1 hpw i j hi hjl hlt' (by rw [hk, hej])
      · exact List.pairwise_iff_getElem.1 hpw j i hjl hi hgt (by rw [hk, hej])
    have who : ∀ x ∈ es.toList.set j { e0 with key := key, val := val }, x = { e0 with key := key, val := val } ∨ (x ∈ es.toList ∧ x.key ≠ key) := by
      intro x hx
      obtain ⟨i, hi, ex⟩ := List.getElem_of_mem hx
      rw [List.getElem_set] at ex
      split at ex
      · exact Or.inl ex.symm
      · rename_i hne
        have hi' : i < es.toList.length := by simpa using hi
        exact Or.inr ⟨ex ▸ List.getElem_mem hi', ex ▸ other i hi' (fun e1 => hne e1.symm)⟩
    refine ⟨.map (es.modify j (fun e' => { e' with key := key, val := val })) clock, ?_, es.modify j (fun e' => { e' with key := key, val := val }), clock, set_heap_same hlt,
      stamped_modify M.stamped _ _ (fun _ _ => rfl) (fun e' _ he' => hkeyf e' he'), ?_, ?_, ?_⟩
    · simp [Instr.mapUpdate, run_underlying ht, MapKept.run_getObj_map hb, K.check w false hkey, h1, hj, h3, K.stays w hkey, MapKept.run_setObj_map _ hb, Result.andThen, setBlock]
    · intro x hx
      rw [hlist] at hx
      rcases who x hx with rfl | ⟨hx', _⟩
      · exact ⟨_, hkey⟩
      · exact M.keys x hx'
    · intro x hx
      rw [hlist] at hx
      rcases who x hx with rfl | ⟨hx', hne⟩
      · exact upd_same _ _ _
      · rw [upd_other _ _ hne]; exact M.has x hx'
    · intro v x hv
      by_cases hvk : v = key
      · subst hvk
        rw [upd_same] at hv
        refine ⟨{ e0 with key := v, val := val }, ?_, rfl, by simpa using hv⟩
        rw [hlist]
        exact List.mem_iff_getElem.2 ⟨j, by simpa using hjl, by simp⟩
      · rw [upd_other _ _ hvk] at hv
        obtain ⟨e1, he1, hh⟩ := M.only v x hv
        refine ⟨e1, ?_, hh⟩
        rw [hlist]
        obtain ⟨i, hi, ei⟩ := List.getElem_of_mem he1
        have hij : i ≠ j := by
          rintro rfl
          apply hvk
          rw [← hh.1, ← ei, ← h3]
          have := List.getElem?_eq_getElem hi
          rw [h2] at this; rw [← Option.some.inj this]
        exact List.mem_iff_getElem.2 ⟨i, by simpa using hi, by rw [List.getElem_set, if_neg (Ne.symm hij)]; exact ei⟩
end

/-! ### Keys that are structs or arrays -/
theorem keyOf_wide {P : Program} {k : TypeId} {v : Value} (hwide : (match P.underlying k with | some (.array _ _) | some (.struct _) => true | _ => false) = true) (hT : P.keyType k = true) (hf : v.formed P k = true)
    (hne : (P.types.size != 0) = true) {ls : List Lit} (h : ∀ m, P.keyLits (m + 2) k v.cells.toList = some ls) : keyOf P k v = some (.string (keyBytes ls)) := by
  obtain ⟨m, hm⟩ := Nat.exists_eq_add_one_of_ne_zero (bne_iff_ne.1 hne)
  have h2 : P.keyLits (P.types.size + 1) k v.cells.toList = some ls := by rw [hm]; exact h m
  unfold keyOf
  split
  · simp [hT, hf, h2]
  · simp [hT, hf, h2]
  · rename_i h3 h4
    exfalso
    split at hwide
    · exact h3 _ _ ‹_›
    · exact h4 _ ‹_›
    · cases hwide

/-! ### Only one block has changed -/
structure OnlyB (b : Nat) (w w' : World) : Prop where
  os : w'.os = w.os
  tape : w'.tape = w.tape
  output : w'.output = w.output
  drawn : w'.drawn = w.drawn
  size : w'.heap.size = w.heap.size
  other : ∀ i, i ≠ b → w'.heap[i]? = w.heap[i]?

theorem OnlyB.refl (b : Nat) (w : World) : OnlyB b w w := ⟨rfl, rfl, rfl, rfl, rfl, fun _ _ => rfl⟩
theorem OnlyB.trans {b : Nat} {w1 w2 w3 : World} (h : OnlyB b w1 w2) (h' : OnlyB b w2 w3) : OnlyB b w1 w3 :=
  ⟨h'.os.trans h.os, h'.tape.trans h.tape, h'.output.trans h.output, h'.drawn.trans h.drawn, h'.size.trans h.size, fun i hi => (h'.other i hi).trans (h.other i hi)⟩
theorem OnlyB.set (w : World) (b : Nat) (o : Obj) : OnlyB b w (setBlock w b o) :=
  ⟨rfl, rfl, rfl, rfl, by simp [setBlock], fun _ hi => set_heap_other hi⟩
theorem OnlyB.below {B b : Nat} {w w' : World} (h : OnlyB b w w') (hb : B ≤ b) : Below B w w' :=
  ⟨h.os, h.tape, h.output, Nat.le_of_eq h.size.symm, fun i hi => h.other i (by omega)⟩

/-! ### The stores of a map's literal, in whatever order -/
section
variable {P : Program} {ops : Array Oper} {Q : Exit → Act → World → Prop} {md : Region.Mode} {k t e : TypeId} {b : Nat} {A : Act}

theorem ready_nil_of_all {L : Array Bool} (h : ∀ i, L.getD i true = true) : Region.ready md ops L = [] := by
  rw [List.eq_nil_iff_forall_not_mem]
  intro i hi
  have := (mem_ready.1 hi).1
  rw [h i] at this
  cases this

/-- ins: the operations' numbers, the keys, the elements. f: the map behind them all. -/
theorem wpAny_inserts (K : Keyed P k) (ht : P.underlying t = some (.map k e)) (f : Value → Option Value) (fuel : Nat) :
    ∀ (n : Nat) (ins : List (Nat × Value × Value)) (L : Array Bool) (f0 : Value → Option Value) (w : World), ins.length = n →
    (∀ x ∈ ins, ∃ o m ki ci, ops[x.1]? = some o ∧ o.op = .insert t m ki ci ∧ o.guard = none ∧ o.dst = none ∧ A.eval m = .map (some b) ∧ A.eval ki = x.2.1 ∧ A.eval ci = x.2.2 ∧ (∃ kl, keyOf P k x.2.1 = some kl) ∧ x.1 < L.size) →
    (ins.map (·.1)).Nodup →
    (∀ x ∈ ins, L.getD x.1 true = false ∧ x.1 ∈ Region.ready md ops L) →
    (∀ i, L.getD i true = false → i ∈ ins.map (·.1) ∨ ∃ o, ops[i]? = some o ∧ ∀ j ∈ ins.map (·.1), ∃ e ∈ o.after, Region.binds md e = true ∧ e.on = j) →
    IsMap w P k b f0 → (∀ x ∈ ins, f x.2.1 = some x.2.2) → (∀ v, (∀ x ∈ ins, v ≠ x.2.1) → f v = f0 v) →
    (∀ w' L', OnlyB b w w' → IsMap w' P k b f → L'.size = L.size → (∀ i, L'.getD i true = (L.getD i true || decide (i ∈ ins.map (·.1)))) → wpAny P md ops Q fuel L' A w') →
    wpAny P md ops Q (fuel + n) L A w
  | 0, ins, L, f0, w, hn, _, _, _, _, hm, _, hf0, H => by
    obtain rfl := List.eq_nil_of_length_eq_zero hn
    exact H w L (OnlyB.refl _ _) (hm.congr fun v => (hf0 v (by simp)).symm) rfl (by simp)
  | n + 1, ins, L, f0, w, hn, hops, hnd, hL, htail, hm, hf, hf0, H => by
    classical
    obtain ⟨x0, hx0⟩ : ∃ x, x ∈ ins := List.exists_mem_of_length_pos (by omega)
    show (Region.ready md ops L = [] → Q .normal A w) ∧ ∀ i ∈ Region.ready md ops L, wpOp P ops Q i (wpAny P md ops Q (fuel + n) (L.setIfInBounds i true)) A w
    refine ⟨fun h => ?_, fun i hi => ?_⟩
    · have := (hL x0 hx0).2
      rw [h] at this
      cases this
    · have hmem : i ∈ ins.map (·.1) := by
        rcases htail i (mem_ready.1 hi).1 with h | ⟨o, ho, h⟩
        · exact h
        · obtain ⟨ed, hed, hb, hon⟩ := h x0.1 (List.mem_map.2 ⟨x0, hx0, rfl⟩)
          obtain ⟨_, o', ho', hall⟩ := mem_ready.1 hi
          rw [ho] at ho'
          cases ho'
          have h1 := hall ed hed hb
          have h2 := (hL x0 hx0).1
          rw [hon] at h1
          have : x0.1 < L.size := by obtain ⟨_, _, _, _, _, _, _, _, _, _, _, _, h⟩ := hops x0 hx0; exact h
          simp [this] at h1 h2
          rw [h1] at h2
          cases h2
      obtain ⟨x, hx, rfl⟩ := List.mem_map.1 hmem
      obtain ⟨o, m, ki, ci, ho, hop, hg, hd, hem, hek, hec, ⟨kl, hkl⟩, hlt⟩ := hops x hx
      obtain ⟨ob, hrun, hm'⟩ := hm.update K ht hkl x.2.2
      have hperm := List.perm_cons_erase hx
      have hnd' : ((ins.erase x).map (·.1)).Nodup ∧ x.1 ∉ (ins.erase x).map (·.1) := by
        have := (hperm.map (·.1)).nodup_iff.1 hnd
        rw [List.map_cons, List.nodup_cons] at this
        exact ⟨this.2, this.1⟩
      have hmemE : ∀ i, i ∈ ins.map (·.1) ↔ i = x.1 ∨ i ∈ (ins.erase x).map (·.1) := fun i => by
        rw [(hperm.map (·.1)).mem_iff, List.map_cons, List.mem_cons]
      unfold wpOp
      simp only [ho]
      have hw : Region.wanted o (yielded ops A.tmps) = true := by simp [Region.wanted, hg]
      rw [if_pos hw]
      refine .inl ?_
      have hexec : (execOp A.eval o).run P w = .ok .skip (setBlock w b ob) := by
        simp [execOp, hop, hem, hek, hec, hrun, Result.andThen]
      unfold Oper.wp
      rw [hexec, Oper.upon_skip, hd]
      show wpAny P md ops Q (fuel + n) (L.setIfInBounds x.1 true) A (setBlock w b ob)
      have hset : ∀ i, (L.setIfInBounds x.1 true).getD i true = (L.getD i true || decide (i = x.1)) := fun i => by
        by_cases hi : i = x.1
        · subst hi; simp [hlt]
        · rw [getD_set_ne true (Ne.symm hi)]; simp [hi]
      refine wpAny_inserts K ht f fuel n (ins.erase x) (L.setIfInBounds x.1 true) (upd f0 x.2.1 (some x.2.2)) (setBlock w b ob) (by rw [List.length_erase_of_mem hx]; omega)
        (fun y hy => ?_) hnd'.1 (fun y hy => ?_) (fun i hi' => ?_) hm' (fun y hy => hf y (List.mem_of_mem_erase hy)) (fun v hv => ?_) (fun w' L' h1 h2 h3 h4 => ?_)
      · obtain ⟨o, m, ki, ci, h1, h2, h3, h4, h5, h6, h7, h8, h9⟩ := hops y (List.mem_of_mem_erase hy)
        exact ⟨o, m, ki, ci, h1, h2, h3, h4, h5, h6, h7, h8, by simpa using h9⟩
      · have hne : y.1 ≠ x.1 := fun e => hnd'.2 (List.mem_map.2 ⟨y, hy, e⟩)
        exact ⟨by rw [getD_set_ne true (Ne.symm hne)]; exact (hL y (List.mem_of_mem_erase hy)).1, ready_mono (hL y (List.mem_of_mem_erase hy)).2 hne⟩
      · rw [hset, Bool.or_eq_false_iff, decide_eq_false_iff_not] at hi'
        rcases htail i hi'.1 with h | ⟨o, h0, h⟩
        · exact .inl (((hmemE i).1 h).resolve_left hi'.2)
        · exact .inr ⟨o, h0, fun j hj => h j ((hmemE j).2 (.inr hj))⟩
      · by_cases hvx : v = x.2.1
        · subst hvx; rw [upd_same]; exact hf x hx
        · rw [upd_other _ _ hvx]
          refine hf0 v fun y hy => ?_
          rcases List.mem_cons.1 (hperm.mem_iff.1 hy) with rfl | hy'
          · exact hvx
          · exact hv y hy'
      · refine H w' L' ((OnlyB.set w b ob).trans h1) h2 (by rw [h3]; simp) (fun i => ?_)
        rw [h4, hset]
        by_cases hi1 : i = x.1
        · subst hi1; simp [(hmemE x.1).2 (.inl rfl)]
        · have : decide (i ∈ ins.map (·.1)) = decide (i ∈ (ins.erase x).map (·.1)) := by
            rw [decide_eq_decide, hmemE]; simp [hi1]
          rw [this]; simp [hi1]

/-- The checks of 'wpAny_inserts' as one closed Bool. -/
def insB (md : Region.Mode) (ops : Array Oper) (L : Array Bool) (idx : List Nat) : Bool :=
  ((List.range L.size).all fun i => L.getD i true || idx.contains i || (match ops[i]? with | some o => idx.all fun j => o.after.toList.any fun e => Region.binds md e && e.on == j | none => false)) &&
  (idx.all fun i => (Region.ready md ops L).contains i && !L.getD i true && decide (i < L.size)) && decide idx.Nodup

theorem wpAny_inserts' (K : Keyed P k) (ht : P.underlying t = some (.map k e)) (f : Value → Option Value) (fuel : Nat) (ins : List (Nat × Value × Value)) (L : Array Bool) (f0 : Value → Option Value) (w : World)
    (hops : ∀ x ∈ ins, ∃ o m ki ci, ops[x.1]? = some o ∧ o.op = .insert t m ki ci ∧ o.guard = none ∧ o.dst = none ∧ A.eval m = .map (some b) ∧ A.eval ki = x.2.1 ∧ A.eval ci = x.2.2 ∧ (∃ kl, keyOf P k x.2.1 = some kl))
    (hB : insB md ops L (ins.map (·.1)) = true)
    (hm : IsMap w P k b f0) (hf : ∀ x ∈ ins, f x.2.1 = some x.2.2) (hf0 : ∀ v, (∀ x ∈ ins, v ≠ x.2.1) → f v = f0 v)
    (H : ∀ w', OnlyB b w w' → IsMap w' P k b f → wpAny P md ops Q fuel ((List.range L.size).map fun i => L.getD i true || (ins.map (·.1)).contains i).toArray A w') :
    wpAny P md ops Q (fuel + ins.length) L A w := by
  simp only [insB, Bool.and_eq_true, List.all_eq_true, decide_eq_true_eq] at hB
  obtain ⟨⟨h1, h2⟩, h3⟩ := hB
  refine wpAny_inserts K ht f fuel ins.length ins L f0 w rfl (fun x hx => ?_) h3 (fun x hx => ?_) (fun i hi => ?_) hm hf hf0 (fun w' L' g1 g2 g3 g4 => ?_)
  · obtain ⟨o, m, ki, ci, e1, e2, e3, e4, e5, e6, e7, e8⟩ := hops x hx
    exact ⟨o, m, ki, ci, e1, e2, e3, e4, e5, e6, e7, e8, (h2 x.1 (List.mem_map.2 ⟨x, hx, rfl⟩)).2⟩
  · have := h2 x.1 (List.mem_map.2 ⟨x, hx, rfl⟩)
    exact ⟨by simpa using this.1.2, by simpa using this.1.1⟩
  · by_cases hlt : i < L.size
    · have := h1 i (List.mem_range.2 hlt)
      rw [hi, Bool.false_or, Bool.or_eq_true] at this
      rcases this with h | h
      · exact .inl (by simpa using h)
      · split at h
        · rename_i o ho
          refine .inr ⟨o, ho, fun j hj => ?_⟩
          rw [List.all_eq_true] at h
          have := h j hj
          rw [List.any_eq_true] at this
          obtain ⟨ed, hed, hb⟩ := this
          rw [Bool.and_eq_true, beq_iff_eq] at hb
          exact ⟨ed, by simpa using hed, hb.1, hb.2⟩
        · cases h
    · simp [Nat.not_lt.1 hlt] at hi
  · have he : L' = ((List.range L.size).map fun i => L.getD i true || (ins.map (·.1)).contains i).toArray := by
      apply Array.ext
      · simp [g3]
      · intro i hi1 hi2
        have := g4 i
        have e1 : L'.getD i true = L'[i] := by simp [hi1]
        rw [e1] at this
        rw [this, List.getElem_toArray, List.getElem_map, List.getElem_range, Bool.eq_iff_iff]
        simp
    rw [he]
    exact H w' g1 g2
end
end Go.Proofs.Ytahgapkecabnjaa
/- Maps as functions: delete, len, and a range over the keys, each once in some order; inside a fence and outside. After Derived/Maps/Range.lean. -/
namespace Go.Proofs.Ytahgapkecabnjaa
set_option linter.unusedSimpArgs false
set_option linter.unusedVariables false
open Go Go.RowKit Go.Maps Go.MapKept
open Go.ChangeMaps (setBlock)

section
variable {P : Program} {k : TypeId} {w : World} {b r : Nat} {f : Value → Option Value} {t e : TypeId}

theorem MapIs.apart {es : Array MapEntry} {clock : Nat} (M : MapIs P k es clock f) : es.toList.Pairwise (fun x y => x.key ≠ y.key) := ((stamped_iff es clock).1 M.stamped).2.2
/-- 'delete(m, k)'. -/
theorem IsMap.delete (h : IsMap w P k b f) (K : Keyed P k) (ht : P.underlying t = some (.map k e)) {key : Value} {kl : Lit} (hkey : keyOf P k key = some kl) (ty : TypeId) :
    ∃ o, (Builtin.delete_ #[t, k] ty #[.map (some b), key]).run P w = .ok (.tuple #[]) (setBlock w b o) ∧ IsMap (setBlock w b o) P k b (upd f key none) := by
  have hlt := h.lt
  obtain ⟨es, clock, hb, M⟩ := h
  rcases K.find w hkey es.toList M.keys with ⟨h1, h2⟩ | ⟨j, e0, h1, h2, h3⟩
  · refine ⟨.map es clock, ?_, es, clock, set_heap_same hlt, M.stamped, M.keys, fun x hx => ?_, fun v x hv => ?_⟩
    · simp [Builtin.delete_, run_underlying ht, MapKept.run_getObj_map hb, K.check w _ hkey, h1, MapKept.run_setObj_map _ hb, Result.andThen, setBlock]
    · rw [upd_other _ _ (h2 x hx)]; exact M.has x hx
    · by_cases hvk : v = key
      · subst hvk; rw [upd_same] at hv; cases hv
      · rw [upd_other _ _ hvk] at hv; exact M.only v x hv
  · have hjl : j < es.toList.length := (List.getElem?_eq_some_iff.1 h2).1
    have hjs : j < es.size := by simpa using hjl
    have hsub : (es.eraseIdxIfInBounds j).toList = es.toList.eraseIdx j := by
      unfold Array.eraseIdxIfInBounds
      rw [dif_pos hjs]
      simp
    have hpw := M.apart
    have who : ∀ x, x ∈ (es.eraseIdxIfInBounds j).toList ↔ (x ∈ es.toList ∧ x.key ≠ key) := fun x => by
      rw [hsub, List.mem_eraseIdx_iff_getElem?]
      constructor
      · rintro ⟨i, hne, hi⟩
        refine ⟨List.mem_of_getElem? hi, fun ek => ?_⟩
        have hil := (List.getElem?_eq_some_iff.1 hi)
        have hjj := (List.getElem?_eq_some_iff.1 h2)
        obtain ⟨hi1, hi2⟩ := hil
        obtain ⟨hj1, hj2⟩ := hjj
        have ee : es.toList[i].key = es.toList[j].key := by rw [hi2, hj2, h3, ek]
        rcases Nat.lt_or_gt_of_ne hne with hl | hg
        · exact List.pairwise_iff_getElem.1 hpw i j hi1 hj1 hl ee
        · exact List.pairwise_iff_getElem.1 hpw j i hj1 hi1 hg ee.symm
      · rintro ⟨hx, hne⟩
        obtain ⟨i, hi⟩ := List.getElem?_of_mem hx
        refine ⟨i, fun e1 => hne ?_, hi⟩
        rw [e1, h2] at hi
        cases hi
        exact h3
    refine ⟨.map (es.eraseIdxIfInBounds j) clock, ?_, es.eraseIdxIfInBounds j, clock, set_heap_same hlt, stamped_erase M.stamped j, fun x hx => M.keys x ((who x).1 hx).1, fun x hx => ?_, fun v x hv => ?_⟩
    · simp [Builtin.delete_, run_underlying ht, MapKept.run_getObj_map hb, K.check w _ hkey, h1, MapKept.run_setObj_map _ hb, Result.andThen, setBlock]
    · rw [upd_other _ _ ((who x).1 hx).2]; exact M.has x ((who x).1 hx).1
    · by_cases hvk : v = key
      · subst hvk; rw [upd_same] at hv; cases hv
      · rw [upd_other _ _ hvk] at hv
        obtain ⟨x1, hx1, hk1, hv1⟩ := M.only v x hv
        exact ⟨x1, (who x1).2 ⟨hx1, by rw [hk1]; exact hvk⟩, hk1, hv1⟩

/-- A range over block b's map by iterator r; 'pre': the keys that have come. -/
def Ranging (w : World) (P : Program) (k : TypeId) (b r : Nat) (f : Value → Option Value) (pre : List Value) : Prop :=
  ∃ es clock since seen c0, w.heap[b]? = some (.map es clock) ∧ MapIs P k es clock f ∧ w.heap[r]? = some (.mapIter (some b) since seen c0) ∧ (∀ x ∈ es.toList, x.born < since) ∧ since ≤ c0 ∧ since ≤ clock ∧
    pre.Nodup ∧ (∀ x ∈ es.toList, seen.contains x.born = true ↔ x.key ∈ pre) ∧ (∀ v ∈ pre, ∃ x ∈ es.toList, x.key = v)
theorem Ranging.is {pre : List Value} (h : Ranging w P k b r f pre) : IsMap w P k b f := by
  obtain ⟨es, clock, _, _, _, hb, M, _⟩ := h
  exact ⟨es, clock, hb, M⟩
theorem Ranging.ne {pre : List Value} (h : Ranging w P k b r f pre) : r ≠ b := fun e => by
  obtain ⟨es, clock, _, _, _, hb, _, hr, _⟩ := h
  rw [e, hb] at hr; cases hr
theorem Ranging.sub {pre : List Value} (h : Ranging w P k b r f pre) : ∀ v ∈ pre, ∃ x, f v = some x := by
  obtain ⟨es, clock, _, _, _, hb, M, hr, _, _, _, _, _, hp⟩ := h
  intro v hv
  obtain ⟨x, hx, rfl⟩ := hp v hv
  exact ⟨_, M.has x hx⟩
theorem Ranging.of_walks {w' : World} {pre : List Value} (h : Ranging w P k b r f pre) (hk : KeepsWalks w w') : Ranging w' P k b r f pre := by
  obtain ⟨es, clock, since, seen, c0, hb, M, hr, rest⟩ := h
  exact ⟨es, clock, since, seen, c0, hk.same b _ hb rfl, M, hk.same r _ hr rfl, rest⟩
theorem Ranging.iter_walk {pre : List Value} (h : Ranging w P k b r f pre) : ∃ o : Obj, w.heap[r]? = some o ∧ o.isWalk = true := by
  obtain ⟨es, clock, since, seen, c0, hb, M, hr, rest⟩ := h
  exact ⟨_, hr, rfl⟩
theorem Ranging.left_walks {w' : World} {pre : List Value} (h : Ranging w P k b r f pre) (hk : KeepsWalks w w') : w'.rangeLeft b r = w.rangeLeft b r := by
  obtain ⟨es, clock, since, seen, c0, hb, M, hr, rest⟩ := h
  simp only [World.rangeLeft, hb, hr, hk.same b _ hb rfl, hk.same r _ hr rfl]
theorem IsMap.range (h : IsMap w P k b f) (ht : P.underlying t = some (.map k e)) :
    ∃ w', (Instr.range t (.map (some b))).run P w = .ok (.pointer (some ⟨w.heap.size, 0, none⟩)) w' ∧ Ranging w' P k b w.heap.size f [] ∧ w.grownBy w' none ∧ w'.heap.size = w.heap.size + 1 := by
  have hlt := h.lt
  obtain ⟨es, clock, hb, M⟩ := h
  refine ⟨_, run_range_map w t k e b es clock ht hb, ⟨es, clock, clock, #[], clock, ((MapKept.heap_alloc w _).2 b hlt).trans hb, M, (MapKept.heap_alloc w _).1, M.stamped.1, Nat.le_refl _, Nat.le_refl _, List.nodup_nil, ?_, ?_⟩, World.grownBy_alloc w _ none, by simp⟩
  · intro x hx; simp
  · intro v hv; cases hv
theorem Ranging.next {pre : List Value} (h : Ranging w P k b r f pre) (ty : TypeId) :
    ((∀ v x, f v = some x → v ∈ pre) ∧ (Instr.next (.pointer (some ⟨r, 0, none⟩)) false ty).run P w = .ok (.tuple #[.bool false]) w) ∨
    ∃ key v w', f key = some v ∧ key ∉ pre ∧ (∃ kl, keyOf P k key = some kl) ∧ (Instr.next (.pointer (some ⟨r, 0, none⟩)) false ty).run P w = .ok (.tuple #[.bool true, key, v]) w' ∧
      Ranging w' P k b r f (pre ++ [key]) ∧ w'.rangeLeft b r < w.rangeLeft b r ∧ w.grownBy w' (some r) ∧ w'.heap.size = w.heap.size ∧ (Instr.entry (.pointer (some ⟨r, 0, none⟩))).run P w' = .ok (.tuple #[key, v]) w' := by
  have hne := h.ne
  obtain ⟨es, clock, since, seen, c0, hb, M, hr, hold, hsc, hsk, hnd, hseen, hpre⟩ := h
  rcases run_next_at (P := P) w ty r b since c0 seen es clock hr hb hold hsc with ⟨h0, hrun⟩ | ⟨e, he, w1, hal, hrun⟩
  · refine Or.inl ⟨fun v x hv => ?_, hrun⟩
    obtain ⟨e1, he1, rfl, _⟩ := M.only v x hv
    exact (hseen e1 he1).1 (all_seen es seen h0 e1 he1)
  · obtain ⟨hem, hes⟩ := mem_left he
    have hr1 : w1.heap[r]? = some (.mapIter (some b) since seen c0) := by rcases hal with rfl | rfl <;> exact hr
    have hb1 : w1.heap[b]? = some (.map es clock) := by rcases hal with rfl | rfl <;> exact hb
    have hset := heap_set (o' := .mapIter (some b) since (seen.push e.born) clock) hr1
    have hb' : (setBlock w1 r (.mapIter (some b) since (seen.push e.born) clock)).heap[b]? = some (.map es clock) := (hset.2 b (fun e1 => hne e1.symm)).trans hb1
    have hnew : e.key ∉ pre := fun hp => by
      have := (hseen e hem).2 hp
      rw [hes] at this; cases this
    have hst := (stamped_iff es clock).1 M.stamped
    refine Or.inr ⟨e.key, e.val, _, M.has e hem, hnew, M.keys e hem, hrun,
      ⟨es, clock, since, seen.push e.born, clock, hb', M, hset.1, hold, hsk, hsk, ?_, fun x hx => ?_, fun v hv => ?_⟩, ?_, ?_, ?_,
      run_entry_at _ r b since seen es clock e hset.1 hb' hem hst.2.1⟩
    · exact List.nodup_append.2 ⟨hnd, by simp, fun a ha c hc => by simp at hc; subst hc; exact fun e1 => hnew (e1 ▸ ha)⟩
    · rw [contains_push, Bool.or_eq_true, List.mem_append, List.mem_singleton, hseen x hx, beq_iff_eq]
      constructor
      · rintro (h1 | h1)
        · exact .inl h1
        · exact .inr (congrArg MapEntry.key (born_inj hst.2.1 hx hem h1))
      · rintro (h1 | h1)
        · exact .inl h1
        · exact .inr (congrArg MapEntry.born (entry_eq_of_key hst.2.2 hx hem h1))
    · rcases List.mem_append.1 hv with h1 | h1
      · exact hpre v h1
      · rw [List.mem_singleton.1 h1]; exact ⟨e, hem, rfl⟩
    · have hr' : (setBlock w1 r (.mapIter (some b) since (seen.push e.born) clock)).heap[r]? = some (.mapIter (some b) since (seen.push e.born) clock) := hset.1
      have e1 : (setBlock w1 r (.mapIter (some b) since (seen.push e.born) clock)).rangeLeft b r = (leftOf es (seen.push e.born)).size := by simp only [World.rangeLeft, hb', hr']
      have e2 : w.rangeLeft b r = (leftOf es seen).size := by simp only [World.rangeLeft, hb, hr]
      rw [e1, e2]
      exact left_shrinks es seen e he
    · rcases hal with rfl | rfl <;> exact ⟨rfl, rfl, rfl, by simp [setBlock], fun i _ hi => hset.2 i (fun e1 => hi (by rw [e1]))⟩
    · rcases hal with rfl | rfl <;> simp [setBlock]
end

section
variable {F : Fence} {n : Nat} {P : Program} {w : World} {ops : Array Oper} {rest : List Oper} {o : Oper} {a : Act} {Q : Exit → Act → World → Prop}
/-- 'range m'. -/
theorem wpListIn_range_map (hg : o.guard = none) (m : Operand) (t : TypeId) (hop : o.op = Op.range t m) (k e : TypeId) (ht : P.underlying t = some (.map k e)) (b : Nat) (f : Value → Option Value)
    (hm : a.eval m = .map (some b)) (his : IsMap w P k b f)
    (hK : ∀ w', Ranging w' P k b w.heap.size f [] → w.grownBy w' none → w'.heap.size = w.heap.size + 1 → wpListIn F n P ops Q rest (a.put o.dst (.pointer (some ⟨w.heap.size, 0, none⟩))) w') :
    wpListIn F n P ops Q (o :: rest) a w := by
  refine wpListIn_plain hg fun K' hK' => ?_
  obtain ⟨w', hrun, r1, r2, r3⟩ := his.range ht
  unfold Oper.wpIn
  refine ⟨?_, ?_⟩
  · simp [Oper.about, hop]
  · rw [Oper.semAt_plain F _ _ (by rw [hop]; intro c hc'; cases hc')]
    simp [execOp, hop, hm, hrun, Result.andThen]
    exact hK' _ _ (hK w' r1 r2 r3)
/-- The step. -/
theorem wpListIn_next_map {α : Type} (hg : o.guard = none) (it : Operand) (hop : o.op = Op.next it false) (k : TypeId) (mkK : α → Value) (b r : Nat) (f : Value → Option Value) (invK : ∀ key v, f key = some v → ∃ x, key = mkK x) (pre : List Value)
    (hit : a.eval it = .pointer (some ⟨r, 0, none⟩)) (h : Ranging w P k b r f pre)
    (hDone : (∀ v x, f v = some x → v ∈ pre) → wpListIn F n P ops Q rest (a.put o.dst (.tuple #[.bool false])) w)
    (hMore : ∀ (x : α) (c : Value) (w' : World), f (mkK x) = some c → mkK x ∉ pre → Ranging w' P k b r f (pre ++ [mkK x]) → w'.rangeLeft b r < w.rangeLeft b r →
      w.grownBy w' (some r) → w'.heap.size = w.heap.size → (Instr.entry (.pointer (some ⟨r, 0, none⟩))).run P w' = .ok (.tuple #[mkK x, c]) w' → wpListIn F n P ops Q rest (a.put o.dst (.tuple #[.bool true, mkK x, c])) w') :
    wpListIn F n P ops Q (o :: rest) a w := by
  refine wpListIn_plain hg fun K' hK' => ?_
  unfold Oper.wpIn
  refine ⟨by simp [Oper.about, hop], ?_⟩
  rw [Oper.semAt_plain F _ _ (by rw [hop]; intro c hc'; cases hc')]
  rcases h.next o.type with ⟨h0, hrun⟩ | ⟨key, v, w', hf, hnew, ⟨kl, hkl⟩, hrun, hrg, hlt, hgr, hsz, hen⟩
  · simp [execOp, hop, hit, hrun, Result.andThen]
    exact hK' _ _ (hDone h0)
  · obtain ⟨x, rfl⟩ := invK key v hf
    simp [execOp, hop, hit, hrun, Result.andThen]
    exact hK' _ _ (hMore x v w' hf hnew hrg hlt hgr hsz hen)
end
end Go.Proofs.Ytahgapkecabnjaa
/- Plain law: keys of flows, their order, and lists of flows in that order. No program in sight. -/
namespace Go.Proofs.Ytahgapkecabnjaa
set_option linter.unusedSimpArgs false
set_option linter.unusedVariables false

/-- A flow's key. -/
structure Ky where
  a0 : Nat
  a1 : Nat
  p0 : Nat
  p1 : Nat
  pr : Nat
theorem Ky.same {x y : Ky} : x = y ↔ x.a0 = y.a0 ∧ x.a1 = y.a1 ∧ x.p0 = y.p0 ∧ x.p1 = y.p1 ∧ x.pr = y.pr := by
  constructor
  · rintro rfl; exact ⟨rfl, rfl, rfl, rfl, rfl⟩
  · rintro ⟨h1, h2, h3, h4, h5⟩
    cases x; cases y; simp only at h1 h2 h3 h4 h5
    subst h1 h2 h3 h4 h5; rfl
instance : DecidableEq Ky := fun x y => decidable_of_iff _ (Ky.same (x := x) (y := y)).symm
instance : Inhabited Ky := ⟨⟨0, 0, 0, 0, 0⟩⟩
structure Ky.In (k : Ky) : Prop where
  a0 : k.a0 < 4294967296
  a1 : k.a1 < 4294967296
  p0 : k.p0 < 65536
  p1 : k.p1 < 65536
  pr : k.pr < 256
/-- The order of keys. -/
def ltK (x y : Ky) : Prop := x.pr < y.pr ∨ x.pr = y.pr ∧ (x.a0 < y.a0 ∨ x.a0 = y.a0 ∧ (x.p0 < y.p0 ∨ x.p0 = y.p0 ∧ (x.a1 < y.a1 ∨ x.a1 = y.a1 ∧ x.p1 < y.p1)))
instance (x y : Ky) : Decidable (ltK x y) := by unfold ltK; infer_instance
def lessK (x y : Ky) : Bool := decide (ltK x y)
theorem lessK_iff {x y : Ky} : lessK x y = true ↔ ltK x y := by unfold lessK; rw [decide_eq_true_iff]
theorem lessK_not {x y : Ky} : lessK x y = false ↔ ¬ ltK x y := by unfold lessK; rw [decide_eq_false_iff_not]
theorem ltK_irrefl (x : Ky) : ¬ ltK x x := by unfold ltK; omega
theorem ltK_trans {x y z : Ky} (h : ltK x y) (k : ltK y z) : ltK x z := by unfold ltK at *; omega
theorem ltK_asymm {x y : Ky} (h : ltK x y) : ¬ ltK y x := by unfold ltK at *; omega
theorem ltK_total {x y : Ky} (h : x ≠ y) : ltK x y ∨ ltK y x := by
  rw [Ne, Ky.same] at h
  unfold ltK; omega
theorem ltK_ntrans {x y z : Ky} (h : ¬ ltK x y) (k : ¬ ltK y z) : ¬ ltK x z := by unfold ltK at *; omega
theorem ltK_ne {x y : Ky} (h : ltK x y) : x ≠ y := fun e => by subst e; exact ltK_irrefl _ h
def endN (a p : Nat) : Nat := a * 65536 + p
/-- The order as the reference tells it. -/
theorem lessK_ends {x y : Ky} (hx : x.In) (hy : y.In) : lessK x y = if x.pr ≠ y.pr then decide (x.pr < y.pr) else
    if endN x.a0 x.p0 ≠ endN y.a0 y.p0 then decide (endN x.a0 x.p0 < endN y.a0 y.p0) else decide (endN x.a1 x.p1 < endN y.a1 y.p1) := by
  obtain ⟨_, _, h1, h2, _⟩ := hx
  obtain ⟨_, _, h3, h4, _⟩ := hy
  rw [Bool.eq_iff_iff, lessK_iff]
  unfold ltK endN
  split
  · rw [decide_eq_true_iff]; omega
  · split
    · rw [decide_eq_true_iff]; omega
    · rw [decide_eq_true_iff]; omega

/-! ### Lists in order -/
/-- Each ahead of all that follow. -/
def Rises (l : List Ky) : Prop := l.Pairwise ltK
theorem Rises.nodup {l : List Ky} (h : Rises l) : l.Nodup := List.Pairwise.imp (fun h => ltK_ne h) h
/-- Of a set of keys there is one list in order. -/
theorem rises_one : ∀ {l m : List Ky}, Rises l → Rises m → (∀ x, x ∈ l ↔ x ∈ m) → l = m
  | [], [], _, _, _ => rfl
  | [], y :: m, _, _, h => by have := (h y).2 (by simp); cases this
  | x :: l, [], _, _, h => by have := (h x).1 (by simp); cases this
  | x :: l, y :: m, hl, hm, h => by
    obtain ⟨h1, h2⟩ := List.pairwise_cons.1 hl
    obtain ⟨k1, k2⟩ := List.pairwise_cons.1 hm
    have e : x = y := by
      rcases List.mem_cons.1 ((h x).1 (by simp)) with e | hx
      · exact e
      · rcases List.mem_cons.1 ((h y).2 (by simp)) with e | hy
        · exact e.symm
        · exact absurd (h1 y hy) (ltK_asymm (k1 x hx))
    subst e
    rw [rises_one h2 k2 fun z => ?_]
    constructor
    · intro hz
      rcases List.mem_cons.1 ((h z).1 (by simp [hz])) with e | hz'
      · subst e; exact absurd (h1 z hz) (ltK_irrefl z)
      · exact hz'
    · intro hz
      rcases List.mem_cons.1 ((h z).2 (by simp [hz])) with e | hz'
      · subst e; exact absurd (k1 z hz) (ltK_irrefl z)
      · exact hz'
/-- What is sorted by 'not ahead of what precedes' and names no key twice rises. -/
theorem rises_of_sorted {l : List Ky} (h : l.Pairwise fun x y => ¬ ltK y x) (hn : l.Nodup) : Rises l := by
  refine List.Pairwise.imp₂ (R := fun x y => ¬ ltK y x) (S := fun x y => x ≠ y) (fun x y h1 h2 => ?_) h hn
  rcases ltK_total h2 with h3 | h3
  · exact h3
  · exact absurd h3 h1

/-! ### Flows in order, of whatever sort -/
section
variable {α : Type}
/-- Keys with what they stand for, in order. -/
abbrev Kl (α : Type) := List (Ky × α)
def keysL (l : Kl α) : List Ky := l.map (·.1)
def getL (l : Kl α) (k : Ky) : Option α := (l.find? fun p => decide (p.1 = k)).map (·.2)
def hasL (l : Kl α) (k : Ky) : Bool := (getL l k).isSome
def delL (l : Kl α) (k : Ky) : Kl α := l.filter fun p => decide (p.1 ≠ k)
def putL (l : Kl α) (k : Ky) (x : α) : Kl α := (l.filter fun p => lessK p.1 k) ++ (k, x) :: l.filter fun p => lessK k p.1
theorem getL_nil (k : Ky) : getL ([] : Kl α) k = none := rfl
theorem getL_cons (p : Ky × α) (l : Kl α) (k : Ky) : getL (p :: l) k = if p.1 = k then some p.2 else getL l k := by
  unfold getL
  rw [List.find?_cons]
  by_cases h : p.1 = k
  · simp [h]
  · simp [h]
theorem getL_mem {l : Kl α} {k : Ky} {x : α} (h : getL l k = some x) : (k, x) ∈ l := by
  induction l with
  | nil => cases h
  | cons p l ih =>
    rw [getL_cons] at h
    split at h
    · rename_i e; cases h; subst e; simp
    · simp [ih h]
theorem getL_of_mem {l : Kl α} (hr : Rises (keysL l)) {k : Ky} {x : α} (h : (k, x) ∈ l) : getL l k = some x := by
  induction l with
  | nil => cases h
  | cons p l ih =>
    obtain ⟨h1, h2⟩ := List.pairwise_cons.1 (show (p.1 :: keysL l).Pairwise ltK from hr)
    rw [getL_cons]
    rcases List.mem_cons.1 h with e | h'
    · subst e; simp
    · rw [if_neg, ih h2 h']
      intro e
      have := h1 k (List.mem_map.2 ⟨(k, x), h', rfl⟩)
      rw [e] at this
      exact ltK_irrefl _ this
theorem getL_none {l : Kl α} {k : Ky} : getL l k = none ↔ k ∉ keysL l := by
  induction l with
  | nil => simp [keysL, getL_nil]
  | cons p l ih =>
    rw [getL_cons]
    show _ ↔ k ∉ p.1 :: keysL l
    by_cases h : p.1 = k
    · simp [h]
    · rw [if_neg h, ih, List.mem_cons]
      constructor
      · rintro h1 (h2 | h2)
        · exact h h2.symm
        · exact h1 h2
      · exact fun h1 h2 => h1 (.inr h2)
theorem keysL_del (l : Kl α) (k : Ky) : keysL (delL l k) = (keysL l).filter fun x => decide (x ≠ k) := by
  unfold keysL delL; rw [List.filter_map]; rfl
theorem rises_del {l : Kl α} (h : Rises (keysL l)) (k : Ky) : Rises (keysL (delL l k)) := by
  rw [keysL_del]; exact List.Pairwise.filter _ h
theorem keysL_put (l : Kl α) (k : Ky) (x : α) : keysL (putL l k x) = ((keysL l).filter fun y => lessK y k) ++ k :: (keysL l).filter fun y => lessK k y := by
  unfold keysL putL; rw [List.map_append, List.map_cons, List.filter_map, List.filter_map]; rfl
theorem rises_put {l : Kl α} (h : Rises (keysL l)) (k : Ky) (x : α) : Rises (keysL (putL l k x)) := by
  rw [keysL_put]
  unfold Rises
  rw [List.pairwise_append, List.pairwise_cons]
  refine ⟨List.Pairwise.filter _ h, ⟨fun y hy => lessK_iff.1 (List.mem_filter.1 hy).2, List.Pairwise.filter _ h⟩, fun y hy z hz => ?_⟩
  have h1 := lessK_iff.1 (List.mem_filter.1 hy).2
  rcases List.mem_cons.1 hz with e | hz'
  · subst e; exact h1
  · exact ltK_trans h1 (lessK_iff.1 (List.mem_filter.1 hz').2)
theorem getL_filter (l : Kl α) (f : Ky → Bool) (k : Ky) : getL (l.filter fun p => f p.1) k = if f k = true then getL l k else none := by
  induction l with
  | nil => simp [getL_nil]
  | cons p l ih =>
    rw [List.filter_cons, getL_cons]
    by_cases hf : f p.1 = true
    · rw [if_pos hf, getL_cons]
      by_cases e : p.1 = k
      · subst e; simp [hf]
      · rw [if_neg e, if_neg e, ih]
    · rw [if_neg hf, ih]
      by_cases e : p.1 = k
      · subst e; simp [hf]
      · rw [if_neg e]
theorem getL_append (l m : Kl α) (k : Ky) : getL (l ++ m) k = (getL l k).or (getL m k) := by
  induction l with
  | nil => simp [getL_nil]
  | cons p l ih =>
    rw [List.cons_append, getL_cons, getL_cons, ih]
    split <;> simp
theorem getL_del (l : Kl α) (k y : Ky) : getL (delL l k) y = if y = k then none else getL l y := by
  unfold delL
  rw [getL_filter l (fun z => decide (z ≠ k)) y]
  by_cases h : y = k <;> simp [h]
theorem getL_put (l : Kl α) (k : Ky) (x : α) (y : Ky) : getL (putL l k x) y = if y = k then some x else getL l y := by
  unfold putL
  rw [getL_append, getL_cons, getL_filter l (fun z => lessK z k) y, getL_filter l (fun z => lessK k z) y]
  by_cases h : y = k
  · subst h
    have : lessK y y = false := lessK_not.2 (ltK_irrefl y)
    simp [this]
  · have h' : k ≠ y := fun e => h e.symm
    rcases ltK_total h with h1 | h1
    · have h2 := lessK_not.2 (ltK_asymm h1)
      simp [lessK_iff.2 h1, h2, h, h']
    · have h2 := lessK_not.2 (ltK_asymm h1)
      simp [lessK_iff.2 h1, h2, h, h']
theorem length_del {l : Kl α} (h : Rises (keysL l)) {k : Ky} {x : α} (hk : getL l k = some x) : (delL l k).length + 1 = l.length := by
  have hm := getL_mem hk
  induction l with
  | nil => cases hm
  | cons p l ih =>
    obtain ⟨h1, h2⟩ := List.pairwise_cons.1 (show (p.1 :: keysL l).Pairwise ltK from h)
    unfold delL
    rw [List.filter_cons]
    by_cases e : p.1 = k
    · have : (l.filter fun p => decide (p.1 ≠ k)) = l := by
        rw [List.filter_eq_self]
        intro q hq
        have := h1 q.1 (List.mem_map.2 ⟨q, hq, rfl⟩)
        rw [e] at this
        exact decide_eq_true (fun e' => by rw [e'] at this; exact ltK_irrefl _ this)
      rw [this, if_neg (by simp [e])]; simp
    · rw [if_pos (by simp [e])]
      rw [getL_cons, if_neg e] at hk
      have := ih h2 hk (getL_mem hk)
      unfold delL at this
      simp only [List.length_cons]; omega
theorem del_none {l : Kl α} {k : Ky} (hk : getL l k = none) : delL l k = l := by
  unfold delL
  rw [List.filter_eq_self]
  intro q hq
  have := getL_none.1 hk
  exact decide_eq_true (fun e => this (List.mem_map.2 ⟨q, hq, e⟩))
theorem parts_length (l : Kl α) (k : Ky) : (l.filter fun p => lessK p.1 k).length + (l.filter fun p => lessK k p.1).length = (delL l k).length := by
  induction l with
  | nil => rfl
  | cons p l ih =>
    unfold delL at ih ⊢
    rw [List.filter_cons, List.filter_cons, List.filter_cons]
    by_cases e : p.1 = k
    · have : lessK p.1 k = false := lessK_not.2 (by rw [e]; exact ltK_irrefl _)
      have h2 : lessK k p.1 = false := lessK_not.2 (by rw [e]; exact ltK_irrefl _)
      rw [this, h2]; simp [e]; simpa using ih
    · rcases ltK_total e with h1 | h1
      · rw [lessK_iff.2 h1, lessK_not.2 (ltK_asymm h1)]; simp [e]; simp at ih; omega
      · rw [lessK_iff.2 h1, lessK_not.2 (ltK_asymm h1)]; simp [e]; simp at ih; omega
theorem length_put_new {l : Kl α} {k : Ky} (hk : getL l k = none) (x : α) : (putL l k x).length = l.length + 1 := by
  have h1 := parts_length l k
  rw [del_none hk] at h1
  unfold putL
  simp only [List.length_append, List.length_cons]; omega
theorem length_put_old {l : Kl α} (h : Rises (keysL l)) {k : Ky} {y : α} (hk : getL l k = some y) (x : α) : (putL l k x).length = l.length := by
  have h1 := parts_length l k
  have h2 := length_del h hk
  unfold putL
  simp only [List.length_append, List.length_cons]; omega
/-- Two lists in order that answer alike are one. -/
theorem kl_one {l m : Kl α} (hl : Rises (keysL l)) (hm : Rises (keysL m)) (h : ∀ k, getL l k = getL m k) : l = m := by
  have hk : keysL l = keysL m := rises_one hl hm fun x => by
    have := h x
    constructor
    · intro hx
      have h1 : getL l x ≠ none := fun e => getL_none.1 e hx
      rw [this] at h1
      exact Classical.byContradiction fun h2 => h1 (getL_none.2 h2)
    · intro hx
      have h1 : getL m x ≠ none := fun e => getL_none.1 e hx
      rw [← this] at h1
      exact Classical.byContradiction fun h2 => h1 (getL_none.2 h2)
  have hlen : l.length = m.length := by have := congrArg List.length hk; simpa [keysL] using this
  refine List.ext_getElem hlen fun i h1 h2 => ?_
  have e1 : l[i].1 = m[i].1 := by
    have h3 : (keysL l)[i]? = (keysL m)[i]? := by rw [hk]
    unfold keysL at h3
    rw [List.getElem?_map, List.getElem?_map, List.getElem?_eq_getElem h1, List.getElem?_eq_getElem h2] at h3
    simpa using h3
  have g1 := getL_of_mem hl (k := l[i].1) (x := l[i].2) (List.getElem_mem h1)
  have g2 := getL_of_mem hm (k := m[i].1) (x := m[i].2) (List.getElem_mem h2)
  rw [h, e1, g2] at g1
  exact Prod.ext e1 (Option.some.inj g1).symm
end
end Go.Proofs.Ytahgapkecabnjaa
/- Walks of the small functions of package trace and of its reference. -/
namespace Go.Proofs.Ytahgapkecabnjaa
set_option linter.unusedSimpArgs false
set_option linter.unusedVariables false
open Go.RowKit

/-- A walk's end with one result. -/
theorem ret1 {v u : Value} {w w' : World} (h : v = u) (hw : w = w') : Ending.returned v = Ending.returned u ∧ w = w' := ⟨by rw [h], hw⟩

def kindF (f : Int) : Int :=
  if (Go.bits .and .u8 f 23 == 16) = true then 1 else if (Go.bits .and .u8 f 23 == 2) = true then 2 else if (Go.bits .and .u8 f 23 == 18) = true then 3
  else if (Go.bits .and .u8 f 23 == 17) = true then 4 else if (Go.bits .and .u8 f 23 == 4) = true then 5 else if (Go.bits .and .u8 f 23 == 20) = true then 5 else 0

def hasF (f g : Int) : Bool := (f / g) % 2 == 1

def openF (f : Int) : Int × Bool := if (kindF f == 2) = true then (1, true) else (0, false)

def refOpenF (f : Int) : Int × Bool := if hasF f 2 = true then if (!hasF f 16) = true then if (!hasF f 1) = true then if (!hasF f 4) = true then (1, true) else (0, false) else (0, false) else (0, false) else (0, false)

def refNextF (state : Int) (reply : Bool) (f : Int) : Int × Bool :=
  if state < 1 ∨ 7 < state then (0, false)
  else if hasF f 4 = true then if hasF f 2 = true ∨ hasF f 1 = true then (0, false) else (7, true)
  else if hasF f 2 = true ∧ hasF f 1 = true ∨ state = 7 then (0, false)
  else if hasF f 2 = true then
    if 2 < state ∨ hasF f 16 ≠ reply then (0, false) else if hasF f 16 = true then (2, true) else (state, true)
  else if hasF f 16 = false ∨ state = 1 ∨ state = 2 ∧ reply = true then (0, false)
  else if hasF f 1 = false then if state = 2 then (3, true) else (state, true)
  else if state = 6 ∨ state = 4 ∧ reply = true ∨ state = 5 ∧ reply = false then (6, true)
  else if reply = true then (5, true) else (4, true)

end Go.Proofs.Ytahgapkecabnjaa
/- The walk of trace.moves: a map's literal in any order, then two loops that store. -/
namespace Go.Proofs.Ytahgapkecabnjaa
set_option linter.unusedSimpArgs false
set_option linter.unusedVariables false
open Go Go.RowKit Go.Maps Go.MapKept
open Go.ChangeMaps (setBlock)

def mkey (s : Int) (r : Bool) (k : Int) : Value := .agg #[.int .i64 s, .bool r, .int .i64 k]

theorem types_pos : (Try.prog.types.size != 0) = true := by kernel_rfl
theorem cells_int : Try.prog.cellsOf 3 = 1 := by kernel_rfl
theorem cells_bool : Try.prog.cellsOf 4 = 1 := by kernel_rfl
/-- The literal's table. -/
def baseL : List ((Int × Bool × Int) × Int) := [((1, false, 2), 1), ((1, true, 3), 2), ((2, false, 2), 2), ((2, true, 3), 2), ((2, false, 1), 3), ((2, false, 4), 4), ((3, false, 4), 4), ((3, true, 4), 5), ((4, false, 4), 4), ((4, true, 4), 6), ((5, false, 4), 6), ((5, true, 4), 5), ((6, false, 4), 6), ((6, true, 4), 6)]
def baseT (s : Int) (r : Bool) (k : Int) : Option Int := (baseL.find? fun x => decide (x.1 = (s, r, k))).map (·.2)

def litL : List (Nat × Value × Value) := [(2, mkey 1 false 2, .int .i64 1), (4, mkey 1 true 3, .int .i64 2), (6, mkey 2 false 2, .int .i64 2), (8, mkey 2 true 3, .int .i64 2), (10, mkey 2 false 1, .int .i64 3), (12, mkey 2 false 4, .int .i64 4), (14, mkey 3 false 4, .int .i64 4), (16, mkey 3 true 4, .int .i64 5), (18, mkey 4 false 4, .int .i64 4), (20, mkey 4 true 4, .int .i64 6), (22, mkey 5 false 4, .int .i64 6), (24, mkey 5 true 4, .int .i64 5), (26, mkey 6 false 4, .int .i64 6), (28, mkey 6 true 4, .int .i64 6)]
open Classical in
noncomputable def litF : Value → Option Value := fun v => (baseL.find? fun x => decide (mkey x.1.1 x.1.2.1 x.1.2.2 = v)).map fun x => .int .i64 x.2
theorem mkey_inj {s r k s' r' k'} : mkey s r k = mkey s' r' k' ↔ s = s' ∧ r = r' ∧ k = k' := by simp [mkey]
theorem litF_mkey (s : Int) (r : Bool) (k : Int) : litF (mkey s r k) = (baseT s r k).map (.int .i64) := by
  classical
  unfold litF baseT
  have : (fun x : (Int × Bool × Int) × Int => decide (mkey x.1.1 x.1.2.1 x.1.2.2 = mkey s r k)) = fun x => decide (x.1 = (s, r, k)) := by
    funext x
    obtain ⟨⟨a, b, c⟩, d⟩ := x
    rw [decide_eq_decide]
    simp [mkey_inj]
  rw [Option.map_map, this]
  rfl
theorem litF_some : ∀ x ∈ litL, litF x.2.1 = some x.2.2 := by
  unfold litL
  repeat (refine List.forall_mem_cons.2 ⟨by show litF (mkey _ _ _) = _; rw [litF_mkey]; rfl, ?_⟩)
  simp
theorem litF_none (v : Value) (h : ∀ x ∈ litL, v ≠ x.2.1) : litF v = none := by
  unfold litF
  rw [Option.map_eq_none_iff, List.find?_eq_none]
  simp only [litL, List.forall_mem_cons] at h
  simp only [baseL, List.forall_mem_cons, decide_eq_true_eq]
  simp only [ne_eq, eq_comm (a := v)] at h
  simpa using h
/-- The table behind i rounds over the replies. -/
def done_ (i : Nat) (r : Bool) : Bool := if r then decide (2 ≤ i) else decide (1 ≤ i)
def stage (i : Nat) (s : Int) (r : Bool) (k : Int) : Option Int :=
  if k = 1 ∧ 3 ≤ s ∧ s ≤ 6 ∧ done_ i r = true then some s else if k = 5 ∧ 1 ≤ s ∧ s ≤ 7 ∧ done_ i r = true then some 7 else baseT s r k
def stage1 (i : Nat) (b : Bool) (j : Int) (s : Int) (r : Bool) (k : Int) : Option Int := if k = 1 ∧ 3 ≤ s ∧ s < j ∧ r = b then some s else stage i s r k
def stage2 (i : Nat) (b : Bool) (j : Int) (s : Int) (r : Bool) (k : Int) : Option Int := if k = 5 ∧ 1 ≤ s ∧ s < j ∧ r = b then some 7 else stage1 i b 7 s r k
theorem stage_zero (s : Int) (r : Bool) (k : Int) : stage 0 s r k = baseT s r k := by
  have h : done_ 0 r = false := by cases r <;> rfl
  unfold stage; rw [if_neg (by simp [h]), if_neg (by simp [h])]
theorem stage1_start (i : Nat) (b : Bool) (s : Int) (r : Bool) (k : Int) : stage1 i b 3 s r k = stage i s r k := by
  unfold stage1; rw [if_neg (by omega)]
theorem stage2_start (i : Nat) (b : Bool) (s : Int) (r : Bool) (k : Int) : stage2 i b 1 s r k = stage1 i b 7 s r k := by
  unfold stage2; rw [if_neg (by omega)]
theorem stage1_step (i : Nat) (b : Bool) (j : Int) (hj : 3 ≤ j) (s : Int) (r : Bool) (k : Int) : (if s = j ∧ r = b ∧ k = 1 then some j else stage1 i b j s r k) = stage1 i b (j + 1) s r k := by
  unfold stage1
  by_cases h : s = j ∧ r = b ∧ k = 1
  · obtain ⟨rfl, rfl, rfl⟩ := h
    rw [if_pos ⟨rfl, rfl, rfl⟩, if_pos ⟨rfl, hj, by omega, rfl⟩]
  · rw [if_neg h]
    by_cases h2 : k = 1 ∧ 3 ≤ s ∧ s < j ∧ r = b
    · rw [if_pos h2, if_pos ⟨h2.1, h2.2.1, by omega, h2.2.2.2⟩]
    · rw [if_neg h2, if_neg]
      rintro ⟨h3, h4, h5, h6⟩
      by_cases hs : s = j
      · exact h ⟨hs, h6, h3⟩
      · exact h2 ⟨h3, h4, by omega, h6⟩
theorem stage2_step (i : Nat) (b : Bool) (j : Int) (hj : 1 ≤ j) (s : Int) (r : Bool) (k : Int) : (if s = j ∧ r = b ∧ k = 5 then some 7 else stage2 i b j s r k) = stage2 i b (j + 1) s r k := by
  unfold stage2
  by_cases h : s = j ∧ r = b ∧ k = 5
  · obtain ⟨rfl, rfl, rfl⟩ := h
    rw [if_pos ⟨rfl, rfl, rfl⟩, if_pos ⟨rfl, hj, by omega, rfl⟩]
  · rw [if_neg h]
    by_cases h2 : k = 5 ∧ 1 ≤ s ∧ s < j ∧ r = b
    · rw [if_pos h2, if_pos ⟨h2.1, h2.2.1, by omega, h2.2.2.2⟩]
    · rw [if_neg h2, if_neg]
      rintro ⟨h3, h4, h5, h6⟩
      by_cases hs : s = j
      · exact h ⟨hs, h6, h3⟩
      · exact h2 ⟨h3, h4, by omega, h6⟩
theorem stage_next (i : Nat) (b : Bool) (hb : (i = 0 ∧ b = false) ∨ (i = 1 ∧ b = true)) (s : Int) (r : Bool) (k : Int) : stage2 i b 8 s r k = stage (i + 1) s r k := by
  unfold stage2 stage1 stage
  rcases hb with ⟨rfl, rfl⟩ | ⟨rfl, rfl⟩ <;> cases r <;> simp [done_] <;>
  · by_cases hk : k = 1
    · subst hk; simp; repeat' split
      all_goals first | rfl | omega
    · by_cases hk5 : k = 5
      · subst hk5; simp; repeat' split
        all_goals first | rfl | omega
      · simp [hk, hk5]

end Go.Proofs.Ytahgapkecabnjaa
/- The walk of trace.moves. -/
namespace Go.Proofs.Ytahgapkecabnjaa
set_option linter.unusedSimpArgs false
set_option linter.unusedVariables false
open Go Go.RowKit Go.Maps Go.MapKept
open Go.ChangeMaps (setBlock)

/-- What else stands while the loops go. -/
def Rest (w : World) (b0 : Nat) (wr : World) : Prop := Below b0 w wr ∧ wr.heap.size = b0 + 2 ∧ wr.cell? ⟨b0 + 1, 0, none⟩ = some (.bool false) ∧ wr.cell? ⟨b0 + 1, 1, none⟩ = some (.bool true)
theorem Rest.set {w : World} {b0 : Nat} {wr : World} (h : Rest w b0 wr) (o : Obj) : Rest w b0 (setBlock wr b0 o) := by
  obtain ⟨h1, h2, h3, h4⟩ := h
  have hO := OnlyB.set wr b0 o
  exact ⟨h1.trans (hO.below (Nat.le_refl _)), hO.size.trans h2, (World.cell?_of_block (w := wr) (hO.other _ (by show b0 + 1 ≠ b0; omega))).trans h3, (World.cell?_of_block (w := wr) (hO.other _ (by show b0 + 1 ≠ b0; omega))).trans h4⟩

end Go.Proofs.Ytahgapkecabnjaa
