/- Maps of the model as functions from keys to elements: the laws of look-up, store, delete, len and of a new map; and an invariant rule for a region that draws its order. -/
import Derived.Maps.Keyed
import Derived.MapViews
import Derived.Carry
import Derived.OwnWalk
import Derived.WalkKit
import Derived.Orders
import Derived.KernelRfl
namespace Go.Proofs.YtfiddoibnjildaaGreatDoor
set_option linter.unusedSimpArgs false
set_option linter.unusedVariables false
open Go Go.RowKit Go.Maps Go.MapKept
open Go.ChangeMaps (setBlock)

/-- The entries 'es' under 'clock' are those of the function f. -/
structure MapIs (P : Program) (k : TypeId) (es : Array MapEntry) (clock : Nat) (f : Value → Option Value) : Prop where
  stamped : Stamped es clock
  keys : ∀ e ∈ es.toList, ∃ l, keyOf P k e.key = some l
  has : ∀ e ∈ es.toList, f e.key = some e.val
  only : ∀ v x, f v = some x → ∃ e ∈ es.toList, e.key = v ∧ e.val = x

/-- Block b is a map that holds just what f says. -/
def IsMap (w : World) (P : Program) (k : TypeId) (b : Nat) (f : Value → Option Value) : Prop :=
  ∃ es clock, w.heap[b]? = some (.map es clock) ∧ MapIs P k es clock f

open Classical in
noncomputable def upd (f : Value → Option Value) (k : Value) (x : Option Value) : Value → Option Value := fun v => if v = k then x else f v

theorem upd_same (f : Value → Option Value) (k : Value) (x : Option Value) : upd f k x k = x := by simp [upd]
theorem upd_other (f : Value → Option Value) {k v : Value} (x : Option Value) (h : v ≠ k) : upd f k x v = f v := by simp [upd, h]

theorem IsMap.congr {w : World} {P : Program} {k : TypeId} {b : Nat} {f g : Value → Option Value} (h : IsMap w P k b f) (e : ∀ v, f v = g v) : IsMap w P k b g := by
  rw [← funext e]; exact h

theorem IsMap.of_block {w w' : World} {P : Program} {k : TypeId} {b : Nat} {f : Value → Option Value} (h : IsMap w P k b f) (e : w'.heap[b]? = w.heap[b]?) : IsMap w' P k b f := by
  obtain ⟨es, c, hb, hm⟩ := h
  exact ⟨es, c, e.trans hb, hm⟩

theorem IsMap.lt {w : World} {P : Program} {k : TypeId} {b : Nat} {f : Value → Option Value} (h : IsMap w P k b f) : b < w.heap.size := by
  obtain ⟨es, c, hb, _⟩ := h
  exact (Array.getElem?_eq_some_iff.1 hb).1

theorem IsMap.below {w w' : World} {P : Program} {k : TypeId} {b B : Nat} {f : Value → Option Value} (h : IsMap w P k b f) (hb : Below B w w') (hB : b < B) : IsMap w' P k b f :=
  h.of_block (hb.block b hB)

theorem IsMap.alloc {w : World} {P : Program} {k : TypeId} {b : Nat} {f : Value → Option Value} (h : IsMap w P k b f) (o : Obj) : IsMap (w.alloc o) P k b f :=
  h.of_block (Below.heap_alloc w o b h.lt)

/-- A new map. -/
theorem IsMap.made (w : World) (P : Program) (k : TypeId) : IsMap (w.alloc (.map #[] 0)) P k w.heap.size (fun _ => none) :=
  ⟨#[], 0, (MapKept.heap_alloc w _).1, stamped_empty 0, by simp, by simp, by simp⟩

section
variable {P : Program} {k : TypeId} {w : World} {b : Nat} {f : Value → Option Value} {t e : TypeId}

theorem MapIs.none_of {es : Array MapEntry} {clock : Nat} (M : MapIs P k es clock f) {key : Value} (h : ∀ e ∈ es.toList, e.key ≠ key) : f key = none := by
  cases hf : f key with
  | none => rfl
  | some x =>
    obtain ⟨e, he, hk, _⟩ := M.only key x hf
    exact absurd hk (h e he)

/-- 'm[k]' and 'v, ok := m[k]'. -/
theorem IsMap.lookup (h : IsMap w P k b f) (K : Keyed P k) (ht : P.underlying t = some (.map k e)) {z : Value} (hz : (zeroValue e).run P w = .ok z w)
    {key : Value} {kl : Lit} (hkey : keyOf P k key = some kl) (c : Bool) :
    (Instr.lookup t (.map (some b)) key c).run P w = .ok (if c then .tuple #[(f key).getD z, .bool (f key).isSome] else (f key).getD z) w := by
  obtain ⟨es, clock, hb, M⟩ := h
  rcases K.find w hkey es.toList M.keys with ⟨h1, h2⟩ | ⟨j, e0, h1, h2, h3⟩
  · have := M.none_of h2
    simp [Instr.lookup, run_underlying ht, MapKept.run_getObj_map hb, K.check w _ hkey, h1, hz, Result.andThen, this]
  · have hm0 : e0 ∈ es.toList := List.mem_of_getElem? h2
    have := M.has e0 hm0
    rw [h3] at this
    simp [Instr.lookup, run_underlying ht, MapKept.run_getObj_map hb, K.check w _ hkey, h1, Result.andThen, this]

theorem set_heap_same {o : Obj} (hb : b < w.heap.size) : (setBlock w b o).heap[b]? = some o := by
  simp [setBlock, Array.getElem?_setIfInBounds, hb]
theorem set_heap_other {o : Obj} {i : Nat} (h : i ≠ b) : (setBlock w b o).heap[i]? = w.heap[i]? := by
  simp [setBlock, Array.getElem?_setIfInBounds, Ne.symm h]

/-- 'm[k] = v'. -/
theorem IsMap.update (h : IsMap w P k b f) (K : Keyed P k) (ht : P.underlying t = some (.map k e)) {key : Value} {kl : Lit} (hkey : keyOf P k key = some kl) (val : Value) :
    ∃ o, (Instr.mapUpdate t (.map (some b)) key val).run P w = .ok () (setBlock w b o) ∧ IsMap (setBlock w b o) P k b (upd f key (some val)) := by
  have hlt := h.lt
  obtain ⟨es, clock, hb, M⟩ := h
  rcases K.find w hkey es.toList M.keys with ⟨h1, h2⟩ | ⟨j, e0, h1, h2, h3⟩
  · refine ⟨.map (es.push ⟨key, val, clock⟩) (clock + 1), ?_, es.push ⟨key, val, clock⟩, clock + 1, set_heap_same hlt, stamped_push M.stamped h2, ?_, ?_, ?_⟩
    · simp [Instr.mapUpdate, run_underlying ht, MapKept.run_getObj_map hb, K.check w false hkey, h1, MapKept.run_setObj_map _ hb, Result.andThen, setBlock]
    · intro x hx
      simp only [Array.toList_push, List.mem_append, List.mem_singleton] at hx
      rcases hx with hx | rfl
      · exact M.keys x hx
      · exact ⟨_, hkey⟩
    · intro x hx
      simp only [Array.toList_push, List.mem_append, List.mem_singleton] at hx
      rcases hx with hx | rfl
      · rw [upd_other _ _ (h2 x hx)]; exact M.has x hx
      · exact upd_same _ _ _
    · intro v x hv
      by_cases hvk : v = key
      · subst hvk
        rw [upd_same] at hv
        refine ⟨⟨v, val, clock⟩, by simp, rfl, by simpa using hv⟩
      · rw [upd_other _ _ hvk] at hv
        obtain ⟨e1, he1, hh⟩ := M.only v x hv
        exact ⟨e1, by simp [he1], hh⟩
  · have hj : es[j]? = some e0 := by simpa using h2
    have hm0 : e0 ∈ es.toList := List.mem_of_getElem? h2
    have hjl : j < es.toList.length := (List.getElem?_eq_some_iff.1 h2).1
    have hkeyf : ∀ e', es[j]? = some e' → ({ e' with key := key, val := val } : MapEntry).key = e'.key := fun e' he' => by rw [hj] at he'; cases he'; exact h3.symm
    have hlist : (es.modify j (fun e' => { e' with key := key, val := val })).toList = es.toList.set j { e0 with key := key, val := val } := by rw [Array.toList_modify, ChangeMaps.modify_eq_set _ _ _ _ h2]
    have hpw := ((stamped_iff es clock).1 M.stamped).2.2
    have other : ∀ i (hi : i < es.toList.length), i ≠ j → es.toList[i].key ≠ key := by
      intro i hi hne hk
      rw [← h3] at hk
      have hej : es.toList[j] = e0 := by
        have := List.getElem?_eq_getElem hjl
        rw [h2] at this; exact (Option.some.inj this).symm
      rcases Nat.lt_or_gt_of_ne hne with hlt' | hgt
      · exact List.pairwise_iff_getElem.1 hpw i j hi hjl hlt' (by rw [hk, hej])
      · exact List.pairwise_iff_getElem.1 hpw j i hjl hi hgt (by rw [hk, hej])
    have who : ∀ x ∈ es.toList.set j { e0 with key := key, val := val }, x = { e0 with key := key, val := val } ∨ (x ∈ es.toList ∧ x.key ≠ key) := by
      intro x hx
      obtain ⟨i, hi, ex⟩ := List.getElem_of_mem hx
      rw [List.getElem_set] at ex
      split at ex
      · exact Or.inl ex.symm
      · rename_i hne
        have hi' : i < es.toList.length := by simpa using hi
        exact Or.inr ⟨ex ▸ List.getElem_mem hi', ex ▸ other i hi' (fun e1 => hne e1.symm)⟩
    refine ⟨.map (es.modify j (fun e' => { e' with key := key, val := val })) clock, ?_, es.modify j (fun e' => { e' with key := key, val := val }), clock, set_heap_same hlt,
      stamped_modify M.stamped _ _ (fun _ _ => rfl) (fun e' _ he' => hkeyf e' he'), ?_, ?_, ?_⟩
    · simp [Instr.mapUpdate, run_underlying ht, MapKept.run_getObj_map hb, K.check w false hkey, h1, hj, h3, K.stays w hkey, MapKept.run_setObj_map _ hb, Result.andThen, setBlock]
    · intro x hx
      rw [hlist] at hx
      rcases who x hx with rfl | ⟨hx', _⟩
      · exact ⟨_, hkey⟩
      · exact M.keys x hx'
    · intro x hx
      rw [hlist] at hx
      rcases who x hx with rfl | ⟨hx', hne⟩
      · exact upd_same _ _ _
      · rw [upd_other _ _ hne]; exact M.has x hx'
    · intro v x hv
      by_cases hvk : v = key
      · subst hvk
        rw [upd_same] at hv
        refine ⟨{ e0 with key := v, val := val }, ?_, rfl, by simpa using hv⟩
        rw [hlist]
        exact List.mem_iff_getElem.2 ⟨j, by simpa using hjl, by simp⟩
      · rw [upd_other _ _ hvk] at hv
        obtain ⟨e1, he1, hh⟩ := M.only v x hv
        refine ⟨e1, ?_, hh⟩
        rw [hlist]
        obtain ⟨i, hi, ei⟩ := List.getElem_of_mem he1
        have hij : i ≠ j := by
          rintro rfl
          apply hvk
          rw [← hh.1, ← ei, ← h3]
          have := List.getElem?_eq_getElem hi
          rw [h2] at this; rw [← Option.some.inj this]
        exact List.mem_iff_getElem.2 ⟨i, by simpa using hi, by rw [List.getElem_set, if_neg (Ne.symm hij)]; exact ei⟩
end

/-! ### Keys that are structs or arrays -/
theorem keyOf_wide {P : Program} {k : TypeId} {v : Value} (hwide : (match P.underlying k with | some (.array _ _) | some (.struct _) => true | _ => false) = true) (hT : P.keyType k = true) (hf : v.formed P k = true)
    (hne : (P.types.size != 0) = true) {ls : List Lit} (h : ∀ m, P.keyLits (m + 2) k v.cells.toList = some ls) : keyOf P k v = some (.string (keyBytes ls)) := by
  obtain ⟨m, hm⟩ := Nat.exists_eq_add_one_of_ne_zero (bne_iff_ne.1 hne)
  have h2 : P.keyLits (P.types.size + 1) k v.cells.toList = some ls := by rw [hm]; exact h m
  unfold keyOf
  split
  · simp [hT, hf, h2]
  · simp [hT, hf, h2]
  · rename_i h3 h4
    exfalso
    split at hwide
    · exact h3 _ _ ‹_›
    · exact h4 _ ‹_›
    · cases hwide

/-! ### Only one block has changed -/
structure OnlyB (b : Nat) (w w' : World) : Prop where
  os : w'.os = w.os
  tape : w'.tape = w.tape
  output : w'.output = w.output
  drawn : w'.drawn = w.drawn
  size : w'.heap.size = w.heap.size
  other : ∀ i, i ≠ b → w'.heap[i]? = w.heap[i]?

theorem OnlyB.refl (b : Nat) (w : World) : OnlyB b w w := ⟨rfl, rfl, rfl, rfl, rfl, fun _ _ => rfl⟩
theorem OnlyB.trans {b : Nat} {w1 w2 w3 : World} (h : OnlyB b w1 w2) (h' : OnlyB b w2 w3) : OnlyB b w1 w3 :=
  ⟨h'.os.trans h.os, h'.tape.trans h.tape, h'.output.trans h.output, h'.drawn.trans h.drawn, h'.size.trans h.size, fun i hi => (h'.other i hi).trans (h.other i hi)⟩
theorem OnlyB.set (w : World) (b : Nat) (o : Obj) : OnlyB b w (setBlock w b o) :=
  ⟨rfl, rfl, rfl, rfl, by simp [setBlock], fun _ hi => set_heap_other hi⟩
theorem OnlyB.below {B b : Nat} {w w' : World} (h : OnlyB b w w') (hb : B ≤ b) : Below B w w' :=
  ⟨h.os, h.tape, h.output, Nat.le_of_eq h.size.symm, fun i hi => h.other i (by omega)⟩

/-! ### The stores of a map's literal, in whatever order -/
section
variable {P : Program} {ops : Array Oper} {Q : Exit → Act → World → Prop} {md : Region.Mode} {k t e : TypeId} {b : Nat} {A : Act}

theorem ready_nil_of_all {L : Array Bool} (h : ∀ i, L.getD i true = true) : Region.ready md ops L = [] := by
  rw [List.eq_nil_iff_forall_not_mem]
  intro i hi
  have := (mem_ready.1 hi).1
  rw [h i] at this
  cases this

/-- ins: the operations' numbers, the keys, the elements. f: the map behind them all. -/
theorem wpAny_inserts (K : Keyed P k) (ht : P.underlying t = some (.map k e)) (f : Value → Option Value) (fuel : Nat) :
    ∀ (n : Nat) (ins : List (Nat × Value × Value)) (L : Array Bool) (f0 : Value → Option Value) (w : World), ins.length = n →
    (∀ x ∈ ins, ∃ o m ki ci, ops[x.1]? = some o ∧ o.op = .insert t m ki ci ∧ o.guard = none ∧ o.dst = none ∧ A.eval m = .map (some b) ∧ A.eval ki = x.2.1 ∧ A.eval ci = x.2.2 ∧ (∃ kl, keyOf P k x.2.1 = some kl) ∧ x.1 < L.size) →
    (ins.map (·.1)).Nodup →
    (∀ x ∈ ins, L.getD x.1 true = false ∧ x.1 ∈ Region.ready md ops L) →
    (∀ i, L.getD i true = false → i ∈ ins.map (·.1) ∨ ∃ o, ops[i]? = some o ∧ ∀ j ∈ ins.map (·.1), ∃ e ∈ o.after, Region.binds md e = true ∧ e.on = j) →
    IsMap w P k b f0 → (∀ x ∈ ins, f x.2.1 = some x.2.2) → (∀ v, (∀ x ∈ ins, v ≠ x.2.1) → f v = f0 v) →
    (∀ w' L', OnlyB b w w' → IsMap w' P k b f → L'.size = L.size → (∀ i, L'.getD i true = (L.getD i true || decide (i ∈ ins.map (·.1)))) → wpAny P md ops Q fuel L' A w') →
    wpAny P md ops Q (fuel + n) L A w
  | 0, ins, L, f0, w, hn, _, _, _, _, hm, _, hf0, H => by
    obtain rfl := List.eq_nil_of_length_eq_zero hn
    exact H w L (OnlyB.refl _ _) (hm.congr fun v => (hf0 v (by simp)).symm) rfl (by simp)
  | n + 1, ins, L, f0, w, hn, hops, hnd, hL, htail, hm, hf, hf0, H => by
    classical
    obtain ⟨x0, hx0⟩ : ∃ x, x ∈ ins := List.exists_mem_of_length_pos (by omega)
    show (Region.ready md ops L = [] → Q .normal A w) ∧ ∀ i ∈ Region.ready md ops L, wpOp P ops Q i (wpAny P md ops Q (fuel + n) (L.setIfInBounds i true)) A w
    refine ⟨fun h => ?_, fun i hi => ?_⟩
    · have := (hL x0 hx0).2
      rw [h] at this
      cases this
    · have hmem : i ∈ ins.map (·.1) := by
        rcases htail i (mem_ready.1 hi).1 with h | ⟨o, ho, h⟩
        · exact h
        · obtain ⟨ed, hed, hb, hon⟩ := h x0.1 (List.mem_map.2 ⟨x0, hx0, rfl⟩)
          obtain ⟨_, o', ho', hall⟩ := mem_ready.1 hi
          rw [ho] at ho'
          cases ho'
          have h1 := hall ed hed hb
          have h2 := (hL x0 hx0).1
          rw [hon] at h1
          have : x0.1 < L.size := by obtain ⟨_, _, _, _, _, _, _, _, _, _, _, _, h⟩ := hops x0 hx0; exact h
          simp [this] at h1 h2
          rw [h1] at h2
          cases h2
      obtain ⟨x, hx, rfl⟩ := List.mem_map.1 hmem
      obtain ⟨o, m, ki, ci, ho, hop, hg, hd, hem, hek, hec, ⟨kl, hkl⟩, hlt⟩ := hops x hx
      obtain ⟨ob, hrun, hm'⟩ := hm.update K ht hkl x.2.2
      have hperm := List.perm_cons_erase hx
      have hnd' : ((ins.erase x).map (·.1)).Nodup ∧ x.1 ∉ (ins.erase x).map (·.1) := by
        have := (hperm.map (·.1)).nodup_iff.1 hnd
        rw [List.map_cons, List.nodup_cons] at this
        exact ⟨this.2, this.1⟩
      have hmemE : ∀ i, i ∈ ins.map (·.1) ↔ i = x.1 ∨ i ∈ (ins.erase x).map (·.1) := fun i => by
        rw [(hperm.map (·.1)).mem_iff, List.map_cons, List.mem_cons]
      unfold wpOp
      simp only [ho]
      have hw : Region.wanted o (yielded ops A.tmps) = true := by simp [Region.wanted, hg]
      rw [if_pos hw]
      refine .inl ?_
      have hexec : (execOp A.eval o).run P w = .ok .skip (setBlock w b ob) := by
        simp [execOp, hop, hem, hek, hec, hrun, Result.andThen]
      unfold Oper.wp
      rw [hexec, Oper.upon_skip, hd]
      show wpAny P md ops Q (fuel + n) (L.setIfInBounds x.1 true) A (setBlock w b ob)
      have hset : ∀ i, (L.setIfInBounds x.1 true).getD i true = (L.getD i true || decide (i = x.1)) := fun i => by
        by_cases hi : i = x.1
        · subst hi; simp [hlt]
        · rw [getD_set_ne true (Ne.symm hi)]; simp [hi]
      refine wpAny_inserts K ht f fuel n (ins.erase x) (L.setIfInBounds x.1 true) (upd f0 x.2.1 (some x.2.2)) (setBlock w b ob) (by rw [List.length_erase_of_mem hx]; omega)
        (fun y hy => ?_) hnd'.1 (fun y hy => ?_) (fun i hi' => ?_) hm' (fun y hy => hf y (List.mem_of_mem_erase hy)) (fun v hv => ?_) (fun w' L' h1 h2 h3 h4 => ?_)
      · obtain ⟨o, m, ki, ci, h1, h2, h3, h4, h5, h6, h7, h8, h9⟩ := hops y (List.mem_of_mem_erase hy)
        exact ⟨o, m, ki, ci, h1, h2, h3, h4, h5, h6, h7, h8, by simpa using h9⟩
      · have hne : y.1 ≠ x.1 := fun e => hnd'.2 (List.mem_map.2 ⟨y, hy, e⟩)
        exact ⟨by rw [getD_set_ne true (Ne.symm hne)]; exact (hL y (List.mem_of_mem_erase hy)).1, ready_mono (hL y (List.mem_of_mem_erase hy)).2 hne⟩
      · rw [hset, Bool.or_eq_false_iff, decide_eq_false_iff_not] at hi'
        rcases htail i hi'.1 with h | ⟨o, h0, h⟩
        · exact .inl (((hmemE i).1 h).resolve_left hi'.2)
        · exact .inr ⟨o, h0, fun j hj => h j ((hmemE j).2 (.inr hj))⟩
      · by_cases hvx : v = x.2.1
        · subst hvx; rw [upd_same]; exact hf x hx
        · rw [upd_other _ _ hvx]
          refine hf0 v fun y hy => ?_
          rcases List.mem_cons.1 (hperm.mem_iff.1 hy) with rfl | hy'
          · exact hvx
          · exact hv y hy'
      · refine H w' L' ((OnlyB.set w b ob).trans h1) h2 (by rw [h3]; simp) (fun i => ?_)
        rw [h4, hset]
        by_cases hi1 : i = x.1
        · subst hi1; simp [(hmemE x.1).2 (.inl rfl)]
        · have : decide (i ∈ ins.map (·.1)) = decide (i ∈ (ins.erase x).map (·.1)) := by
            rw [decide_eq_decide, hmemE]; simp [hi1]
          rw [this]; simp [hi1]

/-- The checks of 'wpAny_inserts' as one closed Bool. -/
def insB (md : Region.Mode) (ops : Array Oper) (L : Array Bool) (idx : List Nat) : Bool :=
  ((List.range L.size).all fun i => L.getD i true || idx.contains i || (match ops[i]? with | some o => idx.all fun j => o.after.toList.any fun e => Region.binds md e && e.on == j | none => false)) &&
  (idx.all fun i => (Region.ready md ops L).contains i && !L.getD i true && decide (i < L.size)) && decide idx.Nodup

theorem wpAny_inserts' (K : Keyed P k) (ht : P.underlying t = some (.map k e)) (f : Value → Option Value) (fuel : Nat) (ins : List (Nat × Value × Value)) (L : Array Bool) (f0 : Value → Option Value) (w : World)
    (hops : ∀ x ∈ ins, ∃ o m ki ci, ops[x.1]? = some o ∧ o.op = .insert t m ki ci ∧ o.guard = none ∧ o.dst = none ∧ A.eval m = .map (some b) ∧ A.eval ki = x.2.1 ∧ A.eval ci = x.2.2 ∧ (∃ kl, keyOf P k x.2.1 = some kl))
    (hB : insB md ops L (ins.map (·.1)) = true)
    (hm : IsMap w P k b f0) (hf : ∀ x ∈ ins, f x.2.1 = some x.2.2) (hf0 : ∀ v, (∀ x ∈ ins, v ≠ x.2.1) → f v = f0 v)
    (H : ∀ w', OnlyB b w w' → IsMap w' P k b f → wpAny P md ops Q fuel ((List.range L.size).map fun i => L.getD i true || (ins.map (·.1)).contains i).toArray A w') :
    wpAny P md ops Q (fuel + ins.length) L A w := by
  simp only [insB, Bool.and_eq_true, List.all_eq_true, decide_eq_true_eq] at hB
  obtain ⟨⟨h1, h2⟩, h3⟩ := hB
  refine wpAny_inserts K ht f fuel ins.length ins L f0 w rfl (fun x hx => ?_) h3 (fun x hx => ?_) (fun i hi => ?_) hm hf hf0 (fun w' L' g1 g2 g3 g4 => ?_)
  · obtain ⟨o, m, ki, ci, e1, e2, e3, e4, e5, e6, e7, e8⟩ := hops x hx
    exact ⟨o, m, ki, ci, e1, e2, e3, e4, e5, e6, e7, e8, (h2 x.1 (List.mem_map.2 ⟨x, hx, rfl⟩)).2⟩
  · have := h2 x.1 (List.mem_map.2 ⟨x, hx, rfl⟩)
    exact ⟨by simpa using this.1.2, by simpa using this.1.1⟩
  · by_cases hlt : i < L.size
    · have := h1 i (List.mem_range.2 hlt)
      rw [hi, Bool.false_or, Bool.or_eq_true] at this
      rcases this with h | h
      · exact .inl (by simpa using h)
      · split at h
        · rename_i o ho
          refine .inr ⟨o, ho, fun j hj => ?_⟩
          rw [List.all_eq_true] at h
          have := h j hj
          rw [List.any_eq_true] at this
          obtain ⟨ed, hed, hb⟩ := this
          rw [Bool.and_eq_true, beq_iff_eq] at hb
          exact ⟨ed, by simpa using hed, hb.1, hb.2⟩
        · cases h
    · simp [Nat.not_lt.1 hlt] at hi
  · have he : L' = ((List.range L.size).map fun i => L.getD i true || (ins.map (·.1)).contains i).toArray := by
      apply Array.ext
      · simp [g3]
      · intro i hi1 hi2
        have := g4 i
        have e1 : L'.getD i true = L'[i] := by simp [hi1]
        rw [e1] at this
        rw [this, List.getElem_toArray, List.getElem_map, List.getElem_range, Bool.eq_iff_iff]
        simp
    rw [he]
    exact H w' g1 g2
end
end Go.Proofs.YtfiddoibnjildaaGreatDoor
