/- Arguments that are structs or arrays, of whatever depth, read leaf by leaf. -/
import Derived.ProofKit
import Derived.OpenShut
import Derived.Deep.Slices
namespace Go.Proofs.YtfiddoibnjildaaGreatDoor
set_option linter.unusedSimpArgs false
set_option linter.unusedVariables false
open Go Go.RowKit Go.ChangeShapes Go.WideShapes

/-- A struct's type or an array's. -/
def rowType (P : Program) (t : TypeId) : Bool := match P.underlying t with | some (.struct _) => true | some (.array _ _) => true | _ => false

/-- The types of a type's cells, in order, struct by struct and array by array. -/
def fieldLeafs (P : Program) (rec : TypeId → Option (List TypeId)) : List Field → Nat → Option (List TypeId)
  | [], _ => some []
  | f :: r, off => if f.offset = off then (rec f.type).bind fun l => if P.cellsOf f.type = l.length then (fieldLeafs P rec r (off + l.length)).map (l ++ ·) else none else none
def leafs (P : Program) : Nat → TypeId → Option (List TypeId)
  | 0, _ => none
  | d + 1, t =>
    match P.underlying t with
    | some (.struct fs) => fieldLeafs P (leafs P d) fs.toList 0
    | some (.array n e) => (leafs P d e).bind fun l => if P.cellsOf e = l.length then some (List.replicate n l).flatten else none
    | _ => some [t]

section
variable {H : Type} {enc : TypeId × Value → H} {P : Program} {w : World} {base : Nat} {sp : Nat → Bool} {held : Bool}

/-- A cell that reads as a value of its type. -/
def Leaf (enc : TypeId × Value → H) (P : Program) (w : World) (base : Nat) (sp : Nat → Bool) (held : Bool) (t : TypeId) (v : Value) : Prop := ∃ fuel y, DataW.trod enc P w base sp held fuel t [v] = some y

/-- Each cell reads as its leaf. -/
def Leafs (enc : TypeId × Value → H) (P : Program) (w : World) (base : Nat) (sp : Nat → Bool) (held : Bool) : List TypeId → List Value → Prop
  | [], [] => True
  | t :: ts, v :: vs => Leaf enc P w base sp held t v ∧ Leafs enc P w base sp held ts vs
  | _, _ => False

theorem Leafs.append : ∀ {ts : List TypeId} {vs : List Value} {ts' : List TypeId} {vs' : List Value}, Leafs enc P w base sp held ts vs → Leafs enc P w base sp held ts' vs' → Leafs enc P w base sp held (ts ++ ts') (vs ++ vs')
  | [], [], _, _, _, h => h
  | t :: ts, v :: vs, _, _, h, h' => ⟨h.1, Leafs.append h.2 h'⟩
  | [], _ :: _, _, _, h, _ => h.elim
  | _ :: _, [], _, _, h, _ => h.elim

theorem leafs_fields {rec : TypeId → Option (List TypeId)} {m : Nat} {cs : List Value}
    (hrec : ∀ t ts cs, rec t = some ts → cs.length = ts.length → (∃ x, DataW.trod enc P w base sp held m t cs = some x) → Leafs enc P w base sp held ts cs) :
    ∀ (fs : List Field) (off : Nat) (ts : List TypeId), fieldLeafs P rec fs off = some ts → off + ts.length ≤ cs.length →
      (∀ f ∈ fs, ∃ x, DataW.trod enc P w base sp held m f.type ((cs.drop f.offset).take (P.cellsOf f.type)) = some x) → Leafs enc P w base sp held ts ((cs.drop off).take ts.length)
  | [], off, ts, h, _, _ => by
    simp only [fieldLeafs, Option.some.injEq] at h
    subst h
    simp [Leafs]
  | f :: r, off, ts, h, hl, hf => by
    simp only [fieldLeafs] at h
    split at h
    · rename_i hoff
      obtain ⟨l, h1, h2⟩ := Option.bind_eq_some_iff.1 h
      split at h2
      · rename_i hc
        obtain ⟨l2, h3, rfl⟩ := Option.map_eq_some_iff.1 h2
        rw [List.length_append] at hl
        have e1 := leafs_fields hrec r (off + l.length) l2 h3 (by omega) (fun f' hf' => hf f' (by simp [hf']))
        have e0 : Leafs enc P w base sp held l ((cs.drop off).take l.length) := by
          have := hf f (by simp)
          rw [hoff, hc] at this
          exact hrec f.type l _ h1 (by simp; omega) this
        have : (cs.drop off).take (l ++ l2).length = (cs.drop off).take l.length ++ (cs.drop (off + l.length)).take l2.length := by
          rw [List.length_append, List.take_add, List.drop_drop]
        rw [this]
        exact e0.append e1
      · cases h2
    · cases h

theorem leafs_elems {l : List TypeId} {cs : List Value} : ∀ (n o : Nat), o + n * l.length ≤ cs.length → (∀ i, i < n → Leafs enc P w base sp held l ((cs.drop (o + i * l.length)).take l.length)) →
    Leafs enc P w base sp held (List.replicate n l).flatten ((cs.drop o).take (n * l.length))
  | 0, o, _, _ => by simp [Leafs]
  | n + 1, o, hl, h => by
    rw [List.replicate_succ, List.flatten_cons]
    have e0 := h 0 (by omega)
    rw [Nat.zero_mul, Nat.add_zero] at e0
    have hmul : (n + 1) * l.length = l.length + n * l.length := by rw [Nat.add_mul, Nat.one_mul, Nat.add_comm]
    have e1 := leafs_elems (l := l) (cs := cs) n (o + l.length) (by omega) (fun i hi => by
      have := h (i + 1) (by omega)
      have hm2 : o + (i + 1) * l.length = o + l.length + i * l.length := by rw [Nat.add_mul, Nat.one_mul]; omega
      rwa [hm2] at this)
    rw [hmul, List.take_add, List.drop_drop]
    exact e0.append e1

theorem leafs_of_trod : ∀ (d : Nat) (t : TypeId) (ts : List TypeId) (cs : List Value) (fuel : Nat), leafs P d t = some ts → cs.length = ts.length → (∃ x, DataW.trod enc P w base sp held fuel t cs = some x) → Leafs enc P w base sp held ts cs
  | 0, _, _, _, _, h, _, _ => by simp [leafs] at h
  | d + 1, t, ts, cs, fuel, h, hl, ⟨x, hx⟩ => by
    unfold leafs at h
    split at h
    · rename_i fs hu
      obtain ⟨xs, m, rfl, _, hlen, hxs, hf⟩ := DataW.trod_struct hu hx
      have := leafs_fields (cs := cs) (m := m) (fun t ts cs h1 h2 h3 => leafs_of_trod d t ts cs m h1 h2 h3) fs.toList 0 ts h (by omega) (fun f hfm => by
        obtain ⟨i, hi, rfl⟩ := List.getElem_of_mem hfm
        have := hf i fs.toList[i] (by simp at hi ⊢)
        have hi2 : i < xs.length := by rw [hxs]; simpa using hi
        exact ⟨xs[i], by rw [this, List.getElem?_eq_getElem hi2]⟩)
      rw [List.drop_zero, ← hl, List.take_length] at this
      exact this
    · rename_i n e hu
      obtain ⟨l, h1, h2⟩ := Option.bind_eq_some_iff.1 h
      split at h2
      · rename_i hc
        cases h2
        obtain ⟨xs, m, rfl, _, hlen, hxs, hf⟩ := DataW.trod_array hu hx
        have htl : (List.replicate n l).flatten.length = n * l.length := by simp
        rw [htl] at hl
        have := leafs_elems (cs := cs) (l := l) n 0 (by omega) (fun i hi => by
          have h4 := hf i hi
          rw [hc] at h4
          have hi2 : i < xs.length := by omega
          rw [List.getElem?_eq_getElem hi2] at h4
          rw [Nat.zero_add]
          refine leafs_of_trod d e l _ m h1 ?_ ⟨_, h4⟩
          have : (i + 1) * l.length ≤ n * l.length := Nat.mul_le_mul_right _ (by omega)
          rw [Nat.add_mul, Nat.one_mul] at this
          simp; omega)
        rw [List.drop_zero, ← hl, List.take_length] at this
        exact this
      · cases h2
    · cases h
      match cs, hl with
      | [v], _ => exact ⟨⟨fuel, x, hx⟩, trivial⟩

theorem Leaf.int {t : TypeId} {k : IntKind} {v : Value} (h : Leaf enc P w base sp held t v) (ht : P.underlying t = some (.int k)) : ∃ n, v = .int k n ∧ (Lit.int k n).wf = true := by
  obtain ⟨fuel, y, hy⟩ := h
  cases fuel with
  | zero => simp [DataW.trod] at hy
  | succ m =>
    unfold DataW.trod at hy
    rw [ht] at hy
    cases v <;> simp at hy
    obtain ⟨⟨rfl, hw⟩, _⟩ := hy
    exact ⟨_, rfl, hw⟩
theorem Leaf.bool {t : TypeId} {v : Value} (h : Leaf enc P w base sp held t v) (ht : P.underlying t = some .bool) : ∃ b, v = .bool b := by
  obtain ⟨fuel, y, hy⟩ := h
  cases fuel with
  | zero => simp [DataW.trod] at hy
  | succ m =>
    unfold DataW.trod at hy
    rw [ht] at hy
    cases v <;> simp at hy
    exact ⟨_, rfl⟩

theorem open_leafs {d : Nat} {t : TypeId} {ts : List TypeId} {v : Value} {r : Reach} {b : Nat} {x : DataW H} {ps : List MemPlace} (hrow : rowType P t = true)
    (hl : leafs P d t = some ts) (hc : P.cellsOf t = ts.length) (hv : Value.okWide P w r b t v) (h : DataW.Trod enc P w base sp held t v x ps) : ∃ cs : Array Value, v = .agg cs ∧ Leafs enc P w base sp held ts cs.toList := by
  have : ∃ cs, v = .agg cs ∧ cs.size = P.cellsOf t := by
    unfold Value.okWide at hv
    split at hv
    · obtain ⟨cs, h1, h2, _⟩ := hv; exact ⟨cs, h1, h2⟩
    · obtain ⟨cs, h1, h2, _⟩ := hv; exact ⟨cs, h1, h2⟩
    · rename_i h3 h4
      exfalso
      unfold rowType at hrow
      split at hrow
      · exact h3 _ ‹_›
      · exact h4 _ _ ‹_›
      · cases hrow
  obtain ⟨cs, rfl, hs⟩ := this
  obtain ⟨fuel, hf⟩ := h
  exact ⟨cs, rfl, leafs_of_trod d t ts cs.toList fuel hl (by rw [Array.length_toList, hs, hc]) ⟨_, hf⟩⟩
end
end Go.Proofs.YtfiddoibnjildaaGreatDoor
