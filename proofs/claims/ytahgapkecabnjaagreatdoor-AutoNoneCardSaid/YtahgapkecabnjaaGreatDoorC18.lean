/- AutoNone. Printed by gen_autoo.py. -/
import Derived.Test.YtahgapkecabnjaaGreatDoorC17
import Derived.ProofKit
import Derived.OpenShut
import Derived.Deep.Slices
import Derived.Test.YtahgapkecabnjaaGreatDoorRows
import Derived.Test.YtahgapkecabnjaaGreatDoorC06
import Derived.Test.YtahgapkecabnjaaGreatDoorC02
import Derived.LaidMore
import Derived.Stop.LaidErr
import Derived.Lib.LaidTab
import Derived.Lib.LaidU8
import Derived.Deep.DeepWitnessRowRef
namespace Go.Proofs.YtahgapkecabnjaaGreatDoor
set_option linter.unusedSimpArgs false
set_option linter.unusedVariables false
open Go Go.RowKit Go.Shelf Go.Lib Go.Maps Go.MapKept

set_option maxHeartbeats 8000000 in
set_option maxRecDepth 100000 in
theorem autoNone_walk (p : Pk) (k : Ky) (n : Int) (w : World) (hp : PkIn p) (hk : k.In) (hn : (Lit.int .i64 n).wf = true) (hT : Tabs w) :
    Calls Tryz.prog 7 #[.agg (pkC p), kyV k, .int .i64 n] w fun e w' => e = .returned (.bool true) ∧ Below w.heap.size w w' := by
  have HB0 : Hid (Below w.heap.size w ((w.alloc (.cells (pkC p) 41)).alloc (.cells (kyC k) 45))) := Lib.hid (((Below.refl _ w).alloc (Nat.le_refl _) _).alloc (by simp) _)
  have HT := Lib.hid (hT.below HB0.out)
  clear hT hp hk hn
  have hz1 : (w.alloc (.cells (pkC p) 41)).heap.size = w.heap.size + 1 := by simp
  have c0 : ((w.alloc (.cells (pkC p) 41)).alloc (.cells (kyC k) 45)).cell? ⟨w.heap.size + 1, 0, none⟩ = some (.int .u32 k.a0) := by rw [← hz1]; simp [kyC]
  have c1 : ((w.alloc (.cells (pkC p) 41)).alloc (.cells (kyC k) 45)).cell? ⟨w.heap.size + 1, 1, none⟩ = some (.int .u32 k.a1) := by rw [← hz1]; simp [kyC]
  have c2 : ((w.alloc (.cells (pkC p) 41)).alloc (.cells (kyC k) 45)).cell? ⟨w.heap.size + 1, 2, none⟩ = some (.int .u16 k.p0) := by rw [← hz1]; simp [kyC]
  have c3 : ((w.alloc (.cells (pkC p) 41)).alloc (.cells (kyC k) 45)).cell? ⟨w.heap.size + 1, 3, none⟩ = some (.int .u16 k.p1) := by rw [← hz1]; simp [kyC]
  have c4 : ((w.alloc (.cells (pkC p) 41)).alloc (.cells (kyC k) 45)).cell? ⟨w.heap.size + 1, 4, none⟩ = some (.int .u8 k.pr) := by rw [← hz1]; simp [kyC]
  have p0 : ((w.alloc (.cells (pkC p) 41)).alloc (.cells (kyC k) 45)).cell? ⟨w.heap.size, 0, none⟩ = some (.int .u8 p.proto) := by rw [World.cell?_alloc_lt _ _ _ (by simp)]; simp [pkC]
  have p1 : ((w.alloc (.cells (pkC p) 41)).alloc (.cells (kyC k) 45)).cell? ⟨w.heap.size, 1, none⟩ = some (.int .u32 p.src) := by rw [World.cell?_alloc_lt _ _ _ (by simp)]; simp [pkC]
  have p2 : ((w.alloc (.cells (pkC p) 41)).alloc (.cells (kyC k) 45)).cell? ⟨w.heap.size, 2, none⟩ = some (.int .u32 p.dst) := by rw [World.cell?_alloc_lt _ _ _ (by simp)]; simp [pkC]
  have p3 : ((w.alloc (.cells (pkC p) 41)).alloc (.cells (kyC k) 45)).cell? ⟨w.heap.size, 3, none⟩ = some (.int .u16 p.sport) := by rw [World.cell?_alloc_lt _ _ _ (by simp)]; simp [pkC]
  have p4 : ((w.alloc (.cells (pkC p) 41)).alloc (.cells (kyC k) 45)).cell? ⟨w.heap.size, 4, none⟩ = some (.int .u16 p.dport) := by rw [World.cell?_alloc_lt _ _ _ (by simp)]; simp [pkC]
  have p5 : ((w.alloc (.cells (pkC p) 41)).alloc (.cells (kyC k) 45)).cell? ⟨w.heap.size, 5, none⟩ = some (.int .u8 p.flags) := by rw [World.cell?_alloc_lt _ _ _ (by simp)]; simp [pkC]
  have p6 : ((w.alloc (.cells (pkC p) 41)).alloc (.cells (kyC k) 45)).cell? ⟨w.heap.size, 6, none⟩ = some (.int .u8 p.kind) := by rw [World.cell?_alloc_lt _ _ _ (by simp)]; simp [pkC]
  clear hz1
  go_enter Tryz.func7, Tryz.ntmps7
  go_wp2_with fail
  generalize ((w.alloc (.cells (pkC p) 41)).alloc (.cells (kyC k) 45)) = w0 at *
  refine (tick_nil n _).mono ?_
  rintro e w1 ⟨⟨v1, rfl⟩, h⟩
  replace c0 := Since.cell h c0
  replace c1 := Since.cell h c1
  replace c2 := Since.cell h c2
  replace c3 := Since.cell h c3
  replace c4 := Since.cell h c4
  replace p0 := Since.cell h p0
  replace p1 := Since.cell h p1
  replace p2 := Since.cell h p2
  replace p3 := Since.cell h p3
  replace p4 := Since.cell h p4
  replace p5 := Since.cell h p5
  replace p6 := Since.cell h p6
  have HB1 := Lib.hid (below_then HB0.out h)
  have HT := Lib.hid (HT.out.below h)
  clear h
  go_wp2_with fail
  refine (count_nil n _).mono ?_
  rintro e w2 ⟨⟨v2, rfl⟩, h⟩
  replace c0 := Since.cell h c0
  replace c1 := Since.cell h c1
  replace c2 := Since.cell h c2
  replace c3 := Since.cell h c3
  replace c4 := Since.cell h c4
  replace p0 := Since.cell h p0
  replace p1 := Since.cell h p1
  replace p2 := Since.cell h p2
  replace p3 := Since.cell h p3
  replace p4 := Since.cell h p4
  replace p5 := Since.cell h p5
  replace p6 := Since.cell h p6
  have HB2 := Lib.hid (below_then HB1.out h)
  have HT := Lib.hid (HT.out.below h)
  clear h
  go_wp2_with fail
  refine (swap_nil _ _).mono ?_
  rintro e w3 ⟨rfl, h⟩
  replace c0 := Since.cell h c0
  replace c1 := Since.cell h c1
  replace c2 := Since.cell h c2
  replace c3 := Since.cell h c3
  replace c4 := Since.cell h c4
  replace p0 := Since.cell h p0
  replace p1 := Since.cell h p1
  replace p2 := Since.cell h p2
  replace p3 := Since.cell h p3
  replace p4 := Since.cell h p4
  replace p5 := Since.cell h p5
  replace p6 := Since.cell h p6
  have HB3 := Lib.hid (below_then HB2.out h)
  have HT := Lib.hid (HT.out.below h)
  clear h
  go_wp2_with fail
  refine (look_nil k _).mono ?_
  rintro e w4 ⟨rfl, h⟩
  replace c0 := Since.cell h c0
  replace c1 := Since.cell h c1
  replace c2 := Since.cell h c2
  replace c3 := Since.cell h c3
  replace c4 := Since.cell h c4
  replace p0 := Since.cell h p0
  replace p1 := Since.cell h p1
  replace p2 := Since.cell h p2
  replace p3 := Since.cell h p3
  replace p4 := Since.cell h p4
  replace p5 := Since.cell h p5
  replace p6 := Since.cell h p6
  have HB4 := Lib.hid (below_then HB3.out h)
  have HT := Lib.hid (HT.out.below h)
  clear h
  have HBF : Hid (Below w4.heap.size w4 (w4.alloc (.cells #[.int .i64 0, .int .i64 0, .int .i64 0] 50))) := Lib.hid ((Below.refl _ _).alloc (Nat.le_refl _) _)
  replace c0 := Since.cell HBF.out c0
  replace c1 := Since.cell HBF.out c1
  replace c2 := Since.cell HBF.out c2
  replace c3 := Since.cell HBF.out c3
  replace c4 := Since.cell HBF.out c4
  replace p0 := Since.cell HBF.out p0
  replace p1 := Since.cell HBF.out p1
  replace p2 := Since.cell HBF.out p2
  replace p3 := Since.cell HBF.out p3
  replace p4 := Since.cell HBF.out p4
  replace p5 := Since.cell HBF.out p5
  replace p6 := Since.cell HBF.out p6
  have HB5 := Lib.hid (below_then HB4.out HBF.out)
  have HT := Lib.hid (HT.out.below HBF.out)
  go_wp2_with fail
  generalize w4.alloc (.cells #[.int .i64 0, .int .i64 0, .int .i64 0] 50) = w5 at *
  refine (awake18_any _ HT.out).mono ?_
  rintro e w6 ⟨rfl, h⟩
  replace c0 := Since.cell h c0
  replace c1 := Since.cell h c1
  replace c2 := Since.cell h c2
  replace c3 := Since.cell h c3
  replace c4 := Since.cell h c4
  replace p0 := Since.cell h p0
  replace p1 := Since.cell h p1
  replace p2 := Since.cell h p2
  replace p3 := Since.cell h p3
  replace p4 := Since.cell h p4
  replace p5 := Since.cell h p5
  replace p6 := Since.cell h p6
  have HB6 := Lib.hid (below_then HB5.out h)
  clear h
  go_wp2_with fail
  refine (act_nil p _).mono ?_
  rintro e w7 ⟨rfl, h⟩
  replace c0 := Since.cell h c0
  replace c1 := Since.cell h c1
  replace c2 := Since.cell h c2
  replace c3 := Since.cell h c3
  replace c4 := Since.cell h c4
  replace p0 := Since.cell h p0
  replace p1 := Since.cell h p1
  replace p2 := Since.cell h p2
  replace p3 := Since.cell h p3
  replace p4 := Since.cell h p4
  replace p5 := Since.cell h p5
  replace p6 := Since.cell h p6
  have HB7 := Lib.hid (below_then HB6.out h)
  clear h
  go_wp2_with fail
  refine (delete_nil k _).mono ?_
  rintro e w8 ⟨rfl, h⟩
  replace c0 := Since.cell h c0
  replace c1 := Since.cell h c1
  replace c2 := Since.cell h c2
  replace c3 := Since.cell h c3
  replace c4 := Since.cell h c4
  replace p0 := Since.cell h p0
  replace p1 := Since.cell h p1
  replace p2 := Since.cell h p2
  replace p3 := Since.cell h p3
  replace p4 := Since.cell h p4
  replace p5 := Since.cell h p5
  replace p6 := Since.cell h p6
  have HB8 := Lib.hid (below_then HB7.out h)
  clear h
  go_wp2_with fail
  refine (drop_nil k _).mono ?_
  rintro e w9 ⟨rfl, h⟩
  replace c0 := Since.cell h c0
  replace c1 := Since.cell h c1
  replace c2 := Since.cell h c2
  replace c3 := Since.cell h c3
  replace c4 := Since.cell h c4
  replace p0 := Since.cell h p0
  replace p1 := Since.cell h p1
  replace p2 := Since.cell h p2
  replace p3 := Since.cell h p3
  replace p4 := Since.cell h p4
  replace p5 := Since.cell h p5
  replace p6 := Since.cell h p6
  have HB9 := Lib.hid (below_then HB8.out h)
  clear h
  go_wp2_with fail
  refine (stat_nil n _).mono ?_
  rintro e w10 ⟨rfl, h⟩
  replace c0 := Since.cell h c0
  replace c1 := Since.cell h c1
  replace c2 := Since.cell h c2
  replace c3 := Since.cell h c3
  replace c4 := Since.cell h c4
  replace p0 := Since.cell h p0
  replace p1 := Since.cell h p1
  replace p2 := Since.cell h p2
  replace p3 := Since.cell h p3
  replace p4 := Since.cell h p4
  replace p5 := Since.cell h p5
  replace p6 := Since.cell h p6
  have HB10 := Lib.hid (below_then HB9.out h)
  clear h
  go_wp2_with fail
  refine (gate_nil _).mono ?_
  rintro e w11 ⟨rfl, h⟩
  replace c0 := Since.cell h c0
  replace c1 := Since.cell h c1
  replace c2 := Since.cell h c2
  replace c3 := Since.cell h c3
  replace c4 := Since.cell h c4
  replace p0 := Since.cell h p0
  replace p1 := Since.cell h p1
  replace p2 := Since.cell h p2
  replace p3 := Since.cell h p3
  replace p4 := Since.cell h p4
  replace p5 := Since.cell h p5
  replace p6 := Since.cell h p6
  have HB11 := Lib.hid (below_then HB10.out h)
  clear h
  go_wp2_with fail
  refine (keys_nil _).mono ?_
  rintro e w12 ⟨rfl, h⟩
  replace c0 := Since.cell h c0
  replace c1 := Since.cell h c1
  replace c2 := Since.cell h c2
  replace c3 := Since.cell h c3
  replace c4 := Since.cell h c4
  replace p0 := Since.cell h p0
  replace p1 := Since.cell h p1
  replace p2 := Since.cell h p2
  replace p3 := Since.cell h p3
  replace p4 := Since.cell h p4
  replace p5 := Since.cell h p5
  replace p6 := Since.cell h p6
  have HB12 := Lib.hid (below_then HB11.out h)
  clear h
  go_wp2_with fail
  go_ret
  exact ⟨rfl, HB12.out⟩
end Go.Proofs.YtahgapkecabnjaaGreatDoor
/- Arguments that are structs or arrays, of whatever depth, read leaf by leaf. -/
namespace Go.Proofs.YtahgapkecabnjaaGreatDoor
set_option linter.unusedSimpArgs false
set_option linter.unusedVariables false
open Go Go.RowKit Go.ChangeShapes Go.WideShapes

/-- A struct's type or an array's. -/
def rowType (P : Program) (t : TypeId) : Bool := match P.underlying t with | some (.struct _) => true | some (.array _ _) => true | _ => false

/-- The types of a type's cells, in order, struct by struct and array by array. -/
def fieldLeafs (P : Program) (rec : TypeId → Option (List TypeId)) : List Field → Nat → Option (List TypeId)
  | [], _ => some []
  | f :: r, off => if f.offset = off then (rec f.type).bind fun l => if P.cellsOf f.type = l.length then (fieldLeafs P rec r (off + l.length)).map (l ++ ·) else none else none
def leafs (P : Program) : Nat → TypeId → Option (List TypeId)
  | 0, _ => none
  | d + 1, t =>
    match P.underlying t with
    | some (.struct fs) => fieldLeafs P (leafs P d) fs.toList 0
    | some (.array n e) => (leafs P d e).bind fun l => if P.cellsOf e = l.length then some (List.replicate n l).flatten else none
    | _ => some [t]

section
variable {H : Type} {enc : TypeId × Value → H} {P : Program} {w : World} {base : Nat} {sp : Nat → Bool} {held : Bool}

/-- A cell that reads as a value of its type. -/
def Leaf (enc : TypeId × Value → H) (P : Program) (w : World) (base : Nat) (sp : Nat → Bool) (held : Bool) (t : TypeId) (v : Value) : Prop := ∃ fuel y, DataW.trod enc P w base sp held fuel t [v] = some y

/-- Each cell reads as its leaf. -/
def Leafs (enc : TypeId × Value → H) (P : Program) (w : World) (base : Nat) (sp : Nat → Bool) (held : Bool) : List TypeId → List Value → Prop
  | [], [] => True
  | t :: ts, v :: vs => Leaf enc P w base sp held t v ∧ Leafs enc P w base sp held ts vs
  | _, _ => False

theorem Leafs.append : ∀ {ts : List TypeId} {vs : List Value} {ts' : List TypeId} {vs' : List Value}, Leafs enc P w base sp held ts vs → Leafs enc P w base sp held ts' vs' → Leafs enc P w base sp held (ts ++ ts') (vs ++ vs')
  | [], [], _, _, _, h => h
  | t :: ts, v :: vs, _, _, h, h' => ⟨h.1, Leafs.append h.2 h'⟩
  | [], _ :: _, _, _, h, _ => h.elim
  | _ :: _, [], _, _, h, _ => h.elim

theorem leafs_fields {rec : TypeId → Option (List TypeId)} {m : Nat} {cs : List Value}
    (hrec : ∀ t ts cs, rec t = some ts → cs.length = ts.length → (∃ x, DataW.trod enc P w base sp held m t cs = some x) → Leafs enc P w base sp held ts cs) :
    ∀ (fs : List Field) (off : Nat) (ts : List TypeId), fieldLeafs P rec fs off = some ts → off + ts.length ≤ cs.length →
      (∀ f ∈ fs, ∃ x, DataW.trod enc P w base sp held m f.type ((cs.drop f.offset).take (P.cellsOf f.type)) = some x) → Leafs enc P w base sp held ts ((cs.drop off).take ts.length)
  | [], off, ts, h, _, _ => by
    simp only [fieldLeafs, Option.some.injEq] at h
    subst h
    simp [Leafs]
  | f :: r, off, ts, h, hl, hf => by
    simp only [fieldLeafs] at h
    split at h
    · rename_i hoff
      obtain ⟨l, h1, h2⟩ := Option.bind_eq_some_iff.1 h
      split at h2
      · rename_i hc
        obtain ⟨l2, h3, rfl⟩ := Option.map_eq_some_iff.1 h2
        rw [List.length_append] at hl
        have e1 := leafs_fields hrec r (off + l.length) l2 h3 (by omega) (fun f' hf' => hf f' (by simp [hf']))
        have e0 : Leafs enc P w base sp held l ((cs.drop off).take l.length) := by
          have := hf f (by simp)
          rw [hoff, hc] at this
          exact hrec f.type l _ h1 (by simp; omega) this
        have : (cs.drop off).take (l ++ l2).length = (cs.drop off).take l.length ++ (cs.drop (off + l.length)).take l2.length := by
          rw [List.length_append, List.take_add, List.drop_drop]
        rw [this]
        exact e0.append e1
      · cases h2
    · cases h

theorem leafs_elems {l : List TypeId} {cs : List Value} : ∀ (n o : Nat), o + n * l.length ≤ cs.length → (∀ i, i < n → Leafs enc P w base sp held l ((cs.drop (o + i * l.length)).take l.length)) →
    Leafs enc P w base sp held (List.replicate n l).flatten ((cs.drop o).take (n * l.length))
  | 0, o, _, _ => by simp [Leafs]
  | n + 1, o, hl, h => by
    rw [List.replicate_succ, List.flatten_cons]
    have e0 := h 0 (by omega)
    rw [Nat.zero_mul, Nat.add_zero] at e0
    have hmul : (n + 1) * l.length = l.length + n * l.length := by rw [Nat.add_mul, Nat.one_mul, Nat.add_comm]
    have e1 := leafs_elems (l := l) (cs := cs) n (o + l.length) (by omega) (fun i hi => by
      have := h (i + 1) (by omega)
      have hm2 : o + (i + 1) * l.length = o + l.length + i * l.length := by rw [Nat.add_mul, Nat.one_mul]; omega
      rwa [hm2] at this)
    rw [hmul, List.take_add, List.drop_drop]
    exact e0.append e1

theorem leafs_of_trod : ∀ (d : Nat) (t : TypeId) (ts : List TypeId) (cs : List Value) (fuel : Nat), leafs P d t = some ts → cs.length = ts.length → (∃ x, DataW.trod enc P w base sp held fuel t cs = some x) → Leafs enc P w base sp held ts cs
  | 0, _, _, _, _, h, _, _ => by simp [leafs] at h
  | d + 1, t, ts, cs, fuel, h, hl, ⟨x, hx⟩ => by
    unfold leafs at h
    split at h
    · rename_i fs hu
      obtain ⟨xs, m, rfl, _, hlen, hxs, hf⟩ := DataW.trod_struct hu hx
      have := leafs_fields (cs := cs) (m := m) (fun t ts cs h1 h2 h3 => leafs_of_trod d t ts cs m h1 h2 h3) fs.toList 0 ts h (by omega) (fun f hfm => by
        obtain ⟨i, hi, rfl⟩ := List.getElem_of_mem hfm
        have := hf i fs.toList[i] (by simp at hi ⊢)
        have hi2 : i < xs.length := by rw [hxs]; simpa using hi
        exact ⟨xs[i], by rw [this, List.getElem?_eq_getElem hi2]⟩)
      rw [List.drop_zero, ← hl, List.take_length] at this
      exact this
    · rename_i n e hu
      obtain ⟨l, h1, h2⟩ := Option.bind_eq_some_iff.1 h
      split at h2
      · rename_i hc
        cases h2
        obtain ⟨xs, m, rfl, _, hlen, hxs, hf⟩ := DataW.trod_array hu hx
        have htl : (List.replicate n l).flatten.length = n * l.length := by simp
        rw [htl] at hl
        have := leafs_elems (cs := cs) (l := l) n 0 (by omega) (fun i hi => by
          have h4 := hf i hi
          rw [hc] at h4
          have hi2 : i < xs.length := by omega
          rw [List.getElem?_eq_getElem hi2] at h4
          rw [Nat.zero_add]
          refine leafs_of_trod d e l _ m h1 ?_ ⟨_, h4⟩
          have : (i + 1) * l.length ≤ n * l.length := Nat.mul_le_mul_right _ (by omega)
          rw [Nat.add_mul, Nat.one_mul] at this
          simp; omega)
        rw [List.drop_zero, ← hl, List.take_length] at this
        exact this
      · cases h2
    · cases h
      match cs, hl with
      | [v], _ => exact ⟨⟨fuel, x, hx⟩, trivial⟩

theorem Leaf.int {t : TypeId} {k : IntKind} {v : Value} (h : Leaf enc P w base sp held t v) (ht : P.underlying t = some (.int k)) : ∃ n, v = .int k n ∧ (Lit.int k n).wf = true := by
  obtain ⟨fuel, y, hy⟩ := h
  cases fuel with
  | zero => simp [DataW.trod] at hy
  | succ m =>
    unfold DataW.trod at hy
    rw [ht] at hy
    cases v <;> simp at hy
    obtain ⟨⟨rfl, hw⟩, _⟩ := hy
    exact ⟨_, rfl, hw⟩
theorem Leaf.bool {t : TypeId} {v : Value} (h : Leaf enc P w base sp held t v) (ht : P.underlying t = some .bool) : ∃ b, v = .bool b := by
  obtain ⟨fuel, y, hy⟩ := h
  cases fuel with
  | zero => simp [DataW.trod] at hy
  | succ m =>
    unfold DataW.trod at hy
    rw [ht] at hy
    cases v <;> simp at hy
    exact ⟨_, rfl⟩

theorem open_leafs {d : Nat} {t : TypeId} {ts : List TypeId} {v : Value} {r : Reach} {b : Nat} {x : DataW H} {ps : List MemPlace} (hrow : rowType P t = true)
    (hl : leafs P d t = some ts) (hc : P.cellsOf t = ts.length) (hv : Value.okWide P w r b t v) (h : DataW.Trod enc P w base sp held t v x ps) : ∃ cs : Array Value, v = .agg cs ∧ Leafs enc P w base sp held ts cs.toList := by
  have : ∃ cs, v = .agg cs ∧ cs.size = P.cellsOf t := by
    unfold Value.okWide at hv
    split at hv
    · obtain ⟨cs, h1, h2, _⟩ := hv; exact ⟨cs, h1, h2⟩
    · obtain ⟨cs, h1, h2, _⟩ := hv; exact ⟨cs, h1, h2⟩
    · rename_i h3 h4
      exfalso
      unfold rowType at hrow
      split at hrow
      · exact h3 _ ‹_›
      · exact h4 _ _ ‹_›
      · cases hrow
  obtain ⟨cs, rfl, hs⟩ := this
  obtain ⟨fuel, hf⟩ := h
  exact ⟨cs, rfl, leafs_of_trod d t ts cs.toList fuel hl (by rw [Array.length_toList, hs, hc]) ⟨_, hf⟩⟩
end
end Go.Proofs.YtahgapkecabnjaaGreatDoor
/- What the rows' lists of three tables give the walks; packets and keys among the arguments. -/
namespace Go.Proofs.YtahgapkecabnjaaGreatDoor
set_option linter.unusedSimpArgs false
set_option linter.unusedVariables false
open Go Go.RowKit Go.ChangeShapes Go.WideShapes Go.ChangeAt

theorem g_pow : Tryz.prog.globalNamed "internal/strconv.uint64pow10" = some 0 := by kernel_rfl
theorem t_pow : (Tryz.prog.globals[0]?).map (·.type) = some 210 := by kernel_rfl
theorem c_u64 : Tryz.prog.cellsOf 53 = 1 := by kernel_rfl
theorem c_pow : Tryz.prog.cellsOf 210 = 20 := by kernel_rfl
theorem g_none1 : Tryz.prog.globalNamed "strconv.ErrSyntax" = none := by kernel_rfl
theorem g_none2 : Tryz.prog.globalNamed "strconv.ErrRange" = none := by kernel_rfl
theorem pow_datum : (Rows.laid_internal_strconv_uint64pow10 : DataW Unit) = Lib.tabData .u64 Lib.pow10Tab := by kernel_rfl
theorem tabs_of_laidB {rest : List (String × DataW Unit)} {W : World} (h : laidMet Tryz.prog (("math/bits.deBruijn32tab", Rows.laid_math_bits_deBruijn32tab) :: ("math/bits.deBruijn64tab", Rows.laid_math_bits_deBruijn64tab) :: ("internal/strconv.uint64pow10", Rows.laid_internal_strconv_uint64pow10) :: rest) W)
    (hsh : W.ShapedOpen Tryz.prog) : Tabs W := by
  have h3 := h.tail.tail
  rw [pow_datum] at h3
  exact ⟨Lib.tabIs_of_head g_pow t_pow Tryz.underlying210 Tryz.underlying53 c_u64 c_pow h3, (fun g hg => by rw [g_none1] at hg; cases hg), (fun g hg => by rw [g_none2] at hg; cases hg), cell_of_shapedOpen_int (t := 3) (zero := #[.int .i64 0]) hsh (of_decide_eq_true (by kernel_rfl)) (by kernel_rfl) rfl (by kernel_rfl) (by kernel_rfl) Tryz.underlying3⟩
/-- A world in which the listed variables lie as their initialisers lay them. -/
noncomputable def laidWorld (os : Os) : World := World.doorLaid Tryz.prog 400 os
theorem own : ownKnob Tryz.prog.godebug = none := by kernel_rfl
theorem laidOut : laidOutB Tryz.prog = true := by kernel_rfl

theorem wf_range {k : IntKind} {n : Int} (h : (Lit.int k n).wf = true) : k.min ≤ n ∧ n ≤ k.max := by simpa [Lit.wf] using h
theorem range_u8 {n : Int} (h : (Lit.int .u8 n).wf = true) : 0 ≤ n ∧ n < 256 := by have := wf_range h; have e1 : IntKind.u8.min = 0 := rfl; have e2 : IntKind.u8.max = 255 := rfl; omega
theorem range_u16 {n : Int} (h : (Lit.int .u16 n).wf = true) : 0 ≤ n ∧ n < 65536 := by have := wf_range h; have e1 : IntKind.u16.min = 0 := rfl; have e2 : IntKind.u16.max = 65535 := rfl; omega
theorem range_u32 {n : Int} (h : (Lit.int .u32 n).wf = true) : 0 ≤ n ∧ n < 4294967296 := by have := wf_range h; have e1 : IntKind.u32.min = 0 := rfl; have e2 : IntKind.u32.max = 4294967295 := rfl; omega

section
variable {H : Type} {enc : TypeId × Value → H} {w : World} {base : Nat} {sp : Nat → Bool} {held : Bool}
def pkT : List TypeId := [5, 38, 38, 39, 39, 5, 5]
def kyT : List TypeId := [38, 38, 39, 39, 5]
theorem leafs_pk {cs : List Value} (h : Leafs enc Tryz.prog w base sp held pkT cs) : ∃ p : Pk, cs = (pkC p).toList ∧ PkIn p := by
  match cs, h with
  | [x0, x1, x2, x3, x4, x5, x6], h =>
    obtain ⟨h0, h1, h2, h3, h4, h5, h6, _⟩ := h
    obtain ⟨n0, rfl, w0⟩ := h0.int Tryz.underlying5
    obtain ⟨n1, rfl, w1⟩ := h1.int Tryz.underlying38
    obtain ⟨n2, rfl, w2⟩ := h2.int Tryz.underlying38
    obtain ⟨n3, rfl, w3⟩ := h3.int Tryz.underlying39
    obtain ⟨n4, rfl, w4⟩ := h4.int Tryz.underlying39
    obtain ⟨n5, rfl, w5⟩ := h5.int Tryz.underlying5
    obtain ⟨n6, rfl, w6⟩ := h6.int Tryz.underlying5
    exact ⟨⟨n0, n1, n2, n3, n4, n5, n6⟩, rfl, ⟨range_u8 w0, range_u32 w1, range_u32 w2, range_u16 w3, range_u16 w4, range_u8 w5, range_u8 w6⟩⟩
theorem leafs_ky {cs : List Value} (h : Leafs enc Tryz.prog w base sp held kyT cs) : ∃ k : Ky, cs = (kyC k).toList ∧ k.In := by
  match cs, h with
  | [x0, x1, x2, x3, x4], h =>
    obtain ⟨h0, h1, h2, h3, h4, _⟩ := h
    obtain ⟨n0, rfl, w0⟩ := h0.int Tryz.underlying38
    obtain ⟨n1, rfl, w1⟩ := h1.int Tryz.underlying38
    obtain ⟨n2, rfl, w2⟩ := h2.int Tryz.underlying39
    obtain ⟨n3, rfl, w3⟩ := h3.int Tryz.underlying39
    obtain ⟨n4, rfl, w4⟩ := h4.int Tryz.underlying5
    have r0 := range_u32 w0
    have r1 := range_u32 w1
    have r2 := range_u16 w2
    have r3 := range_u16 w3
    have r4 := range_u8 w4
    obtain ⟨m0, rfl⟩ := Int.eq_ofNat_of_zero_le r0.1
    obtain ⟨m1, rfl⟩ := Int.eq_ofNat_of_zero_le r1.1
    obtain ⟨m2, rfl⟩ := Int.eq_ofNat_of_zero_le r2.1
    obtain ⟨m3, rfl⟩ := Int.eq_ofNat_of_zero_le r3.1
    obtain ⟨m4, rfl⟩ := Int.eq_ofNat_of_zero_le r4.1
    exact ⟨⟨m0, m1, m2, m3, m4⟩, rfl, ⟨by show m0 < _; omega, by show m1 < _; omega, by show m2 < _; omega, by show m3 < _; omega, by show m4 < _; omega⟩⟩
set_option maxRecDepth 100000 in
theorem open_pk {v : Value} {r : Reach} {b : Nat} {x : DataW H} {ps : List MemPlace} (hv : Value.okWide Tryz.prog w r b 41 v) (h : DataW.Trod enc Tryz.prog w base sp held 41 v x ps) : ∃ p : Pk, v = .agg (pkC p) ∧ PkIn p := by
  obtain ⟨cs, rfl, hl⟩ := open_leafs (d := 4) (ts := pkT) (by kernel_rfl) (by kernel_rfl) (by kernel_rfl) hv h
  obtain ⟨p, e, hp⟩ := leafs_pk hl
  exact ⟨p, by rw [show cs = pkC p from Array.toList_inj.1 e], hp⟩
set_option maxRecDepth 100000 in
theorem open_ky {v : Value} {r : Reach} {b : Nat} {x : DataW H} {ps : List MemPlace} (hv : Value.okWide Tryz.prog w r b 45 v) (h : DataW.Trod enc Tryz.prog w base sp held 45 v x ps) : ∃ k : Ky, v = kyV k ∧ k.In := by
  obtain ⟨cs, rfl, hl⟩ := open_leafs (d := 4) (ts := kyT) (by kernel_rfl) (by kernel_rfl) (by kernel_rfl) hv h
  obtain ⟨k, e, hk⟩ := leafs_ky hl
  exact ⟨k, by rw [show cs = kyC k from Array.toList_inj.1 e], hk⟩
end
end Go.Proofs.YtahgapkecabnjaaGreatDoor
