/- Arguments that are structs or arrays, of whatever depth, read leaf by leaf. -/
import Derived.ProofKit
import Derived.OpenShut
import Derived.Deep.Slices
import Derived.Test.YtahgapkecabnjaaC08
import Derived.Test.YtahgapkecabnjaaC06
namespace Go.Proofs.Ytahgapkecabnjaa
set_option linter.unusedSimpArgs false
set_option linter.unusedVariables false
open Go Go.RowKit Go.ChangeShapes Go.WideShapes

/-- A struct's type or an array's. -/
def rowType (P : Program) (t : TypeId) : Bool := match P.underlying t with | some (.struct _) => true | some (.array _ _) => true | _ => false

/-- The types of a type's cells, in order, struct by struct and array by array. -/
def fieldLeafs (P : Program) (rec : TypeId → Option (List TypeId)) : List Field → Nat → Option (List TypeId)
  | [], _ => some []
  | f :: r, off => if f.offset = off then (rec f.type).bind fun l => if P.cellsOf f.type = l.length then (fieldLeafs P rec r (off + l.length)).map (l ++ ·) else none else none
def leafs (P : Program) : Nat → TypeId → Option (List TypeId)
  | 0, _ => none
  | d + 1, t =>
    match P.underlying t with
    | some (.struct fs) => fieldLeafs P (leafs P d) fs.toList 0
    | some (.array n e) => (leafs P d e).bind fun l => if P.cellsOf e = l.length then some (List.replicate n l).flatten else none
    | _ => some [t]

section
variable {H : Type} {enc : TypeId × Value → H} {P : Program} {w : World} {base : Nat} {sp : Nat → Bool} {held : Bool}

/-- A cell that reads as a value of its type. -/
def Leaf (enc : TypeId × Value → H) (P : Program) (w : World) (base : Nat) (sp : Nat → Bool) (held : Bool) (t : TypeId) (v : Value) : Prop := ∃ fuel y, DataW.trod enc P w base sp held fuel t [v] = some y

/-- Each cell reads as its leaf. -/
def Leafs (enc : TypeId × Value → H) (P : Program) (w : World) (base : Nat) (sp : Nat → Bool) (held : Bool) : List TypeId → List Value → Prop
  | [], [] => True
  | t :: ts, v :: vs => Leaf enc P w base sp held t v ∧ Leafs enc P w base sp held ts vs
  | _, _ => False

theorem Leafs.append : ∀ {ts : List TypeId} {vs : List Value} {ts' : List TypeId} {vs' : List Value}, Leafs enc P w base sp held ts vs → Leafs enc P w base sp held ts' vs' → Leafs enc P w base sp held (ts ++ ts') (vs ++ vs')
  | [], [], _, _, _, h => h
  | t :: ts, v :: vs, _, _, h, h' => ⟨h.1, Leafs.append h.2 h'⟩
  | [], _ :: _, _, _, h, _ => h.elim
  | _ :: _, [], _, _, h, _ => h.elim

theorem leafs_fields {rec : TypeId → Option (List TypeId)} {m : Nat} {cs : List Value}
    (hrec : ∀ t ts cs, rec t = some ts → cs.length = ts.length → (∃ x, DataW.trod enc P w base sp held m t cs = some x) → Leafs enc P w base sp held ts cs) :
    ∀ (fs : List Field) (off : Nat) (ts : List TypeId), fieldLeafs P rec fs off = some ts → off + ts.length ≤ cs.length →
      (∀ f ∈ fs, ∃ x, DataW.trod enc P w base sp held m f.type ((cs.drop f.offset).take (P.cellsOf f.type)) = some x) → Leafs enc P w base sp held ts ((cs.drop off).take ts.length)
  | [], off, ts, h, _, _ => by
    simp only [fieldLeafs, Option.some.injEq] at h
    subst h
    simp [Leafs]
  | f :: r, off, ts, h, hl, hf => by
    simp only [fieldLeafs] at h
    split at h
    · rename_i hoff
      obtain ⟨l, h1, h2⟩ := Option.bind_eq_some_iff.1 h
      split at h2
      · rename_i hc
        obtain ⟨l2, h3, rfl⟩ := Option.map_eq_some_iff.1 h2
        rw [List.length_append] at hl
        have e1 := leafs_fields hrec r (off + l.length) l2 h3 (by omega) (fun f' hf' => hf f' (by simp [hf']))
        have e0 : Leafs enc P w base sp held l ((cs.drop off).take l.length) := by
          have := hf f (by simp)
          rw [hoff, hc] at this
          exact hrec f.type l _ h1 (by simp; omega) this
        have : (cs.drop off).take (l ++ l2).length = (cs.drop off).take l.length ++ (cs.drop (off + l.length)).take l2.length := by
          rw [List.length_append, List.take_add, List.drop_drop]
        rw [this]
        exact e0.append e1
      · cases h2
    · cases h

theorem leafs_elems {l : List TypeId} {cs : List Value} : ∀ (n o : Nat), o + n * l.length ≤ cs.length → (∀ i, i < n → Leafs enc P w base sp held l ((cs.drop (o + i * l.length)).take l.length)) →
    Leafs enc P w base sp held (List.replicate n l).flatten ((cs.drop o).take (n * l.length))
  | 0, o, _, _ => by simp [Leafs]
  | n + 1, o, hl, h => by
    rw [List.replicate_succ, List.flatten_cons]
    have e0 := h 0 (by omega)
    rw [Nat.zero_mul, Nat.add_zero] at e0
    have hmul : (n + 1) * l.length = l.length + n * l.length := by rw [Nat.add_mul, Nat.one_mul, Nat.add_comm]
    have e1 := leafs_elems (l := l) (cs := cs) n (o + l.length) (by omega) (fun i hi => by
      have := h (i + 1) (by omega)
      have hm2 : o + (i + 1) * l.length = o + l.length + i * l.length := by rw [Nat.add_mul, Nat.one_mul]; omega
      rwa [hm2] at this)
    rw [hmul, List.take_add, List.drop_drop]
    exact e0.append e1

theorem leafs_of_trod : ∀ (d : Nat) (t : TypeId) (ts : List TypeId) (cs : List Value) (fuel : Nat), leafs P d t = some ts → cs.length = ts.length → (∃ x, DataW.trod enc P w base sp held fuel t cs = some x) → Leafs enc P w base sp held ts cs
  | 0, _, _, _, _, h, _, _ => by simp [leafs] at h
  | d + 1, t, ts, cs, fuel, h, hl, ⟨x, hx⟩ => by
    unfold leafs at h
    split at h
    · rename_i fs hu
      obtain ⟨xs, m, rfl, _, hlen, hxs, hf⟩ := DataW.trod_struct hu hx
      have := leafs_fields (cs := cs) (m := m) (fun t ts cs h1 h2 h3 => leafs_of_trod d t ts cs m h1 h2 h3) fs.toList 0 ts h (by omega) (fun f hfm => by
        obtain ⟨i, hi, rfl⟩ := List.getElem_of_mem hfm
        have := hf i fs.toList[i] (by simp at hi ⊢)
        have hi2 : i < xs.length := by rw [hxs]; simpa using hi
        exact ⟨xs[i], by rw [this, List.getElem?_eq_getElem hi2]⟩)
      rw [List.drop_zero, ← hl, List.take_length] at this
      exact this
    · rename_i n e hu
      obtain ⟨l, h1, h2⟩ := Option.bind_eq_some_iff.1 h
      split at h2
      · rename_i hc
        cases h2
        obtain ⟨xs, m, rfl, _, hlen, hxs, hf⟩ := DataW.trod_array hu hx
        have htl : (List.replicate n l).flatten.length = n * l.length := by simp
        rw [htl] at hl
        have := leafs_elems (cs := cs) (l := l) n 0 (by omega) (fun i hi => by
          have h4 := hf i hi
          rw [hc] at h4
          have hi2 : i < xs.length := by omega
          rw [List.getElem?_eq_getElem hi2] at h4
          rw [Nat.zero_add]
          refine leafs_of_trod d e l _ m h1 ?_ ⟨_, h4⟩
          have : (i + 1) * l.length ≤ n * l.length := Nat.mul_le_mul_right _ (by omega)
          rw [Nat.add_mul, Nat.one_mul] at this
          simp; omega)
        rw [List.drop_zero, ← hl, List.take_length] at this
        exact this
      · cases h2
    · cases h
      match cs, hl with
      | [v], _ => exact ⟨⟨fuel, x, hx⟩, trivial⟩

theorem Leaf.int {t : TypeId} {k : IntKind} {v : Value} (h : Leaf enc P w base sp held t v) (ht : P.underlying t = some (.int k)) : ∃ n, v = .int k n ∧ (Lit.int k n).wf = true := by
  obtain ⟨fuel, y, hy⟩ := h
  cases fuel with
  | zero => simp [DataW.trod] at hy
  | succ m =>
    unfold DataW.trod at hy
    rw [ht] at hy
    cases v <;> simp at hy
    obtain ⟨⟨rfl, hw⟩, _⟩ := hy
    exact ⟨_, rfl, hw⟩
theorem Leaf.bool {t : TypeId} {v : Value} (h : Leaf enc P w base sp held t v) (ht : P.underlying t = some .bool) : ∃ b, v = .bool b := by
  obtain ⟨fuel, y, hy⟩ := h
  cases fuel with
  | zero => simp [DataW.trod] at hy
  | succ m =>
    unfold DataW.trod at hy
    rw [ht] at hy
    cases v <;> simp at hy
    exact ⟨_, rfl⟩

theorem open_leafs {d : Nat} {t : TypeId} {ts : List TypeId} {v : Value} {r : Reach} {b : Nat} {x : DataW H} {ps : List MemPlace} (hrow : rowType P t = true)
    (hl : leafs P d t = some ts) (hc : P.cellsOf t = ts.length) (hv : Value.okWide P w r b t v) (h : DataW.Trod enc P w base sp held t v x ps) : ∃ cs : Array Value, v = .agg cs ∧ Leafs enc P w base sp held ts cs.toList := by
  have : ∃ cs, v = .agg cs ∧ cs.size = P.cellsOf t := by
    unfold Value.okWide at hv
    split at hv
    · obtain ⟨cs, h1, h2, _⟩ := hv; exact ⟨cs, h1, h2⟩
    · obtain ⟨cs, h1, h2, _⟩ := hv; exact ⟨cs, h1, h2⟩
    · rename_i h3 h4
      exfalso
      unfold rowType at hrow
      split at hrow
      · exact h3 _ ‹_›
      · exact h4 _ _ ‹_›
      · cases hrow
  obtain ⟨cs, rfl, hs⟩ := this
  obtain ⟨fuel, hf⟩ := h
  exact ⟨cs, rfl, leafs_of_trod d t ts cs.toList fuel hl (by rw [Array.length_toList, hs, hc]) ⟨_, hf⟩⟩
end
end Go.Proofs.Ytahgapkecabnjaa
/- Slices of structs among the arguments, opened: each element's cells, leaf by leaf. -/
namespace Go.Proofs.Ytahgapkecabnjaa
set_option linter.unusedSimpArgs false
set_option linter.unusedVariables false
open Go Go.RowKit Go.ChangeShapes Go.WideShapes

theorem open_slice_leafs {H : Type} {enc : TypeId × Value → H} {P : Program} {W : World} {base b : Nat} {held : Bool} {d : Nat} {t e : TypeId} {ts : List TypeId} {v : Value} {x : DataW H} {ps : List MemPlace}
    (ht : P.underlying t = some (.slice e)) (hl : leafs P d e = some ts) (hc : P.cellsOf e = ts.length) (hv : Value.okWide P W .any base t v) (h : DataW.Trod enc P W b (fun _ => true) held t v x ps) :
    ∃ a len cap, v = .slice a len cap ∧ len ≤ maxLen ∧ ∀ j, j < len → ∃ ad cs, a = some ad ∧ (∀ k, k < ts.length → W.cell? ((ad.add (j * ts.length)).add k) = cs[k]?) ∧ cs.length = ts.length ∧ Leafs enc P W b (fun _ => true) held ts cs := by
  obtain ⟨a, len, cap, rfl⟩ := WideShapes.okWide_slice ht hv
  obtain ⟨fuel, hf⟩ := h
  rcases Go.Deep.open_slice ht hf with ⟨hcs, _⟩ | ⟨a', len', cap', m, n, D, Pl, hcs, hb, hle, hm, hmm, _, hx⟩
  · simp [Value.cells] at hcs
    obtain ⟨rfl, rfl, rfl⟩ := hcs
    exact ⟨none, 0, 0, rfl, by decide, fun j hj => absurd hj (by omega)⟩
  · simp [Value.cells] at hcs
    obtain ⟨rfl, rfl, rfl⟩ := hcs
    refine ⟨_, _, _, rfl, Nat.le_trans hle hm, fun j hj => ?_⟩
    obtain ⟨cs, h1, h2⟩ := hx j (by rw [hmm]; simp; omega)
    rw [hc] at h1
    obtain ⟨h3, h4, h5⟩ := World.cells?_some h1
    exact ⟨_, cs, rfl, h5, h4, leafs_of_trod d e ts cs n hl h4 ⟨_, h2⟩⟩
end Go.Proofs.Ytahgapkecabnjaa
/- What threads do, among the arguments, opened (layer 20). -/
namespace Go.Proofs.Ytahgapkecabnjaa
set_option linter.unusedSimpArgs false
set_option linter.unusedVariables false
open Go Go.RowKit Go.ChangeShapes Go.WideShapes

/-- Something that a thread does to a table. -/
structure Dt where
  kind : Int
  thread : Int
  at_ : Int
  k : Ky
  tu : Bool
def dtC (d : Dt) : List Value := [.int .u8 d.kind, .int .i64 d.thread, .int .i64 d.at_, .int .u32 d.k.a0, .int .u32 d.k.a1, .int .u16 d.k.p0, .int .u16 d.k.p1, .int .u8 d.k.pr, .bool d.tu]
structure DtOk (d : Dt) : Prop where
  kd : 0 ≤ d.kind ∧ d.kind ≤ 255
  th : -9223372036854775808 ≤ d.thread ∧ d.thread ≤ 9223372036854775807
  at_ : -9223372036854775808 ≤ d.at_ ∧ d.at_ ≤ 9223372036854775807
  k : d.k.In
theorem wfn_u32 {z : Int} (h : (Lit.int .u32 z).wf = true) : ∃ n : Nat, z = n ∧ n < 4294967296 := by
  have h2 : IntKind.u32.min ≤ z ∧ z ≤ IntKind.u32.max := by simpa [Lit.wf] using h
  have e1 : IntKind.u32.min = 0 := rfl
  have e2 : IntKind.u32.max = 4294967295 := rfl
  exact ⟨z.toNat, by omega, by omega⟩
theorem wfn_u16 {z : Int} (h : (Lit.int .u16 z).wf = true) : ∃ n : Nat, z = n ∧ n < 65536 := by
  have h2 : IntKind.u16.min ≤ z ∧ z ≤ IntKind.u16.max := by simpa [Lit.wf] using h
  have e1 : IntKind.u16.min = 0 := rfl
  have e2 : IntKind.u16.max = 65535 := rfl
  exact ⟨z.toNat, by omega, by omega⟩
theorem wfn_u8 {z : Int} (h : (Lit.int .u8 z).wf = true) : ∃ n : Nat, z = n ∧ n < 256 := by
  have h2 : IntKind.u8.min ≤ z ∧ z ≤ IntKind.u8.max := by simpa [Lit.wf] using h
  have e1 : IntKind.u8.min = 0 := rfl
  have e2 : IntKind.u8.max = 255 := rfl
  exact ⟨z.toNat, by omega, by omega⟩
theorem wfi_64 {z : Int} (h : (Lit.int .i64 z).wf = true) : -9223372036854775808 ≤ z ∧ z ≤ 9223372036854775807 := by
  have h2 : IntKind.i64.min ≤ z ∧ z ≤ IntKind.i64.max := by simpa [Lit.wf] using h
  have e1 : IntKind.i64.min = -9223372036854775808 := rfl
  have e2 : IntKind.i64.max = 9223372036854775807 := rfl
  omega
def dtTs : List TypeId := [5, 3, 3, 23, 23, 25, 25, 5, 4]
section
variable {H : Type} {enc : TypeId × Value → H} {w : World} {base : Nat} {sp : Nat → Bool} {held : Bool}
theorem dt_of_leafs {l : List Value} (h : Leafs enc Try.prog w base sp held dtTs l) : ∃ d : Dt, l = dtC d ∧ DtOk d := by
  match l, h with
  | [c0, c1, c2, c3, c4, c5, c6, c7, c8], ⟨h0, h1, h2, h3, h4, h5, h6, h7, h8, _⟩ =>
    obtain ⟨n0, rfl, w0⟩ := h0.int Try.underlying5
    obtain ⟨n1, rfl, w1⟩ := h1.int Try.underlying3
    obtain ⟨n2, rfl, w2⟩ := h2.int Try.underlying3
    obtain ⟨n3, rfl, w3⟩ := h3.int Try.underlying23
    obtain ⟨n4, rfl, w4⟩ := h4.int Try.underlying23
    obtain ⟨n5, rfl, w5⟩ := h5.int Try.underlying25
    obtain ⟨n6, rfl, w6⟩ := h6.int Try.underlying25
    obtain ⟨n7, rfl, w7⟩ := h7.int Try.underlying5
    obtain ⟨n8, rfl⟩ := h8.bool Try.underlying4
    obtain ⟨m0, rfl, b0⟩ := wfn_u8 w0
    obtain ⟨m3, rfl, b3⟩ := wfn_u32 w3
    obtain ⟨m4, rfl, b4⟩ := wfn_u32 w4
    obtain ⟨m5, rfl, b5⟩ := wfn_u16 w5
    obtain ⟨m6, rfl, b6⟩ := wfn_u16 w6
    obtain ⟨m7, rfl, b7⟩ := wfn_u8 w7
    exact ⟨⟨m0, n1, n2, ⟨m3, m4, m5, m6, m7⟩, n8⟩, rfl, ⟨⟨(show (0 : Int) ≤ (m0 : Int) by omega), (show (m0 : Int) ≤ 255 by omega)⟩, wfi_64 w1, wfi_64 w2, ⟨b3, b4, b5, b6, b7⟩⟩⟩
theorem dt_row : rowType Try.prog 30 = true := by kernel_rfl
theorem dt_leafs : leafs Try.prog 4 30 = some dtTs := by kernel_rfl
theorem dt_cells : Try.prog.cellsOf 30 = dtTs.length := by kernel_rfl
set_option maxRecDepth 100000 in
theorem open_do20 {v : Value} {r : Reach} {b : Nat} {x : DataW H} {ps : List MemPlace} (hv : Value.okWide Try.prog w r b 30 v) (h : DataW.Trod enc Try.prog w base sp held 30 v x ps) : ∃ d, v = .agg (dtC d).toArray ∧ DtOk d := by
  obtain ⟨cs, rfl, hl⟩ := open_leafs dt_row dt_leafs dt_cells hv h
  obtain ⟨d, hd, ok⟩ := dt_of_leafs hl
  exact ⟨d, congrArg Value.agg (by rw [← hd]), ok⟩
/-- The cells of one. -/
def DtAt (w : World) (ad : Addr) (d : Dt) : Prop := ∀ i v, (dtC d)[i]? = some v → w.cell? (ad.add i) = some v
def RdDts (w : World) (a : Option Addr) (len : Nat) : Prop := len ≤ maxLen ∧ ∀ j, j < len → ∃ ad d, a = some ad ∧ DtAt w (ad.add (j * 9)) d ∧ DtOk d
theorem DtAt.below {w w' : World} {ad : Addr} {d : Dt} (h : DtAt w ad d) (k : Below w.heap.size w w') : DtAt w' ad d := fun i v hv => (k.cell (World.block_lt_of_cell? w _ (h i v hv))).trans (h i v hv)
set_option maxRecDepth 100000 in
theorem open_dos20 {W : World} {b : Nat} {v : Value} {x : DataW H} {ps : List MemPlace}
    (hv : Value.okWide Try.prog W .any base 22 v) (h : DataW.Trod enc Try.prog W b (fun _ => true) held 22 v x ps) :
    ∃ a len cap, v = .slice a len cap ∧ RdDts W a len := by
  obtain ⟨a, len, cap, rfl, hm, hx⟩ := open_slice_leafs (d := 4) (ts := dtTs) Try.underlying22 dt_leafs dt_cells hv h
  refine ⟨a, len, cap, rfl, hm, fun j hj => ?_⟩
  obtain ⟨ad, cs, rfl, h1, h2, h3⟩ := hx j hj
  obtain ⟨d, rfl, ok⟩ := dt_of_leafs h3
  exact ⟨ad, d, rfl, fun i v hi => (h1 i (List.getElem?_eq_some_iff.1 hi).1).trans hi, ok⟩
end
set_option maxHeartbeats 1000000 in
theorem exec_dtAt {o : Oper} {ev : Operand → Value} {w : World} (x y : Operand) (ho : o.op = .indexAddr 22 x y) {ad : Addr} {n c j : Nat} (hx : ev x = .slice (some ad) n c) (hy : ev y = .int .i64 (j : Nat)) (hj : j < n) : (execOp ev o).run Try.prog w = .ok (.value (.pointer (some (ad.add (j * 9))))) w := by
  unfold execOp
  have hni : (0 : Int) ≤ (j : Int) := by omega
  have hnl : (j : Int) < (n : Int) := by omega
  simp only [ho, hx, hy]
  go_simp
end Go.Proofs.Ytahgapkecabnjaa
/- Plain law: a table whose mutexes are free; a flow is put under its stripe's mutex. -/
namespace Go.Proofs.Ytahgapkecabnjaa
set_option linter.unusedSimpArgs false
set_option linter.unusedVariables false
open Go Go.RowKit

def free16 : List Int := List.replicate 16 (-1)
theorem free16_len : free16.length = 16 := by simp [free16]
theorem free16_get {s : Nat} (h : s < 16) : free16.getD s 0 = -1 := by
  unfold free16
  rw [List.getD_eq_getElem?_getD, List.getElem?_replicate, if_pos h]; rfl
theorem free16_set {s : Nat} (h : s < 16) : (free16.set s 1).set s (-1) = free16 := by
  rw [List.set_set]
  apply List.ext_getElem?
  intro i
  by_cases e : s = i
  · subst e
    rw [List.getElem?_set_self (by rw [free16_len]; exact h)]
    unfold free16
    rw [List.getElem?_replicate, if_pos h]
  · rw [List.getElem?_set_ne e]
section
variable {L : List Int} {Lg : List Acc} {s : Nat}
theorem hasL_16 (hl : L.length = 16) (hs : s < 16) : M.hasL ⟨[], L, Lg⟩ (s : Nat) = true := by
  unfold M.hasL
  rw [decide_eq_true_eq, hl]
  omega
theorem lock_free (hl : L.length = 16) (hs : s < 16) (h0 : L.getD s 0 = -1) : M.lock ⟨[], L, Lg⟩ 1 (s : Nat) = ⟨[], L.set s 1, Lg ++ [⟨1, 1, 3 * (s : Int) + 1⟩]⟩ := by
  have : M.lockOk ⟨[], L, Lg⟩ 1 (s : Nat) = true := by
    unfold M.lockOk
    rw [hasL_16 hl hs, Int.toNat_natCast, h0]
    decide
  unfold M.lock
  rw [if_pos this, Int.toNat_natCast]
  rfl
theorem set_16 (hl : L.length = 16) (hs : s < 16) (v : Int) : (L.set s v).length = 16 ∧ (L.set s v).getD s 0 = v := by
  refine ⟨by rw [List.length_set]; exact hl, ?_⟩
  rw [List.getD_eq_getElem?_getD, List.getElem?_set_self (by omega)]; rfl
theorem holder_16 (hl : L.length = 16) (hs : s < 16) : M.holder ⟨[], L, Lg⟩ (s : Nat) = L.getD s 0 := by
  unfold M.holder
  rw [if_pos (hasL_16 hl hs), Int.toNat_natCast]
theorem may_held {n : Nat} {fl : Kl (Int × Bool)} (hl : L.length = 16) (hs : s < 16) (hn : s < n) (h1 : L.getD s 0 = 1) : Tb.may ⟨⟨[], L, Lg⟩, n, fl⟩ 1 (s : Nat) = 0 := by
  unfold Tb.may
  rw [if_neg (by simp only; omega), if_neg]
  simp only
  rw [holder_16 hl hs, h1]
  decide
theorem touch_16 : M.touch ⟨[], L, Lg⟩ 1 6 (s : Nat) = (if (s : Int) ≤ 1099511627776 then ⟨[], L, Lg ++ [⟨1, 6, 3 * (s : Int) + 2⟩]⟩ else ⟨[], L, Lg⟩) := by
  unfold M.touch
  by_cases h : (s : Int) ≤ 1099511627776
  · rw [if_pos ⟨by omega, h⟩, if_pos h]; rfl
  · rw [if_neg (fun q => h q.2), if_neg h]
theorem unlock_held (hl : L.length = 16) (hs : s < 16) (h1 : L.getD s 0 = 1) : M.unlock ⟨[], L, Lg⟩ 1 (s : Nat) = ⟨[], L.set s (-1), Lg ++ [⟨1, 2, 3 * (s : Int) + 1⟩]⟩ := by
  have : M.unlockE ⟨[], L, Lg⟩ 1 (s : Nat) = 0 := by
    unfold M.unlockE
    rw [if_pos (hasL_16 hl hs), Int.toNat_natCast, if_pos ⟨h1, by decide⟩]
  unfold M.unlock
  rw [if_pos this, Int.toNat_natCast]
  rfl
end
/-- All mutexes are free. -/
structure Free (n j : Nat) (t : Tb) : Prop where
  n : t.n = n
  rise : Rises (keysL t.fl)
  kin : ∀ k ∈ keysL t.fl, k.In
  few : t.fl.length ≤ j
  W : t.m.W = []
  L : t.m.L = free16
  Lg : t.m.Lg.length ≤ 3 * j
theorem Free.ok {n j : Nat} {t : Tb} (h : Free n j t) (hn : n ∈ pows) (hj : j ≤ 100) : t.Ok :=
  ⟨by rw [h.n]; exact hn, h.rise, h.kin, by have := h.few; omega, ⟨by rw [h.W]; decide, by rw [h.L, free16_len]; decide, by have := h.Lg; omega⟩⟩
theorem Free.may {n j : Nat} {t : Tb} (h : Free n j t) (th s : Int) : t.may th s = if s < 0 ∨ (n : Int) ≤ s then 1 else 13 := by
  unfold Tb.may
  rw [h.n]
  by_cases hs : s < 0 ∨ (n : Int) ≤ s
  · rw [if_pos hs, if_pos hs]
  · rw [if_neg hs, if_neg hs, if_pos]
    by_cases h0 : th < 0
    · exact .inl h0
    · refine .inr (fun e => h0 ?_)
      have hh : t.m.holder s = -1 := by
        unfold M.holder
        split
        · rename_i hl
          simp only [M.hasL, h.L, free16_len, decide_eq_true_eq] at hl
          rw [h.L]
          exact free16_get (by omega)
        · rfl
      omega
theorem keysL_putL {l : Kl (Int × Bool)} {k : Ky} {x : Int × Bool} (hk : k.In) (h : ∀ y ∈ keysL l, y.In) : ∀ y ∈ keysL (putL l k x), y.In := fun y hy => by
  rw [keysL_put] at hy
  rcases List.mem_append.1 hy with hy | hy
  · exact h y (List.mem_filter.1 hy).1
  · rcases List.mem_cons.1 hy with rfl | hy
    · exact hk
    · exact h y (List.mem_filter.1 hy).1
theorem length_putL (l : Kl (Int × Bool)) (k : Ky) (x : Int × Bool) (hr : Rises (keysL l)) : (putL l k x).length ≤ l.length + 1 := by
  cases h : getL l k with
  | none => rw [length_put_new h]; exact Nat.le_refl _
  | some y => rw [length_put_old hr h]; omega
/-- A flow is put, under its stripe's mutex, and the mutex is free again. -/
theorem Free.round {n j : Nat} {t : Tb} (h : Free n j t) (hn : n ∈ pows) (h16 : n ≤ 16) (k : Ky) (hk : k.In) (x : Int) (tu : Bool) :
    ∃ t1 t2 t3 : Tb, (⟨t.m.lock 1 (t.of k : Nat), t.n, t.fl⟩ : Tb) = t1 ∧ t1.put 1 k x tu = t2 ∧ (⟨t2.m.unlock 1 (t.of k : Nat), t2.n, t2.fl⟩ : Tb) = t3 ∧ t1.may 1 (t1.of k : Nat) = 0 ∧ (j ≤ 99 → t1.Ok) ∧ (j ≤ 99 → t2.Ok) ∧ Free n (j + 1) t3 := by
  obtain ⟨⟨W, L, Lg⟩, tn, fl⟩ := t
  obtain ⟨e, hr, hki, hfe, hW, hL, hLg⟩ := h
  simp only at e hr hki hfe hW hL hLg
  subst e hW
  have hs : stripeF k tn < tn := stripeF_lt k (pows_pos hn).1
  obtain ⟨s, hsf⟩ : ∃ s, stripeF k tn = s := ⟨_, rfl⟩
  have hof : ∀ m fl, Tb.of ⟨m, tn, fl⟩ k = s := fun m fl => by unfold Tb.of; exact hsf
  rw [hsf] at hs
  clear hsf
  have hs16 : s < 16 := by omega
  have hl : L.length = 16 := by rw [hL]; exact free16_len
  have h0 : L.getD s 0 = -1 := by rw [hL]; exact free16_get hs16
  have hss : (L.set s 1).set s (-1) = L := by rw [hL]; exact free16_set hs16
  obtain ⟨g1, g2⟩ := set_16 hl hs16 1
  have hp1 : Tb.put ⟨⟨[], L.set s 1, Lg ++ [⟨1, 1, 3 * (s : Int) + 1⟩]⟩, tn, fl⟩ 1 k x tu = ⟨⟨[], L.set s 1, Lg ++ [⟨1, 1, 3 * (s : Int) + 1⟩] ++ [⟨1, 6, 3 * (s : Int) + 2⟩]⟩, tn, putL fl k (x, tu)⟩ := by
    unfold Tb.put
    rw [hof, may_held g1 hs16 hs g2, if_pos rfl, touch_16, if_pos (by omega)]
  refine ⟨⟨⟨[], L.set s 1, Lg ++ [⟨1, 1, 3 * (s : Int) + 1⟩]⟩, tn, fl⟩, ⟨⟨[], L.set s 1, Lg ++ [⟨1, 1, 3 * (s : Int) + 1⟩] ++ [⟨1, 6, 3 * (s : Int) + 2⟩]⟩, tn, putL fl k (x, tu)⟩, ⟨⟨[], L, Lg ++ [⟨1, 1, 3 * (s : Int) + 1⟩] ++ [⟨1, 6, 3 * (s : Int) + 2⟩] ++ [⟨1, 2, 3 * (s : Int) + 1⟩]⟩, tn, putL fl k (x, tu)⟩, ?_, hp1, ?_, ?_, fun hj => ?_, fun hj => ?_, ?_⟩
  · rw [hof]
    simp only
    rw [lock_free hl hs16 h0]
  · rw [hof]
    simp only
    rw [unlock_held g1 hs16 g2, hss]
  · rw [hof]; exact may_held g1 hs16 hs g2
  · exact ⟨hn, hr, hki, Nat.le_trans hfe (by omega), ⟨(by decide : (0 : Nat) < 1073741824), by show (L.set s 1).length < _; omega, by show (Lg ++ [_]).length < _; simp; omega⟩⟩
  · exact ⟨hn, rises_put hr k _, keysL_putL hk hki, Nat.le_trans (length_putL fl k (x, tu) hr) (by omega), ⟨(by decide : (0 : Nat) < 1073741824), by show (L.set s 1).length < _; omega, by show (Lg ++ [_] ++ [_]).length < _; simp; omega⟩⟩
  · exact ⟨rfl, rises_put hr k _, keysL_putL hk hki, Nat.le_trans (length_putL fl k (x, tu) hr) (by omega), rfl, hL, by show (Lg ++ [_] ++ [_] ++ [_]).length ≤ _; simp; omega⟩
theorem Free.of_may {n j : Nat} {t : Tb} (h : Free n j t) (hn : n ∈ pows) (th : Int) (k : Ky) : t.may th (t.of k : Nat) = 13 := by
  have hlt : t.of k < n := by have := stripeF_lt k (pows_pos hn).1; unfold Tb.of; rw [h.n]; exact this
  rw [h.may, if_neg (by omega)]
theorem Free.same {n j : Nat} {t : Tb} (h : Free n j t) (hn : n ∈ pows) (th : Int) (k : Ky) (x : Int) (tu : Bool) :
    t.find th k = t ∧ t.findR th k = .tuple #[.int .i64 0, .bool false, .bool false, .int .i64 13] ∧ t.put th k x tu = t ∧ t.remove th k = t ∧ t.removeE th k = 13 := by
  have e := h.of_may hn th k
  unfold Tb.find Tb.findR Tb.put Tb.remove Tb.removeE
  rw [e]
  exact ⟨if_neg (by decide), if_neg (by decide), if_neg (by decide), if_neg (by decide), if_neg (by decide)⟩
theorem Free.may_ne {n j : Nat} {t : Tb} (h : Free n j t) (th s : Int) : t.may th s ≠ 0 := by
  rw [h.may]
  split <;> decide
theorem Free.new {n : Nat} (hn : n ∈ pows) : Free n 0 ⟨newM 0 16, n, []⟩ := ⟨rfl, List.Pairwise.nil, (fun k hk => nomatch hk), Nat.le_refl _, rfl, rfl, Nat.le_refl _⟩
theorem shift_val {s n : Nat} (h : n = 2 ^ (s % 5)) (h16 : n ≤ 16) : wrap64 ((2 : Int) ^ (s % 5)) = (n : Int) := by
  have e : ((2 : Int) ^ (s % 5)) = ((2 ^ (s % 5) : Nat) : Int) := by push_cast; rfl
  rw [e, ← h]
  unfold wrap64
  omega
theorem shift_pow (s : Nat) : ∃ n, n ∈ pows ∧ n ≤ 16 ∧ n = 2 ^ (s % 5) := by
  have h5 : s % 5 < 5 := Nat.mod_lt _ (by decide)
  generalize s % 5 = q at *
  obtain rfl | rfl | rfl | rfl | rfl : q = 0 ∨ q = 1 ∨ q = 2 ∨ q = 3 ∨ q = 4 := by omega
  all_goals exact ⟨_, by decide, by decide, rfl⟩
end Go.Proofs.Ytahgapkecabnjaa
