/- Arguments that are structs or arrays, of whatever depth, read leaf by leaf. -/
import Derived.ProofKit
import Derived.OpenShut
import Derived.Deep.Slices
import Derived.Test.YtahgapkecabnjaaC08
namespace Go.Proofs.Ytahgapkecabnjaa
set_option linter.unusedSimpArgs false
set_option linter.unusedVariables false
open Go Go.RowKit Go.ChangeShapes Go.WideShapes

/-- A struct's type or an array's. -/
def rowType (P : Program) (t : TypeId) : Bool := match P.underlying t with | some (.struct _) => true | some (.array _ _) => true | _ => false

/-- The types of a type's cells, in order, struct by struct and array by array. -/
def fieldLeafs (P : Program) (rec : TypeId → Option (List TypeId)) : List Field → Nat → Option (List TypeId)
  | [], _ => some []
  | f :: r, off => if f.offset = off then (rec f.type).bind fun l => if P.cellsOf f.type = l.length then (fieldLeafs P rec r (off + l.length)).map (l ++ ·) else none else none
def leafs (P : Program) : Nat → TypeId → Option (List TypeId)
  | 0, _ => none
  | d + 1, t =>
    match P.underlying t with
    | some (.struct fs) => fieldLeafs P (leafs P d) fs.toList 0
    | some (.array n e) => (leafs P d e).bind fun l => if P.cellsOf e = l.length then some (List.replicate n l).flatten else none
    | _ => some [t]

section
variable {H : Type} {enc : TypeId × Value → H} {P : Program} {w : World} {base : Nat} {sp : Nat → Bool} {held : Bool}

/-- A cell that reads as a value of its type. -/
def Leaf (enc : TypeId × Value → H) (P : Program) (w : World) (base : Nat) (sp : Nat → Bool) (held : Bool) (t : TypeId) (v : Value) : Prop := ∃ fuel y, DataW.trod enc P w base sp held fuel t [v] = some y

/-- Each cell reads as its leaf. -/
def Leafs (enc : TypeId × Value → H) (P : Program) (w : World) (base : Nat) (sp : Nat → Bool) (held : Bool) : List TypeId → List Value → Prop
  | [], [] => True
  | t :: ts, v :: vs => Leaf enc P w base sp held t v ∧ Leafs enc P w base sp held ts vs
  | _, _ => False

theorem Leafs.append : ∀ {ts : List TypeId} {vs : List Value} {ts' : List TypeId} {vs' : List Value}, Leafs enc P w base sp held ts vs → Leafs enc P w base sp held ts' vs' → Leafs enc P w base sp held (ts ++ ts') (vs ++ vs')
  | [], [], _, _, _, h => h
  | t :: ts, v :: vs, _, _, h, h' => ⟨h.1, Leafs.append h.2 h'⟩
  | [], _ :: _, _, _, h, _ => h.elim
  | _ :: _, [], _, _, h, _ => h.elim

theorem leafs_fields {rec : TypeId → Option (List TypeId)} {m : Nat} {cs : List Value}
    (hrec : ∀ t ts cs, rec t = some ts → cs.length = ts.length → (∃ x, DataW.trod enc P w base sp held m t cs = some x) → Leafs enc P w base sp held ts cs) :
    ∀ (fs : List Field) (off : Nat) (ts : List TypeId), fieldLeafs P rec fs off = some ts → off + ts.length ≤ cs.length →
      (∀ f ∈ fs, ∃ x, DataW.trod enc P w base sp held m f.type ((cs.drop f.offset).take (P.cellsOf f.type)) = some x) → Leafs enc P w base sp held ts ((cs.drop off).take ts.length)
  | [], off, ts, h, _, _ => by
    simp only [fieldLeafs, Option.some.injEq] at h
    subst h
    simp [Leafs]
  | f :: r, off, ts, h, hl, hf => by
    simp only [fieldLeafs] at h
    split at h
    · rename_i hoff
      obtain ⟨l, h1, h2⟩ := Option.bind_eq_some_iff.1 h
      split at h2
      · rename_i hc
        obtain ⟨l2, h3, rfl⟩ := Option.map_eq_some_iff.1 h2
        rw [List.length_append] at hl
        have e1 := leafs_fields hrec r (off + l.length) l2 h3 (by omega) (fun f' hf' => hf f' (by simp [hf']))
        have e0 : Leafs enc P w base sp held l ((cs.drop off).take l.length) := by
          have := hf f (by simp)
          rw [hoff, hc] at this
          exact hrec f.type l _ h1 (by simp; omega) this
        have : (cs.drop off).take (l ++ l2).length = (cs.drop off).take l.length ++ (cs.drop (off + l.length)).take l2.length := by
          rw [List.length_append, List.take_add, List.drop_drop]
        rw [this]
        exact e0.append e1
      · cases h2
    · cases h

theorem leafs_elems {l : List TypeId} {cs : List Value} : ∀ (n o : Nat), o + n * l.length ≤ cs.length → (∀ i, i < n → Leafs enc P w base sp held l ((cs.drop (o + i * l.length)).take l.length)) →
    Leafs enc P w base sp held (List.replicate n l).flatten ((cs.drop o).take (n * l.length))
  | 0, o, _, _ => by simp [Leafs]
  | n + 1, o, hl, h => by
    rw [List.replicate_succ, List.flatten_cons]
    have e0 := h 0 (by omega)
    rw [Nat.zero_mul, Nat.add_zero] at e0
    have hmul : (n + 1) * l.length = l.length + n * l.length := by rw [Nat.add_mul, Nat.one_mul, Nat.add_comm]
    have e1 := leafs_elems (l := l) (cs := cs) n (o + l.length) (by omega) (fun i hi => by
      have := h (i + 1) (by omega)
      have hm2 : o + (i + 1) * l.length = o + l.length + i * l.length := by rw [Nat.add_mul, Nat.one_mul]; omega
      rwa [hm2] at this)
    rw [hmul, List.take_add, List.drop_drop]
    exact e0.append e1

theorem leafs_of_trod : ∀ (d : Nat) (t : TypeId) (ts : List TypeId) (cs : List Value) (fuel : Nat), leafs P d t = some ts → cs.length = ts.length → (∃ x, DataW.trod enc P w base sp held fuel t cs = some x) → Leafs enc P w base sp held ts cs
  | 0, _, _, _, _, h, _, _ => by simp [leafs] at h
  | d + 1, t, ts, cs, fuel, h, hl, ⟨x, hx⟩ => by
    unfold leafs at h
    split at h
    · rename_i fs hu
      obtain ⟨xs, m, rfl, _, hlen, hxs, hf⟩ := DataW.trod_struct hu hx
      have := leafs_fields (cs := cs) (m := m) (fun t ts cs h1 h2 h3 => leafs_of_trod d t ts cs m h1 h2 h3) fs.toList 0 ts h (by omega) (fun f hfm => by
        obtain ⟨i, hi, rfl⟩ := List.getElem_of_mem hfm
        have := hf i fs.toList[i] (by simp at hi ⊢)
        have hi2 : i < xs.length := by rw [hxs]; simpa using hi
        exact ⟨xs[i], by rw [this, List.getElem?_eq_getElem hi2]⟩)
      rw [List.drop_zero, ← hl, List.take_length] at this
      exact this
    · rename_i n e hu
      obtain ⟨l, h1, h2⟩ := Option.bind_eq_some_iff.1 h
      split at h2
      · rename_i hc
        cases h2
        obtain ⟨xs, m, rfl, _, hlen, hxs, hf⟩ := DataW.trod_array hu hx
        have htl : (List.replicate n l).flatten.length = n * l.length := by simp
        rw [htl] at hl
        have := leafs_elems (cs := cs) (l := l) n 0 (by omega) (fun i hi => by
          have h4 := hf i hi
          rw [hc] at h4
          have hi2 : i < xs.length := by omega
          rw [List.getElem?_eq_getElem hi2] at h4
          rw [Nat.zero_add]
          refine leafs_of_trod d e l _ m h1 ?_ ⟨_, h4⟩
          have : (i + 1) * l.length ≤ n * l.length := Nat.mul_le_mul_right _ (by omega)
          rw [Nat.add_mul, Nat.one_mul] at this
          simp; omega)
        rw [List.drop_zero, ← hl, List.take_length] at this
        exact this
      · cases h2
    · cases h
      match cs, hl with
      | [v], _ => exact ⟨⟨fuel, x, hx⟩, trivial⟩

theorem Leaf.int {t : TypeId} {k : IntKind} {v : Value} (h : Leaf enc P w base sp held t v) (ht : P.underlying t = some (.int k)) : ∃ n, v = .int k n ∧ (Lit.int k n).wf = true := by
  obtain ⟨fuel, y, hy⟩ := h
  cases fuel with
  | zero => simp [DataW.trod] at hy
  | succ m =>
    unfold DataW.trod at hy
    rw [ht] at hy
    cases v <;> simp at hy
    obtain ⟨⟨rfl, hw⟩, _⟩ := hy
    exact ⟨_, rfl, hw⟩
theorem Leaf.bool {t : TypeId} {v : Value} (h : Leaf enc P w base sp held t v) (ht : P.underlying t = some .bool) : ∃ b, v = .bool b := by
  obtain ⟨fuel, y, hy⟩ := h
  cases fuel with
  | zero => simp [DataW.trod] at hy
  | succ m =>
    unfold DataW.trod at hy
    rw [ht] at hy
    cases v <;> simp at hy
    exact ⟨_, rfl⟩

theorem open_leafs {d : Nat} {t : TypeId} {ts : List TypeId} {v : Value} {r : Reach} {b : Nat} {x : DataW H} {ps : List MemPlace} (hrow : rowType P t = true)
    (hl : leafs P d t = some ts) (hc : P.cellsOf t = ts.length) (hv : Value.okWide P w r b t v) (h : DataW.Trod enc P w base sp held t v x ps) : ∃ cs : Array Value, v = .agg cs ∧ Leafs enc P w base sp held ts cs.toList := by
  have : ∃ cs, v = .agg cs ∧ cs.size = P.cellsOf t := by
    unfold Value.okWide at hv
    split at hv
    · obtain ⟨cs, h1, h2, _⟩ := hv; exact ⟨cs, h1, h2⟩
    · obtain ⟨cs, h1, h2, _⟩ := hv; exact ⟨cs, h1, h2⟩
    · rename_i h3 h4
      exfalso
      unfold rowType at hrow
      split at hrow
      · exact h3 _ ‹_›
      · exact h4 _ _ ‹_›
      · cases hrow
  obtain ⟨cs, rfl, hs⟩ := this
  obtain ⟨fuel, hf⟩ := h
  exact ⟨cs, rfl, leafs_of_trod d t ts cs.toList fuel hl (by rw [Array.length_toList, hs, hc]) ⟨_, hf⟩⟩
end
end Go.Proofs.Ytahgapkecabnjaa
/- Slices of structs among the arguments, opened: each element's cells, leaf by leaf. -/
namespace Go.Proofs.Ytahgapkecabnjaa
set_option linter.unusedSimpArgs false
set_option linter.unusedVariables false
open Go Go.RowKit Go.ChangeShapes Go.WideShapes

theorem open_slice_leafs {H : Type} {enc : TypeId × Value → H} {P : Program} {W : World} {base b : Nat} {held : Bool} {d : Nat} {t e : TypeId} {ts : List TypeId} {v : Value} {x : DataW H} {ps : List MemPlace}
    (ht : P.underlying t = some (.slice e)) (hl : leafs P d e = some ts) (hc : P.cellsOf e = ts.length) (hv : Value.okWide P W .any base t v) (h : DataW.Trod enc P W b (fun _ => true) held t v x ps) :
    ∃ a len cap, v = .slice a len cap ∧ len ≤ maxLen ∧ ∀ j, j < len → ∃ ad cs, a = some ad ∧ (∀ k, k < ts.length → W.cell? ((ad.add (j * ts.length)).add k) = cs[k]?) ∧ cs.length = ts.length ∧ Leafs enc P W b (fun _ => true) held ts cs := by
  obtain ⟨a, len, cap, rfl⟩ := WideShapes.okWide_slice ht hv
  obtain ⟨fuel, hf⟩ := h
  rcases Go.Deep.open_slice ht hf with ⟨hcs, _⟩ | ⟨a', len', cap', m, n, D, Pl, hcs, hb, hle, hm, hmm, _, hx⟩
  · simp [Value.cells] at hcs
    obtain ⟨rfl, rfl, rfl⟩ := hcs
    exact ⟨none, 0, 0, rfl, by decide, fun j hj => absurd hj (by omega)⟩
  · simp [Value.cells] at hcs
    obtain ⟨rfl, rfl, rfl⟩ := hcs
    refine ⟨_, _, _, rfl, Nat.le_trans hle hm, fun j hj => ?_⟩
    obtain ⟨cs, h1, h2⟩ := hx j (by rw [hmm]; simp; omega)
    rw [hc] at h1
    obtain ⟨h3, h4, h5⟩ := World.cells?_some h1
    exact ⟨_, cs, rfl, h5, h4, leafs_of_trod d e ts cs n hl h4 ⟨_, h2⟩⟩
end Go.Proofs.Ytahgapkecabnjaa
/- What threads do, among the arguments, opened (layer 20). -/
namespace Go.Proofs.Ytahgapkecabnjaa
set_option linter.unusedSimpArgs false
set_option linter.unusedVariables false
open Go Go.RowKit Go.ChangeShapes Go.WideShapes

/-- Something that a thread does to a table. -/
structure Dt where
  kind : Int
  thread : Int
  at_ : Int
  k : Ky
  tu : Bool
def dtC (d : Dt) : List Value := [.int .u8 d.kind, .int .i64 d.thread, .int .i64 d.at_, .int .u32 d.k.a0, .int .u32 d.k.a1, .int .u16 d.k.p0, .int .u16 d.k.p1, .int .u8 d.k.pr, .bool d.tu]
structure DtOk (d : Dt) : Prop where
  kd : 0 ≤ d.kind ∧ d.kind ≤ 255
  th : -9223372036854775808 ≤ d.thread ∧ d.thread ≤ 9223372036854775807
  at_ : -9223372036854775808 ≤ d.at_ ∧ d.at_ ≤ 9223372036854775807
  k : d.k.In
theorem wfn_u32 {z : Int} (h : (Lit.int .u32 z).wf = true) : ∃ n : Nat, z = n ∧ n < 4294967296 := by
  have h2 : IntKind.u32.min ≤ z ∧ z ≤ IntKind.u32.max := by simpa [Lit.wf] using h
  have e1 : IntKind.u32.min = 0 := rfl
  have e2 : IntKind.u32.max = 4294967295 := rfl
  exact ⟨z.toNat, by omega, by omega⟩
theorem wfn_u16 {z : Int} (h : (Lit.int .u16 z).wf = true) : ∃ n : Nat, z = n ∧ n < 65536 := by
  have h2 : IntKind.u16.min ≤ z ∧ z ≤ IntKind.u16.max := by simpa [Lit.wf] using h
  have e1 : IntKind.u16.min = 0 := rfl
  have e2 : IntKind.u16.max = 65535 := rfl
  exact ⟨z.toNat, by omega, by omega⟩
theorem wfn_u8 {z : Int} (h : (Lit.int .u8 z).wf = true) : ∃ n : Nat, z = n ∧ n < 256 := by
  have h2 : IntKind.u8.min ≤ z ∧ z ≤ IntKind.u8.max := by simpa [Lit.wf] using h
  have e1 : IntKind.u8.min = 0 := rfl
  have e2 : IntKind.u8.max = 255 := rfl
  exact ⟨z.toNat, by omega, by omega⟩
theorem wfi_64 {z : Int} (h : (Lit.int .i64 z).wf = true) : -9223372036854775808 ≤ z ∧ z ≤ 9223372036854775807 := by
  have h2 : IntKind.i64.min ≤ z ∧ z ≤ IntKind.i64.max := by simpa [Lit.wf] using h
  have e1 : IntKind.i64.min = -9223372036854775808 := rfl
  have e2 : IntKind.i64.max = 9223372036854775807 := rfl
  omega
def dtTs : List TypeId := [5, 3, 3, 23, 23, 25, 25, 5, 4]
section
variable {H : Type} {enc : TypeId × Value → H} {w : World} {base : Nat} {sp : Nat → Bool} {held : Bool}
theorem dt_of_leafs {l : List Value} (h : Leafs enc Try.prog w base sp held dtTs l) : ∃ d : Dt, l = dtC d ∧ DtOk d := by
  match l, h with
  | [c0, c1, c2, c3, c4, c5, c6, c7, c8], ⟨h0, h1, h2, h3, h4, h5, h6, h7, h8, _⟩ =>
    obtain ⟨n0, rfl, w0⟩ := h0.int Try.underlying5
    obtain ⟨n1, rfl, w1⟩ := h1.int Try.underlying3
    obtain ⟨n2, rfl, w2⟩ := h2.int Try.underlying3
    obtain ⟨n3, rfl, w3⟩ := h3.int Try.underlying23
    obtain ⟨n4, rfl, w4⟩ := h4.int Try.underlying23
    obtain ⟨n5, rfl, w5⟩ := h5.int Try.underlying25
    obtain ⟨n6, rfl, w6⟩ := h6.int Try.underlying25
    obtain ⟨n7, rfl, w7⟩ := h7.int Try.underlying5
    obtain ⟨n8, rfl⟩ := h8.bool Try.underlying4
    obtain ⟨m0, rfl, b0⟩ := wfn_u8 w0
    obtain ⟨m3, rfl, b3⟩ := wfn_u32 w3
    obtain ⟨m4, rfl, b4⟩ := wfn_u32 w4
    obtain ⟨m5, rfl, b5⟩ := wfn_u16 w5
    obtain ⟨m6, rfl, b6⟩ := wfn_u16 w6
    obtain ⟨m7, rfl, b7⟩ := wfn_u8 w7
    exact ⟨⟨m0, n1, n2, ⟨m3, m4, m5, m6, m7⟩, n8⟩, rfl, ⟨⟨(show (0 : Int) ≤ (m0 : Int) by omega), (show (m0 : Int) ≤ 255 by omega)⟩, wfi_64 w1, wfi_64 w2, ⟨b3, b4, b5, b6, b7⟩⟩⟩
theorem dt_row : rowType Try.prog 30 = true := by kernel_rfl
theorem dt_leafs : leafs Try.prog 4 30 = some dtTs := by kernel_rfl
theorem dt_cells : Try.prog.cellsOf 30 = dtTs.length := by kernel_rfl
set_option maxRecDepth 100000 in
theorem open_do20 {v : Value} {r : Reach} {b : Nat} {x : DataW H} {ps : List MemPlace} (hv : Value.okWide Try.prog w r b 30 v) (h : DataW.Trod enc Try.prog w base sp held 30 v x ps) : ∃ d, v = .agg (dtC d).toArray ∧ DtOk d := by
  obtain ⟨cs, rfl, hl⟩ := open_leafs dt_row dt_leafs dt_cells hv h
  obtain ⟨d, hd, ok⟩ := dt_of_leafs hl
  exact ⟨d, congrArg Value.agg (by rw [← hd]), ok⟩
/-- The cells of one. -/
def DtAt (w : World) (ad : Addr) (d : Dt) : Prop := ∀ i v, (dtC d)[i]? = some v → w.cell? (ad.add i) = some v
def RdDts (w : World) (a : Option Addr) (len : Nat) : Prop := len ≤ maxLen ∧ ∀ j, j < len → ∃ ad d, a = some ad ∧ DtAt w (ad.add (j * 9)) d ∧ DtOk d
theorem DtAt.below {w w' : World} {ad : Addr} {d : Dt} (h : DtAt w ad d) (k : Below w.heap.size w w') : DtAt w' ad d := fun i v hv => (k.cell (World.block_lt_of_cell? w _ (h i v hv))).trans (h i v hv)
set_option maxRecDepth 100000 in
theorem open_dos20 {W : World} {b : Nat} {v : Value} {x : DataW H} {ps : List MemPlace}
    (hv : Value.okWide Try.prog W .any base 22 v) (h : DataW.Trod enc Try.prog W b (fun _ => true) held 22 v x ps) :
    ∃ a len cap, v = .slice a len cap ∧ RdDts W a len := by
  obtain ⟨a, len, cap, rfl, hm, hx⟩ := open_slice_leafs (d := 4) (ts := dtTs) Try.underlying22 dt_leafs dt_cells hv h
  refine ⟨a, len, cap, rfl, hm, fun j hj => ?_⟩
  obtain ⟨ad, cs, rfl, h1, h2, h3⟩ := hx j hj
  obtain ⟨d, rfl, ok⟩ := dt_of_leafs h3
  exact ⟨ad, d, rfl, fun i v hi => (h1 i (List.getElem?_eq_some_iff.1 hi).1).trans hi, ok⟩
end
set_option maxHeartbeats 1000000 in
theorem exec_dtAt {o : Oper} {ev : Operand → Value} {w : World} (x y : Operand) (ho : o.op = .indexAddr 22 x y) {ad : Addr} {n c j : Nat} (hx : ev x = .slice (some ad) n c) (hy : ev y = .int .i64 (j : Nat)) (hj : j < n) : (execOp ev o).run Try.prog w = .ok (.value (.pointer (some (ad.add (j * 9))))) w := by
  unfold execOp
  have hni : (0 : Int) ≤ (j : Int) := by omega
  have hnl : (j : Int) < (n : Int) := by omega
  simp only [ho, hx, hy]
  go_simp
end Go.Proofs.Ytahgapkecabnjaa
/- The reference's memory: its shape; say, More, Holder. -/
namespace Go.Proofs.Ytahgapkecabnjaa
set_option linter.unusedSimpArgs false
set_option linter.unusedVariables false
open Go Go.RowKit

def lockC (L : List Int) : List Value := L.map fun h => .int .u64 (h + 1)
/-- The holders of a memory's mutexes. -/
def M.held (m : M) : Prop := ∀ h ∈ m.L, -1 ≤ h ∧ h ≤ 9223372036854775807

structure RMemAt (w : World) (g : Nat) (vw vl vg : Value) (W L : List Int) (Lg : List Acc) : Prop where
  blk : w.heap[g]? = some (.cells #[vw, vl, vg] 66 (0, 0))
  words : Row w 93 1 vw W.length (W.map (.int .u64))
  locks : Row w 93 1 vl L.length (lockC L)
  log : Row w 99 3 vg Lg.length (logC Lg)
  two : ∀ b, vw.ownBlock = some b → vl.ownBlock ≠ some b

def RMem (w : World) (g : Nat) (F : Nat → Prop) (m : M) : Prop := ∃ vw vl vg, RMemAt w g vw vl vg m.W m.L m.Lg ∧ F = memFoot g vw vl vg

theorem RMemAt.lt {w : World} {g : Nat} {vw vl vg : Value} {W L : List Int} {Lg : List Acc} (h : RMemAt w g vw vl vg W L Lg) : g < w.heap.size := (Array.getElem?_eq_some_iff.1 h.blk).1
theorem RMem.foot_lt {w : World} {g : Nat} {F : Nat → Prop} {m : M} (h : RMem w g F m) : ∀ i, F i → i < w.heap.size := by
  obtain ⟨vw, vl, vg, hm, rfl⟩ := h
  rintro i (rfl | h1 | h1 | h1)
  · exact hm.lt
  · exact row_lt hm.words h1
  · exact row_lt hm.locks h1
  · exact row_lt hm.log h1
theorem RMem.turn {w w' : World} {g : Nat} {F G : Nat → Prop} {m : M} (h : RMem w g F m) (t : Turn G w w') (hs : Sep F G) : RMem w' g F m := by
  obtain ⟨vw, vl, vg, hm, rfl⟩ := h
  exact ⟨vw, vl, vg, ⟨(t.block g hm.lt (hs g (.inl rfl))).trans hm.blk, row_turn hm.words t (fun b hb => hs b (.inr (.inl hb))), row_turn hm.locks t (fun b hb => hs b (.inr (.inr (.inl hb)))),
    row_turn hm.log t (fun b hb => hs b (.inr (.inr (.inr hb)))), hm.two⟩, rfl⟩
theorem RMemAt.cells {w : World} {g : Nat} {vw vl vg : Value} {W L : List Int} {Lg : List Acc} (h : RMemAt w g vw vl vg W L Lg) :
    w.cell? ⟨g, 0, none⟩ = some vw ∧ w.cell? ⟨g, 1, none⟩ = some vl ∧ w.cell? ⟨g, 2, none⟩ = some vg ∧ (∀ o, w.frozen? ⟨g, o, none⟩ = false) := by
  refine ⟨?_, ?_, ?_, fun o => ?_⟩ <;> simp [World.cell?, World.frozen?, h.blk]
theorem RMemAt.apart {w : World} {g : Nat} {vw vl vg : Value} {W L : List Int} {Lg : List Acc} (h : RMemAt w g vw vl vg W L Lg) :
    (∀ b, vw.ownBlock = some b → b ≠ g ∧ vl.ownBlock ≠ some b ∧ vg.ownBlock ≠ some b) ∧ (∀ b, vl.ownBlock = some b → b ≠ g ∧ vg.ownBlock ≠ some b) ∧ (∀ b, vg.ownBlock = some b → b ≠ g) := by
  have ne : ∀ {b : Nat} {c c' : Array Value} {e e' : TypeId}, w.heap[b]? = some (.cells c e (0, 0)) → w.heap[b]? = some (.cells c' e' (0, 0)) → e = e' := fun h1 h2 => by
    rw [h1] at h2; injection h2 with h2; injection h2
  refine ⟨fun b hb => ⟨?_, h.two b hb, ?_⟩, fun b hb => ⟨?_, ?_⟩, fun b hb => ?_⟩
  · rintro rfl
    obtain ⟨c, hc⟩ := row_type h.words hb
    exact absurd (ne hc h.blk) (by decide)
  · intro h2
    obtain ⟨c, hc⟩ := row_type h.words hb
    obtain ⟨c', hc'⟩ := row_type h.log h2
    exact absurd (ne hc hc') (by decide)
  · rintro rfl
    obtain ⟨c, hc⟩ := row_type h.locks hb
    exact absurd (ne hc h.blk) (by decide)
  · intro h2
    obtain ⟨c, hc⟩ := row_type h.locks hb
    obtain ⟨c', hc'⟩ := row_type h.log h2
    exact absurd (ne hc hc') (by decide)
  · rintro rfl
    obtain ⟨c, hc⟩ := row_type h.log hb
    exact absurd (ne hc h.blk) (by decide)

theorem say_blk {w w1 : World} {g : Nat} {vw vl vg : Value} {W L : List Int} {Lg : List Acc} {o : Obj} (h : RMemAt w g vw vl vg W L Lg) (hg : (w.alloc o).grownBy w1 vg.ownBlock) : w1.heap[g]? = some (.cells #[vw, vl, vg] 66 (0, 0)) := by
  rw [hg.block g (by have := h.lt; simp; omega) (fun e => h.apart.2.2 g e.symm rfl), Below.heap_alloc w o g h.lt]
  exact h.blk

theorem say_end {w w1 : World} {g : Nat} {vw vl vg v' : Value} {W L : List Int} {Lg : List Acc} {o : Obj} {x : Acc} (h : RMemAt w g vw vl vg W L Lg) (hg : (w.alloc o).grownBy w1 vg.ownBlock)
    (hown : w1.ownsRow 0 99 3 v' (Lg.length + 1) (logC Lg ++ accC x)) (hloc : v'.ownBlock = vg.ownBlock ∨ v'.ownBlock = some (w.alloc o).heap.size) :
    RMemAt (w1.setCell ⟨g, 2, none⟩ v') g vw vl v' W L (Lg ++ [x]) ∧ Turn (fun i => i = g ∨ vg.ownBlock = some i) w (w1.setCell ⟨g, 2, none⟩ v') ∧ (∀ b, v'.ownBlock = some b → vg.ownBlock = some b ∨ w.heap.size ≤ b) := by
  obtain ⟨a1, a2, a3⟩ := h.apart
  have hsz : (w.alloc o).heap.size = w.heap.size + 1 := by simp
  have hlt := h.lt
  have T1 : Turn (fun i => i = g ∨ vg.ownBlock = some i) w w1 := ((Turn.refl _ w).alloc o).grown hg (fun b hb => .inl (.inr hb))
  have hext : ∀ b, v'.ownBlock = some b → vg.ownBlock = some b ∨ w.heap.size ≤ b := fun b hb => by
    rcases hloc with e | e
    · exact .inl (by rw [← e]; exact hb)
    · rw [hb] at e; cases e; exact .inr (by omega)
  have keep : ∀ {b}, b ≠ g → (w1.setCell ⟨g, 2, none⟩ v').heap[b]? = w1.heap[b]? := fun hb => Below.heap_setCell _ _ _ _ hb
  refine ⟨⟨set_heap_row (say_blk h hg) v', ?_, ?_, ?_, h.two⟩, T1.setCell _ _ (.inl (.inl rfl)), hext⟩
  · exact row_of_block (row_turn h.words T1 (fun b hb hh => hh.elim (a1 b hb).1 (a1 b hb).2.2)) (fun b hb => keep (a1 b hb).1)
  · exact row_of_block (row_turn h.locks T1 (fun b hb hh => hh.elim (a2 b hb).1 (a2 b hb).2)) (fun b hb => keep (a2 b hb).1)
  · have e1 : (Lg ++ [x]).length = Lg.length + 1 := by simp
    have e2 : logC (Lg ++ [x]) = logC Lg ++ accC x := by simp [logC]
    rw [e1, e2]
    exact row_of_block hown (fun b hb => keep (fun e => (hext b hb).elim (fun e2 => a3 b e2 e) (fun e2 => by omega)))

/-- What a call leaves of the reference's memory. -/
def RMemPost (w : World) (g : Nat) (F : Nat → Prop) (r : Value) (m : M) (e : Ending) (w' : World) : Prop :=
  e = .returned r ∧ ∃ F', RMem w' g F' m ∧ Turn F w w' ∧ Ext w F F'
theorem rmemPost_same {w : World} {g : Nat} {F : Nat → Prop} {r : Value} {m : M} (h : RMem w g F m) : RMemPost w g F r m (.returned r) w := ⟨rfl, F, h, Turn.refl _ _, Ext.refl _ _⟩
theorem RMemPost.then {w w1 w2 : World} {g : Nat} {F : Nat → Prop} {r r' : Value} {m m' : M} {e : Ending} (h : RMemPost w g F r m e w1) (k : ∀ F', RMem w1 g F' m → Turn F w w1 → RMemPost w1 g F' r' m' (.returned r') w2) : RMemPost w g F r' m' (.returned r') w2 := by
  obtain ⟨_, F', hm, ht, he⟩ := h
  obtain ⟨_, F2, hm2, ht2, he2⟩ := k F' hm ht
  exact ⟨rfl, F2, hm2, ht.trans ht2 he, he.trans he2 ht.size⟩

set_option maxHeartbeats 1000000 in
set_option maxRecDepth 100000 in
theorem say_any (g : Nat) (F : Nat → Prop) (m : M) (t k p : Int) (w : World) (h : RMem w g F m) (hs : m.small) :
    Calls Try.prog 42 #[.pointer (some ⟨g, 0, none⟩), .int .i64 t, .int .i64 k, .int .i64 p] w (RMemPost w g F (.tuple #[]) (m.note t k p)) := by
  obtain ⟨vw, vl, vg, hm, rfl⟩ := h
  obtain ⟨c0, c1, c2, hfz⟩ := hm.cells
  obtain ⟨i0, hi, hz0, hz1, hz2⟩ := info_parts accInfo
  have H := Lib.hid hm
  have FZ := Lib.hid hfz
  have hroom := hs.2.2
  clear hm hfz
  go_enter Try.func42, Try.ntmps42
  have hown : Row (w.alloc (.cells #[.int .i64 t, .int .i64 k, .int .i64 p] 99)) 99 3 vg m.Lg.length (logC m.Lg) := H.out.log.alloc _
  go_wp2_with (at_builtin; refine wpList_append_own_at _ rfl _ _ 62 rfl 0 99 i0 (.agg #[.int .i64 0, .int .i64 0, .int .i64 0]) 3 24 Try.underlying62 hi hz0 hz1 hz2 rfl (by decide) _ _ _ rfl hown ⟨w.heap.size, 0, none⟩ 1 1 (accC ⟨t, k, p⟩) rfl rfl (cells_new _ (accC ⟨t, k, p⟩) _) (accC_one _) (by unfold maxLen; omega) (by omega) (Nat.zero_le _) ?_; intro v' w1 hown1 hgrow _ hloc; obtain ⟨a', c', rfl, _⟩ := row_form hown1; have HGB := Lib.hid (say_blk H.out hgrow); have hfz : w1.frozen? ⟨g, 2, none⟩ = false := (by simp [World.frozen?, HGB.out]); have hc2 : w1.cell? ⟨g, 2, none⟩ = some vg := (by simp [World.cell?, HGB.out]))
  go_end0
  obtain ⟨h1, h2, h3⟩ := say_end H.out hgrow hown1 hloc
  exact ⟨rfl, _, ⟨_, _, _, h1, rfl⟩, h2.mono (fun i hi => hi.elim .inl (fun hb => .inr (.inr (.inr hb)))), fun i hi => by
    rcases hi with hi | hi | hi | hi
    · exact .inl (.inl hi)
    · exact .inl (.inr (.inl hi))
    · exact .inl (.inr (.inr (.inl hi)))
    · exact (h3 i hi).imp (fun hb => .inr (.inr (.inr hb))) id⟩

theorem RMem.words {w : World} {g : Nat} {F : Nat → Prop} {m : M} (h : RMem w g F m) : ∃ a c, w.cell? ⟨g, 0, none⟩ = some (.slice a m.W.length c) ∧
    (∀ j, j < m.W.length → ∃ b, a = some ⟨b, 0, none⟩ ∧ F b ∧ w.cell? ⟨b, j, none⟩ = some (.int .u64 (m.W.getD j 0)) ∧ w.frozen? ⟨b, j, none⟩ = false) := by
  obtain ⟨vw, vl, vg, hm, rfl⟩ := h
  obtain ⟨a, c, rfl, hc⟩ := row_form hm.words
  refine ⟨a, c, hm.cells.1, fun j hj => ?_⟩
  obtain ⟨b, rfl, h1, h2⟩ := hc j (.int .u64 (m.W.getD j 0)) (by simp [List.getD_eq_getElem?_getD, List.getElem?_eq_getElem hj])
  exact ⟨b, rfl, .inr (.inl rfl), h1, h2⟩
theorem RMem.locks {w : World} {g : Nat} {F : Nat → Prop} {m : M} (h : RMem w g F m) : ∃ a c, w.cell? ⟨g, 1, none⟩ = some (.slice a m.L.length c) ∧
    (∀ j, j < m.L.length → ∃ b, a = some ⟨b, 0, none⟩ ∧ F b ∧ w.cell? ⟨b, j, none⟩ = some (.int .u64 (m.L.getD j 0 + 1)) ∧ w.frozen? ⟨b, j, none⟩ = false) := by
  obtain ⟨vw, vl, vg, hm, rfl⟩ := h
  obtain ⟨a, c, rfl, hc⟩ := row_form hm.locks
  refine ⟨a, c, hm.cells.2.1, fun j hj => ?_⟩
  obtain ⟨b, rfl, h1, h2⟩ := hc j (.int .u64 (m.L.getD j 0 + 1)) (by simp [lockC, List.getD_eq_getElem?_getD, List.getElem?_eq_getElem hj])
  exact ⟨b, rfl, .inr (.inr (.inl rfl)), h1, h2⟩

theorem RMem.setW {w : World} {g : Nat} {F : Nat → Prop} {m : M} (h : RMem w g F m) {j b : Nat} {a : Option Addr} {c : Nat} (hc : w.cell? ⟨g, 0, none⟩ = some (.slice a m.W.length c)) (ha : a = some ⟨b, 0, none⟩) (hj : j < m.W.length) (x : Int) :
    RMem (w.setCell ⟨b, j, none⟩ (.int .u64 x)) g F { m with W := m.W.set j x } := by
  obtain ⟨vw, vl, vg, hm, rfl⟩ := h
  obtain ⟨a1, a2, a3⟩ := hm.apart
  have e : vw = .slice a m.W.length c := Option.some.inj (hm.cells.1.symm.trans hc)
  have hb : vw.ownBlock = some b := by rw [e, ha]; rfl
  have keep : ∀ {i}, i ≠ b → (w.setCell ⟨b, j, none⟩ (.int .u64 x)).heap[i]? = w.heap[i]? := fun hi => Below.heap_setCell _ _ _ _ hi
  refine ⟨vw, vl, vg, ⟨(keep (a1 b hb).1.symm).trans hm.blk, ?_, row_of_block hm.locks (fun b' hb' => keep (fun e => by subst e; exact (a1 _ hb).2.1 hb')), row_of_block hm.log (fun b' hb' => keep (fun e => by subst e; exact (a1 _ hb).2.2 hb')), hm.two⟩, rfl⟩
  have := row_set hm.words hb j (.int .u64 x) (by simpa using hj)
  simpa [List.map_set] using this
theorem RMem.setL {w : World} {g : Nat} {F : Nat → Prop} {m : M} (h : RMem w g F m) {j b : Nat} {a : Option Addr} {c : Nat} (hc : w.cell? ⟨g, 1, none⟩ = some (.slice a m.L.length c)) (ha : a = some ⟨b, 0, none⟩) (hj : j < m.L.length) (x y : Int) (hy : x + 1 = y) :
    RMem (w.setCell ⟨b, j, none⟩ (.int .u64 y)) g F { m with L := m.L.set j x } := by
  subst hy
  obtain ⟨vw, vl, vg, hm, rfl⟩ := h
  obtain ⟨a1, a2, a3⟩ := hm.apart
  have e : vl = .slice a m.L.length c := Option.some.inj (hm.cells.2.1.symm.trans hc)
  have hb : vl.ownBlock = some b := by rw [e, ha]; rfl
  have keep : ∀ {i}, i ≠ b → (w.setCell ⟨b, j, none⟩ (.int .u64 (x + 1))).heap[i]? = w.heap[i]? := fun hi => Below.heap_setCell _ _ _ _ hi
  refine ⟨vw, vl, vg, ⟨(keep (a2 b hb).1.symm).trans hm.blk, row_of_block hm.words (fun b' hb' => keep (fun e => by subst e; exact (a1 _ hb').2.1 hb)), ?_, row_of_block hm.log (fun b' hb' => keep (fun e => by subst e; exact (a2 _ hb).2 hb')), hm.two⟩, rfl⟩
  have := row_set hm.locks hb j (.int .u64 (x + 1)) (by simpa [lockC] using hj)
  simpa [lockC, List.map_set] using this

theorem rmore_end {w w1 : World} {g : Nat} {vw vl vg v' : Value} {W L : List Int} {Lg : List Acc} {o : Obj} {x : Int} (h : RMemAt w g vw vl vg W L Lg) (hg : (w.alloc o).grownBy w1 vw.ownBlock)
    (hown : w1.ownsRow 0 93 1 v' (W.length + 1) (W.map (.int .u64) ++ [.int .u64 x])) (hloc : v'.ownBlock = vw.ownBlock ∨ v'.ownBlock = some (w.alloc o).heap.size) :
    RMemAt (w1.setCell ⟨g, 0, none⟩ v') g v' vl vg (W ++ [x]) L Lg ∧ Turn (fun i => i = g ∨ vw.ownBlock = some i) w (w1.setCell ⟨g, 0, none⟩ v') ∧ (∀ b, v'.ownBlock = some b → vw.ownBlock = some b ∨ w.heap.size ≤ b) := by
  obtain ⟨a1, a2, a3⟩ := h.apart
  have hsz : (w.alloc o).heap.size = w.heap.size + 1 := by simp
  have hlt := h.lt
  have hblk : w1.heap[g]? = some (.cells #[vw, vl, vg] 66 (0, 0)) := by
    rw [hg.block g (by omega) (fun e => (a1 g e.symm).1 rfl), Below.heap_alloc w o g h.lt]
    exact h.blk
  have T1 : Turn (fun i => i = g ∨ vw.ownBlock = some i) w w1 := ((Turn.refl _ w).alloc o).grown hg (fun b hb => .inl (.inr hb))
  have hext : ∀ b, v'.ownBlock = some b → vw.ownBlock = some b ∨ w.heap.size ≤ b := fun b hb => by
    rcases hloc with e | e
    · exact .inl (by rw [← e]; exact hb)
    · rw [hb] at e; cases e; exact .inr (by omega)
  have keep : ∀ {b}, b ≠ g → (w1.setCell ⟨g, 0, none⟩ v').heap[b]? = w1.heap[b]? := fun hb => Below.heap_setCell _ _ _ _ hb
  refine ⟨⟨set_heap_row hblk v', ?_, ?_, ?_, fun b hb hl => (hext b hb).elim (fun e => h.two b e hl) (fun e => by have := row_lt h.locks hl; omega)⟩, T1.setCell _ _ (.inl (.inl rfl)), hext⟩
  · have e1 : (W ++ [x]).length = W.length + 1 := by simp
    have e2 : (W ++ [x]).map (Value.int .u64) = W.map (Value.int .u64) ++ [Value.int .u64 x] := by simp
    rw [e1, e2]
    exact row_of_block hown (fun b hb => keep (fun e => (hext b hb).elim (fun e2 => (a1 b e2).1 e) (fun e2 => by omega)))
  · exact row_of_block (row_turn h.locks T1 (fun b hb hh => hh.elim (a2 b hb).1 (fun e => (a1 b e).2.1 hb))) (fun b hb => keep (a2 b hb).1)
  · exact row_of_block (row_turn h.log T1 (fun b hb hh => hh.elim (a3 b hb) (fun e => (a1 b e).2.2 hb))) (fun b hb => keep (a3 b hb))

end Go.Proofs.Ytahgapkecabnjaa
/- The reference's memory: Load, Swap, Holder, Lock, Unlock, Touch. -/
namespace Go.Proofs.Ytahgapkecabnjaa
set_option linter.unusedSimpArgs false
set_option linter.unusedVariables false
open Go Go.RowKit

theorem M.held_at {m : M} (h : m.held) {j : Nat} (hj : j < m.L.length) : -1 ≤ m.L.getD j 0 ∧ m.L.getD j 0 ≤ 9223372036854775807 := by
  rw [List.getD_eq_getElem?_getD, List.getElem?_eq_getElem hj]
  exact h _ (List.getElem_mem hj)

set_option maxHeartbeats 1000000 in
theorem rholder_any (g : Nat) (F : Nat → Prop) (m : M) (i : Int) (w : World) (h : RMem w g F m) (hs : m.small) (hl : m.held) :
    Calls Try.prog 59 #[.pointer (some ⟨g, 0, none⟩), .int .i64 i] w fun e w' => e = .returned (.int .i64 (m.holder i)) ∧ w' = w := by
  have hsm := hs.2.1
  cases hh : m.hasL i with
  | false =>
    have hv : m.holder i = -1 := by simp [M.holder, hh]
    have HV := Lib.hid hv
    obtain ⟨a, c, hc, hx⟩ := h.locks
    simp only [M.hasL, decide_eq_false_iff_not] at hh
    clear h hv hx hs hl
    go_enter Try.func59, Try.ntmps59
    by_cases h0 : i < 0
    · go_wp2
      go_ret
      exact ⟨by rw [HV.out]; rfl, rfl⟩
    · have h1 : (m.L.length : Int) ≤ i := by omega
      go_wp2
      go_ret
      exact ⟨by rw [HV.out]; rfl, rfl⟩
  | true =>
    obtain ⟨j, rfl, hj⟩ := M.hasL_nat hh
    obtain ⟨b1, b2⟩ := M.held_at hl hj
    obtain ⟨a, c, hc, hx⟩ := h.locks
    obtain ⟨b, rfl, _, hcb, _⟩ := hx j hj
    obtain ⟨x, ex⟩ : ∃ x, m.L.getD j 0 = x := ⟨_, rfl⟩
    have hv : m.holder j = x := by rw [← ex]; simp [M.holder, hh]
    have HV := Lib.hid hv
    rw [ex] at hcb b1 b2
    have hw : wrap64 (wrap64 (x + 1) - 1) = x := by unfold wrap64; omega
    clear h hv hh hx hs ex hl
    go_enter Try.func59, Try.ntmps59
    go_wp2
    go_ret
    exact ⟨by rw [HV.out]; exact congrArg (fun z => Ending.returned (.int .i64 z)) hw, rfl⟩

set_option maxHeartbeats 2000000 in
theorem rtouch_any (g : Nat) (F : Nat → Prop) (m : M) (t k p : Int) (w : World) (h : RMem w g F m) (hs : m.small) :
    Calls Try.prog 45 #[.pointer (some ⟨g, 0, none⟩), .int .i64 t, .int .i64 k, .int .i64 p] w (RMemPost w g F (.tuple #[]) (m.touch t k p)) := by
  by_cases h0 : 0 ≤ p
  · by_cases h1 : p ≤ 1099511627776
    · have e : m.touch t k p = m.note t k (3 * p + 2) := by simp [M.touch, h0, h1]
      rw [e]
      have H := Lib.hid h
      have HS := Lib.hid hs
      clear h hs e
      go_enter Try.func45, Try.ntmps45
      go_wp2_with (go_at_call 42; refine (say_any g F m t k (3 * p + 2) _ H.out HS.out).mono ?_; intro e w1 hp; have HP := Lib.hid hp; obtain ⟨rfl, _⟩ := hp)
      go_end0
      exact HP.out
    · have e : m.touch t k p = m := by simp [M.touch, h1]
      rw [e]
      have HV := Lib.hid (rmemPost_same (r := .tuple #[]) h)
      clear h hs e
      have h2 : 1099511627776 < p := by omega
      go_enter Try.func45, Try.ntmps45
      go_wp2
      go_end0
      exact HV.out
  · have e : m.touch t k p = m := by simp [M.touch, h0]
    rw [e]
    have HV := Lib.hid (rmemPost_same (r := .tuple #[]) h)
    clear h hs e
    go_enter Try.func45, Try.ntmps45
    go_wp2
    go_end0
    exact HV.out
end Go.Proofs.Ytahgapkecabnjaa
/- The reference's memory: Lock, Unlock, New. -/
namespace Go.Proofs.Ytahgapkecabnjaa
set_option linter.unusedSimpArgs false
set_option linter.unusedVariables false
open Go Go.RowKit

set_option maxHeartbeats 2000000 in
theorem rlock_any (g : Nat) (F : Nat → Prop) (m : M) (t i : Int) (w : World) (h : RMem w g F m) (hs : m.small) (hl : m.held) (ht63 : t ≤ 9223372036854775807) :
    Calls Try.prog 18 #[.pointer (some ⟨g, 0, none⟩), .int .i64 t, .int .i64 i] w (RMemPost w g F (.bool (m.lockOk t i)) (m.lock t i)) := by
  have hsm := hs.2.1
  have same : m.lockOk t i = false → RMemPost w g F (.bool (m.lockOk t i)) (m.lock t i) (.returned (.bool false)) w := fun e1 => by
    have e2 : m.lock t i = m := by simp [M.lock, e1]
    rw [e1, e2]; exact rmemPost_same h
  obtain ⟨a, c, hc, hx⟩ := h.locks
  cases hh : m.hasL i with
  | false =>
    have HV := Lib.hid (same (by simp [M.lockOk, hh]))
    simp only [M.hasL, decide_eq_false_iff_not] at hh
    clear h hx hs same hl
    go_enter Try.func18, Try.ntmps18
    by_cases h0 : i < 0
    · go_wp2
      go_ret
      exact HV.out
    · have h1 : (m.L.length : Int) ≤ i := by omega
      go_wp2
      go_ret
      exact HV.out
  | true =>
    obtain ⟨j, rfl, hj⟩ := M.hasL_nat hh
    obtain ⟨b1, b2⟩ := M.held_at hl hj
    obtain ⟨x, ex⟩ : ∃ x, m.L.getD j 0 = x := ⟨_, rfl⟩
    obtain ⟨b, rfl, hTu, hcb, hfb⟩ := hx j hj
    rw [ex] at hcb b1 b2
    by_cases hx1 : x = -1
    · subst hx1
      by_cases ht : 0 ≤ t
      · have hok : m.lockOk t j = true := by simp only [M.lockOk, hh, Int.toNat_natCast, ex]; simp [ht]
        have hS : RMem (w.setCell ⟨b, j, none⟩ (.int .u64 (t + 1))) g F { m with L := m.L.set j t } := RMem.setL h hc rfl hj t (t + 1) rfl
        have hv : ∀ e w1, RMemPost (w.setCell ⟨b, j, none⟩ (.int .u64 (t + 1))) g F (.tuple #[]) ({ m with L := m.L.set j t }.note t 1 (3 * j + 1)) e w1 → RMemPost w g F (.bool (m.lockOk t j)) (m.lock t j) (.returned (.bool true)) w1 := fun e w1 hp => by
          have e2 : m.lock t j = { m with L := m.L.set j t }.note t 1 (3 * j + 1) := by simp only [M.lock, hok, if_true, Int.toNat_natCast]; rfl
          rw [hok, e2]
          obtain ⟨_, F', hm', ht', hx'⟩ := hp
          have hsz : (w.setCell ⟨b, j, none⟩ (.int .u64 (t + 1))).heap.size = w.heap.size := by simp [World.setCell]
          exact ⟨rfl, F', hm', ((Turn.refl F w).setCell _ _ (.inl hTu)).trans ht' (fun i hi => .inl hi), fun i hi => by have := hx' i hi; rwa [hsz] at this⟩
        have hsm2 : { m with L := m.L.set j t }.small := ⟨hs.1, by simpa using hs.2.1, hs.2.2⟩
        have hw1 : IntKind.u64.wrap t = t := by simp [IntKind.wrap, IntKind.bits, IntKind.signed]; omega
        have hw2 : IntKind.u64.wrap (t + 1) = t + 1 := by simp [IntKind.wrap, IntKind.bits, IntKind.signed]; omega
        have HV := Lib.hid hv
        have HS := Lib.hid hS
        have HSM := Lib.hid hsm2
        clear h hv hh hs hx ex same hS hTu hsm2 hok hl
        go_enter Try.func18, Try.ntmps18
        go_wp2_with (go_at_call 42; refine (say_any g F _ t 1 (3 * j + 1) _ HS.out HSM.out).mono ?_; intro e w1 hp; have HP := Lib.hid (HV.out e w1 hp); obtain ⟨rfl, _⟩ := hp)
        go_ret
        exact HP.out
      · have HV := Lib.hid (same (by simp only [M.lockOk, hh, Int.toNat_natCast, ex]; simp [ht]))
        clear h hh hs hx ex same hl
        go_enter Try.func18, Try.ntmps18
        go_wp2
        go_ret
        exact HV.out
    · have HV := Lib.hid (same (by simp only [M.lockOk, hh, Int.toNat_natCast, ex]; simp [hx1]))
      obtain ⟨q1, q2⟩ := beq_f (a := x + 1) (b := 0) (by omega)
      clear h hh hs hx ex hx1 same hl
      go_enter Try.func18, Try.ntmps18
      go_wp2
      go_ret
      exact HV.out

set_option maxHeartbeats 2000000 in
theorem runlock_any (g : Nat) (F : Nat → Prop) (m : M) (t i : Int) (w : World) (h : RMem w g F m) (hs : m.small) (hl : m.held) (ht63 : t ≤ 9223372036854775807) :
    Calls Try.prog 20 #[.pointer (some ⟨g, 0, none⟩), .int .i64 t, .int .i64 i] w (RMemPost w g F (.int .i64 (m.unlockE t i)) (m.unlock t i)) := by
  have hsm := hs.2.1
  have same : ∀ x, x ≠ 0 → m.unlockE t i = x → RMemPost w g F (.int .i64 (m.unlockE t i)) (m.unlock t i) (.returned (.int .i64 x)) w := fun x hx e1 => by
    have e2 : m.unlock t i = m := by simp only [M.unlock, e1]; rw [if_neg hx]
    rw [e1, e2]; exact rmemPost_same h
  obtain ⟨a, c, hc, hx⟩ := h.locks
  cases hh : m.hasL i with
  | false =>
    have HV := Lib.hid (same 15 (by decide) (by simp [M.unlockE, hh]))
    simp only [M.hasL, decide_eq_false_iff_not] at hh
    clear h hx hs same hl
    go_enter Try.func20, Try.ntmps20
    by_cases h0 : i < 0
    · go_wp2
      go_ret
      exact HV.out
    · have h1 : (m.L.length : Int) ≤ i := by omega
      go_wp2
      go_ret
      exact HV.out
  | true =>
    obtain ⟨j, rfl, hj⟩ := M.hasL_nat hh
    obtain ⟨b1, b2⟩ := M.held_at hl hj
    obtain ⟨x, ex⟩ : ∃ x, m.L.getD j 0 = x := ⟨_, rfl⟩
    obtain ⟨b, rfl, hTu, hcb, hfb⟩ := hx j hj
    rw [ex] at hcb b1 b2
    by_cases ht : 0 ≤ t
    · have hw1 : IntKind.u64.wrap t = t := by simp [IntKind.wrap, IntKind.bits, IntKind.signed]; omega
      have hw2 : IntKind.u64.wrap (t + 1) = t + 1 := by simp [IntKind.wrap, IntKind.bits, IntKind.signed]; omega
      by_cases hx1 : x = t
      · subst hx1
        have hok : m.unlockE x j = 0 := by simp only [M.unlockE, hh, if_true, Int.toNat_natCast, ex]; rw [if_pos ⟨trivial, ht⟩]
        have hS : RMem (w.setCell ⟨b, j, none⟩ (.int .u64 0)) g F { m with L := m.L.set j (-1) } := RMem.setL h hc rfl hj (-1) 0 rfl
        have hv : ∀ e w1, RMemPost (w.setCell ⟨b, j, none⟩ (.int .u64 0)) g F (.tuple #[]) ({ m with L := m.L.set j (-1) }.note x 2 (3 * j + 1)) e w1 → RMemPost w g F (.int .i64 (m.unlockE x j)) (m.unlock x j) (.returned (.int .i64 0)) w1 := fun e w1 hp => by
          have e2 : m.unlock x j = { m with L := m.L.set j (-1) }.note x 2 (3 * j + 1) := by simp only [M.unlock, hok, if_true, Int.toNat_natCast]; rfl
          rw [hok, e2]
          obtain ⟨_, F', hm', ht', hx'⟩ := hp
          have hsz : (w.setCell ⟨b, j, none⟩ (.int .u64 0)).heap.size = w.heap.size := by simp [World.setCell]
          exact ⟨rfl, F', hm', ((Turn.refl F w).setCell _ _ (.inl hTu)).trans ht' (fun i hi => .inl hi), fun i hi => by have := hx' i hi; rwa [hsz] at this⟩
        have hsm2 : { m with L := m.L.set j (-1) }.small := ⟨hs.1, by simpa using hs.2.1, hs.2.2⟩
        have HV := Lib.hid hv
        have HS := Lib.hid hS
        have HSM := Lib.hid hsm2
        clear h hv hh hs hx ex same hS hTu hsm2 hok hl
        go_enter Try.func20, Try.ntmps20
        go_wp2_with (go_at_call 42; refine (say_any g F _ x 2 (3 * j + 1) _ HS.out HSM.out).mono ?_; intro e w1 hp; have HP := Lib.hid (HV.out e w1 hp); obtain ⟨rfl, _⟩ := hp)
        go_ret
        exact HP.out
      · have HV := Lib.hid (same 13 (by decide) (by simp only [M.unlockE, hh, if_true, Int.toNat_natCast, ex]; rw [if_neg (fun h => hx1 h.1)]))
        obtain ⟨q1, q2⟩ := beq_f (a := x + 1) (b := t + 1) (by omega)
        clear h hh hs hx ex hx1 same hl
        go_enter Try.func20, Try.ntmps20
        go_wp2
        go_ret
        exact HV.out
    · have HV := Lib.hid (same 13 (by decide) (by simp only [M.unlockE, hh, if_true, Int.toNat_natCast, ex]; rw [if_neg (fun h => ht h.2)]))
      clear h hh hs hx ex same hl
      go_enter Try.func20, Try.ntmps20
      go_wp2
      go_ret
      exact HV.out

set_option maxHeartbeats 1000000 in
theorem rnear_nat (n : Int) (j : Nat) (w : World) (h : nearM n = j) :
    Calls Try.prog 41 #[.int .i64 n] w fun e w' => e = .returned (.int .i64 j) ∧ w' = w := by
  go_enter Try.func41, Try.ntmps41
  go_wp2
  all_goals
    go_ret
    exact ⟨congrArg (fun b => Ending.returned (.int .i64 b)) (by unfold nearM at h; omega), rfl⟩

def RNewPost (w : World) (m : M) (e : Ending) (w' : World) : Prop := ∃ g F, e = .returned (.pointer (some ⟨g, 0, none⟩)) ∧ RMem w' g F m ∧ Below w.heap.size w w' ∧ (∀ i, F i → w.heap.size ≤ i)

theorem rnew_close {w W : World} {words locks : Int} {a b : Nat} {vw vl : Value} (ea : nearM words = a) (eb : nearM locks = b) (hw : Row W 93 1 vw a (List.replicate a (.int .u64 0))) (hl : Row W 93 1 vl b (List.replicate b (.int .u64 0)))
    (hB : Below w.heap.size w W) (fw : ∀ i, vw.ownBlock = some i → w.heap.size ≤ i) (fl : ∀ i, vl.ownBlock = some i → w.heap.size ≤ i) (h2 : ∀ i, vw.ownBlock = some i → vl.ownBlock ≠ some i) :
    RNewPost w (newM words locks) (.returned (.pointer (some ⟨W.heap.size, 0, none⟩))) (W.alloc (.cells #[vw, vl, .slice none 0 0] 66)) := by
  refine ⟨W.heap.size, _, rfl, ⟨vw, vl, .slice none 0 0, ⟨(MapKept.heap_alloc W _).1, ?_, ?_, row_nil _ _ _, h2⟩, rfl⟩, hB.alloc hB.size _, ?_⟩
  · have : (newM words locks).W = List.replicate a 0 := by simp [newM, ea]
    rw [this]; simpa using hw.alloc _
  · have : (newM words locks).L = List.replicate b (-1) := by simp [newM, eb]
    rw [this]; simpa [lockC] using hl.alloc _
  · rintro i (rfl | h | h | h)
    · exact hB.size
    · exact fw i h
    · exact fl i h
    · cases h

theorem rnew_one {w : World} {words locks : Int} {a b : Nat} (ea : nearM words = a) (eb : nearM locks = b) (ha : a ≤ 8192) (hb : b ≤ 8192) :
    RNewPost w (newM words locks) (.returned (.pointer (some ⟨w.heap.size + 1 + 1, 0, none⟩))) (((w.alloc (.cells (madeCells #[.int .u64 0] a) 93)).alloc (.cells (madeCells #[.int .u64 0] b) 93)).alloc (.cells #[.slice (some ⟨w.heap.size, 0, none⟩) a a, .slice (some ⟨w.heap.size + 1, 0, none⟩) b b, .slice none 0 0] 66)) := by
  have hs : (w.alloc (.cells (madeCells #[.int .u64 0] a) 93)).heap.size = w.heap.size + 1 := by simp
  have hs2 : ((w.alloc (.cells (madeCells #[.int .u64 0] a) 93)).alloc (.cells (madeCells #[.int .u64 0] b) 93)).heap.size = w.heap.size + 1 + 1 := by simp
  have := rnew_close (w := w) (W := (w.alloc (.cells (madeCells #[.int .u64 0] a) 93)).alloc (.cells (madeCells #[.int .u64 0] b) 93)) (vw := .slice (some ⟨w.heap.size, 0, none⟩) a a) (vl := .slice (some ⟨w.heap.size + 1, 0, none⟩) b b) ea eb
    ((row_made w a ha).alloc _) (by rw [← hs]; exact row_made _ b hb) (((Below.refl _ w).alloc (Nat.le_refl _) _).alloc (by simp) _) (fun i e => by cases e; exact Nat.le_refl _) (fun i e => by cases e; exact Nat.le_succ _) (fun i e e2 => by have h1 : w.heap.size = i := Option.some.inj e; have h2 : w.heap.size + 1 = i := Option.some.inj e2; omega)
  rwa [hs2] at this
theorem rnew_two {w : World} {words locks : Int} {a b : Nat} (ea : nearM words = a) (eb : nearM locks = b) (ha : a ≤ 8192) (hb : b ≤ 8192) :
    RNewPost w (newM words locks) (.returned (.pointer (some ⟨w.heap.size + 1 + 1, 0, none⟩))) (((w.alloc (.cells (madeCells #[.int .u64 0] b) 93)).alloc (.cells (madeCells #[.int .u64 0] a) 93)).alloc (.cells #[.slice (some ⟨w.heap.size + 1, 0, none⟩) a a, .slice (some ⟨w.heap.size, 0, none⟩) b b, .slice none 0 0] 66)) := by
  have hs : (w.alloc (.cells (madeCells #[.int .u64 0] b) 93)).heap.size = w.heap.size + 1 := by simp
  have hs2 : ((w.alloc (.cells (madeCells #[.int .u64 0] b) 93)).alloc (.cells (madeCells #[.int .u64 0] a) 93)).heap.size = w.heap.size + 1 + 1 := by simp
  have := rnew_close (w := w) (W := (w.alloc (.cells (madeCells #[.int .u64 0] b) 93)).alloc (.cells (madeCells #[.int .u64 0] a) 93)) (vl := .slice (some ⟨w.heap.size, 0, none⟩) b b) (vw := .slice (some ⟨w.heap.size + 1, 0, none⟩) a a) ea eb
    (by rw [← hs]; exact row_made _ a ha) ((row_made w b hb).alloc _) (((Below.refl _ w).alloc (Nat.le_refl _) _).alloc (by simp) _) (fun i e => by cases e; exact Nat.le_succ _) (fun i e => by cases e; exact Nat.le_refl _) (fun i e e2 => by have h1 : w.heap.size + 1 = i := Option.some.inj e; have h2 : w.heap.size = i := Option.some.inj e2; omega)
  rwa [hs2] at this
theorem RNewPost.ofDrew {w : World} {m : M} {e : Ending} {w' : World} (h : RNewPost w.drew m e w') : RNewPost w m e w' := by
  obtain ⟨g, F, he, hm, hb, hF⟩ := h
  exact ⟨g, F, he, hm, (Below.drew (Below.refl w.heap.size w)).trans hb, hF⟩

set_option maxHeartbeats 4000000 in
set_option maxRecDepth 100000 in
theorem rnew_any (words locks : Int) (w : World) :
    Calls Try.prog 16 #[.int .i64 words, .int .i64 locks] w (RNewPost w (newM words locks)) := by
  obtain ⟨a, ea, ha⟩ := nearM_nat words
  obtain ⟨b, eb, hb⟩ := nearM_nat locks
  have EA := Lib.hid ea
  have EB := Lib.hid eb
  clear ea eb
  have hmk : ∀ (W : World) (n : Nat), n ≤ 8192 → (Instr.makeSlice 64 (.int .i64 (n : Int)) (.int .i64 (n : Int))).run Try.prog W = .ok (.slice (some ⟨W.heap.size, 0, none⟩) n n) (W.alloc (.cells (madeCells #[.int .u64 0] n) 93)) := fun W n hn => by
    obtain ⟨i0, hi, hz0, hz1, hz2⟩ := info_parts u64Info
    exact run_make_row (P := Try.prog) 64 93 i0 (.int .u64 0) Try.underlying64 hi hz0 hz1 rfl .i64 .i64 n (by rw [hz2]; omega) (by omega) W
  have hmka := fun W => hmk W a ha
  have hmkb := fun W => hmk W b hb
  clear hmk
  go_enter Try.func16, Try.ntmps16
  go_wp2_with fail
  go_region_with (first
    | (go_at_call_of 41 words; refine (rnear_nat words a _ EA.out).mono ?_; rintro e w1 ⟨rfl, rfl⟩)
    | (go_at_call_of 41 locks; refine (rnear_nat locks b _ EB.out).mono ?_; rintro e w1 ⟨rfl, rfl⟩))
  all_goals
    go_wp2
    go_ret
    first
      | exact (rnew_one EA.out EB.out ha hb).ofDrew
      | exact (rnew_two EA.out EB.out ha hb).ofDrew
      | exact rnew_one EA.out EB.out ha hb
      | trace_state
end Go.Proofs.Ytahgapkecabnjaa
