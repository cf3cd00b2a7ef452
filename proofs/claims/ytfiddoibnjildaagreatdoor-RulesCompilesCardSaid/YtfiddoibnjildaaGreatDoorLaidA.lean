/- What the rows' lists of package-level variables give the walks, and a world that meets the lists. -/
import Derived.Test.YtfiddoibnjildaaGreatDoorRows
import Derived.Test.YtfiddoibnjildaaGreatDoorAddrE
import Derived.Test.YtfiddoibnjildaaGreatDoorRead
import Derived.ProofKit
import Derived.LaidMore
import Derived.OpenShut
import Derived.Stop.LaidErr
import Derived.Lib.LaidTab
import Derived.Lib.LaidU8
import Derived.Deep.DeepWitnessRowRef
namespace Go.Proofs.YtfiddoibnjildaaGreatDoor
set_option linter.unusedSimpArgs false
set_option linter.unusedVariables false
open Go Go.RowKit Go.ChangeShapes Go.WideShapes Go.ChangeAt

theorem g_pow : Tryz.prog.globalNamed "internal/strconv.uint64pow10" = some 7 := by kernel_rfl
theorem t_pow : (Tryz.prog.globals[7]?).map (·.type) = some 160 := by kernel_rfl
theorem c_u64 : Tryz.prog.cellsOf 104 = 1 := by kernel_rfl
theorem c_pow : Tryz.prog.cellsOf 160 = 20 := by kernel_rfl
theorem g_syn : Tryz.prog.globalNamed "strconv.ErrSyntax" = some 5 := by kernel_rfl
theorem t_syn : (Tryz.prog.globals[5]?).map (·.type) = some 87 := by kernel_rfl
theorem g_rng : Tryz.prog.globalNamed "strconv.ErrRange" = some 6 := by kernel_rfl
theorem t_rng : (Tryz.prog.globals[6]?).map (·.type) = some 87 := by kernel_rfl
theorem c_str : Tryz.prog.cellsOf 9 = 1 := by kernel_rfl
theorem c_es : Tryz.prog.cellsOf 167 = 1 := by kernel_rfl
theorem star_es : "*" ++ "errors.errorString" = "*errors.errorString" := by decide
theorem row_es (u : TypeId) (h : Tryz.prog.typeName? 3 u = some "*errors.errorString") : u = 165 :=
  typeName_ptr_named (nm := "errors.errorString") (by rw [star_es]; kernel_rfl) (by kernel_rfl) (by decide) u (by rw [star_es]; exact h)
theorem pow_datum : (Rows.laid_internal_strconv_uint64pow10 : DataW Unit) = Lib.tabData .u64 Lib.pow10Tab := by kernel_rfl

theorem tabs_of_laid {rest : List (String × DataW Unit)} {W : World} (h : laidMet Tryz.prog (("math/bits.deBruijn32tab", Rows.laid_math_bits_deBruijn32tab) :: ("math/bits.deBruijn64tab", Rows.laid_math_bits_deBruijn64tab) :: ("internal/strconv.uint64pow10", Rows.laid_internal_strconv_uint64pow10) :: ("unicode/utf8.acceptRanges", Rows.laid_unicode_utf8_acceptRanges) :: ("strconv.ErrRange", Rows.laid_strconv_ErrRange) :: ("strconv.ErrSyntax", Rows.laid_strconv_ErrSyntax) :: rest) W)
    (hsh : W.ShapedOpen Tryz.prog) : Tabs W := by
  have h3 := h.tail.tail
  rw [pow_datum] at h3
  have h5 := h.tail.tail.tail.tail
  obtain ⟨a1, s1, hv1, _⟩ := laid_sentinel h5 g_rng t_rng Tryz.underlying87 row_es Tryz.underlying165 Tryz.underlying167 rfl rfl Tryz.underlying9 c_es c_str
  obtain ⟨a2, s2, hv2, _⟩ := laid_sentinel h5.tail g_syn t_syn Tryz.underlying87 row_es Tryz.underlying165 Tryz.underlying167 rfl rfl Tryz.underlying9 c_es c_str
  exact ⟨Lib.tabIs_of_head g_pow t_pow Tryz.underlying160 Tryz.underlying104 c_u64 c_pow h3, ⟨_, _, hv2⟩, ⟨_, _, hv1⟩, cell_of_shapedOpen_int (t := 3) (zero := #[.int .i64 0]) hsh (of_decide_eq_true (by kernel_rfl)) (by kernel_rfl) rfl (by kernel_rfl) (by kernel_rfl) Tryz.underlying3⟩

/-- A world in which the listed variables lie as their initialisers lay them. -/
noncomputable def laidWorld (os : Os) : World :=
  { World.doorLaid Tryz.prog 400 os with heap := (World.doorLaid Tryz.prog 400 os).heap.modify 3 fun
      | .cells _ t frozen => .cells (Pinned.utf8FirstZ.map fun n : Nat => Value.int .u8 (n : Int)).toArray t frozen
      | o => o }
theorem own : ownKnob Tryz.prog.godebug = none := by kernel_rfl
theorem laidOut : laidOutB Tryz.prog = true := by kernel_rfl

theorem nat_u32 {a : Int} (h : (Lit.int .u32 a).wf = true) : ∃ m : Nat, a = m ∧ m < 4294967296 := by
  have e1 : IntKind.u32.min = 0 := rfl
  have e2 : IntKind.u32.max = 4294967295 := rfl
  simp [Lit.wf, e1, e2] at h
  exact ⟨a.toNat, by omega, by omega⟩
set_option maxRecDepth 100000 in
/-- A net that comes in by value. -/
theorem open_net {H : Type} {enc : TypeId × Value → H} {w : World} {base : Nat} {sp : Nat → Bool} {held : Bool} {v : Value} {r : Reach} {b : Nat} {x : DataW H} {ps : List MemPlace}
    (hv : Value.okWide Tryz.prog w r b 39 v) (h : DataW.Trod enc Tryz.prog w base sp held 39 v x ps) : ∃ (m : Nat) (n : Int), v = .agg #[.int .u32 m, .int .i64 n] ∧ m < 4294967296 ∧ (Lit.int .i64 n).wf = true := by
  obtain ⟨cs, rfl, hl⟩ := open_leafs (d := 3) (ts := [37, 3]) (by kernel_rfl) (by kernel_rfl) (by kernel_rfl) hv h
  obtain ⟨l⟩ := cs
  match l, hl with
  | [x0, x1], hl =>
    obtain ⟨h0, h1, _⟩ := hl
    obtain ⟨n0, rfl, w0⟩ := h0.int Tryz.underlying37
    obtain ⟨n1, rfl, w1⟩ := h1.int Tryz.underlying3
    obtain ⟨m, rfl, hm⟩ := nat_u32 w0
    exact ⟨m, n1, rfl, hm, w1⟩
end Go.Proofs.YtfiddoibnjildaaGreatDoor
