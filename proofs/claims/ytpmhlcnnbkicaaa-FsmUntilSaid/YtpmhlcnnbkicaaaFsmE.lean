/- Packets and lists of 16 times among the arguments, opened. -/
import Derived.Test.YtpmhlcnnbkicaaaRead
import Derived.Test.YtpmhlcnnbkicaaaFsmD
namespace Go.Proofs.Ytpmhlcnnbkicaaa
set_option linter.unusedSimpArgs false
set_option linter.unusedVariables false
open Go Go.RowKit Go.ChangeShapes Go.WideShapes
section
variable {H : Type} {enc : TypeId × Value → H} {w : World} {base : Nat} {sp : Nat → Bool} {held : Bool}

theorem pk_of_leafs {l : List Value} (h : Leafs enc Try.prog w base sp held [5, 29, 29, 30, 30, 5, 5] l) : ∃ p : Pk, l = (pkC p).toList ∧ PkWf p := by
  match l, h with
  | [c0, c1, c2, c3, c4, c5, c6], ⟨h0, h1, h2, h3, h4, h5, h6, _⟩ =>
    obtain ⟨n0, rfl, w0⟩ := h0.int Try.underlying5
    obtain ⟨n1, rfl, w1⟩ := h1.int Try.underlying29
    obtain ⟨n2, rfl, w2⟩ := h2.int Try.underlying29
    obtain ⟨n3, rfl, w3⟩ := h3.int Try.underlying30
    obtain ⟨n4, rfl, w4⟩ := h4.int Try.underlying30
    obtain ⟨n5, rfl, w5⟩ := h5.int Try.underlying5
    obtain ⟨n6, rfl, w6⟩ := h6.int Try.underlying5
    exact ⟨⟨n0, n1, n2, n3, n4, n5, n6⟩, rfl, wf_u8 w5⟩

theorem pk_row : rowType Try.prog 32 = true := by kernel_rfl
theorem pk_leafs : leafs Try.prog 2 32 = some [5, 29, 29, 30, 30, 5, 5] := by kernel_rfl
theorem pk_cells : Try.prog.cellsOf 32 = 7 := by kernel_rfl
theorem ts_row : rowType Try.prog 33 = true := by kernel_rfl
theorem ts_leafs : leafs Try.prog 2 33 = some (List.replicate 16 3) := by kernel_rfl
theorem ts_cells : Try.prog.cellsOf 33 = 16 := by kernel_rfl
set_option maxRecDepth 100000 in
theorem open_pk {v : Value} {r : Reach} {b : Nat} {x : DataW H} {ps : List MemPlace} (hv : Value.okWide Try.prog w r b 32 v) (h : DataW.Trod enc Try.prog w base sp held 32 v x ps) : ∃ p, v = .agg (pkC p) ∧ PkWf p := by
  obtain ⟨cs, rfl, hl⟩ := open_leafs pk_row pk_leafs pk_cells hv h
  obtain ⟨p, hp, hw⟩ := pk_of_leafs hl
  exact ⟨p, congrArg Value.agg (Array.toList_inj.1 hp), hw⟩

theorem ints_of_leafs {t : TypeId} {k : IntKind} (ht : Try.prog.underlying t = some (.int k)) : ∀ (n : Nat) (l : List Value), Leafs enc Try.prog w base sp held (List.replicate n t) l → ∃ f : List Int, l = f.map (.int k) ∧ f.length = n
  | 0, [], _ => ⟨[], rfl, rfl⟩
  | 0, _ :: _, h => h.elim
  | n + 1, [], h => h.elim
  | n + 1, v :: l, h => by
    obtain ⟨x, rfl, _⟩ := h.1.int ht
    obtain ⟨f, rfl, hf⟩ := ints_of_leafs ht n l h.2
    exact ⟨x :: f, rfl, by simp [hf]⟩

set_option maxRecDepth 100000 in
theorem open_times {v : Value} {r : Reach} {b : Nat} {x : DataW H} {ps : List MemPlace} (hv : Value.okWide Try.prog w r b 33 v) (h : DataW.Trod enc Try.prog w base sp held 33 v x ps) : ∃ f, v = .agg (arr16 f) ∧ True := by
  obtain ⟨cs, rfl, hl⟩ := open_leafs ts_row ts_leafs (by rw [ts_cells, List.length_replicate]) hv h
  obtain ⟨f, hf, hn⟩ := ints_of_leafs Try.underlying3 16 _ hl
  refine ⟨fun j => f.getD j 0, congrArg Value.agg (Array.toList_inj.1 ?_), trivial⟩
  rw [hf]
  match f, hn with
  | [a0, a1, a2, a3, a4, a5, a6, a7, a8, a9, a10, a11, a12, a13, a14, a15], _ => rfl
end
end Go.Proofs.Ytpmhlcnnbkicaaa
