/- The walk of the law TraceMoves. -/
import Derived.Test.YtpmhlcnnbkicaaaTraceD
namespace Go.Proofs.Ytpmhlcnnbkicaaa
set_option linter.unusedSimpArgs false
set_option linter.unusedVariables false
open Go Go.RowKit

theorem wf_u8 {x : Int} (h : (Lit.int .u8 x).wf = true) : 0 ≤ x ∧ x ≤ 255 := by
  have h2 : IntKind.u8.min ≤ x ∧ x ≤ IntKind.u8.max := by simpa [Lit.wf] using h
  exact ⟨(show IntKind.u8.min = 0 from rfl) ▸ h2.1, (show IntKind.u8.max = 255 from rfl) ▸ h2.2⟩

set_option maxHeartbeats 1000000 in
theorem traceMoves_walk (s : Int) (r : Bool) (f : Int) (w : World) (ws : (Lit.int .i64 s).wf = true) (wf : (Lit.int .u8 f).wf = true) :
    Calls Try.prog 3 #[.int .i64 s, .bool r, .int .u8 f] w fun e w' => e = .returned (.bool true) ∧ Below w.heap.size w w' := by
  obtain ⟨f0, f1⟩ := wf_u8 wf
  obtain ⟨t1, b1, e1⟩ : ∃ t b, openF f = (t, b) := ⟨_, _, rfl⟩
  obtain ⟨t2, b2, e2⟩ : ∃ t b, nextF s r f = (t, b) := ⟨_, _, rfl⟩
  have e3 : refOpenF f = (t1, b1) := by rw [← openF_eq f f0 f1]; exact e1
  have e4 : refNextF s r f = (t2, b2) := by rw [← nextF_eq s r f f0 f1]; exact e2
  have E1 := Lib.hid e1
  have E2 := Lib.hid e2
  have E3 := Lib.hid e3
  have E4 := Lib.hid e4
  clear e1 e2 e3 e4
  go_enter Try.func3, Try.ntmps3
  go_wp2_with (first
    | (go_at_call 16; refine (open_val f t1 b1 _ E1.out).mono ?_; rintro e w' ⟨rfl, rfl⟩)
    | (go_at_call 17; refine (refOpen_any f _ f0 f1).mono ?_; rw [E3.out]; rintro e w' ⟨rfl, rfl⟩))
  refine (next_val s r f t2 b2 _ ws E2.out).mono ?_
  rintro e w1 ⟨rfl, h1⟩
  go_wp2_with fail
  refine (refNext_any s r f _ f0 f1).mono ?_
  rw [E4.out]
  rintro e w2 ⟨rfl, rfl⟩
  go_wp2_with fail
  refine (awake16_any _).mono ?_
  rintro e w3 ⟨rfl, h3⟩
  go_wp2_with fail
  go_ret
  exact ⟨by simp, below_then h1 h3⟩
end Go.Proofs.Ytpmhlcnnbkicaaa
