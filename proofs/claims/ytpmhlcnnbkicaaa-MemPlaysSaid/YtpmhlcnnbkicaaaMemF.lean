/- The walks of math/bits.Mul at small numbers, of slices.Repeat at one element, and of New. -/
import Derived.Test.YtpmhlcnnbkicaaaMemE
import Derived.Laws.BitsLemmas
import Derived.WalkLawsBesides
namespace Go.Proofs.Ytpmhlcnnbkicaaa
set_option linter.unusedSimpArgs false
set_option linter.unusedVariables false
open Go Go.RowKit

set_option maxHeartbeats 1000000 in
theorem mul64_one (n : Int) (w : World) (h0 : 0 ≤ n) (h1 : n ≤ 8192) :
    Calls Try.prog 84 #[.int .u64 1, .int .u64 n] w fun e w' => e = .returned (.tuple #[.int .u64 0, .int .u64 n]) ∧ w' = w := by
  have hb : Go.bits .and .u64 n 4294967295 = n := by
    have := bits_mask .u64 64 (by decide) (fun n h0 h1 => by simp [IntKind.wrap, IntKind.bits, IntKind.signed]; omega) 32 (by decide) n h0 (by omega)
    simp at this
    rw [this]; omega
  have hb1 : Go.bits .and .u64 1 4294967295 = 1 := by decide
  have hb0 : Go.bits .and .u64 0 4294967295 = 0 := by decide
  have hw0 : IntKind.u64.wrap 0 = 0 := by decide
  have hd : n / 4294967296 = 0 := by omega
  have hw : IntKind.u64.wrap n = n := by simp [IntKind.wrap, IntKind.bits, IntKind.signed]; omega
  go_enter Try.func84, Try.ntmps84
  go_wp2
  go_ret2
  exact ⟨by simp [hb, hb1, hb0, hd, hw, hw0], rfl⟩

set_option maxHeartbeats 1000000 in
theorem mul_one (n : Int) (w : World) (h0 : 0 ≤ n) (h1 : n ≤ 8192) :
    Calls Try.prog 80 #[.int .u64 1, .int .u64 n] w fun e w' => e = .returned (.tuple #[.int .u64 0, .int .u64 n]) ∧ w' = w := by
  go_enter Try.func80, Try.ntmps80
  go_wp2_with (go_at_call 84; refine (mul64_one n _ h0 h1).mono ?_; rintro e w' ⟨rfl, rfl⟩)
  go_ret2
  exact ⟨rfl, rfl⟩

def nearM (n : Int) : Int := max 0 (min n 8192)
theorem nearM_bd (n : Int) : 0 ≤ nearM n ∧ nearM n ≤ 8192 := by unfold nearM; omega
set_option maxHeartbeats 1000000 in
theorem nearM_any (n : Int) (w : World) :
    Calls Try.prog 67 #[.int .i64 n] w fun e w' => e = .returned (.int .i64 (nearM n)) ∧ w' = w := by
  go_enter Try.func67, Try.ntmps67
  go_wp2
  all_goals
    go_ret
    exact ⟨congrArg (fun b => Ending.returned (.int .i64 b)) (by unfold nearM; omega), rfl⟩
end Go.Proofs.Ytpmhlcnnbkicaaa
