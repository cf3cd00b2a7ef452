/- The calls on no memory; the walk of MemNone. -/
import Derived.Test.YtpmhlcnnbkicaaaMemJ
namespace Go.Proofs.Ytpmhlcnnbkicaaa
set_option linter.unusedSimpArgs false
set_option linter.unusedVariables false
open Go Go.RowKit

theorem words_nil (w : World) : Calls Try.prog 53 #[.pointer none] w fun e w' => e = .returned (.int .i64 0) ∧ w' = w := by
  go_enter Try.func53, Try.ntmps53
  go_wp2_with fail
  go_ret
  exact ⟨rfl, rfl⟩
theorem has_nil (i : Int) (w : World) : Calls Try.prog 72 #[.pointer none, .int .i64 i] w fun e w' => e = .returned (.bool false) ∧ w' = w := by
  go_enter Try.func72, Try.ntmps72
  by_cases h : 0 ≤ i
  · go_wp2_with (go_at_call 53; refine (words_nil _).mono ?_; rintro e w' ⟨rfl, rfl⟩)
    all_goals
      go_ret
      exact ⟨by first | rfl | (simp; done) | (simp; omega), rfl⟩
  · go_wp2_with (go_at_call 53; refine (words_nil _).mono ?_; rintro e w' ⟨rfl, rfl⟩)
    all_goals
      go_ret
      exact ⟨by first | rfl | (simp; done) | (simp; omega), rfl⟩
theorem load_nil (t i : Int) (w : World) : Calls Try.prog 40 #[.pointer none, .int .i64 t, .int .i64 i] w fun e w' => e = .returned (.int .u64 0) ∧ w' = w := by
  go_enter Try.func40, Try.ntmps40
  go_wp2_with (go_at_call 72; refine (has_nil i _).mono ?_; rintro e w' ⟨rfl, rfl⟩)
  go_ret
  exact ⟨rfl, rfl⟩
theorem look_nil (i : Int) (w : World) : Calls Try.prog 54 #[.pointer none, .int .i64 i] w fun e w' => e = .returned (.int .u64 0) ∧ w' = w := by
  go_enter Try.func54, Try.ntmps54
  go_wp2_with (go_at_call 72; refine (has_nil i _).mono ?_; rintro e w' ⟨rfl, rfl⟩)
  go_ret
  exact ⟨rfl, rfl⟩
theorem swap_nil (t i o n : Int) (w : World) : Calls Try.prog 41 #[.pointer none, .int .i64 t, .int .i64 i, .int .u64 o, .int .u64 n] w fun e w' => e = .returned (.bool false) ∧ w' = w := by
  go_enter Try.func41, Try.ntmps41
  go_wp2_with (go_at_call 72; refine (has_nil i _).mono ?_; rintro e w' ⟨rfl, rfl⟩)
  go_ret
  exact ⟨rfl, rfl⟩
theorem holder_nil (i : Int) (w : World) : Calls Try.prog 38 #[.pointer none, .int .i64 i] w fun e w' => e = .returned (.int .i64 (-1)) ∧ w' = w := by
  go_enter Try.func38, Try.ntmps38
  go_wp2_with fail
  go_ret
  exact ⟨rfl, rfl⟩
theorem lock_nil (t i : Int) (w : World) : Calls Try.prog 35 #[.pointer none, .int .i64 t, .int .i64 i] w fun e w' => e = .returned (.bool false) ∧ w' = w := by
  go_enter Try.func35, Try.ntmps35
  go_wp2_with fail
  go_ret
  exact ⟨rfl, rfl⟩
theorem unlock_nil (t i : Int) (w : World) : Calls Try.prog 36 #[.pointer none, .int .i64 t, .int .i64 i] w fun e w' => e = .returned (.int .i64 1) ∧ w' = w := by
  go_enter Try.func36, Try.ntmps36
  go_wp2_with fail
  go_ret
  exact ⟨rfl, rfl⟩
theorem plain_nil (t k p : Int) (w : World) : Calls Try.prog 75 #[.pointer none, .int .i64 t, .int .i64 k, .int .i64 p] w fun e w' => e = .returned (.tuple #[]) ∧ w' = w := by
  go_enter Try.func75, Try.ntmps75
  go_wp2_with fail
  go_end0
  exact ⟨rfl, rfl⟩
theorem read_nil (t p : Int) (w : World) : Calls Try.prog 49 #[.pointer none, .int .i64 t, .int .i64 p] w fun e w' => e = .returned (.tuple #[]) ∧ w' = w := by
  go_enter Try.func49, Try.ntmps49
  go_wp2_with (go_at_call 75; refine (plain_nil t 5 p _).mono ?_; rintro e w' ⟨rfl, rfl⟩)
  go_end0
  exact ⟨rfl, rfl⟩
theorem write_nil (t p : Int) (w : World) : Calls Try.prog 51 #[.pointer none, .int .i64 t, .int .i64 p] w fun e w' => e = .returned (.tuple #[]) ∧ w' = w := by
  go_enter Try.func51, Try.ntmps51
  go_wp2_with (go_at_call 75; refine (plain_nil t 6 p _).mono ?_; rintro e w' ⟨rfl, rfl⟩)
  go_end0
  exact ⟨rfl, rfl⟩
theorem more_nil (x : Int) (w : World) : Calls Try.prog 43 #[.pointer none, .int .u64 x] w fun e w' => e = .returned (.int .i64 0) ∧ w' = w := by
  go_enter Try.func43, Try.ntmps43
  go_wp2_with fail
  go_ret
  exact ⟨rfl, rfl⟩
theorem log_nil (w : World) : Calls Try.prog 37 #[.pointer none] w fun e w' => e = .returned (.slice none 0 0) ∧ w' = w := by
  go_enter Try.func37, Try.ntmps37
  go_wp2_with fail
  go_ret
  exact ⟨rfl, rfl⟩

set_option maxHeartbeats 4000000 in
set_option maxRecDepth 100000 in
theorem memNone_walk (thread at_ x : Int) (w : World) (_ : (Lit.int .i64 thread).wf = true) (_ : (Lit.int .i64 at_).wf = true) (_ : (Lit.int .u64 x).wf = true) :
    Calls Try.prog 15 #[.int .i64 thread, .int .i64 at_, .int .u64 x] w fun e w' => e = .returned (.bool true) ∧ Below w.heap.size w w' := by
  go_enter Try.func15, Try.ntmps15
  go_wp2_with fail
  refine (read_nil thread at_ _).mono ?_
  rintro e w' ⟨rfl, rfl⟩
  go_wp2_with fail
  refine (write_nil thread at_ _).mono ?_
  rintro e w' ⟨rfl, rfl⟩
  go_wp2_with fail
  refine (awake19_any _).mono ?_
  rintro e w' ⟨rfl, hb⟩
  go_wp2_with fail
  refine (more_nil x _).mono ?_
  rintro e w' ⟨rfl, rfl⟩
  go_wp2_with fail
  refine (words_nil _).mono ?_
  rintro e w' ⟨rfl, rfl⟩
  go_wp2_with fail
  refine (load_nil thread at_ _).mono ?_
  rintro e w' ⟨rfl, rfl⟩
  go_wp2_with fail
  refine (swap_nil thread at_ x x _).mono ?_
  rintro e w' ⟨rfl, rfl⟩
  go_wp2_with fail
  refine (lock_nil thread at_ _).mono ?_
  rintro e w' ⟨rfl, rfl⟩
  go_wp2_with fail
  refine (unlock_nil thread at_ _).mono ?_
  rintro e w' ⟨rfl, rfl⟩
  go_wp2_with fail
  refine (holder_nil at_ _).mono ?_
  rintro e w' ⟨rfl, rfl⟩
  go_wp2_with fail
  refine (log_nil _).mono ?_
  rintro e w' ⟨rfl, rfl⟩
  go_wp2_with fail
  refine (look_nil at_ _).mono ?_
  rintro e w' ⟨rfl, rfl⟩
  go_wp2_with fail
  go_ret
  exact ⟨rfl, hb⟩
end Go.Proofs.Ytpmhlcnnbkicaaa
