/- Walks of the small functions of package trace and of its reference. -/
import Derived.Test.YtpmhlcnnbkicaaaProg
import Derived.WalkKit
import Derived.KernelRfl
import Derived.OwnWalk
import Derived.Outline
import Derived.Deep.Light
namespace Go.Proofs.Ytpmhlcnnbkicaaa
set_option linter.unusedSimpArgs false
set_option linter.unusedVariables false
open Go.RowKit

/-- A walk's end with one result. -/
theorem ret1 {v u : Value} {w w' : World} (h : v = u) (hw : w = w') : Ending.returned v = Ending.returned u ∧ w = w' := ⟨by rw [h], hw⟩

def kindF (f : Int) : Int :=
  if (Go.bits .and .u8 f 23 == 16) = true then 1 else if (Go.bits .and .u8 f 23 == 2) = true then 2 else if (Go.bits .and .u8 f 23 == 18) = true then 3
  else if (Go.bits .and .u8 f 23 == 17) = true then 4 else if (Go.bits .and .u8 f 23 == 4) = true then 5 else if (Go.bits .and .u8 f 23 == 20) = true then 5 else 0

set_option maxHeartbeats 400000 in
theorem kind_any (f : Int) (w : World) :
    Calls Try.prog 56 #[.int .u8 f] w fun e w' => e = .returned (.int .i64 (kindF f)) ∧ w' = w := by
  go_enter Try.func56, Try.ntmps56
  go_wp2
  all_goals
    go_ret
    exact ret1 (by simp [kindF, *]) rfl

def hasF (f g : Int) : Bool := (f / g) % 2 == 1

set_option maxHeartbeats 400000 in
theorem has_any (f g : Int) (w : World) (hf : 0 ≤ f) (hf' : f ≤ 255) (hg : 1 ≤ g) :
    Calls Try.prog 57 #[.int .u8 f, .int .u8 g] w fun e w' => e = .returned (.bool (hasF f g)) ∧ w' = w := by
  have hq : 0 ≤ f / g := Int.ediv_nonneg hf (by omega)
  go_enter Try.func57, Try.ntmps57
  go_wp2
  go_ret
  exact ret1 (by simp [hasF]) rfl

def openF (f : Int) : Int × Bool := if (kindF f == 2) = true then (1, true) else (0, false)

set_option maxHeartbeats 400000 in
theorem open_any (f : Int) (w : World) :
    Calls Try.prog 16 #[.int .u8 f] w fun e w' => e = .returned (.tuple #[.int .i64 (openF f).1, .bool (openF f).2]) ∧ w' = w := by
  go_enter Try.func16, Try.ntmps16
  go_wp2_with (go_at_call 56; refine (kind_any _ _).mono ?_; rintro e w' ⟨rfl, rfl⟩)
  all_goals
    go_ret2
    exact ret1 (by simp [openF, *]) rfl

def refOpenF (f : Int) : Int × Bool := if hasF f 2 = true then if (!hasF f 16) = true then if (!hasF f 1) = true then if (!hasF f 4) = true then (1, true) else (0, false) else (0, false) else (0, false) else (0, false)

set_option maxHeartbeats 1000000 in
theorem refOpen_any (f : Int) (w : World) (hf : 0 ≤ f) (hf' : f ≤ 255) :
    Calls Try.prog 17 #[.int .u8 f] w fun e w' => e = .returned (.tuple #[.int .i64 (refOpenF f).1, .bool (refOpenF f).2]) ∧ w' = w := by
  go_enter Try.func17, Try.ntmps17
  go_wp2_with (go_at_call 57; refine (has_any _ _ _ hf hf' (by omega)).mono ?_; rintro e w' ⟨rfl, rfl⟩)
  all_goals
    go_ret2
    exact ret1 (by simp [refOpenF, *]) rfl

def refNextF (state : Int) (reply : Bool) (f : Int) : Int × Bool :=
  if state < 1 ∨ 7 < state then (0, false)
  else if hasF f 4 = true then if hasF f 2 = true ∨ hasF f 1 = true then (0, false) else (7, true)
  else if hasF f 2 = true ∧ hasF f 1 = true ∨ state = 7 then (0, false)
  else if hasF f 2 = true then
    if 2 < state ∨ hasF f 16 ≠ reply then (0, false) else if hasF f 16 = true then (2, true) else (state, true)
  else if hasF f 16 = false ∨ state = 1 ∨ state = 2 ∧ reply = true then (0, false)
  else if hasF f 1 = false then if state = 2 then (3, true) else (state, true)
  else if state = 6 ∨ state = 4 ∧ reply = true ∨ state = 5 ∧ reply = false then (6, true)
  else if reply = true then (5, true) else (4, true)

set_option maxHeartbeats 4000000 in
theorem refNext_any (state : Int) (reply : Bool) (f : Int) (w : World) (hf : 0 ≤ f) (hf' : f ≤ 255) :
    Calls Try.prog 19 #[.int .i64 state, .bool reply, .int .u8 f] w fun e w' => e = .returned (.tuple #[.int .i64 (refNextF state reply f).1, .bool (refNextF state reply f).2]) ∧ w' = w := by
  go_enter Try.func19, Try.ntmps19
  go_wp2_with (go_at_call 57; refine (has_any _ _ _ hf hf' (by omega)).mono ?_; rintro e w' ⟨rfl, rfl⟩)
  all_goals
    go_ret2
    refine ret1 ?_ rfl
    go_light
    simp only [Bool.not_eq_true, beq_iff_eq, beq_eq_false_iff_ne, ne_eq] at *
    unfold refNextF
    repeat' split
    all_goals first | rfl | (exfalso; simp_all; done) | (exfalso; simp_all; omega) | (simp_all; done)
end Go.Proofs.Ytpmhlcnnbkicaaa
