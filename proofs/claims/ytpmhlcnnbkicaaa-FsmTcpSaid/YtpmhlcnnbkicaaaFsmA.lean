/- Walks of package fsm and of its reference. -/
import Derived.Test.YtpmhlcnnbkicaaaTraceD
import Derived.WalkSmall
import Derived.WalkLawsBesides
namespace Go.Proofs.Ytpmhlcnnbkicaaa
set_option linter.unusedSimpArgs false
set_option linter.unusedVariables false
open Go Go.RowKit

/-- A packet. -/
structure Pk where
  proto : Int
  src : Int
  dst : Int
  sport : Int
  dport : Int
  flags : Int
  kind : Int

def pkC (p : Pk) : Array Value := #[.int .u8 p.proto, .int .u32 p.src, .int .u32 p.dst, .int .u16 p.sport, .int .u16 p.dport, .int .u8 p.flags, .int .u8 p.kind]

def goesF (r : Bool) (p : Pk) : Bool :=
  if (p.proto == 17) = true then true else if (p.proto == 1) = true then ((p.kind == 8) && !r) || ((p.kind == 0) && r) else false

set_option maxHeartbeats 1000000 in
theorem goes_any (r : Bool) (p : Pk) (w : World) :
    Calls Try.prog 59 #[.bool r, .agg (pkC p)] w fun e w' => e = .returned (.bool (goesF r p)) ∧ Below w.heap.size w w' := by
  unfold pkC
  go_enter Try.func59, Try.ntmps59
  go_wp2
  all_goals
    go_ret
    refine ⟨congrArg (fun b => Ending.returned (.bool b)) ?_, (Below.refl _ _).alloc (Nat.le_refl _) _⟩
    cases r <;> simp_all [goesF]

def fopenF (p : Pk) : Int × Bool :=
  if (p.proto == 6) = true then openF p.flags else if (p.proto == 17) = true then (8, true) else if (p.proto == 1) = true then if (p.kind == 8) = true then (8, true) else (0, false) else (0, false)

set_option maxHeartbeats 1000000 in
theorem fopen_any (p : Pk) (w : World) :
    Calls Try.prog 21 #[.agg (pkC p)] w fun e w' => e = .returned (.tuple #[.int .i64 (fopenF p).1, .bool (fopenF p).2]) ∧ Below w.heap.size w w' := by
  unfold pkC
  go_enter Try.func21, Try.ntmps21
  go_wp2_with (go_at_call 16; refine (open_any _ _).mono ?_; rintro e w' ⟨rfl, rfl⟩)
  all_goals
    go_ret2
    refine ⟨?_, (Below.refl _ _).alloc (Nat.le_refl _) _⟩
    simp_all [fopenF]

def nearF (n lo hi : Int) : Int := max lo (min n hi)

set_option maxHeartbeats 1000000 in
theorem near_any (n lo hi : Int) (w : World) :
    Calls Try.prog 60 #[.int .i64 n, .int .i64 lo, .int .i64 hi] w fun e w' => e = .returned (.int .i64 (nearF n lo hi)) ∧ w' = w := by
  go_enter Try.func60, Try.ntmps60
  go_wp2
  all_goals
    go_ret
    exact ⟨congrArg (fun b => Ending.returned (.int .i64 b)) (by unfold nearF; omega), rfl⟩

theorem near_val (n lo hi m : Int) (w : World) (h : nearF n lo hi = m) :
    Calls Try.prog 60 #[.int .i64 n, .int .i64 lo, .int .i64 hi] w fun e w' => e = .returned (.int .i64 m) ∧ w' = w := by rw [← h]; exact near_any n lo hi w

/-- How long a state lasts. -/
def longF (ts : Nat → Int) (s : Int) : Int := if 0 ≤ s ∧ s < 16 then ts s.toNat else 0
def untilF (ts : Nat → Int) (s c : Int) : Int := min (nearF c 0 1099511627775 + nearF (longF ts s) 1 1048576) 1099511627775

/-- An array of 16 numbers. -/
def arr16 (f : Nat → Int) : Array Value := #[.int .i64 (f 0), .int .i64 (f 1), .int .i64 (f 2), .int .i64 (f 3), .int .i64 (f 4), .int .i64 (f 5), .int .i64 (f 6), .int .i64 (f 7), .int .i64 (f 8), .int .i64 (f 9), .int .i64 (f 10), .int .i64 (f 11), .int .i64 (f 12), .int .i64 (f 13), .int .i64 (f 14), .int .i64 (f 15)]
theorem arr16_at (f : Nat → Int) (j : Nat) (hj : j < 16) : (arr16 f)[j]? = some (.int .i64 (f j)) := by
  have : j = 0 ∨ j = 1 ∨ j = 2 ∨ j = 3 ∨ j = 4 ∨ j = 5 ∨ j = 6 ∨ j = 7 ∨ j = 8 ∨ j = 9 ∨ j = 10 ∨ j = 11 ∨ j = 12 ∨ j = 13 ∨ j = 14 ∨ j = 15 := by omega
  rcases this with h | h | h | h | h | h | h | h | h | h | h | h | h | h | h | h <;> subst h <;> rfl

theorem until_tail {a b : Int} (ha : 0 ≤ a) (ha' : a ≤ 1099511627775) (hb : 1 ≤ b) (hb' : b ≤ 1048576) : 0 ≤ a + b ∧ a + b ≤ 1099512676351 := by omega
theorem nearF_bd (n lo hi : Int) (h : lo ≤ hi) : lo ≤ nearF n lo hi ∧ nearF n lo hi ≤ hi := by unfold nearF; omega

set_option maxHeartbeats 2000000 in
theorem until_any (ts : Nat → Int) (s c : Int) (w : World) :
    Calls Try.prog 26 #[.agg (arr16 ts), .int .i64 s, .int .i64 c] w fun e w' => e = .returned (.int .i64 (untilF ts s c)) ∧ Below w.heap.size w w' := by
  obtain ⟨m1, e1⟩ : ∃ m, nearF c 0 1099511627775 = m := ⟨_, rfl⟩
  obtain ⟨m2, e2⟩ : ∃ m, nearF (longF ts s) 1 1048576 = m := ⟨_, rfl⟩
  have b1 := nearF_bd c 0 1099511627775 (by omega)
  have b2 := nearF_bd (longF ts s) 1 1048576 (by omega)
  have hfin : untilF ts s c = min (m1 + m2) 1099511627775 := by unfold untilF; rw [e1, e2]
  rw [e1] at b1
  rw [e2] at b2
  have E1 := Lib.hid e1
  have HF := Lib.hid hfin
  clear e1 hfin
  have fin : ∀ (w' : World) (e : Ending), e = .returned (.int .i64 (min (m1 + m2) 1099511627775)) → Below w.heap.size w w' → e = .returned (.int .i64 (untilF ts s c)) ∧ Below w.heap.size w w' := fun w' e he hb => ⟨by rw [HF.out]; exact he, hb⟩
  have FIN := Lib.hid fin
  clear fin
  by_cases hs : 0 ≤ s ∧ s < 16
  · obtain ⟨h0, h16⟩ := hs
    obtain ⟨n, rfl⟩ := Int.eq_ofNat_of_zero_le h0
    have hc : (w.alloc (.cells (arr16 ts) 33)).cell? ⟨w.heap.size, n, none⟩ = some (.int .i64 (longF ts n)) := by
      have := arr16_at ts n (by omega)
      simp [this, longF, h16]
    have E2 := Lib.hid e2
    clear e2
    generalize arr16 ts = X at *
    go_enter Try.func26, Try.ntmps26
    go_wp2_with fail
    refine (near_val c 0 _ m1 _ E1.out).mono ?_
    rintro e w1 ⟨rfl, rfl⟩
    go_wp2_with fail
    refine (near_val _ 1 _ m2 _ E2.out).mono ?_
    rintro e w1 ⟨rfl, rfl⟩
    go_wp2_with fail
    all_goals
      go_ret
      exact FIN.out _ _ (congrArg (fun b => Ending.returned (.int .i64 b)) (by omega)) ((Below.refl _ _).alloc (Nat.le_refl _) _)
  · have hl : longF ts s = 0 := by unfold longF; rw [if_neg hs]
    rw [hl] at e2
    have E2 := Lib.hid e2
    clear e2 hl
    have hb : (decide (0 ≤ s) = true ∧ decide (s < 16) = false) ∨ decide (0 ≤ s) = false := by
      by_cases h0 : 0 ≤ s
      · exact .inl ⟨decide_eq_true h0, decide_eq_false (fun h => hs ⟨h0, h⟩)⟩
      · exact .inr (decide_eq_false h0)
    clear hs
    rcases hb with ⟨h0, h16⟩ | h0
    all_goals
      generalize arr16 ts = X at *
      go_enter Try.func26, Try.ntmps26
      go_wp2_with fail
      refine (near_val c 0 _ m1 _ E1.out).mono ?_
      rintro e w1 ⟨rfl, rfl⟩
      go_wp2_with fail
      refine (near_val _ 1 _ m2 _ E2.out).mono ?_
      rintro e w1 ⟨rfl, rfl⟩
      go_wp2_with fail
      all_goals
        go_ret
        exact FIN.out _ _ (congrArg (fun b => Ending.returned (.int .i64 b)) (by omega)) ((Below.refl _ _).alloc (Nat.le_refl _) _)

set_option maxHeartbeats 2000000 in
theorem refUntil_any (ts : Nat → Int) (s c : Int) (w : World) :
    Calls Try.prog 27 #[.agg (arr16 ts), .int .i64 s, .int .i64 c] w fun e w' => e = .returned (.int .i64 (untilF ts s c)) ∧ Below w.heap.size w w' := by
  obtain ⟨g, eg⟩ : ∃ g, longF ts s = g := ⟨_, rfl⟩
  have hfin : ∀ (w' : World) (m : Int), m = min (max 0 (min c 1099511627775) + max 1 (min g 1048576)) 1099511627775 → Below w.heap.size w w' → (Ending.returned (.int .i64 m) = .returned (.int .i64 (untilF ts s c)) ∧ Below w.heap.size w w') := fun w' m hm hb => by
    refine ⟨?_, hb⟩
    rw [hm]
    unfold untilF nearF
    rw [eg]
  have FIN := Lib.hid hfin
  clear hfin
  by_cases hs : 0 ≤ s ∧ s < 16
  · obtain ⟨h0, h16⟩ := hs
    obtain ⟨n, rfl⟩ := Int.eq_ofNat_of_zero_le h0
    have hc : (w.alloc (.cells (arr16 ts) 33)).cell? ⟨w.heap.size, n, none⟩ = some (.int .i64 g) := by
      have := arr16_at ts n (by omega)
      rw [← eg]
      simp [this, longF, h16]
    clear eg
    have h15 : (n : Int) ≤ 15 := by omega
    generalize arr16 ts = X at *
    go_enter Try.func27, Try.ntmps27
    go_wp2
    all_goals
      go_ret
      exact FIN.out _ _ (by omega) ((Below.refl _ _).alloc (Nat.le_refl _) _)
  · have hl : g = 0 := by rw [← eg]; unfold longF; rw [if_neg hs]
    clear eg
    subst hl
    have hb : (decide (0 ≤ s) = true ∧ decide (s ≤ 15) = false) ∨ decide (0 ≤ s) = false := by
      by_cases h0 : 0 ≤ s
      · exact .inl ⟨decide_eq_true h0, decide_eq_false (fun h => hs ⟨h0, by omega⟩)⟩
      · exact .inr (decide_eq_false h0)
    clear hs
    rcases hb with ⟨h0, h16⟩ | h0
    all_goals
      generalize arr16 ts = X at *
      go_enter Try.func27, Try.ntmps27
      go_wp2
      all_goals
        go_ret
        exact FIN.out _ _ (by omega) ((Below.refl _ _).alloc (Nat.le_refl _) _)
end Go.Proofs.Ytpmhlcnnbkicaaa
