/- The walks of right, of the reference's right and plain. Printed by gen_racei.py. -/
import Derived.Test.YtccbiolgdamnpaaRaceH
namespace Go.Proofs.Ytccbiolgdamnpaa
set_option linter.unusedSimpArgs false
set_option linter.unusedVariables false
open Go Go.RowKit

set_option maxHeartbeats 4000000 in
set_option maxRecDepth 100000 in
theorem right_any (x y : Ac) (w : World) :
    Calls Try.prog 17 #[acV x, acV y] w fun e w' => e = .returned (.bool (rt x y)) ∧ Below w.heap.size w w' := by
  obtain ⟨xt, xk, xp⟩ := x
  obtain ⟨yt, yk, yp⟩ := y
  unfold acV
  have hb : Below w.heap.size w ((w.alloc (.cells #[.int .i64 xt, .int .i64 xk, .int .i64 xp] 32)).alloc (.cells #[.int .i64 yt, .int .i64 yk, .int .i64 yp] 32)) := ((Below.refl _ _).alloc (Nat.le_refl _) _).alloc (by simp) _
  have hs : (w.alloc (.cells #[.int .i64 xt, .int .i64 xk, .int .i64 xp] 32)).heap.size = w.heap.size + 1 := by simp
  have a0 : ((w.alloc (.cells #[.int .i64 xt, .int .i64 xk, .int .i64 xp] 32)).alloc (.cells #[.int .i64 yt, .int .i64 yk, .int .i64 yp] 32)).cell? ⟨w.heap.size, 0, none⟩ = some (.int .i64 xt) := by rw [World.cell?_alloc_lt _ _ _ (by simp)]; simp
  have a1 : ((w.alloc (.cells #[.int .i64 xt, .int .i64 xk, .int .i64 xp] 32)).alloc (.cells #[.int .i64 yt, .int .i64 yk, .int .i64 yp] 32)).cell? ⟨w.heap.size, 1, none⟩ = some (.int .i64 xk) := by rw [World.cell?_alloc_lt _ _ _ (by simp)]; simp
  have a2 : ((w.alloc (.cells #[.int .i64 xt, .int .i64 xk, .int .i64 xp] 32)).alloc (.cells #[.int .i64 yt, .int .i64 yk, .int .i64 yp] 32)).cell? ⟨w.heap.size, 2, none⟩ = some (.int .i64 xp) := by rw [World.cell?_alloc_lt _ _ _ (by simp)]; simp
  have b0 : ((w.alloc (.cells #[.int .i64 xt, .int .i64 xk, .int .i64 xp] 32)).alloc (.cells #[.int .i64 yt, .int .i64 yk, .int .i64 yp] 32)).cell? ⟨w.heap.size + 1, 0, none⟩ = some (.int .i64 yt) := by rw [← hs]; simp
  have b1 : ((w.alloc (.cells #[.int .i64 xt, .int .i64 xk, .int .i64 xp] 32)).alloc (.cells #[.int .i64 yt, .int .i64 yk, .int .i64 yp] 32)).cell? ⟨w.heap.size + 1, 1, none⟩ = some (.int .i64 yk) := by rw [← hs]; simp
  have b2 : ((w.alloc (.cells #[.int .i64 xt, .int .i64 xk, .int .i64 xp] 32)).alloc (.cells #[.int .i64 yt, .int .i64 yk, .int .i64 yp] 32)).cell? ⟨w.heap.size + 1, 2, none⟩ = some (.int .i64 yp) := by rw [← hs]; simp
  have hq : ∀ b, rt ⟨xt, xk, xp⟩ ⟨yt, yk, yp⟩ = b ↔ (xt == yt || (xp == yp && ((xk == 2 && yk == 1) || (xk == 4 && (yk == 4 || yk == 3))))) = b := fun b => Iff.rfl
  have HB := Lib.hid hb
  clear hb hs
  generalize hrt : rt ⟨xt, xk, xp⟩ ⟨yt, yk, yp⟩ = r at *
  go_enter Try.func17, Try.ntmps17
  by_cases ht : xt = yt
  · subst ht
    have HQ : Hid (r = true) := Lib.hid ((hq _).2 (by simp))
    clear hq hrt
    go_wp2_with fail
    go_ret
    exact ⟨by (rw [HQ.out]) <;> rfl, HB.out⟩
  have dt2 : (xt == yt) = false := beq_eq_false_iff_ne.2 ht
  by_cases hp : xp = yp
  · subst hp
    by_cases h2 : xk = 2
    · subst h2
      by_cases h1 : yk = 1
      · subst h1
        have HQ : Hid (r = true) := Lib.hid ((hq _).2 (by simp))
        clear hq hrt
        go_wp2_with fail
        go_ret
        exact ⟨by (rw [HQ.out]) <;> rfl, HB.out⟩
      · have d1 : (yk == 1) = false := beq_eq_false_iff_ne.2 h1
        have HQ : Hid (r = false) := Lib.hid ((hq _).2 (by simp [dt2, h1]))
        clear hq hrt
        go_wp2_with fail
        go_ret
        exact ⟨by (rw [HQ.out]) <;> rfl, HB.out⟩
    · have d2 : (xk == 2) = false := beq_eq_false_iff_ne.2 h2
      by_cases h4 : xk = 4
      · subst h4
        by_cases h5 : yk = 4
        · subst h5
          have HQ : Hid (r = true) := Lib.hid ((hq _).2 (by simp))
          clear hq hrt
          go_wp2_with fail
          go_ret
          exact ⟨by (rw [HQ.out]) <;> rfl, HB.out⟩
        · have d5 : (yk == 4) = false := beq_eq_false_iff_ne.2 h5
          by_cases h3 : yk = 3
          · subst h3
            have HQ : Hid (r = true) := Lib.hid ((hq _).2 (by simp))
            clear hq hrt
            go_wp2_with fail
            go_ret
            exact ⟨by (rw [HQ.out]) <;> rfl, HB.out⟩
          · have d3 : (yk == 3) = false := beq_eq_false_iff_ne.2 h3
            have HQ : Hid (r = false) := Lib.hid ((hq _).2 (by simp [dt2, h5, h3]))
            clear hq hrt
            go_wp2_with fail
            go_ret
            exact ⟨by (rw [HQ.out]) <;> rfl, HB.out⟩
      · have d4 : (xk == 4) = false := beq_eq_false_iff_ne.2 h4
        have HQ : Hid (r = false) := Lib.hid ((hq _).2 (by simp [dt2, h2, h4]))
        clear hq hrt
        go_wp2_with fail
        go_ret
        exact ⟨by (rw [HQ.out]) <;> rfl, HB.out⟩
  · have dp : (xp == yp) = false := beq_eq_false_iff_ne.2 hp
    have HQ : Hid (r = false) := Lib.hid ((hq _).2 (by simp [dt2, hp]))
    clear hq hrt
    go_wp2_with fail
    go_ret
    exact ⟨by (rw [HQ.out]) <;> rfl, HB.out⟩

set_option maxHeartbeats 4000000 in
set_option maxRecDepth 100000 in
theorem refRight_any (x y : Ac) (w : World) :
    Calls Try.prog 21 #[acV x, acV y] w fun e w' => e = .returned (.bool (rt x y)) ∧ Below w.heap.size w w' := by
  obtain ⟨xt, xk, xp⟩ := x
  obtain ⟨yt, yk, yp⟩ := y
  unfold acV
  have hb : Below w.heap.size w ((w.alloc (.cells #[.int .i64 xt, .int .i64 xk, .int .i64 xp] 32)).alloc (.cells #[.int .i64 yt, .int .i64 yk, .int .i64 yp] 32)) := ((Below.refl _ _).alloc (Nat.le_refl _) _).alloc (by simp) _
  have hs : (w.alloc (.cells #[.int .i64 xt, .int .i64 xk, .int .i64 xp] 32)).heap.size = w.heap.size + 1 := by simp
  have a0 : ((w.alloc (.cells #[.int .i64 xt, .int .i64 xk, .int .i64 xp] 32)).alloc (.cells #[.int .i64 yt, .int .i64 yk, .int .i64 yp] 32)).cell? ⟨w.heap.size, 0, none⟩ = some (.int .i64 xt) := by rw [World.cell?_alloc_lt _ _ _ (by simp)]; simp
  have a1 : ((w.alloc (.cells #[.int .i64 xt, .int .i64 xk, .int .i64 xp] 32)).alloc (.cells #[.int .i64 yt, .int .i64 yk, .int .i64 yp] 32)).cell? ⟨w.heap.size, 1, none⟩ = some (.int .i64 xk) := by rw [World.cell?_alloc_lt _ _ _ (by simp)]; simp
  have a2 : ((w.alloc (.cells #[.int .i64 xt, .int .i64 xk, .int .i64 xp] 32)).alloc (.cells #[.int .i64 yt, .int .i64 yk, .int .i64 yp] 32)).cell? ⟨w.heap.size, 2, none⟩ = some (.int .i64 xp) := by rw [World.cell?_alloc_lt _ _ _ (by simp)]; simp
  have b0 : ((w.alloc (.cells #[.int .i64 xt, .int .i64 xk, .int .i64 xp] 32)).alloc (.cells #[.int .i64 yt, .int .i64 yk, .int .i64 yp] 32)).cell? ⟨w.heap.size + 1, 0, none⟩ = some (.int .i64 yt) := by rw [← hs]; simp
  have b1 : ((w.alloc (.cells #[.int .i64 xt, .int .i64 xk, .int .i64 xp] 32)).alloc (.cells #[.int .i64 yt, .int .i64 yk, .int .i64 yp] 32)).cell? ⟨w.heap.size + 1, 1, none⟩ = some (.int .i64 yk) := by rw [← hs]; simp
  have b2 : ((w.alloc (.cells #[.int .i64 xt, .int .i64 xk, .int .i64 xp] 32)).alloc (.cells #[.int .i64 yt, .int .i64 yk, .int .i64 yp] 32)).cell? ⟨w.heap.size + 1, 2, none⟩ = some (.int .i64 yp) := by rw [← hs]; simp
  have hq : ∀ b, rt ⟨xt, xk, xp⟩ ⟨yt, yk, yp⟩ = b ↔ (xt == yt || (xp == yp && ((xk == 2 && yk == 1) || (xk == 4 && (yk == 4 || yk == 3))))) = b := fun b => Iff.rfl
  have HB := Lib.hid hb
  clear hb hs
  generalize hrt : rt ⟨xt, xk, xp⟩ ⟨yt, yk, yp⟩ = r at *
  go_enter Try.func21, Try.ntmps21
  by_cases ht : xt = yt
  · subst ht
    have HQ : Hid (r = true) := Lib.hid ((hq _).2 (by simp))
    clear hq hrt
    go_wp2_with fail
    go_ret
    exact ⟨by (rw [HQ.out]) <;> rfl, HB.out⟩
  have dt2 : (xt == yt) = false := beq_eq_false_iff_ne.2 ht
  by_cases hp : xp = yp
  · subst hp
    by_cases h2 : xk = 2
    · subst h2
      by_cases h1 : yk = 1
      · subst h1
        have HQ : Hid (r = true) := Lib.hid ((hq _).2 (by simp))
        clear hq hrt
        go_wp2_with fail
        go_ret
        exact ⟨by (rw [HQ.out]) <;> rfl, HB.out⟩
      · have d1 : (yk == 1) = false := beq_eq_false_iff_ne.2 h1
        have HQ : Hid (r = false) := Lib.hid ((hq _).2 (by simp [dt2, h1]))
        clear hq hrt
        go_wp2_with fail
        go_ret
        exact ⟨by (rw [HQ.out]) <;> rfl, HB.out⟩
    · have d2 : (xk == 2) = false := beq_eq_false_iff_ne.2 h2
      by_cases h4 : xk = 4
      · subst h4
        by_cases h5 : yk = 4
        · subst h5
          have HQ : Hid (r = true) := Lib.hid ((hq _).2 (by simp))
          clear hq hrt
          go_wp2_with fail
          go_ret
          exact ⟨by (rw [HQ.out]) <;> rfl, HB.out⟩
        · have d5 : (yk == 4) = false := beq_eq_false_iff_ne.2 h5
          by_cases h3 : yk = 3
          · subst h3
            have HQ : Hid (r = true) := Lib.hid ((hq _).2 (by simp))
            clear hq hrt
            go_wp2_with fail
            go_ret
            exact ⟨by (rw [HQ.out]) <;> rfl, HB.out⟩
          · have d3 : (yk == 3) = false := beq_eq_false_iff_ne.2 h3
            have HQ : Hid (r = false) := Lib.hid ((hq _).2 (by simp [dt2, h5, h3]))
            clear hq hrt
            go_wp2_with fail
            go_ret
            exact ⟨by (rw [HQ.out]) <;> rfl, HB.out⟩
      · have d4 : (xk == 4) = false := beq_eq_false_iff_ne.2 h4
        have HQ : Hid (r = false) := Lib.hid ((hq _).2 (by simp [dt2, h2, h4]))
        clear hq hrt
        go_wp2_with fail
        go_ret
        exact ⟨by (rw [HQ.out]) <;> rfl, HB.out⟩
  · have dp : (xp == yp) = false := beq_eq_false_iff_ne.2 hp
    have HQ : Hid (r = false) := Lib.hid ((hq _).2 (by simp [dt2, hp]))
    clear hq hrt
    go_wp2_with fail
    go_ret
    exact ⟨by (rw [HQ.out]) <;> rfl, HB.out⟩

def plainB (x : Ac) : Bool := x.kd == 5 || x.kd == 6
theorem plainB_iff {x : Ac} : plainB x = true ↔ plainK x.kd := by unfold plainB plainK; simp
set_option maxHeartbeats 4000000 in
set_option maxRecDepth 100000 in
theorem plain_any (x : Ac) (w : World) :
    Calls Try.prog 15 #[acV x] w fun e w' => e = .returned (.bool (plainB x)) ∧ Below w.heap.size w w' := by
  obtain ⟨xt, xk, xp⟩ := x
  unfold acV
  have hb : Below w.heap.size w (w.alloc (.cells #[.int .i64 xt, .int .i64 xk, .int .i64 xp] 32)) := (Below.refl _ _).alloc (Nat.le_refl _) _
  have HB := Lib.hid hb
  clear hb
  by_cases h5 : xk = 5
  · subst h5
    have HQ : Hid (plainB ⟨xt, 5, xp⟩ = true) := Lib.hid rfl
    go_enter Try.func15, Try.ntmps15
    go_wp2_with fail
    go_ret
    exact ⟨by (rw [HQ.out]) <;> rfl, HB.out⟩
  · have d5 : (xk == 5) = false := beq_eq_false_iff_ne.2 h5
    by_cases h6 : xk = 6
    · subst h6
      have HQ : Hid (plainB ⟨xt, 6, xp⟩ = true) := Lib.hid rfl
      go_enter Try.func15, Try.ntmps15
      go_wp2_with fail
      go_ret
      exact ⟨by (rw [HQ.out]) <;> rfl, HB.out⟩
    · have d6 : (xk == 6) = false := beq_eq_false_iff_ne.2 h6
      have HQ : Hid (plainB ⟨xt, xk, xp⟩ = false) := Lib.hid (by unfold plainB; simp [h5, h6])
      go_enter Try.func15, Try.ntmps15
      go_wp2_with fail
      go_ret
      exact ⟨by (rw [HQ.out]) <;> rfl, HB.out⟩
end Go.Proofs.Ytccbiolgdamnpaa
