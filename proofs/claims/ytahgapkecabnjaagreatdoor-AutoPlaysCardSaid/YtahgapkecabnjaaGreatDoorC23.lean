/- Walks of the references' Tick, Enter, Leave, Swap (gate) and Next, Over (flow). Printed by gen_gatee.py. -/
import Derived.Test.YtahgapkecabnjaaGreatDoorC22
import Derived.Test.YtahgapkecabnjaaGreatDoorC04
import Derived.OrdersHeld
namespace Go.Proofs.YtahgapkecabnjaaGreatDoor
set_option linter.unusedSimpArgs false
set_option linter.unusedVariables false
open Go Go.RowKit

theorem below_over {w w1 W w2 : World} (h : Below w.heap.size w w1) (k : Below w1.heap.size w1 W) (h2 : Below W.heap.size W w2) : Below w.heap.size w w2 := below_then h (below_then k h2)
set_option maxHeartbeats 8000000 in
set_option maxRecDepth 100000 in
theorem rgtick_any (v r : Nat) (n : Int) (w : World) (hv : U64 v) (hr : tickW v n = r) :
    Calls Tryz.prog 32 #[.int .u64 v, .int .i64 n] w fun e w' => e = .returned (.int .u64 r) ∧ Below w.heap.size w w' := by
  have GU := Lib.hid (fun W => rgunpack_any v _ _ _ W hv rfl rfl rfl)
  have hp := gate_parts hv
  have x0 : (0 : Int) ≤ (verW v : Int) := by omega
  have y0 : (0 : Int) ≤ (cntW v : Int) := by omega
  have z0 : (0 : Int) ≤ (clkW v : Int) := by omega
  have HR : Hid ((r : Int) = (v : Int) + min (max n 0) (1099511627775 - (clkW v : Int)) ∧ (v : Int) = ((verW v : Int) * 4096 + (cntW v : Int)) * 1099511627776 + (clkW v : Int) ∧ (0 ≤ (verW v : Int) ∧ (verW v : Int) ≤ 4095) ∧ (0 ≤ (cntW v : Int) ∧ (cntW v : Int) ≤ 4095) ∧ (0 ≤ (clkW v : Int) ∧ (clkW v : Int) ≤ 1099511627775)) := Lib.hid (by
    rw [← hr]; unfold tickW goesBy; omega)
  clear hr
  clear hp hv x0 y0 z0
  generalize verW v = x at *
  generalize cntW v = y at *
  generalize clkW v = z at *
  generalize (x : Int) = x at *
  generalize (y : Int) = y at *
  generalize (z : Int) = z at *
  generalize hvi : (v : Int) = vi at *
  generalize (r : Int) = r at *
  have HW := Lib.hid (fun a b c n W h1 h2 h3 hn => rgwith_any a b c n W h1 h2 h3 hn)
  rcases (show (n ≤ 0) ∨ (¬ n ≤ 0 ∧ ¬ 1099511627776 < n ∧ ¬ 1099511627776 ≤ z + n) ∨ (¬ n ≤ 0 ∧ ¬ 1099511627776 < n ∧ 1099511627776 ≤ z + n) ∨ (¬ n ≤ 0 ∧ 1099511627776 < n) by omega) with n1 | ⟨n1, n2, n3⟩ | ⟨n1, n2, n3⟩ | ⟨n1, n2⟩
  · have hq : r = vi := by have := HR.out; omega
    subst hq
    go_enter Tryz.func32, Tryz.ntmps32
    go_wp2_with fail
    refine (GU.out _).mono ?_
    rintro e w1 ⟨rfl, h1⟩
    have HB1 := Lib.hid h1
    clear h1
    go_wp2_with fail
    go_ret
    exact ⟨rfl, Below.alloc HB1.out HB1.out.size _⟩
  · obtain ⟨r1, r2, r3, r4, r5⟩ := HR.out
    have HA := Lib.hid (show r = (x * 4096 + y) * 1099511627776 + (z + n) by omega)
    have HX := Lib.hid (show (0 ≤ x ∧ x ≤ 4095) ∧ (0 ≤ y ∧ y ≤ 4095) ∧ 0 ≤ z + n ∧ z + n ≤ 1099511627775 by omega)
    have ww : wrap64 (z + n) = z + n := by unfold wrap64; omega
    clear r1 r2 r3 r4 r5
    go_enter Tryz.func32, Tryz.ntmps32
    go_wp2_with fail
    refine (GU.out _).mono ?_
    rintro e w1 ⟨rfl, h1⟩
    have HB1 := Lib.hid h1
    clear h1
    go_wp2_with fail
    refine (HW.out x y (z + n) r _ HX.out.1 HX.out.2.1 HX.out.2.2 HA.out.symm).mono ?_
    rintro e w2 ⟨rfl, h2⟩
    have HB2 := Lib.hid (below_over HB1.out (by repeat (first | exact Below.refl _ _ | refine Below.setCell ?_ (Nat.le_refl _) _ | refine Below.alloc ?_ (Nat.le_refl _) _)) h2)
    clear h2
    go_wp2_with fail
    go_ret
    exact ⟨rfl, HB2.out⟩
  · obtain ⟨r1, r2, r3, r4, r5⟩ := HR.out
    have HA := Lib.hid (show r = (x * 4096 + y) * 1099511627776 + 1099511627775 by omega)
    have HX := Lib.hid (show (0 ≤ x ∧ x ≤ 4095) ∧ (0 ≤ y ∧ y ≤ 4095) by omega)
    have ww : wrap64 (z + n) = z + n := by unfold wrap64; omega
    clear r1 r2 r3 r4 r5
    go_enter Tryz.func32, Tryz.ntmps32
    go_wp2_with fail
    refine (GU.out _).mono ?_
    rintro e w1 ⟨rfl, h1⟩
    have HB1 := Lib.hid h1
    clear h1
    go_wp2_with fail
    refine (HW.out x y 1099511627775 r _ HX.out.1 HX.out.2 (by decide) HA.out.symm).mono ?_
    rintro e w2 ⟨rfl, h2⟩
    have HB2 := Lib.hid (below_over HB1.out (by repeat (first | exact Below.refl _ _ | refine Below.setCell ?_ (Nat.le_refl _) _ | refine Below.alloc ?_ (Nat.le_refl _) _)) h2)
    clear h2
    go_wp2_with fail
    go_ret
    exact ⟨rfl, HB2.out⟩
  · obtain ⟨r1, r2, r3, r4, r5⟩ := HR.out
    have HA := Lib.hid (show r = (x * 4096 + y) * 1099511627776 + 1099511627775 by omega)
    have HX := Lib.hid (show (0 ≤ x ∧ x ≤ 4095) ∧ (0 ≤ y ∧ y ≤ 4095) by omega)
    have ww : wrap64 (z + 1099511627776) = z + 1099511627776 := by unfold wrap64; omega
    have wg : 1099511627776 ≤ z + 1099511627776 := by omega
    clear r1 r2 r3 r4 r5
    go_enter Tryz.func32, Tryz.ntmps32
    go_wp2_with fail
    refine (GU.out _).mono ?_
    rintro e w1 ⟨rfl, h1⟩
    have HB1 := Lib.hid h1
    clear h1
    go_wp2_with fail
    refine (HW.out x y 1099511627775 r _ HX.out.1 HX.out.2 (by decide) HA.out.symm).mono ?_
    rintro e w2 ⟨rfl, h2⟩
    have HB2 := Lib.hid (below_over HB1.out (by repeat (first | exact Below.refl _ _ | refine Below.setCell ?_ (Nat.le_refl _) _ | refine Below.alloc ?_ (Nat.le_refl _) _)) h2)
    clear h2
    go_wp2_with fail
    go_ret
    exact ⟨rfl, HB2.out⟩
set_option maxHeartbeats 8000000 in
set_option maxRecDepth 100000 in
theorem rgenter_any (v : Nat) (limit : Int) (w : World) (hv : U64 v) :
    Calls Tryz.prog 76 #[.int .u64 v, .int .i64 limit] w fun e w' => e = .returned (.tuple #[.int .u64 (enterW v limit : Nat), .bool (roomW v limit)]) ∧ Below w.heap.size w w' := by
  have GU := Lib.hid (fun W => rgunpack_any v _ _ _ W hv rfl rfl rfl)
  have hp := gate_parts hv
  have x0 : (0 : Int) ≤ (verW v : Int) := by omega
  have y0 : (0 : Int) ≤ (cntW v : Int) := by omega
  have z0 : (0 : Int) ≤ (clkW v : Int) := by omega
  have HR : Hid ((roomW v limit = true → (cntW v : Int) < min limit 4095 ∧ ((enterW v limit : Nat) : Int) = ((verW v : Int) * 4096 + ((cntW v : Int) + 1)) * 1099511627776 + (clkW v : Int)) ∧ (roomW v limit = false → ¬ ((cntW v : Int) < min limit 4095) ∧ enterW v limit = v) ∧ (0 ≤ (verW v : Int) ∧ (verW v : Int) ≤ 4095) ∧ (0 ≤ (cntW v : Int) ∧ (cntW v : Int) ≤ 4095) ∧ (0 ≤ (clkW v : Int) ∧ (clkW v : Int) ≤ 1099511627775)) := Lib.hid (by
    refine ⟨fun h => ?_, fun h => ?_, by omega, by omega, by omega⟩
    · have h' := of_decide_eq_true h
      have hw := enter_parts hv h
      have hg := gate_parts hw.2.2.2
      omega
    · have h' := of_decide_eq_false h
      exact ⟨by omega, by unfold enterW; rw [h]; rfl⟩)
  clear hp hv x0 y0 z0
  generalize verW v = x at *
  generalize cntW v = y at *
  generalize clkW v = z at *
  generalize (x : Int) = x at *
  generalize (y : Int) = y at *
  generalize (z : Int) = z at *
  generalize hvi : (v : Int) = vi at *
  generalize hok : roomW v limit = ok at *
  generalize enterW v limit = r at *
  generalize hri : (r : Int) = ri at *
  have HW := Lib.hid (fun a b c n W h1 h2 h3 hn => rgwith_any a b c n W h1 h2 h3 hn)
  cases ok with
  | true =>
    obtain ⟨r1, -, r3, r4, r5⟩ := HR.out
    obtain ⟨c1, c2⟩ := r1 rfl
    have HA := Lib.hid (show ri = ((x) * 4096 + (y + 1)) * 1099511627776 + (z) by omega)
    have HX := Lib.hid (show (0 ≤ x ∧ x ≤ 4095) ∧ (0 ≤ y + 1 ∧ y + 1 ≤ 4095) ∧ 0 ≤ z ∧ z ≤ 1099511627775 by omega)
    have ww : wrap64 (y + 1) = y + 1 := by unfold wrap64; omega
    have d1 : ¬ limit ≤ y := by omega
    have d2 : (y == 4095) = false := beq_eq_false_iff_ne.2 (by omega)
    clear r1 r3 r4 r5 c1 c2 hri hvi hok
    go_enter Tryz.func76, Tryz.ntmps76
    go_wp2_with fail
    refine (GU.out _).mono ?_
    rintro e w1 ⟨rfl, h1⟩
    have HB1 := Lib.hid h1
    clear h1
    go_wp2_with fail
    all_goals first
      | (exfalso; omega)
      | (refine (HW.out (x) (y + 1) (z) ri _ HX.out.1 HX.out.2.1 HX.out.2.2 HA.out.symm).mono ?_
         rintro e w2 ⟨rfl, h2⟩
         have HB2 := Lib.hid (below_over HB1.out (by repeat (first | exact Below.refl _ _ | refine Below.setCell ?_ (Nat.le_refl _) _ | refine Below.alloc ?_ (Nat.le_refl _) _)) h2)
         clear h2
         go_wp2_with fail
         go_ret2
         exact ⟨by first | rfl | simp_all, HB2.out⟩)
  | false =>
    obtain ⟨-, r2, r3, r4, r5⟩ := HR.out
    obtain ⟨c1, c2⟩ := r2 rfl
    have d1 : limit ≤ y ∨ (¬ limit ≤ y ∧ y = 4095) := by omega
    have e : ri = vi := by rw [← hri, ← hvi, c2]
    clear r2 r3 r4 r5 hri hvi c2 HR hok
    subst e
    rcases d1 with d1 | ⟨d1, d2⟩
    · go_enter Tryz.func76, Tryz.ntmps76
      go_wp2_with fail
      refine (GU.out _).mono ?_
      rintro e w1 ⟨rfl, h1⟩
      have HB1 := Lib.hid h1
      clear h1
      go_wp2_with fail
      all_goals first
        | (exfalso; omega)
        | (go_ret2; exact ⟨by first | rfl | simp_all, Below.alloc HB1.out HB1.out.size _⟩)
    · have d3 : (y == 4095) = true := beq_iff_eq.2 d2
      clear d2
      go_enter Tryz.func76, Tryz.ntmps76
      go_wp2_with fail
      refine (GU.out _).mono ?_
      rintro e w1 ⟨rfl, h1⟩
      have HB1 := Lib.hid h1
      clear h1
      go_wp2_with fail
      all_goals first
        | (exfalso; omega)
        | (go_ret2; exact ⟨by first | rfl | simp_all, Below.alloc HB1.out HB1.out.size _⟩)
set_option maxHeartbeats 8000000 in
set_option maxRecDepth 100000 in
theorem rgleave_any (v : Nat) (w : World) (hv : U64 v) :
    Calls Tryz.prog 69 #[.int .u64 v] w fun e w' => e = .returned (.tuple #[.int .u64 (leaveW v : Nat), .bool (leaveOk v)]) ∧ Below w.heap.size w w' := by
  have GU := Lib.hid (fun W => rgunpack_any v _ _ _ W hv rfl rfl rfl)
  have hp := gate_parts hv
  have x0 : (0 : Int) ≤ (verW v : Int) := by omega
  have y0 : (0 : Int) ≤ (cntW v : Int) := by omega
  have z0 : (0 : Int) ≤ (clkW v : Int) := by omega
  have HR : Hid ((leaveOk v = true → (cntW v : Int) ≠ 0 ∧ ((leaveW v : Nat) : Int) = ((verW v : Int) * 4096 + ((cntW v : Int) - 1)) * 1099511627776 + (clkW v : Int)) ∧ (leaveOk v = false → ¬ ((cntW v : Int) ≠ 0) ∧ leaveW v = v) ∧ (0 ≤ (verW v : Int) ∧ (verW v : Int) ≤ 4095) ∧ (0 ≤ (cntW v : Int) ∧ (cntW v : Int) ≤ 4095) ∧ (0 ≤ (clkW v : Int) ∧ (clkW v : Int) ≤ 1099511627775)) := Lib.hid (by
    refine ⟨fun h => ?_, fun h => ?_, by omega, by omega, by omega⟩
    · have h' := of_decide_eq_true h
      have hw := leave_parts hv h
      have hg := gate_parts hw.2.2.2
      omega
    · have h' := of_decide_eq_false h
      exact ⟨by omega, by unfold leaveW; rw [h]; rfl⟩)
  clear hp hv x0 y0 z0
  generalize verW v = x at *
  generalize cntW v = y at *
  generalize clkW v = z at *
  generalize (x : Int) = x at *
  generalize (y : Int) = y at *
  generalize (z : Int) = z at *
  generalize hvi : (v : Int) = vi at *
  generalize hok : leaveOk v = ok at *
  generalize leaveW v = r at *
  generalize hri : (r : Int) = ri at *
  have HW := Lib.hid (fun a b c n W h1 h2 h3 hn => rgwith_any a b c n W h1 h2 h3 hn)
  cases ok with
  | true =>
    obtain ⟨r1, -, r3, r4, r5⟩ := HR.out
    obtain ⟨c1, c2⟩ := r1 rfl
    have HA := Lib.hid (show ri = ((x) * 4096 + (y - 1)) * 1099511627776 + (z) by omega)
    have HX := Lib.hid (show (0 ≤ x ∧ x ≤ 4095) ∧ (0 ≤ y - 1 ∧ y - 1 ≤ 4095) ∧ 0 ≤ z ∧ z ≤ 1099511627775 by omega)
    have ww : wrap64 (y - 1) = y - 1 := by unfold wrap64; omega
    have d1 : ¬ y = 0 := by omega
    clear r1 r3 r4 r5 c1 c2 hri hvi hok
    go_enter Tryz.func69, Tryz.ntmps69
    go_wp2_with fail
    refine (GU.out _).mono ?_
    rintro e w1 ⟨rfl, h1⟩
    have HB1 := Lib.hid h1
    clear h1
    go_wp2_with fail
    all_goals first
      | (exfalso; omega)
      | (refine (HW.out (x) (y - 1) (z) ri _ HX.out.1 HX.out.2.1 HX.out.2.2 HA.out.symm).mono ?_
         rintro e w2 ⟨rfl, h2⟩
         have HB2 := Lib.hid (below_over HB1.out (by repeat (first | exact Below.refl _ _ | refine Below.setCell ?_ (Nat.le_refl _) _ | refine Below.alloc ?_ (Nat.le_refl _) _)) h2)
         clear h2
         go_wp2_with fail
         go_ret2
         exact ⟨by first | rfl | simp_all, HB2.out⟩)
  | false =>
    obtain ⟨-, r2, r3, r4, r5⟩ := HR.out
    obtain ⟨c1, c2⟩ := r2 rfl
    have d1 : y = 0 := by omega
    have e : ri = vi := by rw [← hri, ← hvi, c2]
    clear r2 r3 r4 r5 hri hvi c2 HR hok
    subst e
    go_enter Tryz.func69, Tryz.ntmps69
    go_wp2_with fail
    refine (GU.out _).mono ?_
    rintro e w1 ⟨rfl, h1⟩
    have HB1 := Lib.hid h1
    clear h1
    go_wp2_with fail
    all_goals first
      | (exfalso; omega)
      | (go_ret2; exact ⟨by first | rfl | simp_all, Below.alloc HB1.out HB1.out.size _⟩)
set_option maxHeartbeats 8000000 in
set_option maxRecDepth 100000 in
theorem rgswap_any (v : Nat) (w : World) (hv : U64 v) :
    Calls Tryz.prog 66 #[.int .u64 v] w fun e w' => e = .returned (.tuple #[.int .u64 (swapW v : Nat), .bool (swapOk v)]) ∧ Below w.heap.size w w' := by
  have GU := Lib.hid (fun W => rgunpack_any v _ _ _ W hv rfl rfl rfl)
  have hp := gate_parts hv
  have x0 : (0 : Int) ≤ (verW v : Int) := by omega
  have y0 : (0 : Int) ≤ (cntW v : Int) := by omega
  have z0 : (0 : Int) ≤ (clkW v : Int) := by omega
  have HR : Hid ((swapOk v = true → (verW v : Int) ≠ 4095 ∧ ((swapW v : Nat) : Int) = (((verW v : Int) + 1) * 4096 + (cntW v : Int)) * 1099511627776 + (clkW v : Int)) ∧ (swapOk v = false → ¬ ((verW v : Int) ≠ 4095) ∧ swapW v = v) ∧ (0 ≤ (verW v : Int) ∧ (verW v : Int) ≤ 4095) ∧ (0 ≤ (cntW v : Int) ∧ (cntW v : Int) ≤ 4095) ∧ (0 ≤ (clkW v : Int) ∧ (clkW v : Int) ≤ 1099511627775)) := Lib.hid (by
    refine ⟨fun h => ?_, fun h => ?_, by omega, by omega, by omega⟩
    · have h' := of_decide_eq_true h
      have hw := swap_parts hv h
      have hg := gate_parts hw.2.2.2
      omega
    · have h' := of_decide_eq_false h
      exact ⟨by omega, by unfold swapW; rw [h]; rfl⟩)
  clear hp hv x0 y0 z0
  generalize verW v = x at *
  generalize cntW v = y at *
  generalize clkW v = z at *
  generalize (x : Int) = x at *
  generalize (y : Int) = y at *
  generalize (z : Int) = z at *
  generalize hvi : (v : Int) = vi at *
  generalize hok : swapOk v = ok at *
  generalize swapW v = r at *
  generalize hri : (r : Int) = ri at *
  have HW := Lib.hid (fun a b c n W h1 h2 h3 hn => rgwith_any a b c n W h1 h2 h3 hn)
  cases ok with
  | true =>
    obtain ⟨r1, -, r3, r4, r5⟩ := HR.out
    obtain ⟨c1, c2⟩ := r1 rfl
    have HA := Lib.hid (show ri = ((x + 1) * 4096 + (y)) * 1099511627776 + (z) by omega)
    have HX := Lib.hid (show (0 ≤ x + 1 ∧ x + 1 ≤ 4095) ∧ (0 ≤ y ∧ y ≤ 4095) ∧ 0 ≤ z ∧ z ≤ 1099511627775 by omega)
    have ww : wrap64 (x + 1) = x + 1 := by unfold wrap64; omega
    have d1 : ¬ x = 4095 := by omega
    clear r1 r3 r4 r5 c1 c2 hri hvi hok
    go_enter Tryz.func66, Tryz.ntmps66
    go_wp2_with fail
    refine (GU.out _).mono ?_
    rintro e w1 ⟨rfl, h1⟩
    have HB1 := Lib.hid h1
    clear h1
    go_wp2_with fail
    all_goals first
      | (exfalso; omega)
      | (refine (HW.out (x + 1) (y) (z) ri _ HX.out.1 HX.out.2.1 HX.out.2.2 HA.out.symm).mono ?_
         rintro e w2 ⟨rfl, h2⟩
         have HB2 := Lib.hid (below_over HB1.out (by repeat (first | exact Below.refl _ _ | refine Below.setCell ?_ (Nat.le_refl _) _ | refine Below.alloc ?_ (Nat.le_refl _) _)) h2)
         clear h2
         go_wp2_with fail
         go_ret2
         exact ⟨by first | rfl | simp_all, HB2.out⟩)
  | false =>
    obtain ⟨-, r2, r3, r4, r5⟩ := HR.out
    obtain ⟨c1, c2⟩ := r2 rfl
    have d1 : x = 4095 := by omega
    have e : ri = vi := by rw [← hri, ← hvi, c2]
    clear r2 r3 r4 r5 hri hvi c2 HR hok
    subst e
    go_enter Tryz.func66, Tryz.ntmps66
    go_wp2_with fail
    refine (GU.out _).mono ?_
    rintro e w1 ⟨rfl, h1⟩
    have HB1 := Lib.hid h1
    clear h1
    go_wp2_with fail
    all_goals first
      | (exfalso; omega)
      | (go_ret2; exact ⟨by first | rfl | simp_all, Below.alloc HB1.out HB1.out.size _⟩)
end Go.Proofs.YtahgapkecabnjaaGreatDoor
/- Walks of the reference's Next and Over (flow). Printed by gen_gatef.py. -/
namespace Go.Proofs.YtahgapkecabnjaaGreatDoor
set_option linter.unusedSimpArgs false
set_option linter.unusedVariables false
open Go Go.RowKit

set_option maxHeartbeats 16000000 in
set_option maxRecDepth 100000 in
theorem rflowNext_any (v r : Nat) (to last : Int) (w : World) (hv : U64 v) (hr : flowNext v to last = r) :
    Calls Tryz.prog 72 #[.int .u64 v, .int .i64 to, .int .i64 last] w fun e w' => e = .returned (.int .u64 r) ∧ Below w.heap.size w w' := by
  have GU := Lib.hid (fun W => rfunpack_any v _ _ _ W hv rfl rfl rfl)
  have HR : Hid ((r : Int) = ((to % 16) * 1048576 + min ((seqW v : Int) + 1) 1048575) * 1099511627776 + max 0 (min last 1099511627775) ∧ (0 ≤ (seqW v : Int) ∧ (seqW v : Int) ≤ 1048575) ∧ 0 ≤ to % 16 ∧ to % 16 ≤ 15) := Lib.hid (by
    have := (flow_parts hv).2.2.1
    rw [← hr]; unfold flowNext packF lastF; omega)
  have st1 : (IntKind.u64.wrap to).tmod 16 = to % 16 := by
    rw [wrapU, Int.tmod_eq_emod_of_nonneg (by omega)]; omega
  have st2 : wrap64 (to % 16) = to % 16 := by unfold wrap64; omega
  clear hr hv
  generalize stW v = x at *
  generalize seqW v = y at *
  generalize untW v = z at *
  generalize (x : Int) = x at *
  generalize (y : Int) = y at *
  generalize (z : Int) = z at *
  generalize (v : Int) = vi at *
  generalize (r : Int) = r at *
  generalize to % 16 = ts at *
  have HW := Lib.hid (fun a b c n W h1 h2 h3 hn => rfpack_any a b c n W h1 h2 h3 hn)
  rcases (show (y < 1048575) ∨ (¬ y < 1048575 ∧ y = 1048575) by have := HR.out; omega) with s1 | ⟨s1, s2⟩
  · rcases (show (last < 0 ∧ ¬ 1099511627776 ≤ last) ∨ (¬ last < 0 ∧ ¬ 1099511627776 ≤ last) ∨ (¬ last < 0 ∧ 1099511627776 ≤ last) by omega) with ⟨l1, l2⟩ | ⟨l1, l2⟩ | ⟨l1, l2⟩
    · have ww : wrap64 (y + 1) = y + 1 := by unfold wrap64; have := HR.out; omega
      obtain ⟨r1, r2, r3⟩ := HR.out
      have HA := Lib.hid (show r = (ts * 1048576 + (y + 1)) * 1099511627776 + (0) by omega)
      have HX := Lib.hid (show (0 ≤ ts ∧ ts ≤ 15) ∧ ((0 : Int) ≤ (y + 1) ∧ (y + 1) ≤ (1048575 : Int)) ∧ (0 : Int) ≤ (0) ∧ (0) ≤ (1099511627775 : Int) by omega)
      clear r1 r2 r3
      go_enter Tryz.func72, Tryz.ntmps72
      go_wp2_with fail
      refine (GU.out _).mono ?_
      rintro e w1 ⟨rfl, h1⟩
      have HB1 := Lib.hid h1
      clear h1
      go_wp2_with fail
      all_goals first
        | (exfalso; omega)
        | (refine (HW.out ts (y + 1) (0) r _ HX.out.1 HX.out.2.1 HX.out.2.2 HA.out.symm).mono ?_
           rintro e w2 ⟨rfl, h2⟩
           have HB2 := Lib.hid (below_over HB1.out (by repeat (first | exact Below.refl _ _ | refine Below.setCell ?_ (Nat.le_refl _) _ | refine Below.alloc ?_ (Nat.le_refl _) _)) h2)
           clear h2
           go_wp2_with fail
           go_ret
           exact ⟨rfl, HB2.out⟩)
    · have ww : wrap64 (y + 1) = y + 1 := by unfold wrap64; have := HR.out; omega
      obtain ⟨r1, r2, r3⟩ := HR.out
      have HA := Lib.hid (show r = (ts * 1048576 + (y + 1)) * 1099511627776 + (last) by omega)
      have HX := Lib.hid (show (0 ≤ ts ∧ ts ≤ 15) ∧ ((0 : Int) ≤ (y + 1) ∧ (y + 1) ≤ (1048575 : Int)) ∧ (0 : Int) ≤ (last) ∧ (last) ≤ (1099511627775 : Int) by omega)
      clear r1 r2 r3
      go_enter Tryz.func72, Tryz.ntmps72
      go_wp2_with fail
      refine (GU.out _).mono ?_
      rintro e w1 ⟨rfl, h1⟩
      have HB1 := Lib.hid h1
      clear h1
      go_wp2_with fail
      all_goals first
        | (exfalso; omega)
        | (refine (HW.out ts (y + 1) (last) r _ HX.out.1 HX.out.2.1 HX.out.2.2 HA.out.symm).mono ?_
           rintro e w2 ⟨rfl, h2⟩
           have HB2 := Lib.hid (below_over HB1.out (by repeat (first | exact Below.refl _ _ | refine Below.setCell ?_ (Nat.le_refl _) _ | refine Below.alloc ?_ (Nat.le_refl _) _)) h2)
           clear h2
           go_wp2_with fail
           go_ret
           exact ⟨rfl, HB2.out⟩)
    · have ww : wrap64 (y + 1) = y + 1 := by unfold wrap64; have := HR.out; omega
      obtain ⟨r1, r2, r3⟩ := HR.out
      have HA := Lib.hid (show r = (ts * 1048576 + (y + 1)) * 1099511627776 + (1099511627775) by omega)
      have HX := Lib.hid (show (0 ≤ ts ∧ ts ≤ 15) ∧ ((0 : Int) ≤ (y + 1) ∧ (y + 1) ≤ (1048575 : Int)) ∧ (0 : Int) ≤ (1099511627775) ∧ (1099511627775) ≤ (1099511627775 : Int) by omega)
      clear r1 r2 r3
      go_enter Tryz.func72, Tryz.ntmps72
      go_wp2_with fail
      refine (GU.out _).mono ?_
      rintro e w1 ⟨rfl, h1⟩
      have HB1 := Lib.hid h1
      clear h1
      go_wp2_with fail
      all_goals first
        | (exfalso; omega)
        | (refine (HW.out ts (y + 1) (1099511627775) r _ HX.out.1 HX.out.2.1 HX.out.2.2 HA.out.symm).mono ?_
           rintro e w2 ⟨rfl, h2⟩
           have HB2 := Lib.hid (below_over HB1.out (by repeat (first | exact Below.refl _ _ | refine Below.setCell ?_ (Nat.le_refl _) _ | refine Below.alloc ?_ (Nat.le_refl _) _)) h2)
           clear h2
           go_wp2_with fail
           go_ret
           exact ⟨rfl, HB2.out⟩)
  · rcases (show (last < 0 ∧ ¬ 1099511627776 ≤ last) ∨ (¬ last < 0 ∧ ¬ 1099511627776 ≤ last) ∨ (¬ last < 0 ∧ 1099511627776 ≤ last) by omega) with ⟨l1, l2⟩ | ⟨l1, l2⟩ | ⟨l1, l2⟩
    · subst s2
      clear s1
      obtain ⟨r1, r2, r3⟩ := HR.out
      have HA := Lib.hid (show r = (ts * 1048576 + (1048575)) * 1099511627776 + (0) by omega)
      have HX := Lib.hid (show (0 ≤ ts ∧ ts ≤ 15) ∧ ((0 : Int) ≤ (1048575) ∧ (1048575) ≤ (1048575 : Int)) ∧ (0 : Int) ≤ (0) ∧ (0) ≤ (1099511627775 : Int) by omega)
      clear r1 r2 r3
      go_enter Tryz.func72, Tryz.ntmps72
      go_wp2_with fail
      refine (GU.out _).mono ?_
      rintro e w1 ⟨rfl, h1⟩
      have HB1 := Lib.hid h1
      clear h1
      go_wp2_with fail
      all_goals first
        | (exfalso; omega)
        | (refine (HW.out ts (1048575) (0) r _ HX.out.1 HX.out.2.1 HX.out.2.2 HA.out.symm).mono ?_
           rintro e w2 ⟨rfl, h2⟩
           have HB2 := Lib.hid (below_over HB1.out (by repeat (first | exact Below.refl _ _ | refine Below.setCell ?_ (Nat.le_refl _) _ | refine Below.alloc ?_ (Nat.le_refl _) _)) h2)
           clear h2
           go_wp2_with fail
           go_ret
           exact ⟨rfl, HB2.out⟩)
    · subst s2
      clear s1
      obtain ⟨r1, r2, r3⟩ := HR.out
      have HA := Lib.hid (show r = (ts * 1048576 + (1048575)) * 1099511627776 + (last) by omega)
      have HX := Lib.hid (show (0 ≤ ts ∧ ts ≤ 15) ∧ ((0 : Int) ≤ (1048575) ∧ (1048575) ≤ (1048575 : Int)) ∧ (0 : Int) ≤ (last) ∧ (last) ≤ (1099511627775 : Int) by omega)
      clear r1 r2 r3
      go_enter Tryz.func72, Tryz.ntmps72
      go_wp2_with fail
      refine (GU.out _).mono ?_
      rintro e w1 ⟨rfl, h1⟩
      have HB1 := Lib.hid h1
      clear h1
      go_wp2_with fail
      all_goals first
        | (exfalso; omega)
        | (refine (HW.out ts (1048575) (last) r _ HX.out.1 HX.out.2.1 HX.out.2.2 HA.out.symm).mono ?_
           rintro e w2 ⟨rfl, h2⟩
           have HB2 := Lib.hid (below_over HB1.out (by repeat (first | exact Below.refl _ _ | refine Below.setCell ?_ (Nat.le_refl _) _ | refine Below.alloc ?_ (Nat.le_refl _) _)) h2)
           clear h2
           go_wp2_with fail
           go_ret
           exact ⟨rfl, HB2.out⟩)
    · subst s2
      clear s1
      obtain ⟨r1, r2, r3⟩ := HR.out
      have HA := Lib.hid (show r = (ts * 1048576 + (1048575)) * 1099511627776 + (1099511627775) by omega)
      have HX := Lib.hid (show (0 ≤ ts ∧ ts ≤ 15) ∧ ((0 : Int) ≤ (1048575) ∧ (1048575) ≤ (1048575 : Int)) ∧ (0 : Int) ≤ (1099511627775) ∧ (1099511627775) ≤ (1099511627775 : Int) by omega)
      clear r1 r2 r3
      go_enter Tryz.func72, Tryz.ntmps72
      go_wp2_with fail
      refine (GU.out _).mono ?_
      rintro e w1 ⟨rfl, h1⟩
      have HB1 := Lib.hid h1
      clear h1
      go_wp2_with fail
      all_goals first
        | (exfalso; omega)
        | (refine (HW.out ts (1048575) (1099511627775) r _ HX.out.1 HX.out.2.1 HX.out.2.2 HA.out.symm).mono ?_
           rintro e w2 ⟨rfl, h2⟩
           have HB2 := Lib.hid (below_over HB1.out (by repeat (first | exact Below.refl _ _ | refine Below.setCell ?_ (Nat.le_refl _) _ | refine Below.alloc ?_ (Nat.le_refl _) _)) h2)
           clear h2
           go_wp2_with fail
           go_ret
           exact ⟨rfl, HB2.out⟩)
set_option maxHeartbeats 8000000 in
set_option maxRecDepth 100000 in
theorem rflowOver_any (v : Nat) (c : Int) (w : World) (hv : U64 v) :
    Calls Tryz.prog 97 #[.int .u64 v, .int .i64 c] w fun e w' => e = .returned (.bool (overW v c)) ∧ Below w.heap.size w w' := by
  have GU := Lib.hid (fun W => rfunpack_any v _ _ _ W hv rfl rfl rfl)
  have HV : Hid (overW v c = true ↔ (((stW v : Int).tmod 15 = 0) ∨ (seqW v : Int) = 1048575 ∨ (untW v : Int) ≤ c)) := Lib.hid (by
    rw [over_ref hv, decide_eq_true_iff, Int.tmod_eq_emod_of_nonneg (by omega)]; omega)
  clear hv
  generalize overW v c = res at *
  generalize stW v = x at *
  generalize seqW v = y at *
  generalize untW v = z at *
  generalize (x : Int) = x at *
  generalize (y : Int) = y at *
  generalize (z : Int) = z at *
  generalize (v : Int) = vi at *
  go_enter Tryz.func97, Tryz.ntmps97
  go_wp2_with fail
  refine (GU.out _).mono ?_
  rintro e w1 ⟨rfl, h1⟩
  have HB1 := Lib.hid h1
  clear h1
  go_wp2_with fail
  all_goals
    go_ret
    refine ⟨?_, Below.alloc HB1.out HB1.out.size _⟩
    refine congrArg (fun b => Ending.returned (.bool b)) ?_
    rw [Bool.eq_iff_iff, HV.out]
    simp [*]
    try omega
end Go.Proofs.YtahgapkecabnjaaGreatDoor
/- The reference's Over and word. Printed by gen_refb.py. -/
namespace Go.Proofs.YtahgapkecabnjaaGreatDoor
set_option linter.unusedSimpArgs false
set_option linter.unusedVariables false
open Go Go.RowKit Go.Shelf Go.Lib Go.Maps Go.MapKept

theorem RefW.times {w : World} {ra : Nat} {F : Nat → Prop} {s : St} {rv fv : Value} {vs : List Value} (h : RefW w ra F s rv fv vs) : w.rangeAt ra 2 (arr16 s.c.ts).toList := fun j v hv => by
  refine h.cell (j := 2 + j) ?_
  rw [← hv]
  have hj : j < 16 := by have := (List.getElem?_eq_some_iff.1 hv).1; simpa [arr16] using this
  have : j = 0 ∨ j = 1 ∨ j = 2 ∨ j = 3 ∨ j = 4 ∨ j = 5 ∨ j = 6 ∨ j = 7 ∨ j = 8 ∨ j = 9 ∨ j = 10 ∨ j = 11 ∨ j = 12 ∨ j = 13 ∨ j = 14 ∨ j = 15 := by omega
  rcases this with h | h | h | h | h | h | h | h | h | h | h | h | h | h | h | h <;> subst h <;> rfl
theorem idxI_cases (s : St) (k : Ky) : (idxI s.flows k = -1 ∧ getL s.flows k = none) ∨ ∃ (n : Nat) (e : Nat × Bool), idxI s.flows k = n ∧ s.flows[n]? = some (k, e) ∧ getL s.flows k = some e := by
  unfold idxI
  cases h : placeL s.flows k with
  | none => exact .inl ⟨rfl, placeL_none h⟩
  | some n =>
    obtain ⟨x, h1, h2⟩ := placeL_some h
    exact .inr ⟨n, x, rfl, h1, h2⟩
set_option maxHeartbeats 4000000 in
set_option maxRecDepth 100000 in
theorem rover_any {w : World} {ra : Nat} {F : Nat → Prop} {s : St} {k : Ky} (hk : k.In) (h : RefAt w ra F s) (hs : s.Ok) :
    Calls Tryz.prog 67 #[.pointer (some ⟨ra, 0, none⟩), kyV k] w fun e w' => e = .returned (.bool (overS s k)) ∧ Below w.heap.size w w' := by
  have HB0 : Hid (Below w.heap.size w (w.alloc (.cells (kyC k) 45))) := Lib.hid ((Below.refl _ w).alloc (Nat.le_refl _) _)
  have HR := Lib.hid (h.below HB0.out)
  have c1 : (w.alloc (.cells (kyC k) 45)).cell? ⟨w.heap.size, 0, none⟩ = some (.int .u32 k.a0) := by simp [kyC]
  have c2 : (w.alloc (.cells (kyC k) 45)).cell? ⟨w.heap.size, 1, none⟩ = some (.int .u32 k.a1) := by simp [kyC]
  have c3 : (w.alloc (.cells (kyC k) 45)).cell? ⟨w.heap.size, 2, none⟩ = some (.int .u16 k.p0) := by simp [kyC]
  have c4 : (w.alloc (.cells (kyC k) 45)).cell? ⟨w.heap.size, 3, none⟩ = some (.int .u16 k.p1) := by simp [kyC]
  have c5 : (w.alloc (.cells (kyC k) 45)).cell? ⟨w.heap.size, 4, none⟩ = some (.int .u8 k.pr) := by simp [kyC]
  have HFI := Lib.hid (fun W (h : RefAt W ra F s) => find_any hk h hs)
  have hsm := hs.small
  rcases idxI_cases s k with ⟨hi, hg⟩ | ⟨n, e, hi, hp, hg⟩
  · have HO : Hid (overS s k = false) := Lib.hid (by unfold overS; rw [hg])
    rw [hi] at HFI
    clear h hs hk hi hg
    go_enter Tryz.func67, Tryz.ntmps67
    go_wp2_with fail
    generalize w.alloc (.cells (kyC k) 45) = w1 at *
    refine (HFI.out _ HR.out).mono ?_
    rintro e w2 ⟨rfl, h2⟩
    have HB2 := Lib.hid (below_then HB0.out h2)
    clear h2 c1 c2 c3 c4 c5
    go_wp2_with fail
    refine WQ.enter w2 (Since.refl _) (by kernel_rfl) (by kernel_rfl) ?_
    refine WQ.val (by rfl) (fun v hv => by go_simp; first | done | with_reducible rfl | (rw [if_neg (by omega)])) ?_; simp only [Act.put, List.setIfInBounds_toArray, List.set_cons_zero, List.set_cons_succ]
    refine WQ.val (by rfl) (fun v hv => by go_simp; first | done | with_reducible rfl | (rw [if_neg (by omega)])) ?_; simp only [Act.put, List.setIfInBounds_toArray, List.set_cons_zero, List.set_cons_succ]
    refine WQ.val (by rfl) (fun v hv => by go_simp; first | done | with_reducible rfl | (rw [if_neg (by omega)])) ?_; simp only [Act.put, List.setIfInBounds_toArray, List.set_cons_zero, List.set_cons_succ]
    refine WQ.off (by rfl) ?_; simp only [Act.put, List.setIfInBounds_toArray, List.set_cons_zero, List.set_cons_succ]
    refine WQ.off (by rfl) ?_; simp only [Act.put, List.setIfInBounds_toArray, List.set_cons_zero, List.set_cons_succ]
    refine WQ.off (by rfl) ?_; simp only [Act.put, List.setIfInBounds_toArray, List.set_cons_zero, List.set_cons_succ]
    refine WQ.off (by rfl) ?_; simp only [Act.put, List.setIfInBounds_toArray, List.set_cons_zero, List.set_cons_succ]
    refine WQ.off (by rfl) ?_; simp only [Act.put, List.setIfInBounds_toArray, List.set_cons_zero, List.set_cons_succ]
    refine WQ.off (by rfl) ?_; simp only [Act.put, List.setIfInBounds_toArray, List.set_cons_zero, List.set_cons_succ]
    refine WQ.off (by rfl) ?_; simp only [Act.put, List.setIfInBounds_toArray, List.set_cons_zero, List.set_cons_succ]
    refine WQ.off (by rfl) ?_; simp only [Act.put, List.setIfInBounds_toArray, List.set_cons_zero, List.set_cons_succ]
    refine WQ.off (by rfl) ?_; simp only [Act.put, List.setIfInBounds_toArray, List.set_cons_zero, List.set_cons_succ]
    refine WQ.off (by rfl) ?_; simp only [Act.put, List.setIfInBounds_toArray, List.set_cons_zero, List.set_cons_succ]
    refine WQ.off (by rfl) ?_; simp only [Act.put, List.setIfInBounds_toArray, List.set_cons_zero, List.set_cons_succ]
    refine WQ.off (by rfl) ?_; simp only [Act.put, List.setIfInBounds_toArray, List.set_cons_zero, List.set_cons_succ]
    refine WQ.off (by rfl) ?_; simp only [Act.put, List.setIfInBounds_toArray, List.set_cons_zero, List.set_cons_succ]
    refine WQ.off (by rfl) ?_; simp only [Act.put, List.setIfInBounds_toArray, List.set_cons_zero, List.set_cons_succ]
    refine WQ.off (by rfl) ?_; simp only [Act.put, List.setIfInBounds_toArray, List.set_cons_zero, List.set_cons_succ]
    refine WQ.val (by rfl) (fun v hv => by go_simp; first | done | with_reducible rfl | (rw [if_neg (by omega)])) ?_; simp only [Act.put, List.setIfInBounds_toArray, List.set_cons_zero, List.set_cons_succ]
    refine WQ.val (by rfl) (fun v hv => by go_simp; first | done | with_reducible rfl | (rw [if_neg (by omega)])) ?_; simp only [Act.put, List.setIfInBounds_toArray, List.set_cons_zero, List.set_cons_succ]
    refine WQ.done ?_
    intro w3 hw3
    have HB3 := Lib.hid (below_then HB2.out hw3)
    clear hw3
    go_wp2_with fail
    go_ret
    exact ⟨by (rw [HO.out]) <;> rfl, HB3.out⟩
  · have HO : Hid (overS s k = overW e.1 (clkW s.g : Nat)) := Lib.hid (by unfold overS; rw [hg])
    have hn := (List.getElem?_eq_some_iff.1 hp).1
    have HU := Lib.hid (hs.at_ hg).2.1
    have HUN := Lib.hid (fun W => rgunpack_any s.g _ _ _ W hs.g rfl rfl rfl)
    have HOV := Lib.hid (fun W => rflowOver_any e.1 (clkW s.g : Nat) W HU.out)
    have f2 := field_gate2 (verW s.g : Nat) (cntW s.g : Nat) (clkW s.g : Nat)
    have HPP := Lib.hid hp
    rw [hi] at HFI
    clear h hs hk hi hg hp
    generalize overS s k = res at *
    generalize verW s.g = gv at *
    generalize cntW s.g = gc at *
    generalize clkW s.g = gk at *
    go_enter Tryz.func67, Tryz.ntmps67
    go_wp2_with fail
    generalize w.alloc (.cells (kyC k) 45) = w1 at *
    refine (HFI.out _ HR.out).mono ?_
    rintro e w2 ⟨rfl, h2⟩
    have HB2 := Lib.hid (below_then HB0.out h2)
    obtain ⟨rv, fv, vs, hR⟩ := HR.out.below h2
    obtain ⟨a, c, hfv, hfl⟩ := hR.flows
    obtain ⟨g, rfl, -, hc⟩ := hfl n _ HPP.out
    have d0 : w2.cell? ⟨ra, 20, none⟩ = some fv := hR.cell rfl
    rw [hfv] at d0
    have d1 : w2.cell? ⟨ra, 18, none⟩ = some (.int .u64 (s.g : Nat)) := hR.cell rfl
    have d2 : w2.cell? ⟨g, n * 7 + 5, none⟩ = some (.int .u64 (e.1 : Nat)) := (hc 5 _ rfl).1
    have hni : (0 : Int) ≤ n := by omega
    have hnm : (n : Int) < (s.flows.length : Int) := by omega
    clear h2 c1 c2 c3 c4 c5 hR hfv hfl hc
    go_wp2_with fail
    refine WQ.enter w2 (Since.refl _) (by kernel_rfl) (by kernel_rfl) ?_
    refine WQ.val (by rfl) (fun v hv => by have k0 := hv.cell d0; have k1 := hv.cell d1; have k2 := hv.cell d2; go_simp; first | done | with_reducible rfl | (rw [if_neg (by omega)])) ?_; simp only [Act.put, List.setIfInBounds_toArray, List.set_cons_zero, List.set_cons_succ]
    refine WQ.val (by rfl) (fun v hv => by have k0 := hv.cell d0; have k1 := hv.cell d1; have k2 := hv.cell d2; go_simp; first | done | with_reducible rfl | (rw [if_neg (by omega)])) ?_; simp only [Act.put, List.setIfInBounds_toArray, List.set_cons_zero, List.set_cons_succ]
    refine WQ.val (by rfl) (fun v hv => by have k0 := hv.cell d0; have k1 := hv.cell d1; have k2 := hv.cell d2; go_simp; first | done | with_reducible rfl | (rw [if_neg (by omega)])) ?_; simp only [Act.put, List.setIfInBounds_toArray, List.set_cons_zero, List.set_cons_succ]
    refine WQ.val (by rfl) (fun v hv => by have k0 := hv.cell d0; have k1 := hv.cell d1; have k2 := hv.cell d2; go_simp; first | done | with_reducible rfl | (rw [if_neg (by omega)])) ?_; simp only [Act.put, List.setIfInBounds_toArray, List.set_cons_zero, List.set_cons_succ]
    refine WQ.val (by rfl) (fun v hv => by have k0 := hv.cell d0; have k1 := hv.cell d1; have k2 := hv.cell d2; go_simp; first | done | with_reducible rfl | (rw [if_neg (by omega)])) ?_; simp only [Act.put, List.setIfInBounds_toArray, List.set_cons_zero, List.set_cons_succ]
    refine WQ.val (by rfl) (fun v hv => by have k0 := hv.cell d0; have k1 := hv.cell d1; have k2 := hv.cell d2; go_simp; first | done | with_reducible rfl | (rw [if_neg (by omega)])) ?_; simp only [Act.put, List.setIfInBounds_toArray, List.set_cons_zero, List.set_cons_succ]
    refine WQ.val (by rfl) (fun v hv => by have k0 := hv.cell d0; have k1 := hv.cell d1; have k2 := hv.cell d2; go_simp; first | done | with_reducible rfl | (rw [if_neg (by omega)])) ?_; simp only [Act.put, List.setIfInBounds_toArray, List.set_cons_zero, List.set_cons_succ]
    refine WQ.val (by rfl) (fun v hv => by have k0 := hv.cell d0; have k1 := hv.cell d1; have k2 := hv.cell d2; go_simp; first | done | with_reducible rfl | (rw [if_neg (by omega)])) ?_; simp only [Act.put, List.setIfInBounds_toArray, List.set_cons_zero, List.set_cons_succ]
    refine WQ.val (by rfl) (fun v hv => by have k0 := hv.cell d0; have k1 := hv.cell d1; have k2 := hv.cell d2; go_simp; first | done | with_reducible rfl | (rw [if_neg (by omega)])) ?_; simp only [Act.put, List.setIfInBounds_toArray, List.set_cons_zero, List.set_cons_succ]
    refine WQ.val (by rfl) (fun v hv => by have k0 := hv.cell d0; have k1 := hv.cell d1; have k2 := hv.cell d2; go_simp; first | done | with_reducible rfl | (rw [if_neg (by omega)])) ?_; simp only [Act.put, List.setIfInBounds_toArray, List.set_cons_zero, List.set_cons_succ]
    refine WQ.val (by rfl) (fun v hv => by have k0 := hv.cell d0; have k1 := hv.cell d1; have k2 := hv.cell d2; go_simp; first | done | with_reducible rfl | (rw [if_neg (by omega)])) ?_; simp only [Act.put, List.setIfInBounds_toArray, List.set_cons_zero, List.set_cons_succ]
    refine WQ.val (by rfl) (fun v hv => by have k0 := hv.cell d0; have k1 := hv.cell d1; have k2 := hv.cell d2; go_simp; first | done | with_reducible rfl | (rw [if_neg (by omega)])) ?_; simp only [Act.put, List.setIfInBounds_toArray, List.set_cons_zero, List.set_cons_succ]
    refine WQ.val (by rfl) (fun v hv => by have k0 := hv.cell d0; have k1 := hv.cell d1; have k2 := hv.cell d2; go_simp; first | done | with_reducible rfl | (rw [if_neg (by omega)])) ?_; simp only [Act.put, List.setIfInBounds_toArray, List.set_cons_zero, List.set_cons_succ]
    refine WQ.val (by rfl) (fun v hv => by have k0 := hv.cell d0; have k1 := hv.cell d1; have k2 := hv.cell d2; go_simp; first | done | with_reducible rfl | (rw [if_neg (by omega)])) ?_; simp only [Act.put, List.setIfInBounds_toArray, List.set_cons_zero, List.set_cons_succ]
    refine WQ.val (by rfl) (fun v hv => by have k0 := hv.cell d0; have k1 := hv.cell d1; have k2 := hv.cell d2; go_simp; first | done | with_reducible rfl | (rw [if_neg (by omega)])) ?_; simp only [Act.put, List.setIfInBounds_toArray, List.set_cons_zero, List.set_cons_succ]
    refine WQ.call (f := 38) (args := #[.int .u64 (s.g : Nat)]) (by rfl) (fun v hv => by go_simp) (fun v hv => (HUN.out v).mono (fun e v' ⟨he, hb⟩ => ⟨he, hv.step hb⟩)) ?_; simp only [Act.put, List.setIfInBounds_toArray, List.set_cons_zero, List.set_cons_succ]
    refine WQ.val (by rfl) (fun v hv => by have k0 := hv.cell d0; have k1 := hv.cell d1; have k2 := hv.cell d2; go_simp; first | done | with_reducible rfl | (rw [if_neg (by omega)])) ?_; simp only [Act.put, List.setIfInBounds_toArray, List.set_cons_zero, List.set_cons_succ]
    refine WQ.call (f := 97) (args := #[.int .u64 (e.1 : Nat), .int .i64 (gk : Nat)]) (by rfl) (fun v hv => by go_simp) (fun v hv => (HOV.out v).mono (fun e v' ⟨he, hb⟩ => ⟨he, hv.step hb⟩)) ?_; simp only [Act.put, List.setIfInBounds_toArray, List.set_cons_zero, List.set_cons_succ]
    refine WQ.val (by rfl) (fun v hv => by have k0 := hv.cell d0; have k1 := hv.cell d1; have k2 := hv.cell d2; go_simp; first | done | with_reducible rfl | (rw [if_neg (by omega)])) ?_; simp only [Act.put, List.setIfInBounds_toArray, List.set_cons_zero, List.set_cons_succ]
    refine WQ.val (by rfl) (fun v hv => by have k0 := hv.cell d0; have k1 := hv.cell d1; have k2 := hv.cell d2; go_simp; first | done | with_reducible rfl | (rw [if_neg (by omega)])) ?_; simp only [Act.put, List.setIfInBounds_toArray, List.set_cons_zero, List.set_cons_succ]
    refine WQ.done ?_
    intro w3 hw3
    have HB3 := Lib.hid (below_then HB2.out hw3)
    clear hw3
    go_wp2_with fail
    go_ret
    exact ⟨by (rw [HO.out]) <;> rfl, HB3.out⟩
set_option maxHeartbeats 4000000 in
set_option maxRecDepth 100000 in
theorem rword_any {w : World} {ra : Nat} {F : Nat → Prop} {s : St} (x : Nat) (st : Int) (h : RefAt w ra F s) (hg : U64 s.g) (hx : U64 x) :
    Calls Tryz.prog 73 #[.pointer (some ⟨ra, 0, none⟩), .int .u64 x, .int .i64 st] w fun e w' => e = .returned (.int .u64 (flowNext x st (untilF s.c.ts st (clkW s.g : Nat)) : Nat)) ∧ Below w.heap.size w w' := by
  obtain ⟨rv, fv, vs, hR⟩ := h
  have d1 : w.cell? ⟨ra, 18, none⟩ = some (.int .u64 (s.g : Nat)) := hR.cell rfl
  have TS := Lib.hid hR.times
  have HUN := Lib.hid (fun W => rgunpack_any s.g _ _ _ W hg rfl rfl rfl)
  have f2 := field_gate2 (verW s.g : Nat) (cntW s.g : Nat) (clkW s.g : Nat)
  have HUT := Lib.hid (fun W => refUntil_val s.c.ts st (clkW s.g : Nat) _ W rfl)
  have HNX := Lib.hid (fun W => rflowNext_any x _ st (untilF s.c.ts st (clkW s.g : Nat)) W hx rfl)
  clear hR hg hx
  generalize untilF s.c.ts st (clkW s.g : Nat) = un at *
  generalize flowNext x st un = nw at *
  generalize verW s.g = gv at *
  generalize cntW s.g = gc at *
  generalize clkW s.g = gk at *
  go_enter Tryz.func73, Tryz.ntmps73
  go_wp2_with fail
  refine WQ.enter w (Since.refl _) (by kernel_rfl) (by kernel_rfl) ?_
  refine WQ.val (by rfl) (fun v hv => by have k0 := hv.cell d1; go_simp; first | done | with_reducible rfl | (rw [if_neg (by omega)])) ?_; simp only [Act.put, List.setIfInBounds_toArray, List.set_cons_zero, List.set_cons_succ]
  refine WQ.val (by rfl) (fun v hv => by have k0 := hv.cell d1; go_simp; first | done | with_reducible rfl | (rw [if_neg (by omega)])) ?_; simp only [Act.put, List.setIfInBounds_toArray, List.set_cons_zero, List.set_cons_succ]
  refine WQ.val (by rfl) (fun v hv => by have k0 := hv.cell d1; go_simp; first | done | with_reducible rfl | (rw [if_neg (by omega)])) ?_; simp only [Act.put, List.setIfInBounds_toArray, List.set_cons_zero, List.set_cons_succ]
  refine WQ.val (by rfl) (fun v hv => by have k0 := hv.cell d1; go_simp; first | done | with_reducible rfl | (rw [if_neg (by omega)])) ?_; simp only [Act.put, List.setIfInBounds_toArray, List.set_cons_zero, List.set_cons_succ]
  refine WQ.val (by rfl) (fun v hv => by have k0 := hv.cell d1; go_simp; first | done | with_reducible rfl | (rw [if_neg (by omega)])) ?_; simp only [Act.put, List.setIfInBounds_toArray, List.set_cons_zero, List.set_cons_succ]
  refine WQ.val (by rfl) (fun v hv => by have k0 := hv.cell d1; go_simp; first | done | with_reducible rfl | (rw [if_neg (by omega)])) ?_; simp only [Act.put, List.setIfInBounds_toArray, List.set_cons_zero, List.set_cons_succ]
  refine WQ.load (by rfl) 22 (.tmp 12) rfl ra 2 (by rfl) (arr16 s.c.ts).toList _ (fun v hv => hv.range TS.out) Tryz.underlying22 rfl (by kernel_rfl) ?_; simp only [Act.put, List.setIfInBounds_toArray, List.set_cons_zero, List.set_cons_succ]
  refine WQ.val (by rfl) (fun v hv => by have k0 := hv.cell d1; go_simp; first | done | with_reducible rfl | (rw [if_neg (by omega)])) ?_; simp only [Act.put, List.setIfInBounds_toArray, List.set_cons_zero, List.set_cons_succ]
  refine WQ.val (by rfl) (fun v hv => by have k0 := hv.cell d1; go_simp; first | done | with_reducible rfl | (rw [if_neg (by omega)])) ?_; simp only [Act.put, List.setIfInBounds_toArray, List.set_cons_zero, List.set_cons_succ]
  refine WQ.val (by rfl) (fun v hv => by have k0 := hv.cell d1; go_simp; first | done | with_reducible rfl | (rw [if_neg (by omega)])) ?_; simp only [Act.put, List.setIfInBounds_toArray, List.set_cons_zero, List.set_cons_succ]
  refine WQ.val (by rfl) (fun v hv => by have k0 := hv.cell d1; go_simp; first | done | with_reducible rfl | (rw [if_neg (by omega)])) ?_; simp only [Act.put, List.setIfInBounds_toArray, List.set_cons_zero, List.set_cons_succ]
  refine WQ.val (by rfl) (fun v hv => by have k0 := hv.cell d1; go_simp; first | done | with_reducible rfl | (rw [if_neg (by omega)])) ?_; simp only [Act.put, List.setIfInBounds_toArray, List.set_cons_zero, List.set_cons_succ]
  refine WQ.call (f := 38) (args := #[.int .u64 (s.g : Nat)]) (by rfl) (fun v hv => by go_simp) (fun v hv => (HUN.out v).mono (fun e v' ⟨he, hb⟩ => ⟨he, hv.step hb⟩)) ?_; simp only [Act.put, List.setIfInBounds_toArray, List.set_cons_zero, List.set_cons_succ]
  refine WQ.val (by rfl) (fun v hv => by have k0 := hv.cell d1; go_simp; first | done | with_reducible rfl | (rw [if_neg (by omega)])) ?_; simp only [Act.put, List.setIfInBounds_toArray, List.set_cons_zero, List.set_cons_succ]
  refine WQ.call (f := 100) (args := #[.agg (arr16 s.c.ts), .int .i64 st, .int .i64 (gk : Nat)]) (by rfl) (fun v hv => by go_simp) (fun v hv => (HUT.out v).mono (fun e v' ⟨he, hb⟩ => ⟨he, hv.step hb⟩)) ?_; simp only [Act.put, List.setIfInBounds_toArray, List.set_cons_zero, List.set_cons_succ]
  refine WQ.call (f := 72) (args := #[.int .u64 (x : Nat), .int .i64 st, .int .i64 un]) (by rfl) (fun v hv => by go_simp) (fun v hv => (HNX.out v).mono (fun e v' ⟨he, hb⟩ => ⟨he, hv.step hb⟩)) ?_; simp only [Act.put, List.setIfInBounds_toArray, List.set_cons_zero, List.set_cons_succ]
  refine WQ.val (by rfl) (fun v hv => by have k0 := hv.cell d1; go_simp; first | done | with_reducible rfl | (rw [if_neg (by omega)])) ?_; simp only [Act.put, List.setIfInBounds_toArray, List.set_cons_zero, List.set_cons_succ]
  refine WQ.done ?_
  intro w3 hw3
  have HB3 := Lib.hid hw3
  clear hw3
  go_wp2_with fail
  go_ret
  exact ⟨rfl, HB3.out⟩
end Go.Proofs.YtahgapkecabnjaaGreatDoor
/- Regions that draw and have effects in their midst, whose last operation may break what the loads rest on. After Derived/OrdersHeld.lean: the condition S is not asked behind the last operation, which waits for all others. -/
namespace Go.Proofs.YtahgapkecabnjaaGreatDoor
set_option linter.unusedSimpArgs false
set_option linter.unusedVariables false
open Go Go.RowKit

section
variable {P : Program} {ops : Array Oper} {Q : Exit → Act → World → Prop} {S : World → Prop} {l : Nat}

/-- Whatever order is picked from here on, and S holds behind every operation but the last, l. -/
def wpAnyG (P : Program) (ops : Array Oper) (Q : Exit → Act → World → Prop) (S : World → Prop) (l : Nat) : Nat → Array Bool → Act → World → Prop
  | 0, listed, a, w => Region.ready .any ops listed = [] ∧ Q .normal a w
  | fuel + 1, listed, a, w =>
    (Region.ready .any ops listed = [] → Q .normal a w) ∧
    ∀ i ∈ Region.ready .any ops listed, wpOp P ops Q i (fun a' w' => (i ≠ l → S w') ∧ wpAnyG P ops Q S l fuel (listed.setIfInBounds i true) a' w') a w
theorem wpAny_of_G : ∀ (fuel : Nat) (listed : Array Bool) (a : Act) (w : World), wpAnyG P ops Q S l fuel listed a w → wpAny P .any ops Q fuel listed a w
  | 0, _, _, _, h => h
  | fuel + 1, _, _, _, h => ⟨h.1, fun i hi => wpOp_mono (fun a' w' h' => wpAny_of_G fuel _ a' w' h'.2) (h.2 i hi)⟩
theorem unlisted_of_ready {md : Region.Mode} {ops : Array Oper} {listed : Array Bool} {i j : Nat} {oj : Oper} (hi : i ∈ Region.ready md ops listed) (hj : j ∈ Region.ready md ops listed) (hoj : ops[j]? = some oj) {e : Edge} (he : e ∈ oj.after) (hb : Region.binds md e = true) : e.on ≠ i := fun heq => by
  obtain ⟨_, oj', hoj', hall⟩ := mem_ready.1 hj
  rw [hoj] at hoj'
  cases hoj'
  have h1 := hall e he hb
  have h0 := (mem_ready.1 hi).1
  rw [heq] at h1
  rcases Nat.lt_or_ge i listed.size with h' | h'
  · simp [h'] at h0 h1; rw [h0] at h1; cases h1
  · simp [Array.getElem?_eq_none h'] at h1
/-- Does the last operation wait for i? -/
def waitsB (ops : Array Oper) (l i : Nat) : Bool := match ops[l]? with | some o => o.after.any fun e => Region.binds .any e && e.on == i | none => true
theorem not_last {listed : Array Bool} {i j : Nat} (hw : waitsB ops l i = true) (hi : i ∈ Region.ready .any ops listed) (hj : j ∈ Region.ready .any ops listed) : j ≠ l := fun hjl => by
  subst hjl
  obtain ⟨_, oj, hoj, hall⟩ := mem_ready.1 hj
  unfold waitsB at hw
  rw [hoj] at hw
  simp only [Array.any_eq_true] at hw
  obtain ⟨n, hn, hx⟩ := hw
  rw [Bool.and_eq_true, beq_iff_eq] at hx
  exact unlisted_of_ready hi hj hoj (Array.getElem_mem hn) hx.1 hx.2
theorem wpAnyG_first {i : Nat} {oi : Oper} {v : Value} (hi : ops[i]? = some oi) (hsel : ∀ (j : Nat) (o : Oper) cs b, ops[j]? = some o → o.op ≠ .select cs b) (hl : waitsB ops l i = true)
    (hQ : ∀ c a w, Q (.panic c) (a.put oi.dst v) w → Q (.panic c) a w) :
    ∀ (fuel : Nat) (listed : Array Bool) (a : Act) (w : World),
      (∀ j oj, ops[j]? = some oj → j ≠ i → listed.getD j true = false → (∀ e ∈ oj.after, Region.binds .any e = true → e.on ≠ i) → oi.apart ops oj = true) →
      i ∈ Region.ready .any ops listed → YieldsIf P ops S oi v a → S w →
      wpAnyG P ops Q S l fuel (listed.setIfInBounds i true) (a.put oi.dst v) w → wpAnyG P ops Q S l (fuel + 1) listed a w := by
  intro fuel
  induction fuel with
  | zero =>
    intro listed a w _ hr hy hS H
    refine ⟨fun h => (by rw [h] at hr; cases hr), fun j hj => ?_⟩
    by_cases hji : j = i
    · subst hji; exact hy.wpOp hi hS ⟨fun _ => hS, H⟩
    · have := ready_mono hj hji
      rw [H.1] at this
      cases this
  | succ fuel ih =>
    intro listed a w hfree hr hy hS H
    refine ⟨fun h => (by rw [h] at hr; cases hr), fun j hj => ?_⟩
    by_cases hji : j = i
    · subst hji; exact hy.wpOp hi hS ⟨fun _ => hS, H⟩
    · have h1 := H.2 j (ready_mono hj hji)
      have hjl := not_last hl hr hj
      obtain ⟨hjun, oj, hoj, hall⟩ := mem_ready.1 hj
      have hnot : ∀ e ∈ oj.after, Region.binds .any e = true → e.on ≠ i := fun e he hb => unlisted_of_ready hr hj hoj he hb
      have h2 := wpOp_putIf hoj (hfree j oj hoj hji hjun hnot) (fun cs b => hsel i oi cs b hi) (fun cs b => hsel j oj cs b hoj) hQ hy h1
      have hfree' : ∀ k ok, ops[k]? = some ok → k ≠ i → (listed.setIfInBounds j true).getD k true = false →
          (∀ e ∈ ok.after, Region.binds .any e = true → e.on ≠ i) → oi.apart ops ok = true := fun k ok hk hki hun hno => by
        refine hfree k ok hk hki ?_ hno
        by_cases hjk : j = k
        · subst hjk; exact hjun
        · rw [getD_set_ne true hjk] at hun; exact hun
      refine wpOp_mono (fun a' w' h3 => ⟨fun _ => h3.2.1 hjl, ih (listed.setIfInBounds j true) a' w' hfree' (ready_mono hr (Ne.symm hji)) h3.1 (h3.2.1 hjl) ?_⟩) h2
      rw [Array.setIfInBounds_comm _ _ hji]
      exact h3.2.2
end

/-- 'wpAnyG' under a name that does not unfold. -/
structure WG (P : Program) (ops : Array Oper) (Q : Exit → Act → World → Prop) (S : World → Prop) (l : Nat) (fuel : Nat) (listed : Array Bool) (a : Act) (w : World) : Prop where
  mk :: (out : wpAnyG P ops Q S l fuel listed a w)
section
variable {P : Program} {Q : Exit → Act → World → Prop} {ops : Array Oper} {S : World → Prop} {l : Nat}
theorem WG.enter {id : Nat} {a : Act} {w : World} (S : World → Prop) (l : Nat) (hm : P.follows .mixedOrders = true) (n : Nat) (hn : ops.size = n)
    (h : WG P ops Q S l n (Array.replicate n false) a w.drew) : (Code.region id ops true).wp P Q a w := wp_region_any hm (wpAny_of_G _ _ _ _ (by subst hn; exact h.out))
theorem WG.take (i : Nat) (d : Option Tmp) {v : Value} {oi : Oper} {fuel : Nat} {listed : Array Bool} {a : Act} {w : World} (hi : ops[i]? = some oi) (hd : oi.dst = d) (hs : Region.noSelect ops = true) (hl : waitsB ops l i = true)
    (hf : Region.free .any ops listed i = true) (hr : (Region.ready .any ops listed).contains i = true) (hQ : ∀ c a w, Q (.panic c) (a.put oi.dst v) w → Q (.panic c) a w) (hw : Region.wanted oi (yielded ops a.tmps) = true) (hy : ∀ w, S w → (execOp a.eval oi).run P w = .ok (.value v) w) (hS : S w)
    (h : WG P ops Q S l fuel (listed.setIfInBounds i true) (a.put d v) w) : WG P ops Q S l (fuel + 1) listed a w := by
  subst hd
  exact ⟨wpAnyG_first hi (Region.noSelect_spec hs) hl hQ fuel listed a w (Region.free_spec hi hf) (by simpa using hr) (.inl ⟨hw, hy⟩) hS h.out⟩
theorem WG.one (i : Nat) {o : Oper} {fuel : Nat} {listed : Array Bool} {a : Act} {w : World} (hr : Region.ready .any ops listed = [i]) (ho : ops[i]? = some o) (hw : Region.wanted o (yielded ops a.tmps) = true)
    (h : o.wp P a w (fun a' w' => (i ≠ l → S w') ∧ WG P ops Q S l fuel (listed.setIfInBounds i true) a' w') Q) : WG P ops Q S l (fuel + 1) listed a w :=
  ⟨⟨(fun h0 => by rw [hr] at h0; cases h0), fun j hj => by
    rw [hr] at hj
    obtain rfl := List.mem_singleton.1 hj
    unfold wpOp
    rw [ho]
    simp only [hw, if_true]
    exact .inl (Oper.wp_mono (fun a' w' h' => ⟨h'.1, h'.2.out⟩) h)⟩⟩
theorem WG.two (i j : Nat) {oi oj : Oper} {fuel : Nat} {listed : Array Bool} {a : Act} {w : World} (hr : Region.ready .any ops listed = [i, j]) (hi : ops[i]? = some oi) (hj : ops[j]? = some oj)
    (hwi : Region.wanted oi (yielded ops a.tmps) = true) (hwj : Region.wanted oj (yielded ops a.tmps) = true)
    (h1 : oi.wp P a w (fun a' w' => (i ≠ l → S w') ∧ WG P ops Q S l fuel (listed.setIfInBounds i true) a' w') Q)
    (h2 : oj.wp P a w (fun a' w' => (j ≠ l → S w') ∧ WG P ops Q S l fuel (listed.setIfInBounds j true) a' w') Q) : WG P ops Q S l (fuel + 1) listed a w :=
  ⟨⟨(fun h0 => by rw [hr] at h0; cases h0), fun k hk => by
    rw [hr] at hk
    rcases List.mem_cons.1 hk with rfl | hk
    · unfold wpOp
      rw [hi]
      simp only [hwi, if_true]
      exact .inl (Oper.wp_mono (fun a' w' h' => ⟨h'.1, h'.2.out⟩) h1)
    · obtain rfl := List.mem_singleton.1 hk
      unfold wpOp
      rw [hj]
      simp only [hwj, if_true]
      exact .inl (Oper.wp_mono (fun a' w' h' => ⟨h'.1, h'.2.out⟩) h2)⟩⟩
theorem WG.done {fuel : Nat} {listed : Array Bool} {a : Act} {w : World} (hr : Region.ready .any ops listed = []) (h : Q .normal a w) : WG P ops Q S l fuel listed a w := by
  constructor
  cases fuel with
  | zero => exact ⟨hr, h⟩
  | succ n => exact ⟨fun _ => h, by rw [hr]; simp⟩
end
end Go.Proofs.YtahgapkecabnjaaGreatDoor
