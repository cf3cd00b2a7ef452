/- Walks of cmp's functions, of package key and of its reference. Printed by gen_keya.py. -/
import Derived.Test.YtahgapkecabnjaaGreatDoorC00
import Derived.Test.YtahgapkecabnjaaGreatDoorC01
import Derived.Sort.Grow
import Derived.Lib.AppendIntMem
namespace Go.Proofs.YtahgapkecabnjaaGreatDoor
set_option linter.unusedSimpArgs false
set_option linter.unusedVariables false
open Go Go.RowKit

/-! ### New blocks and draws alone -/
def Grew (w w' : World) : Prop := ∃ q os, w' = Sort.grow (w.drewN q) os
theorem Grew.refl (w : World) : Grew w w := ⟨0, #[], by simp [World.drewN]⟩
theorem Grew.alloc {w w1 : World} (h : Grew w w1) (o : Obj) : Grew w (w1.alloc o) := by
  obtain ⟨q, os, rfl⟩ := h
  exact ⟨q, os ++ #[o], by rw [Sort.alloc_eq_grow, Sort.grow_grow]⟩
theorem Grew.drew {w w1 : World} (h : Grew w w1) : Grew w w1.drew := by
  obtain ⟨q, os, rfl⟩ := h
  exact ⟨q + 1, os, rfl⟩
theorem Grew.below {w w1 : World} (h : Grew w w1) : Below w.heap.size w w1 := by
  obtain ⟨q, os, rfl⟩ := h
  exact Lib.below_grow _ w (Nat.le_refl _) q os
theorem Grew.cell {w w1 : World} (h : Grew w w1) {a : Addr} {v : Value} (hc : w.cell? a = some v) : w1.cell? a = some v := (Below.cell h.below (World.block_lt_of_cell? w a hc)).trans hc
theorem Grew.trans {w w1 w2 : World} (h : Grew w w1) (k : Grew w1 w2) : Grew w w2 := by
  obtain ⟨q, os, rfl⟩ := h
  obtain ⟨q2, os2, rfl⟩ := k
  refine ⟨q + q2, os ++ os2, ?_⟩
  rw [← Sort.grow_grow]
  unfold Sort.grow World.drewN
  simp [Nat.add_assoc]

/-! ### Package cmp -/
def cmpF (a b : Int) : Int := if a < b then -1 else if b < a then 1 else 0
def orF (l : List Int) : Int := (l.find? fun x => decide (x ≠ 0)).getD 0
set_option maxHeartbeats 1000000 in
theorem isNaN_u8 (a : Int) (w : World) :
    Calls Tryz.prog 108 #[.int .u8 a] w fun e w' => e = .returned (.bool false) ∧ w' = w := by
  go_enter Tryz.func108, Tryz.ntmps108
  go_wp2
  go_ret
  exact ⟨rfl, rfl⟩
set_option maxHeartbeats 2000000 in
theorem compare_u8 (a b : Int) (w : World) :
    Calls Tryz.prog 84 #[.int .u8 a, .int .u8 b] w fun e w' => e = .returned (.int .i64 (cmpF a b)) ∧ w' = w := by
  go_enter Tryz.func84, Tryz.ntmps84
  go_wp2_with (go_at_call 108; refine (isNaN_u8 _ _).mono ?_; rintro e w' ⟨rfl, rfl⟩)
  all_goals
    go_ret
    exact ⟨congrArg (fun b => Ending.returned (.int .i64 b)) (by unfold cmpF; (repeat' split) <;> omega), rfl⟩
set_option maxHeartbeats 1000000 in
theorem isNaN_u16 (a : Int) (w : World) :
    Calls Tryz.prog 79 #[.int .u16 a] w fun e w' => e = .returned (.bool false) ∧ w' = w := by
  go_enter Tryz.func79, Tryz.ntmps79
  go_wp2
  go_ret
  exact ⟨rfl, rfl⟩
set_option maxHeartbeats 2000000 in
theorem compare_u16 (a b : Int) (w : World) :
    Calls Tryz.prog 44 #[.int .u16 a, .int .u16 b] w fun e w' => e = .returned (.int .i64 (cmpF a b)) ∧ w' = w := by
  go_enter Tryz.func44, Tryz.ntmps44
  go_wp2_with (go_at_call 79; refine (isNaN_u16 _ _).mono ?_; rintro e w' ⟨rfl, rfl⟩)
  all_goals
    go_ret
    exact ⟨congrArg (fun b => Ending.returned (.int .i64 b)) (by unfold cmpF; (repeat' split) <;> omega), rfl⟩
set_option maxHeartbeats 1000000 in
theorem isNaN_u32 (a : Int) (w : World) :
    Calls Tryz.prog 78 #[.int .u32 a] w fun e w' => e = .returned (.bool false) ∧ w' = w := by
  go_enter Tryz.func78, Tryz.ntmps78
  go_wp2
  go_ret
  exact ⟨rfl, rfl⟩
set_option maxHeartbeats 2000000 in
theorem compare_u32 (a b : Int) (w : World) :
    Calls Tryz.prog 43 #[.int .u32 a, .int .u32 b] w fun e w' => e = .returned (.int .i64 (cmpF a b)) ∧ w' = w := by
  go_enter Tryz.func43, Tryz.ntmps43
  go_wp2_with (go_at_call 78; refine (isNaN_u32 _ _).mono ?_; rintro e w' ⟨rfl, rfl⟩)
  all_goals
    go_ret
    exact ⟨congrArg (fun b => Ending.returned (.int .i64 b)) (by unfold cmpF; (repeat' split) <;> omega), rfl⟩
set_option maxHeartbeats 2000000 in
theorem or_any (b c : Nat) (l : List Int) (w : World) (hc : ∀ j v, l[j]? = some v → w.cell? ⟨b, j, none⟩ = some (.int .i64 v)) (hl : l.length ≤ 1000) :
    Calls Tryz.prog 42 #[.slice (some ⟨b, 0, none⟩) l.length c] w fun e w' => e = .returned (.int .i64 (orF l)) ∧ w' = w := by
  have HC := Lib.hid hc
  clear hc
  go_enter Tryz.func42, Tryz.ntmps42
  go_wp2_with fail
  go_loopw [8] (fun n wr => ∃ j : Nat, n = .int .i64 j ∧ j ≤ l.length ∧ Hid (wr = w) ∧ Hid (∀ x ∈ l.take j, x = 0)) (fun n _ => l.length - (intOf n).toNat)
  case atStart => exact ⟨0, rfl, by omega, Lib.hid (by first | rfl | trivial), Lib.hid (by simp)⟩
  case round =>
    obtain ⟨j, rfl, hj, hww, hz⟩ := hrel
    obtain rfl := hww.out
    by_cases hlt : j < l.length
    · obtain ⟨x, hx⟩ : ∃ x, l[j]? = some x := ⟨l[j], List.getElem?_eq_getElem hlt⟩
      have c0 := HC.out j x hx
      by_cases h0 : x = 0
      · subst h0
        have HZ : Hid (∀ y ∈ l.take (j + 1), y = 0) := Lib.hid (by
          intro y hy
          rw [List.take_add_one, hx] at hy
          rcases List.mem_append.1 hy with h | h
          · exact hz.out y h
          · simpa using h)
        clear hx
        go_wp2_with fail
        go_roundw
        case rel => exact ⟨j + 1, by go_num, by omega, Lib.hid (by first | rfl | trivial), HZ⟩
        case measure => simp [intOf]; omega
      · have hv : Hid (orF l = x) := Lib.hid (by
          unfold orF
          have e : l = l.take j ++ x :: l.drop (j + 1) := by
            have h1 := List.take_append_drop j l
            rw [List.drop_eq_getElem_cons hlt] at h1
            rw [List.getElem?_eq_getElem hlt] at hx
            injection hx with hx
            rw [hx] at h1
            exact h1.symm
          have hn : (l.take j).find? (fun x => decide (x ≠ 0)) = none := by
            rw [List.find?_eq_none]
            intro y hy
            simp [hz.out y hy]
          rw [e, List.find?_append, hn]
          simp [h0])
        clear hx
        go_wp2_with fail
        go_ret
        exact ⟨by (rw [hv.out]) <;> rfl, rfl⟩
    · obtain rfl : j = l.length := by omega
      have hv : Hid (orF l = 0) := Lib.hid (by
        unfold orF
        have hn : l.find? (fun x => decide (x ≠ 0)) = none := by
          rw [List.find?_eq_none]
          intro y hy
          have := hz.out
          rw [List.take_length] at this
          simp [this y hy]
        rw [hn]; rfl)
      go_wp2_with fail
      go_ret
      exact ⟨by (rw [hv.out]) <;> rfl, rfl⟩

/-! ### Keys in memory -/
def kyC (k : Ky) : Array Value := #[.int .u32 k.a0, .int .u32 k.a1, .int .u16 k.p0, .int .u16 k.p1, .int .u8 k.pr]
abbrev kyV (k : Ky) : Value := .agg (kyC k)
theorem less_or (x y : Ky) : lessK x y = decide (orF [cmpF x.pr y.pr, cmpF x.a0 y.a0, cmpF x.p0 y.p0, cmpF x.a1 y.a1, cmpF x.p1 y.p1] < 0) := by
  have h : ∀ (a b : Nat) (l : List Int), orF (cmpF a b :: l) < 0 ↔ a < b ∨ a = b ∧ orF l < 0 := fun a b l => by
    unfold orF cmpF
    rw [List.find?_cons]
    by_cases h1 : a < b
    · have : (a : Int) < b := by omega
      simp [this, h1]
    · by_cases h2 : b < a
      · have e1 : ¬ (a : Int) < b := by omega
        have e2 : (b : Int) < a := by omega
        have e3 : ¬ a = b := by omega
        simp [e1, e2, h1, e3]
      · have e1 : ¬ (a : Int) < b := by omega
        have e2 : ¬ (b : Int) < a := by omega
        have e3 : a = b := by omega
        simp [e1, e2, h1, e3]
  rw [Bool.eq_iff_iff, lessK_iff, decide_eq_true_iff, h, h, h, h, h]
  unfold ltK
  simp [orF]
set_option maxHeartbeats 16000000 in
set_option maxRecDepth 100000 in
theorem less_any (x y : Ky) (w : World) :
    Calls Tryz.prog 52 #[kyV x, kyV y] w fun e w' => e = .returned (.bool (lessK x y)) ∧ Grew w w' := by
  have HL := Lib.hid (less_or x y)
  obtain ⟨a0, a1, p0, p1, pr⟩ := x
  obtain ⟨b0, b1, q0, q1, qr⟩ := y
  simp only at HL
  generalize lessK ⟨a0, a1, p0, p1, pr⟩ ⟨b0, b1, q0, q1, qr⟩ = res at *
  have C1 := Lib.hid (fun W => compare_u8 pr qr W)
  have C2 := Lib.hid (fun W => compare_u32 a0 b0 W)
  have C3 := Lib.hid (fun W => compare_u16 p0 q0 W)
  have C4 := Lib.hid (fun W => compare_u32 a1 b1 W)
  have C5 := Lib.hid (fun W => compare_u16 p1 q1 W)
  generalize cmpF pr qr = d1 at *
  generalize cmpF a0 b0 = d2 at *
  generalize cmpF p0 q0 = d3 at *
  generalize cmpF a1 b1 = d4 at *
  generalize cmpF p1 q1 = d5 at *
  unfold kyV kyC
  go_enter Tryz.func52, Tryz.ntmps52
  go_wp2_with fail
  have HG : Hid (Grew w ((w.alloc (.cells #[.int .u32 a0, .int .u32 a1, .int .u16 p0, .int .u16 p1, .int .u8 pr] 45)).alloc (.cells #[.int .u32 b0, .int .u32 b1, .int .u16 q0, .int .u16 q1, .int .u8 qr] 45))) := Lib.hid (((Grew.refl w).alloc _).alloc _)
  have xk0 : ((w.alloc (.cells #[.int .u32 a0, .int .u32 a1, .int .u16 p0, .int .u16 p1, .int .u8 pr] 45)).alloc (.cells #[.int .u32 b0, .int .u32 b1, .int .u16 q0, .int .u16 q1, .int .u8 qr] 45)).cell? ⟨w.heap.size, 0, none⟩ = some (.int .u32 a0) := by simp
  have xm0 : ((w.alloc (.cells #[.int .u32 a0, .int .u32 a1, .int .u16 p0, .int .u16 p1, .int .u8 pr] 45)).alloc (.cells #[.int .u32 b0, .int .u32 b1, .int .u16 q0, .int .u16 q1, .int .u8 qr] 45)).cell? ⟨w.heap.size + 1, 0, none⟩ = some (.int .u32 b0) := by simp
  have xk1 : ((w.alloc (.cells #[.int .u32 a0, .int .u32 a1, .int .u16 p0, .int .u16 p1, .int .u8 pr] 45)).alloc (.cells #[.int .u32 b0, .int .u32 b1, .int .u16 q0, .int .u16 q1, .int .u8 qr] 45)).cell? ⟨w.heap.size, 1, none⟩ = some (.int .u32 a1) := by simp
  have xm1 : ((w.alloc (.cells #[.int .u32 a0, .int .u32 a1, .int .u16 p0, .int .u16 p1, .int .u8 pr] 45)).alloc (.cells #[.int .u32 b0, .int .u32 b1, .int .u16 q0, .int .u16 q1, .int .u8 qr] 45)).cell? ⟨w.heap.size + 1, 1, none⟩ = some (.int .u32 b1) := by simp
  have xk2 : ((w.alloc (.cells #[.int .u32 a0, .int .u32 a1, .int .u16 p0, .int .u16 p1, .int .u8 pr] 45)).alloc (.cells #[.int .u32 b0, .int .u32 b1, .int .u16 q0, .int .u16 q1, .int .u8 qr] 45)).cell? ⟨w.heap.size, 2, none⟩ = some (.int .u16 p0) := by simp
  have xm2 : ((w.alloc (.cells #[.int .u32 a0, .int .u32 a1, .int .u16 p0, .int .u16 p1, .int .u8 pr] 45)).alloc (.cells #[.int .u32 b0, .int .u32 b1, .int .u16 q0, .int .u16 q1, .int .u8 qr] 45)).cell? ⟨w.heap.size + 1, 2, none⟩ = some (.int .u16 q0) := by simp
  have xk3 : ((w.alloc (.cells #[.int .u32 a0, .int .u32 a1, .int .u16 p0, .int .u16 p1, .int .u8 pr] 45)).alloc (.cells #[.int .u32 b0, .int .u32 b1, .int .u16 q0, .int .u16 q1, .int .u8 qr] 45)).cell? ⟨w.heap.size, 3, none⟩ = some (.int .u16 p1) := by simp
  have xm3 : ((w.alloc (.cells #[.int .u32 a0, .int .u32 a1, .int .u16 p0, .int .u16 p1, .int .u8 pr] 45)).alloc (.cells #[.int .u32 b0, .int .u32 b1, .int .u16 q0, .int .u16 q1, .int .u8 qr] 45)).cell? ⟨w.heap.size + 1, 3, none⟩ = some (.int .u16 q1) := by simp
  have xk4 : ((w.alloc (.cells #[.int .u32 a0, .int .u32 a1, .int .u16 p0, .int .u16 p1, .int .u8 pr] 45)).alloc (.cells #[.int .u32 b0, .int .u32 b1, .int .u16 q0, .int .u16 q1, .int .u8 qr] 45)).cell? ⟨w.heap.size, 4, none⟩ = some (.int .u8 pr) := by simp
  have xm4 : ((w.alloc (.cells #[.int .u32 a0, .int .u32 a1, .int .u16 p0, .int .u16 p1, .int .u8 pr] 45)).alloc (.cells #[.int .u32 b0, .int .u32 b1, .int .u16 q0, .int .u16 q1, .int .u8 qr] 45)).cell? ⟨w.heap.size + 1, 4, none⟩ = some (.int .u8 qr) := by simp
  generalize ((w.alloc (.cells #[.int .u32 a0, .int .u32 a1, .int .u16 p0, .int .u16 p1, .int .u8 pr] 45)).alloc (.cells #[.int .u32 b0, .int .u32 b1, .int .u16 q0, .int .u16 q1, .int .u8 qr] 45)) = wx at *
  generalize w.heap.size = n0 at *
  have HS0 : Hid (Grew wx wx.drew) := Lib.hid (Grew.refl _).drew
  refine WH.enter (Grew wx) (by kernel_rfl) 37 rfl ?_
  refine WH.take 0 (some 5) rfl rfl (by kernel_rfl) (by kernel_rfl) (by kernel_rfl) (fun _ _ _ h => h) (by rfl) (fun v hv => by have k0 := hv.cell xk0; have k1 := hv.cell xk1; have k2 := hv.cell xk2; have k3 := hv.cell xk3; have k4 := hv.cell xk4; have m0 := hv.cell xm0; have m1 := hv.cell xm1; have m2 := hv.cell xm2; have m3 := hv.cell xm3; have m4 := hv.cell xm4; go_simp; first | done | with_reducible rfl | (rw [if_neg (by omega)])) HS0.out ?_; simp only [Act.put, List.setIfInBounds_toArray, List.set_cons_zero, List.set_cons_succ]
  refine WH.take 1 (some 6) rfl rfl (by kernel_rfl) (by kernel_rfl) (by kernel_rfl) (fun _ _ _ h => h) (by rfl) (fun v hv => by have k0 := hv.cell xk0; have k1 := hv.cell xk1; have k2 := hv.cell xk2; have k3 := hv.cell xk3; have k4 := hv.cell xk4; have m0 := hv.cell xm0; have m1 := hv.cell xm1; have m2 := hv.cell xm2; have m3 := hv.cell xm3; have m4 := hv.cell xm4; go_simp; first | done | with_reducible rfl | (rw [if_neg (by omega)])) HS0.out ?_; simp only [Act.put, List.setIfInBounds_toArray, List.set_cons_zero, List.set_cons_succ]
  refine WH.take 2 (some 7) rfl rfl (by kernel_rfl) (by kernel_rfl) (by kernel_rfl) (fun _ _ _ h => h) (by rfl) (fun v hv => by have k0 := hv.cell xk0; have k1 := hv.cell xk1; have k2 := hv.cell xk2; have k3 := hv.cell xk3; have k4 := hv.cell xk4; have m0 := hv.cell xm0; have m1 := hv.cell xm1; have m2 := hv.cell xm2; have m3 := hv.cell xm3; have m4 := hv.cell xm4; go_simp; first | done | with_reducible rfl | (rw [if_neg (by omega)])) HS0.out ?_; simp only [Act.put, List.setIfInBounds_toArray, List.set_cons_zero, List.set_cons_succ]
  refine WH.take 3 (some 8) rfl rfl (by kernel_rfl) (by kernel_rfl) (by kernel_rfl) (fun _ _ _ h => h) (by rfl) (fun v hv => by have k0 := hv.cell xk0; have k1 := hv.cell xk1; have k2 := hv.cell xk2; have k3 := hv.cell xk3; have k4 := hv.cell xk4; have m0 := hv.cell xm0; have m1 := hv.cell xm1; have m2 := hv.cell xm2; have m3 := hv.cell xm3; have m4 := hv.cell xm4; go_simp; first | done | with_reducible rfl | (rw [if_neg (by omega)])) HS0.out ?_; simp only [Act.put, List.setIfInBounds_toArray, List.set_cons_zero, List.set_cons_succ]
  refine WH.take 5 (some 10) rfl rfl (by kernel_rfl) (by kernel_rfl) (by kernel_rfl) (fun _ _ _ h => h) (by rfl) (fun v hv => by have k0 := hv.cell xk0; have k1 := hv.cell xk1; have k2 := hv.cell xk2; have k3 := hv.cell xk3; have k4 := hv.cell xk4; have m0 := hv.cell xm0; have m1 := hv.cell xm1; have m2 := hv.cell xm2; have m3 := hv.cell xm3; have m4 := hv.cell xm4; go_simp; first | done | with_reducible rfl | (rw [if_neg (by omega)])) HS0.out ?_; simp only [Act.put, List.setIfInBounds_toArray, List.set_cons_zero, List.set_cons_succ]
  refine WH.take 6 (some 11) rfl rfl (by kernel_rfl) (by kernel_rfl) (by kernel_rfl) (fun _ _ _ h => h) (by rfl) (fun v hv => by have k0 := hv.cell xk0; have k1 := hv.cell xk1; have k2 := hv.cell xk2; have k3 := hv.cell xk3; have k4 := hv.cell xk4; have m0 := hv.cell xm0; have m1 := hv.cell xm1; have m2 := hv.cell xm2; have m3 := hv.cell xm3; have m4 := hv.cell xm4; go_simp; first | done | with_reducible rfl | (rw [if_neg (by omega)])) HS0.out ?_; simp only [Act.put, List.setIfInBounds_toArray, List.set_cons_zero, List.set_cons_succ]
  refine WH.take 7 (some 12) rfl rfl (by kernel_rfl) (by kernel_rfl) (by kernel_rfl) (fun _ _ _ h => h) (by rfl) (fun v hv => by have k0 := hv.cell xk0; have k1 := hv.cell xk1; have k2 := hv.cell xk2; have k3 := hv.cell xk3; have k4 := hv.cell xk4; have m0 := hv.cell xm0; have m1 := hv.cell xm1; have m2 := hv.cell xm2; have m3 := hv.cell xm3; have m4 := hv.cell xm4; go_simp; first | done | with_reducible rfl | (rw [if_neg (by omega)])) HS0.out ?_; simp only [Act.put, List.setIfInBounds_toArray, List.set_cons_zero, List.set_cons_succ]
  refine WH.take 8 (some 13) rfl rfl (by kernel_rfl) (by kernel_rfl) (by kernel_rfl) (fun _ _ _ h => h) (by rfl) (fun v hv => by have k0 := hv.cell xk0; have k1 := hv.cell xk1; have k2 := hv.cell xk2; have k3 := hv.cell xk3; have k4 := hv.cell xk4; have m0 := hv.cell xm0; have m1 := hv.cell xm1; have m2 := hv.cell xm2; have m3 := hv.cell xm3; have m4 := hv.cell xm4; go_simp; first | done | with_reducible rfl | (rw [if_neg (by omega)])) HS0.out ?_; simp only [Act.put, List.setIfInBounds_toArray, List.set_cons_zero, List.set_cons_succ]
  refine WH.take 9 (some 14) rfl rfl (by kernel_rfl) (by kernel_rfl) (by kernel_rfl) (fun _ _ _ h => h) (by rfl) (fun v hv => by have k0 := hv.cell xk0; have k1 := hv.cell xk1; have k2 := hv.cell xk2; have k3 := hv.cell xk3; have k4 := hv.cell xk4; have m0 := hv.cell xm0; have m1 := hv.cell xm1; have m2 := hv.cell xm2; have m3 := hv.cell xm3; have m4 := hv.cell xm4; go_simp; first | done | with_reducible rfl | (rw [if_neg (by omega)])) HS0.out ?_; simp only [Act.put, List.setIfInBounds_toArray, List.set_cons_zero, List.set_cons_succ]
  refine WH.take 10 (some 15) rfl rfl (by kernel_rfl) (by kernel_rfl) (by kernel_rfl) (fun _ _ _ h => h) (by rfl) (fun v hv => by have k0 := hv.cell xk0; have k1 := hv.cell xk1; have k2 := hv.cell xk2; have k3 := hv.cell xk3; have k4 := hv.cell xk4; have m0 := hv.cell xm0; have m1 := hv.cell xm1; have m2 := hv.cell xm2; have m3 := hv.cell xm3; have m4 := hv.cell xm4; go_simp; first | done | with_reducible rfl | (rw [if_neg (by omega)])) HS0.out ?_; simp only [Act.put, List.setIfInBounds_toArray, List.set_cons_zero, List.set_cons_succ]
  refine WH.take 12 (some 17) rfl rfl (by kernel_rfl) (by kernel_rfl) (by kernel_rfl) (fun _ _ _ h => h) (by rfl) (fun v hv => by have k0 := hv.cell xk0; have k1 := hv.cell xk1; have k2 := hv.cell xk2; have k3 := hv.cell xk3; have k4 := hv.cell xk4; have m0 := hv.cell xm0; have m1 := hv.cell xm1; have m2 := hv.cell xm2; have m3 := hv.cell xm3; have m4 := hv.cell xm4; go_simp; first | done | with_reducible rfl | (rw [if_neg (by omega)])) HS0.out ?_; simp only [Act.put, List.setIfInBounds_toArray, List.set_cons_zero, List.set_cons_succ]
  refine WH.take 13 (some 18) rfl rfl (by kernel_rfl) (by kernel_rfl) (by kernel_rfl) (fun _ _ _ h => h) (by rfl) (fun v hv => by have k0 := hv.cell xk0; have k1 := hv.cell xk1; have k2 := hv.cell xk2; have k3 := hv.cell xk3; have k4 := hv.cell xk4; have m0 := hv.cell xm0; have m1 := hv.cell xm1; have m2 := hv.cell xm2; have m3 := hv.cell xm3; have m4 := hv.cell xm4; go_simp; first | done | with_reducible rfl | (rw [if_neg (by omega)])) HS0.out ?_; simp only [Act.put, List.setIfInBounds_toArray, List.set_cons_zero, List.set_cons_succ]
  refine WH.take 14 (some 19) rfl rfl (by kernel_rfl) (by kernel_rfl) (by kernel_rfl) (fun _ _ _ h => h) (by rfl) (fun v hv => by have k0 := hv.cell xk0; have k1 := hv.cell xk1; have k2 := hv.cell xk2; have k3 := hv.cell xk3; have k4 := hv.cell xk4; have m0 := hv.cell xm0; have m1 := hv.cell xm1; have m2 := hv.cell xm2; have m3 := hv.cell xm3; have m4 := hv.cell xm4; go_simp; first | done | with_reducible rfl | (rw [if_neg (by omega)])) HS0.out ?_; simp only [Act.put, List.setIfInBounds_toArray, List.set_cons_zero, List.set_cons_succ]
  refine WH.take 15 (some 20) rfl rfl (by kernel_rfl) (by kernel_rfl) (by kernel_rfl) (fun _ _ _ h => h) (by rfl) (fun v hv => by have k0 := hv.cell xk0; have k1 := hv.cell xk1; have k2 := hv.cell xk2; have k3 := hv.cell xk3; have k4 := hv.cell xk4; have m0 := hv.cell xm0; have m1 := hv.cell xm1; have m2 := hv.cell xm2; have m3 := hv.cell xm3; have m4 := hv.cell xm4; go_simp; first | done | with_reducible rfl | (rw [if_neg (by omega)])) HS0.out ?_; simp only [Act.put, List.setIfInBounds_toArray, List.set_cons_zero, List.set_cons_succ]
  refine WH.take 16 (some 21) rfl rfl (by kernel_rfl) (by kernel_rfl) (by kernel_rfl) (fun _ _ _ h => h) (by rfl) (fun v hv => by have k0 := hv.cell xk0; have k1 := hv.cell xk1; have k2 := hv.cell xk2; have k3 := hv.cell xk3; have k4 := hv.cell xk4; have m0 := hv.cell xm0; have m1 := hv.cell xm1; have m2 := hv.cell xm2; have m3 := hv.cell xm3; have m4 := hv.cell xm4; go_simp; first | done | with_reducible rfl | (rw [if_neg (by omega)])) HS0.out ?_; simp only [Act.put, List.setIfInBounds_toArray, List.set_cons_zero, List.set_cons_succ]
  refine WH.take 17 (some 22) rfl rfl (by kernel_rfl) (by kernel_rfl) (by kernel_rfl) (fun _ _ _ h => h) (by rfl) (fun v hv => by have k0 := hv.cell xk0; have k1 := hv.cell xk1; have k2 := hv.cell xk2; have k3 := hv.cell xk3; have k4 := hv.cell xk4; have m0 := hv.cell xm0; have m1 := hv.cell xm1; have m2 := hv.cell xm2; have m3 := hv.cell xm3; have m4 := hv.cell xm4; go_simp; first | done | with_reducible rfl | (rw [if_neg (by omega)])) HS0.out ?_; simp only [Act.put, List.setIfInBounds_toArray, List.set_cons_zero, List.set_cons_succ]
  refine WH.take 19 (some 24) rfl rfl (by kernel_rfl) (by kernel_rfl) (by kernel_rfl) (fun _ _ _ h => h) (by rfl) (fun v hv => by have k0 := hv.cell xk0; have k1 := hv.cell xk1; have k2 := hv.cell xk2; have k3 := hv.cell xk3; have k4 := hv.cell xk4; have m0 := hv.cell xm0; have m1 := hv.cell xm1; have m2 := hv.cell xm2; have m3 := hv.cell xm3; have m4 := hv.cell xm4; go_simp; first | done | with_reducible rfl | (rw [if_neg (by omega)])) HS0.out ?_; simp only [Act.put, List.setIfInBounds_toArray, List.set_cons_zero, List.set_cons_succ]
  refine WH.take 20 (some 25) rfl rfl (by kernel_rfl) (by kernel_rfl) (by kernel_rfl) (fun _ _ _ h => h) (by rfl) (fun v hv => by have k0 := hv.cell xk0; have k1 := hv.cell xk1; have k2 := hv.cell xk2; have k3 := hv.cell xk3; have k4 := hv.cell xk4; have m0 := hv.cell xm0; have m1 := hv.cell xm1; have m2 := hv.cell xm2; have m3 := hv.cell xm3; have m4 := hv.cell xm4; go_simp; first | done | with_reducible rfl | (rw [if_neg (by omega)])) HS0.out ?_; simp only [Act.put, List.setIfInBounds_toArray, List.set_cons_zero, List.set_cons_succ]
  refine WH.take 21 (some 26) rfl rfl (by kernel_rfl) (by kernel_rfl) (by kernel_rfl) (fun _ _ _ h => h) (by rfl) (fun v hv => by have k0 := hv.cell xk0; have k1 := hv.cell xk1; have k2 := hv.cell xk2; have k3 := hv.cell xk3; have k4 := hv.cell xk4; have m0 := hv.cell xm0; have m1 := hv.cell xm1; have m2 := hv.cell xm2; have m3 := hv.cell xm3; have m4 := hv.cell xm4; go_simp; first | done | with_reducible rfl | (rw [if_neg (by omega)])) HS0.out ?_; simp only [Act.put, List.setIfInBounds_toArray, List.set_cons_zero, List.set_cons_succ]
  refine WH.take 22 (some 27) rfl rfl (by kernel_rfl) (by kernel_rfl) (by kernel_rfl) (fun _ _ _ h => h) (by rfl) (fun v hv => by have k0 := hv.cell xk0; have k1 := hv.cell xk1; have k2 := hv.cell xk2; have k3 := hv.cell xk3; have k4 := hv.cell xk4; have m0 := hv.cell xm0; have m1 := hv.cell xm1; have m2 := hv.cell xm2; have m3 := hv.cell xm3; have m4 := hv.cell xm4; go_simp; first | done | with_reducible rfl | (rw [if_neg (by omega)])) HS0.out ?_; simp only [Act.put, List.setIfInBounds_toArray, List.set_cons_zero, List.set_cons_succ]
  refine WH.take 23 (some 28) rfl rfl (by kernel_rfl) (by kernel_rfl) (by kernel_rfl) (fun _ _ _ h => h) (by rfl) (fun v hv => by have k0 := hv.cell xk0; have k1 := hv.cell xk1; have k2 := hv.cell xk2; have k3 := hv.cell xk3; have k4 := hv.cell xk4; have m0 := hv.cell xm0; have m1 := hv.cell xm1; have m2 := hv.cell xm2; have m3 := hv.cell xm3; have m4 := hv.cell xm4; go_simp; first | done | with_reducible rfl | (rw [if_neg (by omega)])) HS0.out ?_; simp only [Act.put, List.setIfInBounds_toArray, List.set_cons_zero, List.set_cons_succ]
  refine WH.take 24 (some 29) rfl rfl (by kernel_rfl) (by kernel_rfl) (by kernel_rfl) (fun _ _ _ h => h) (by rfl) (fun v hv => by have k0 := hv.cell xk0; have k1 := hv.cell xk1; have k2 := hv.cell xk2; have k3 := hv.cell xk3; have k4 := hv.cell xk4; have m0 := hv.cell xm0; have m1 := hv.cell xm1; have m2 := hv.cell xm2; have m3 := hv.cell xm3; have m4 := hv.cell xm4; go_simp; first | done | with_reducible rfl | (rw [if_neg (by omega)])) HS0.out ?_; simp only [Act.put, List.setIfInBounds_toArray, List.set_cons_zero, List.set_cons_succ]
  refine WH.take 26 (some 31) rfl rfl (by kernel_rfl) (by kernel_rfl) (by kernel_rfl) (fun _ _ _ h => h) (by rfl) (fun v hv => by have k0 := hv.cell xk0; have k1 := hv.cell xk1; have k2 := hv.cell xk2; have k3 := hv.cell xk3; have k4 := hv.cell xk4; have m0 := hv.cell xm0; have m1 := hv.cell xm1; have m2 := hv.cell xm2; have m3 := hv.cell xm3; have m4 := hv.cell xm4; go_simp; first | done | with_reducible rfl | (rw [if_neg (by omega)])) HS0.out ?_; simp only [Act.put, List.setIfInBounds_toArray, List.set_cons_zero, List.set_cons_succ]
  refine WH.take 27 (some 32) rfl rfl (by kernel_rfl) (by kernel_rfl) (by kernel_rfl) (fun _ _ _ h => h) (by rfl) (fun v hv => by have k0 := hv.cell xk0; have k1 := hv.cell xk1; have k2 := hv.cell xk2; have k3 := hv.cell xk3; have k4 := hv.cell xk4; have m0 := hv.cell xm0; have m1 := hv.cell xm1; have m2 := hv.cell xm2; have m3 := hv.cell xm3; have m4 := hv.cell xm4; go_simp; first | done | with_reducible rfl | (rw [if_neg (by omega)])) HS0.out ?_; simp only [Act.put, List.setIfInBounds_toArray, List.set_cons_zero, List.set_cons_succ]
  refine WH.take 28 (some 33) rfl rfl (by kernel_rfl) (by kernel_rfl) (by kernel_rfl) (fun _ _ _ h => h) (by rfl) (fun v hv => by have k0 := hv.cell xk0; have k1 := hv.cell xk1; have k2 := hv.cell xk2; have k3 := hv.cell xk3; have k4 := hv.cell xk4; have m0 := hv.cell xm0; have m1 := hv.cell xm1; have m2 := hv.cell xm2; have m3 := hv.cell xm3; have m4 := hv.cell xm4; go_simp; first | done | with_reducible rfl | (rw [if_neg (by omega)])) HS0.out ?_; simp only [Act.put, List.setIfInBounds_toArray, List.set_cons_zero, List.set_cons_succ]
  refine WH.take 29 (some 34) rfl rfl (by kernel_rfl) (by kernel_rfl) (by kernel_rfl) (fun _ _ _ h => h) (by rfl) (fun v hv => by have k0 := hv.cell xk0; have k1 := hv.cell xk1; have k2 := hv.cell xk2; have k3 := hv.cell xk3; have k4 := hv.cell xk4; have m0 := hv.cell xm0; have m1 := hv.cell xm1; have m2 := hv.cell xm2; have m3 := hv.cell xm3; have m4 := hv.cell xm4; go_simp; first | done | with_reducible rfl | (rw [if_neg (by omega)])) HS0.out ?_; simp only [Act.put, List.setIfInBounds_toArray, List.set_cons_zero, List.set_cons_succ]
  refine WH.take 30 (some 35) rfl rfl (by kernel_rfl) (by kernel_rfl) (by kernel_rfl) (fun _ _ _ h => h) (by rfl) (fun v hv => by have k0 := hv.cell xk0; have k1 := hv.cell xk1; have k2 := hv.cell xk2; have k3 := hv.cell xk3; have k4 := hv.cell xk4; have m0 := hv.cell xm0; have m1 := hv.cell xm1; have m2 := hv.cell xm2; have m3 := hv.cell xm3; have m4 := hv.cell xm4; go_simp; first | done | with_reducible rfl | (rw [if_neg (by omega)])) HS0.out ?_; simp only [Act.put, List.setIfInBounds_toArray, List.set_cons_zero, List.set_cons_succ]
  refine WH.take 31 (some 36) rfl rfl (by kernel_rfl) (by kernel_rfl) (by kernel_rfl) (fun _ _ _ h => h) (by rfl) (fun v hv => by have k0 := hv.cell xk0; have k1 := hv.cell xk1; have k2 := hv.cell xk2; have k3 := hv.cell xk3; have k4 := hv.cell xk4; have m0 := hv.cell xm0; have m1 := hv.cell xm1; have m2 := hv.cell xm2; have m3 := hv.cell xm3; have m4 := hv.cell xm4; go_simp; first | done | with_reducible rfl | (rw [if_neg (by omega)])) HS0.out ?_; simp only [Act.put, List.setIfInBounds_toArray, List.set_cons_zero, List.set_cons_succ]
  refine WH.one 4 (by kernel_rfl) rfl (by rfl) ?_
  go_wp2_with fail
  refine (C1.out _).mono ?_
  rintro e w' ⟨rfl, rfl⟩
  go_wp2_with fail
  refine ⟨HS0.out, ?_⟩
  refine WH.one 11 (by kernel_rfl) rfl (by rfl) ?_
  go_wp2_with fail
  refine (C2.out _).mono ?_
  rintro e w' ⟨rfl, rfl⟩
  go_wp2_with fail
  refine ⟨HS0.out, ?_⟩
  refine WH.one 18 (by kernel_rfl) rfl (by rfl) ?_
  go_wp2_with fail
  refine (C3.out _).mono ?_
  rintro e w' ⟨rfl, rfl⟩
  go_wp2_with fail
  refine ⟨HS0.out, ?_⟩
  refine WH.one 25 (by kernel_rfl) rfl (by rfl) ?_
  go_wp2_with fail
  refine (C4.out _).mono ?_
  rintro e w' ⟨rfl, rfl⟩
  go_wp2_with fail
  refine ⟨HS0.out, ?_⟩
  refine WH.one 32 (by kernel_rfl) rfl (by rfl) ?_
  go_wp2_with fail
  refine (C5.out _).mono ?_
  rintro e w' ⟨rfl, rfl⟩
  go_wp2_with fail
  refine ⟨HS0.out, ?_⟩
  refine WH.one 33 (by kernel_rfl) rfl (by rfl) ?_
  go_wp2_with fail
  have HS1 : Hid (Grew wx (wx.alloc (.cells #[.int .i64 d1, .int .i64 d2, .int .i64 d3, .int .i64 d4, .int .i64 d5] 3)).drew) := Lib.hid (HS0.out.alloc _)
  refine ⟨HS1.out, ?_⟩
  refine WH.one 34 (by kernel_rfl) rfl (by rfl) ?_
  go_wp2_with fail
  refine (or_any wx.heap.size 5 [d1, d2, d3, d4, d5] _ (fun j v hj => by
    match j, hj with
    | 0, hj => simp at hj; subst hj; simp
    | 1, hj => simp at hj; subst hj; simp
    | 2, hj => simp at hj; subst hj; simp
    | 3, hj => simp at hj; subst hj; simp
    | 4, hj => simp at hj; subst hj; simp
    | j + 5, hj => simp at hj) (by simp)).mono ?_
  rintro e w' ⟨rfl, rfl⟩
  generalize orF [d1, d2, d3, d4, d5] = oo at *
  go_wp2_with fail
  refine ⟨HS1.out, ?_⟩
  refine WH.take 35 (some 40) rfl rfl (by kernel_rfl) (by kernel_rfl) (by kernel_rfl) (fun _ _ _ h => h) (by rfl) (fun v hv => by have k0 := hv.cell xk0; have k1 := hv.cell xk1; have k2 := hv.cell xk2; have k3 := hv.cell xk3; have k4 := hv.cell xk4; have m0 := hv.cell xm0; have m1 := hv.cell xm1; have m2 := hv.cell xm2; have m3 := hv.cell xm3; have m4 := hv.cell xm4; go_simp; first | done | with_reducible rfl | (rw [if_neg (by omega)])) HS1.out ?_; simp only [Act.put, List.setIfInBounds_toArray, List.set_cons_zero, List.set_cons_succ]
  refine WH.take 36 (some 4) rfl rfl (by kernel_rfl) (by kernel_rfl) (by kernel_rfl) (fun _ _ _ h => h) (by rfl) (fun v hv => by have k0 := hv.cell xk0; have k1 := hv.cell xk1; have k2 := hv.cell xk2; have k3 := hv.cell xk3; have k4 := hv.cell xk4; have m0 := hv.cell xm0; have m1 := hv.cell xm1; have m2 := hv.cell xm2; have m3 := hv.cell xm3; have m4 := hv.cell xm4; go_simp; first | done | with_reducible rfl | (rw [if_neg (by omega)])) HS1.out ?_; simp only [Act.put, List.setIfInBounds_toArray, List.set_cons_zero, List.set_cons_succ]
  refine WH.done (by kernel_rfl) ?_
  go_wp2_with fail
  go_ret
  exact ⟨by (rw [HL.out]) <;> rfl, HG.out.trans HS1.out⟩
end Go.Proofs.YtahgapkecabnjaaGreatDoor
/- Walks of key.Of, key.Turn and of the reference's end, Of and Less. Printed by gen_keyb.py. -/
namespace Go.Proofs.YtahgapkecabnjaaGreatDoor
set_option linter.unusedSimpArgs false
set_option linter.unusedVariables false
open Go Go.RowKit

/-- What a packet's parts can be. -/
structure PkIn (p : Pk) : Prop where
  proto : 0 ≤ p.proto ∧ p.proto < 256
  src : 0 ≤ p.src ∧ p.src < 4294967296
  dst : 0 ≤ p.dst ∧ p.dst < 4294967296
  sport : 0 ≤ p.sport ∧ p.sport < 65536
  dport : 0 ≤ p.dport ∧ p.dport < 65536
  flags : 0 ≤ p.flags ∧ p.flags < 256
  kind : 0 ≤ p.kind ∧ p.kind < 256
/-- A packet's flow, and whether it comes from the higher end. -/
def keyF (p : Pk) : Ky × Bool :=
  if p.dst < p.src ∨ p.dst = p.src ∧ p.dport < p.sport then (⟨p.dst.toNat, p.src.toNat, p.dport.toNat, p.sport.toNat, p.proto.toNat⟩, true)
  else (⟨p.src.toNat, p.dst.toNat, p.sport.toNat, p.dport.toNat, p.proto.toNat⟩, false)
theorem keyF_in {p : Pk} (h : PkIn p) : (keyF p).1.In := by
  obtain ⟨h1, h2, h3, h4, h5, h6, h7⟩ := h
  unfold keyF
  split
  · exact ⟨by simp only; omega, by simp only; omega, by simp only; omega, by simp only; omega, by simp only; omega⟩
  · exact ⟨by simp only; omega, by simp only; omega, by simp only; omega, by simp only; omega, by simp only; omega⟩
theorem turned_or (a b c d : Nat) : (orF [cmpF a b, cmpF c d] < 0) ↔ ((a : Int) < b ∨ (a : Int) = b ∧ (c : Int) < d) := by
  have h : ∀ (a b : Nat) (l : List Int), orF (cmpF a b :: l) < 0 ↔ a < b ∨ a = b ∧ orF l < 0 := fun a b l => by
    unfold orF cmpF
    rw [List.find?_cons]
    by_cases h1 : a < b
    · have : (a : Int) < b := by omega
      simp [this, h1]
    · by_cases h2 : b < a
      · have e1 : ¬ (a : Int) < b := by omega
        have e2 : (b : Int) < a := by omega
        have e3 : ¬ a = b := by omega
        simp [e1, e2, h1, e3]
      · have e1 : ¬ (a : Int) < b := by omega
        have e2 : ¬ (b : Int) < a := by omega
        have e3 : a = b := by omega
        simp [e1, e2, h1, e3]
  rw [h, h]
  have : ¬ orF [] < 0 := by simp [orF]
  simp only [this, and_false, or_false]
  omega
/-- A key in a box. -/
structure KyBox (w : World) (b : Nat) (k : Ky) : Prop where
  c0 : w.cell? ⟨b, 0, none⟩ = some (.int .u32 k.a0)
  c1 : w.cell? ⟨b, 1, none⟩ = some (.int .u32 k.a1)
  c2 : w.cell? ⟨b, 2, none⟩ = some (.int .u16 k.p0)
  c3 : w.cell? ⟨b, 3, none⟩ = some (.int .u16 k.p1)
  c4 : w.cell? ⟨b, 4, none⟩ = some (.int .u8 k.pr)
  fr : ∀ j, w.frozen? ⟨b, j, none⟩ = false
theorem Grew.frozen {w w1 : World} (h : Grew w w1) {a : Addr} (ha : a.block < w.heap.size) : w1.frozen? a = w.frozen? a := by
  obtain ⟨q, os, rfl⟩ := h
  exact (Sort.frozen?_grow (w.drewN q) os a ha)
theorem or_two (d1 d2 oo : Int) (h : orF [d1, d2] = oo) (b : Nat) (W : World) (c0 : W.cell? ⟨b, 0, none⟩ = some (.int .i64 d1)) (c1 : W.cell? ⟨b, 1, none⟩ = some (.int .i64 d2)) :
    Calls Tryz.prog 42 #[.slice (some ⟨b, 0, none⟩) 2 2] W fun e w' => e = .returned (.int .i64 oo) ∧ w' = W := by
  subst h
  exact or_any b 2 [d1, d2] W (fun j v hj => by
    match j, hj with
    | 0, hj => simp at hj; subst hj; exact c0
    | 1, hj => simp at hj; subst hj; exact c1
    | j + 2, hj => simp at hj) (by simp)
set_option maxHeartbeats 16000000 in
set_option maxRecDepth 100000 in
theorem of_any (p : Pk) (w : World) (hp : PkIn p) :
    Calls Tryz.prog 18 #[.agg (pkC p)] w fun e w' => e = .returned (.tuple #[kyV (keyF p).1, .bool (keyF p).2]) ∧ Below w.heap.size w w' := by
  obtain ⟨proto, src, dst, sport, dport, flags, kind⟩ := p
  obtain ⟨h1, h2, h3, h4, h5, h6, h7⟩ := hp
  simp only at h1 h2 h3 h4 h5 h6 h7
  obtain ⟨proto, rfl⟩ := Int.eq_ofNat_of_zero_le h1.1
  obtain ⟨src, rfl⟩ := Int.eq_ofNat_of_zero_le h2.1
  obtain ⟨dst, rfl⟩ := Int.eq_ofNat_of_zero_le h3.1
  obtain ⟨sport, rfl⟩ := Int.eq_ofNat_of_zero_le h4.1
  obtain ⟨dport, rfl⟩ := Int.eq_ofNat_of_zero_le h5.1
  clear h1 h2 h3 h4 h5 h6 h7
  have HV : Hid (keyF ⟨proto, src, dst, sport, dport, flags, kind⟩ = if (dst : Int) < src ∨ (dst : Int) = src ∧ (dport : Int) < sport then (⟨dst, src, dport, sport, proto⟩, true) else (⟨src, dst, sport, dport, proto⟩, false)) := Lib.hid rfl
  have C1 := Lib.hid (fun W => compare_u32 dst src W)
  have C2 := Lib.hid (fun W => compare_u16 dport sport W)
  have HT := Lib.hid (turned_or dst src dport sport)
  generalize cmpF dst src = d1 at *
  generalize cmpF dport sport = d2 at *
  have HO := Lib.hid (fun oo h => or_two d1 d2 oo h)
  generalize orF [d1, d2] = oo at *
  have HO2 := Lib.hid (HO.out oo rfl)
  clear HO
  unfold pkC
  go_enter Tryz.func18, Tryz.ntmps18
  go_wp2_with fail
  have HG : Hid (Grew w (((w.alloc (.cells #[.int .u8 proto, .int .u32 src, .int .u32 dst, .int .u16 sport, .int .u16 dport, .int .u8 flags, .int .u8 kind] 41)).alloc (.cells #[.int .u32 0, .int .u32 0, .int .u16 0, .int .u16 0, .int .u8 0] 45)).alloc (.cells #[.int .u32 src, .int .u32 dst, .int .u16 sport, .int .u16 dport, .int .u8 proto] 45))) := Lib.hid ((((Grew.refl w).alloc _).alloc _).alloc _)
  have xp1 : (((w.alloc (.cells #[.int .u8 proto, .int .u32 src, .int .u32 dst, .int .u16 sport, .int .u16 dport, .int .u8 flags, .int .u8 kind] 41)).alloc (.cells #[.int .u32 0, .int .u32 0, .int .u16 0, .int .u16 0, .int .u8 0] 45)).alloc (.cells #[.int .u32 src, .int .u32 dst, .int .u16 sport, .int .u16 dport, .int .u8 proto] 45)).cell? ⟨w.heap.size, 1, none⟩ = some (.int .u32 src) := by simp [go_sem]
  have xp2 : (((w.alloc (.cells #[.int .u8 proto, .int .u32 src, .int .u32 dst, .int .u16 sport, .int .u16 dport, .int .u8 flags, .int .u8 kind] 41)).alloc (.cells #[.int .u32 0, .int .u32 0, .int .u16 0, .int .u16 0, .int .u8 0] 45)).alloc (.cells #[.int .u32 src, .int .u32 dst, .int .u16 sport, .int .u16 dport, .int .u8 proto] 45)).cell? ⟨w.heap.size, 2, none⟩ = some (.int .u32 dst) := by simp [go_sem]
  have xp3 : (((w.alloc (.cells #[.int .u8 proto, .int .u32 src, .int .u32 dst, .int .u16 sport, .int .u16 dport, .int .u8 flags, .int .u8 kind] 41)).alloc (.cells #[.int .u32 0, .int .u32 0, .int .u16 0, .int .u16 0, .int .u8 0] 45)).alloc (.cells #[.int .u32 src, .int .u32 dst, .int .u16 sport, .int .u16 dport, .int .u8 proto] 45)).cell? ⟨w.heap.size, 3, none⟩ = some (.int .u16 sport) := by simp [go_sem]
  have xp4 : (((w.alloc (.cells #[.int .u8 proto, .int .u32 src, .int .u32 dst, .int .u16 sport, .int .u16 dport, .int .u8 flags, .int .u8 kind] 41)).alloc (.cells #[.int .u32 0, .int .u32 0, .int .u16 0, .int .u16 0, .int .u8 0] 45)).alloc (.cells #[.int .u32 src, .int .u32 dst, .int .u16 sport, .int .u16 dport, .int .u8 proto] 45)).cell? ⟨w.heap.size, 4, none⟩ = some (.int .u16 dport) := by simp [go_sem]
  have xk0 : (((w.alloc (.cells #[.int .u8 proto, .int .u32 src, .int .u32 dst, .int .u16 sport, .int .u16 dport, .int .u8 flags, .int .u8 kind] 41)).alloc (.cells #[.int .u32 0, .int .u32 0, .int .u16 0, .int .u16 0, .int .u8 0] 45)).alloc (.cells #[.int .u32 src, .int .u32 dst, .int .u16 sport, .int .u16 dport, .int .u8 proto] 45)).cell? ⟨w.heap.size + 1 + 1, 0, none⟩ = some (.int .u32 src) := by simp [go_sem]
  have xz0 : (((w.alloc (.cells #[.int .u8 proto, .int .u32 src, .int .u32 dst, .int .u16 sport, .int .u16 dport, .int .u8 flags, .int .u8 kind] 41)).alloc (.cells #[.int .u32 0, .int .u32 0, .int .u16 0, .int .u16 0, .int .u8 0] 45)).alloc (.cells #[.int .u32 src, .int .u32 dst, .int .u16 sport, .int .u16 dport, .int .u8 proto] 45)).cell? ⟨w.heap.size + 1, 0, none⟩ = some (.int .u32 0) := by simp [go_sem]
  have xk1 : (((w.alloc (.cells #[.int .u8 proto, .int .u32 src, .int .u32 dst, .int .u16 sport, .int .u16 dport, .int .u8 flags, .int .u8 kind] 41)).alloc (.cells #[.int .u32 0, .int .u32 0, .int .u16 0, .int .u16 0, .int .u8 0] 45)).alloc (.cells #[.int .u32 src, .int .u32 dst, .int .u16 sport, .int .u16 dport, .int .u8 proto] 45)).cell? ⟨w.heap.size + 1 + 1, 1, none⟩ = some (.int .u32 dst) := by simp [go_sem]
  have xz1 : (((w.alloc (.cells #[.int .u8 proto, .int .u32 src, .int .u32 dst, .int .u16 sport, .int .u16 dport, .int .u8 flags, .int .u8 kind] 41)).alloc (.cells #[.int .u32 0, .int .u32 0, .int .u16 0, .int .u16 0, .int .u8 0] 45)).alloc (.cells #[.int .u32 src, .int .u32 dst, .int .u16 sport, .int .u16 dport, .int .u8 proto] 45)).cell? ⟨w.heap.size + 1, 1, none⟩ = some (.int .u32 0) := by simp [go_sem]
  have xk2 : (((w.alloc (.cells #[.int .u8 proto, .int .u32 src, .int .u32 dst, .int .u16 sport, .int .u16 dport, .int .u8 flags, .int .u8 kind] 41)).alloc (.cells #[.int .u32 0, .int .u32 0, .int .u16 0, .int .u16 0, .int .u8 0] 45)).alloc (.cells #[.int .u32 src, .int .u32 dst, .int .u16 sport, .int .u16 dport, .int .u8 proto] 45)).cell? ⟨w.heap.size + 1 + 1, 2, none⟩ = some (.int .u16 sport) := by simp [go_sem]
  have xz2 : (((w.alloc (.cells #[.int .u8 proto, .int .u32 src, .int .u32 dst, .int .u16 sport, .int .u16 dport, .int .u8 flags, .int .u8 kind] 41)).alloc (.cells #[.int .u32 0, .int .u32 0, .int .u16 0, .int .u16 0, .int .u8 0] 45)).alloc (.cells #[.int .u32 src, .int .u32 dst, .int .u16 sport, .int .u16 dport, .int .u8 proto] 45)).cell? ⟨w.heap.size + 1, 2, none⟩ = some (.int .u16 0) := by simp [go_sem]
  have xk3 : (((w.alloc (.cells #[.int .u8 proto, .int .u32 src, .int .u32 dst, .int .u16 sport, .int .u16 dport, .int .u8 flags, .int .u8 kind] 41)).alloc (.cells #[.int .u32 0, .int .u32 0, .int .u16 0, .int .u16 0, .int .u8 0] 45)).alloc (.cells #[.int .u32 src, .int .u32 dst, .int .u16 sport, .int .u16 dport, .int .u8 proto] 45)).cell? ⟨w.heap.size + 1 + 1, 3, none⟩ = some (.int .u16 dport) := by simp [go_sem]
  have xz3 : (((w.alloc (.cells #[.int .u8 proto, .int .u32 src, .int .u32 dst, .int .u16 sport, .int .u16 dport, .int .u8 flags, .int .u8 kind] 41)).alloc (.cells #[.int .u32 0, .int .u32 0, .int .u16 0, .int .u16 0, .int .u8 0] 45)).alloc (.cells #[.int .u32 src, .int .u32 dst, .int .u16 sport, .int .u16 dport, .int .u8 proto] 45)).cell? ⟨w.heap.size + 1, 3, none⟩ = some (.int .u16 0) := by simp [go_sem]
  have xk4 : (((w.alloc (.cells #[.int .u8 proto, .int .u32 src, .int .u32 dst, .int .u16 sport, .int .u16 dport, .int .u8 flags, .int .u8 kind] 41)).alloc (.cells #[.int .u32 0, .int .u32 0, .int .u16 0, .int .u16 0, .int .u8 0] 45)).alloc (.cells #[.int .u32 src, .int .u32 dst, .int .u16 sport, .int .u16 dport, .int .u8 proto] 45)).cell? ⟨w.heap.size + 1 + 1, 4, none⟩ = some (.int .u8 proto) := by simp [go_sem]
  have xz4 : (((w.alloc (.cells #[.int .u8 proto, .int .u32 src, .int .u32 dst, .int .u16 sport, .int .u16 dport, .int .u8 flags, .int .u8 kind] 41)).alloc (.cells #[.int .u32 0, .int .u32 0, .int .u16 0, .int .u16 0, .int .u8 0] 45)).alloc (.cells #[.int .u32 src, .int .u32 dst, .int .u16 sport, .int .u16 dport, .int .u8 proto] 45)).cell? ⟨w.heap.size + 1, 4, none⟩ = some (.int .u8 0) := by simp [go_sem]
  have xf : Hid ((∀ j, (((w.alloc (.cells #[.int .u8 proto, .int .u32 src, .int .u32 dst, .int .u16 sport, .int .u16 dport, .int .u8 flags, .int .u8 kind] 41)).alloc (.cells #[.int .u32 0, .int .u32 0, .int .u16 0, .int .u16 0, .int .u8 0] 45)).alloc (.cells #[.int .u32 src, .int .u32 dst, .int .u16 sport, .int .u16 dport, .int .u8 proto] 45)).frozen? ⟨w.heap.size + 1 + 1, j, none⟩ = false) ∧ (∀ j, (((w.alloc (.cells #[.int .u8 proto, .int .u32 src, .int .u32 dst, .int .u16 sport, .int .u16 dport, .int .u8 flags, .int .u8 kind] 41)).alloc (.cells #[.int .u32 0, .int .u32 0, .int .u16 0, .int .u16 0, .int .u8 0] 45)).alloc (.cells #[.int .u32 src, .int .u32 dst, .int .u16 sport, .int .u16 dport, .int .u8 proto] 45)).frozen? ⟨w.heap.size + 1, j, none⟩ = false)) := Lib.hid ⟨fun j => by simp [go_sem], fun j => by simp [go_sem]⟩
  have xs : (((w.alloc (.cells #[.int .u8 proto, .int .u32 src, .int .u32 dst, .int .u16 sport, .int .u16 dport, .int .u8 flags, .int .u8 kind] 41)).alloc (.cells #[.int .u32 0, .int .u32 0, .int .u16 0, .int .u16 0, .int .u8 0] 45)).alloc (.cells #[.int .u32 src, .int .u32 dst, .int .u16 sport, .int .u16 dport, .int .u8 proto] 45)).heap.size = w.heap.size + 3 := by simp
  generalize (((w.alloc (.cells #[.int .u8 proto, .int .u32 src, .int .u32 dst, .int .u16 sport, .int .u16 dport, .int .u8 flags, .int .u8 kind] 41)).alloc (.cells #[.int .u32 0, .int .u32 0, .int .u16 0, .int .u16 0, .int .u8 0] 45)).alloc (.cells #[.int .u32 src, .int .u32 dst, .int .u16 sport, .int .u16 dport, .int .u8 proto] 45)) = wx at *
  have HS0 : Hid (Grew wx wx.drew) := Lib.hid (Grew.refl _).drew
  have HN := Lib.hid (show w.heap.size + 3 = wx.heap.size from xs.symm)
  generalize hn0 : w.heap.size = n0 at *
  clear xs
  by_cases ht : oo < 0
  · have hV : Hid (keyF ⟨proto, src, dst, sport, dport, flags, kind⟩ = (⟨dst, src, dport, sport, proto⟩, true)) := Lib.hid (by rw [HV.out, if_pos (HT.out.1 ht)])
    refine WH.enter (Grew wx) (by kernel_rfl) 14 rfl ?_
    refine WH.take 0 (some 19) rfl rfl (by kernel_rfl) (by kernel_rfl) (by kernel_rfl) (fun _ _ _ h => h) (by rfl) (fun v hv => by have k1 := hv.cell xp1; have k2 := hv.cell xp2; have k3 := hv.cell xp3; have k4 := hv.cell xp4; go_simp; first | done | with_reducible rfl | (rw [if_neg (by omega)])) HS0.out ?_; simp only [Act.put, List.setIfInBounds_toArray, List.set_cons_zero, List.set_cons_succ]
    refine WH.take 1 (some 20) rfl rfl (by kernel_rfl) (by kernel_rfl) (by kernel_rfl) (fun _ _ _ h => h) (by rfl) (fun v hv => by have k1 := hv.cell xp1; have k2 := hv.cell xp2; have k3 := hv.cell xp3; have k4 := hv.cell xp4; go_simp; first | done | with_reducible rfl | (rw [if_neg (by omega)])) HS0.out ?_; simp only [Act.put, List.setIfInBounds_toArray, List.set_cons_zero, List.set_cons_succ]
    refine WH.take 2 (some 21) rfl rfl (by kernel_rfl) (by kernel_rfl) (by kernel_rfl) (fun _ _ _ h => h) (by rfl) (fun v hv => by have k1 := hv.cell xp1; have k2 := hv.cell xp2; have k3 := hv.cell xp3; have k4 := hv.cell xp4; go_simp; first | done | with_reducible rfl | (rw [if_neg (by omega)])) HS0.out ?_; simp only [Act.put, List.setIfInBounds_toArray, List.set_cons_zero, List.set_cons_succ]
    refine WH.take 3 (some 22) rfl rfl (by kernel_rfl) (by kernel_rfl) (by kernel_rfl) (fun _ _ _ h => h) (by rfl) (fun v hv => by have k1 := hv.cell xp1; have k2 := hv.cell xp2; have k3 := hv.cell xp3; have k4 := hv.cell xp4; go_simp; first | done | with_reducible rfl | (rw [if_neg (by omega)])) HS0.out ?_; simp only [Act.put, List.setIfInBounds_toArray, List.set_cons_zero, List.set_cons_succ]
    refine WH.take 5 (some 24) rfl rfl (by kernel_rfl) (by kernel_rfl) (by kernel_rfl) (fun _ _ _ h => h) (by rfl) (fun v hv => by have k1 := hv.cell xp1; have k2 := hv.cell xp2; have k3 := hv.cell xp3; have k4 := hv.cell xp4; go_simp; first | done | with_reducible rfl | (rw [if_neg (by omega)])) HS0.out ?_; simp only [Act.put, List.setIfInBounds_toArray, List.set_cons_zero, List.set_cons_succ]
    refine WH.take 6 (some 25) rfl rfl (by kernel_rfl) (by kernel_rfl) (by kernel_rfl) (fun _ _ _ h => h) (by rfl) (fun v hv => by have k1 := hv.cell xp1; have k2 := hv.cell xp2; have k3 := hv.cell xp3; have k4 := hv.cell xp4; go_simp; first | done | with_reducible rfl | (rw [if_neg (by omega)])) HS0.out ?_; simp only [Act.put, List.setIfInBounds_toArray, List.set_cons_zero, List.set_cons_succ]
    refine WH.take 7 (some 26) rfl rfl (by kernel_rfl) (by kernel_rfl) (by kernel_rfl) (fun _ _ _ h => h) (by rfl) (fun v hv => by have k1 := hv.cell xp1; have k2 := hv.cell xp2; have k3 := hv.cell xp3; have k4 := hv.cell xp4; go_simp; first | done | with_reducible rfl | (rw [if_neg (by omega)])) HS0.out ?_; simp only [Act.put, List.setIfInBounds_toArray, List.set_cons_zero, List.set_cons_succ]
    refine WH.take 8 (some 27) rfl rfl (by kernel_rfl) (by kernel_rfl) (by kernel_rfl) (fun _ _ _ h => h) (by rfl) (fun v hv => by have k1 := hv.cell xp1; have k2 := hv.cell xp2; have k3 := hv.cell xp3; have k4 := hv.cell xp4; go_simp; first | done | with_reducible rfl | (rw [if_neg (by omega)])) HS0.out ?_; simp only [Act.put, List.setIfInBounds_toArray, List.set_cons_zero, List.set_cons_succ]
    refine WH.one 4 (by kernel_rfl) rfl (by rfl) ?_
    go_wp2_with fail
    refine (C1.out _).mono ?_
    rintro e w' ⟨rfl, rfl⟩
    go_wp2_with fail
    refine ⟨HS0.out, ?_⟩
    refine WH.one 9 (by kernel_rfl) rfl (by rfl) ?_
    go_wp2_with fail
    refine (C2.out _).mono ?_
    rintro e w' ⟨rfl, rfl⟩
    go_wp2_with fail
    refine ⟨HS0.out, ?_⟩
    refine WH.one 10 (by kernel_rfl) rfl (by rfl) ?_
    go_wp2_with fail
    have HS1 : Hid (Grew wx (wx.alloc (.cells #[.int .i64 d1, .int .i64 d2] 3)).drew) := Lib.hid (HS0.out.alloc _)
    refine ⟨HS1.out, ?_⟩
    refine WH.one 11 (by kernel_rfl) rfl (by rfl) ?_
    go_wp2_with fail
    refine (HO2.out _ _ (by simp) (by simp)).mono ?_
    rintro e w' ⟨rfl, rfl⟩
    go_wp2_with fail
    refine ⟨HS1.out, ?_⟩
    refine WH.take 12 (some 31) rfl rfl (by kernel_rfl) (by kernel_rfl) (by kernel_rfl) (fun _ _ _ h => h) (by rfl) (fun v hv => by have k1 := hv.cell xp1; have k2 := hv.cell xp2; have k3 := hv.cell xp3; have k4 := hv.cell xp4; go_simp; first | done | with_reducible rfl | (rw [if_neg (by omega)])) HS1.out ?_; simp only [Act.put, List.setIfInBounds_toArray, List.set_cons_zero, List.set_cons_succ]
    refine WH.take 13 (some 5) rfl rfl (by kernel_rfl) (by kernel_rfl) (by kernel_rfl) (fun _ _ _ h => h) (by rfl) (fun v hv => by have k1 := hv.cell xp1; have k2 := hv.cell xp2; have k3 := hv.cell xp3; have k4 := hv.cell xp4; go_simp; first | done | with_reducible rfl | (rw [if_neg (by omega)])) HS1.out ?_; simp only [Act.put, List.setIfInBounds_toArray, List.set_cons_zero, List.set_cons_succ]
    refine WH.done (by kernel_rfl) ?_
    generalize (wx.alloc (.cells #[.int .i64 d1, .int .i64 d2] 3)).drew = wy at *
    have hbe : Hid (Below w.heap.size w wy) := Lib.hid (HG.out.trans HS1.out).below
    have yk0 := Grew.cell HS1.out xk0
    have yk1 := Grew.cell HS1.out xk1
    have yk2 := Grew.cell HS1.out xk2
    have yk3 := Grew.cell HS1.out xk3
    have yk4 := Grew.cell HS1.out xk4
    have yz0 := Grew.cell HS1.out xz0
    have yz1 := Grew.cell HS1.out xz1
    have yz2 := Grew.cell HS1.out xz2
    have yz3 := Grew.cell HS1.out xz3
    have yz4 := Grew.cell HS1.out xz4
    have fk0 := (Grew.frozen HS1.out (a := ⟨n0 + 1 + 1, 0, none⟩) (by have := HN.out; simp only; omega)).trans (xf.out.1 0)
    have fk1 := (Grew.frozen HS1.out (a := ⟨n0 + 1 + 1, 1, none⟩) (by have := HN.out; simp only; omega)).trans (xf.out.1 1)
    have fk2 := (Grew.frozen HS1.out (a := ⟨n0 + 1 + 1, 2, none⟩) (by have := HN.out; simp only; omega)).trans (xf.out.1 2)
    have fk3 := (Grew.frozen HS1.out (a := ⟨n0 + 1 + 1, 3, none⟩) (by have := HN.out; simp only; omega)).trans (xf.out.1 3)
    have fk4 := (Grew.frozen HS1.out (a := ⟨n0 + 1 + 1, 4, none⟩) (by have := HN.out; simp only; omega)).trans (xf.out.1 4)
    have fz0 := (Grew.frozen HS1.out (a := ⟨n0 + 1, 0, none⟩) (by have := HN.out; simp only; omega)).trans (xf.out.2 0)
    have fz1 := (Grew.frozen HS1.out (a := ⟨n0 + 1, 1, none⟩) (by have := HN.out; simp only; omega)).trans (xf.out.2 1)
    have fz2 := (Grew.frozen HS1.out (a := ⟨n0 + 1, 2, none⟩) (by have := HN.out; simp only; omega)).trans (xf.out.2 2)
    have fz3 := (Grew.frozen HS1.out (a := ⟨n0 + 1, 3, none⟩) (by have := HN.out; simp only; omega)).trans (xf.out.2 3)
    have fz4 := (Grew.frozen HS1.out (a := ⟨n0 + 1, 4, none⟩) (by have := HN.out; simp only; omega)).trans (xf.out.2 4)
    clear HS1 HS0 xp1 xp2 xp3 xp4 xk0 xk1 xk2 xk3 xk4 xz0 xz1 xz2 xz3 xz4
    go_wp2_with fail
    have HBE : Hid (Below w.heap.size w ((((((((((wy.setCell ⟨n0 + 1 + 1, 0, none⟩ (.int .u32 dst)).setCell ⟨n0 + 1 + 1, 1, none⟩ (.int .u32 src)).setCell ⟨n0 + 1 + 1, 2, none⟩ (.int .u16 dport)).setCell ⟨n0 + 1 + 1, 3, none⟩ (.int .u16 sport)).setCell ⟨n0 + 1, 0, none⟩ (.int .u32 dst)).setCell ⟨n0 + 1, 1, none⟩ (.int .u32 src)).setCell ⟨n0 + 1, 2, none⟩ (.int .u16 dport)).setCell ⟨n0 + 1, 3, none⟩ (.int .u16 sport)).setCell ⟨n0 + 1, 4, none⟩ (.int .u8 proto)))) := Lib.hid ((Below.setCell (Below.setCell (Below.setCell (Below.setCell (Below.setCell (Below.setCell (Below.setCell (Below.setCell (Below.setCell hbe.out (p := ⟨n0 + 1 + 1, 0, none⟩) (by rw [hn0]; simp only; omega) _) (p := ⟨n0 + 1 + 1, 1, none⟩) (by rw [hn0]; simp only; omega) _) (p := ⟨n0 + 1 + 1, 2, none⟩) (by rw [hn0]; simp only; omega) _) (p := ⟨n0 + 1 + 1, 3, none⟩) (by rw [hn0]; simp only; omega) _) (p := ⟨n0 + 1, 0, none⟩) (by rw [hn0]; simp only; omega) _) (p := ⟨n0 + 1, 1, none⟩) (by rw [hn0]; simp only; omega) _) (p := ⟨n0 + 1, 2, none⟩) (by rw [hn0]; simp only; omega) _) (p := ⟨n0 + 1, 3, none⟩) (by rw [hn0]; simp only; omega) _) (p := ⟨n0 + 1, 4, none⟩) (by rw [hn0]; simp only; omega) _))
    exact bodyPost_ret (v := .tuple #[kyV ⟨dst, src, dport, sport, proto⟩, .bool true]) (by simp [results, Tryz.results18, go_sem, kyV, kyC, *]) rfl ⟨by (rw [hV.out]) <;> rfl, HBE.out⟩
  · have hV : Hid (keyF ⟨proto, src, dst, sport, dport, flags, kind⟩ = (⟨src, dst, sport, dport, proto⟩, false)) := Lib.hid (by rw [HV.out, if_neg (fun h => ht (HT.out.2 h))])
    refine WH.enter (Grew wx) (by kernel_rfl) 14 rfl ?_
    refine WH.take 0 (some 19) rfl rfl (by kernel_rfl) (by kernel_rfl) (by kernel_rfl) (fun _ _ _ h => h) (by rfl) (fun v hv => by have k1 := hv.cell xp1; have k2 := hv.cell xp2; have k3 := hv.cell xp3; have k4 := hv.cell xp4; go_simp; first | done | with_reducible rfl | (rw [if_neg (by omega)])) HS0.out ?_; simp only [Act.put, List.setIfInBounds_toArray, List.set_cons_zero, List.set_cons_succ]
    refine WH.take 1 (some 20) rfl rfl (by kernel_rfl) (by kernel_rfl) (by kernel_rfl) (fun _ _ _ h => h) (by rfl) (fun v hv => by have k1 := hv.cell xp1; have k2 := hv.cell xp2; have k3 := hv.cell xp3; have k4 := hv.cell xp4; go_simp; first | done | with_reducible rfl | (rw [if_neg (by omega)])) HS0.out ?_; simp only [Act.put, List.setIfInBounds_toArray, List.set_cons_zero, List.set_cons_succ]
    refine WH.take 2 (some 21) rfl rfl (by kernel_rfl) (by kernel_rfl) (by kernel_rfl) (fun _ _ _ h => h) (by rfl) (fun v hv => by have k1 := hv.cell xp1; have k2 := hv.cell xp2; have k3 := hv.cell xp3; have k4 := hv.cell xp4; go_simp; first | done | with_reducible rfl | (rw [if_neg (by omega)])) HS0.out ?_; simp only [Act.put, List.setIfInBounds_toArray, List.set_cons_zero, List.set_cons_succ]
    refine WH.take 3 (some 22) rfl rfl (by kernel_rfl) (by kernel_rfl) (by kernel_rfl) (fun _ _ _ h => h) (by rfl) (fun v hv => by have k1 := hv.cell xp1; have k2 := hv.cell xp2; have k3 := hv.cell xp3; have k4 := hv.cell xp4; go_simp; first | done | with_reducible rfl | (rw [if_neg (by omega)])) HS0.out ?_; simp only [Act.put, List.setIfInBounds_toArray, List.set_cons_zero, List.set_cons_succ]
    refine WH.take 5 (some 24) rfl rfl (by kernel_rfl) (by kernel_rfl) (by kernel_rfl) (fun _ _ _ h => h) (by rfl) (fun v hv => by have k1 := hv.cell xp1; have k2 := hv.cell xp2; have k3 := hv.cell xp3; have k4 := hv.cell xp4; go_simp; first | done | with_reducible rfl | (rw [if_neg (by omega)])) HS0.out ?_; simp only [Act.put, List.setIfInBounds_toArray, List.set_cons_zero, List.set_cons_succ]
    refine WH.take 6 (some 25) rfl rfl (by kernel_rfl) (by kernel_rfl) (by kernel_rfl) (fun _ _ _ h => h) (by rfl) (fun v hv => by have k1 := hv.cell xp1; have k2 := hv.cell xp2; have k3 := hv.cell xp3; have k4 := hv.cell xp4; go_simp; first | done | with_reducible rfl | (rw [if_neg (by omega)])) HS0.out ?_; simp only [Act.put, List.setIfInBounds_toArray, List.set_cons_zero, List.set_cons_succ]
    refine WH.take 7 (some 26) rfl rfl (by kernel_rfl) (by kernel_rfl) (by kernel_rfl) (fun _ _ _ h => h) (by rfl) (fun v hv => by have k1 := hv.cell xp1; have k2 := hv.cell xp2; have k3 := hv.cell xp3; have k4 := hv.cell xp4; go_simp; first | done | with_reducible rfl | (rw [if_neg (by omega)])) HS0.out ?_; simp only [Act.put, List.setIfInBounds_toArray, List.set_cons_zero, List.set_cons_succ]
    refine WH.take 8 (some 27) rfl rfl (by kernel_rfl) (by kernel_rfl) (by kernel_rfl) (fun _ _ _ h => h) (by rfl) (fun v hv => by have k1 := hv.cell xp1; have k2 := hv.cell xp2; have k3 := hv.cell xp3; have k4 := hv.cell xp4; go_simp; first | done | with_reducible rfl | (rw [if_neg (by omega)])) HS0.out ?_; simp only [Act.put, List.setIfInBounds_toArray, List.set_cons_zero, List.set_cons_succ]
    refine WH.one 4 (by kernel_rfl) rfl (by rfl) ?_
    go_wp2_with fail
    refine (C1.out _).mono ?_
    rintro e w' ⟨rfl, rfl⟩
    go_wp2_with fail
    refine ⟨HS0.out, ?_⟩
    refine WH.one 9 (by kernel_rfl) rfl (by rfl) ?_
    go_wp2_with fail
    refine (C2.out _).mono ?_
    rintro e w' ⟨rfl, rfl⟩
    go_wp2_with fail
    refine ⟨HS0.out, ?_⟩
    refine WH.one 10 (by kernel_rfl) rfl (by rfl) ?_
    go_wp2_with fail
    have HS1 : Hid (Grew wx (wx.alloc (.cells #[.int .i64 d1, .int .i64 d2] 3)).drew) := Lib.hid (HS0.out.alloc _)
    refine ⟨HS1.out, ?_⟩
    refine WH.one 11 (by kernel_rfl) rfl (by rfl) ?_
    go_wp2_with fail
    refine (HO2.out _ _ (by simp) (by simp)).mono ?_
    rintro e w' ⟨rfl, rfl⟩
    go_wp2_with fail
    refine ⟨HS1.out, ?_⟩
    refine WH.take 12 (some 31) rfl rfl (by kernel_rfl) (by kernel_rfl) (by kernel_rfl) (fun _ _ _ h => h) (by rfl) (fun v hv => by have k1 := hv.cell xp1; have k2 := hv.cell xp2; have k3 := hv.cell xp3; have k4 := hv.cell xp4; go_simp; first | done | with_reducible rfl | (rw [if_neg (by omega)])) HS1.out ?_; simp only [Act.put, List.setIfInBounds_toArray, List.set_cons_zero, List.set_cons_succ]
    refine WH.take 13 (some 5) rfl rfl (by kernel_rfl) (by kernel_rfl) (by kernel_rfl) (fun _ _ _ h => h) (by rfl) (fun v hv => by have k1 := hv.cell xp1; have k2 := hv.cell xp2; have k3 := hv.cell xp3; have k4 := hv.cell xp4; go_simp; first | done | with_reducible rfl | (rw [if_neg (by omega)])) HS1.out ?_; simp only [Act.put, List.setIfInBounds_toArray, List.set_cons_zero, List.set_cons_succ]
    refine WH.done (by kernel_rfl) ?_
    generalize (wx.alloc (.cells #[.int .i64 d1, .int .i64 d2] 3)).drew = wy at *
    have hbe : Hid (Below w.heap.size w wy) := Lib.hid (HG.out.trans HS1.out).below
    have yk0 := Grew.cell HS1.out xk0
    have yk1 := Grew.cell HS1.out xk1
    have yk2 := Grew.cell HS1.out xk2
    have yk3 := Grew.cell HS1.out xk3
    have yk4 := Grew.cell HS1.out xk4
    have yz0 := Grew.cell HS1.out xz0
    have yz1 := Grew.cell HS1.out xz1
    have yz2 := Grew.cell HS1.out xz2
    have yz3 := Grew.cell HS1.out xz3
    have yz4 := Grew.cell HS1.out xz4
    have fk0 := (Grew.frozen HS1.out (a := ⟨n0 + 1 + 1, 0, none⟩) (by have := HN.out; simp only; omega)).trans (xf.out.1 0)
    have fk1 := (Grew.frozen HS1.out (a := ⟨n0 + 1 + 1, 1, none⟩) (by have := HN.out; simp only; omega)).trans (xf.out.1 1)
    have fk2 := (Grew.frozen HS1.out (a := ⟨n0 + 1 + 1, 2, none⟩) (by have := HN.out; simp only; omega)).trans (xf.out.1 2)
    have fk3 := (Grew.frozen HS1.out (a := ⟨n0 + 1 + 1, 3, none⟩) (by have := HN.out; simp only; omega)).trans (xf.out.1 3)
    have fk4 := (Grew.frozen HS1.out (a := ⟨n0 + 1 + 1, 4, none⟩) (by have := HN.out; simp only; omega)).trans (xf.out.1 4)
    have fz0 := (Grew.frozen HS1.out (a := ⟨n0 + 1, 0, none⟩) (by have := HN.out; simp only; omega)).trans (xf.out.2 0)
    have fz1 := (Grew.frozen HS1.out (a := ⟨n0 + 1, 1, none⟩) (by have := HN.out; simp only; omega)).trans (xf.out.2 1)
    have fz2 := (Grew.frozen HS1.out (a := ⟨n0 + 1, 2, none⟩) (by have := HN.out; simp only; omega)).trans (xf.out.2 2)
    have fz3 := (Grew.frozen HS1.out (a := ⟨n0 + 1, 3, none⟩) (by have := HN.out; simp only; omega)).trans (xf.out.2 3)
    have fz4 := (Grew.frozen HS1.out (a := ⟨n0 + 1, 4, none⟩) (by have := HN.out; simp only; omega)).trans (xf.out.2 4)
    clear HS1 HS0 xp1 xp2 xp3 xp4 xk0 xk1 xk2 xk3 xk4 xz0 xz1 xz2 xz3 xz4
    go_wp2_with fail
    have HBE : Hid (Below w.heap.size w ((((((wy.setCell ⟨n0 + 1, 0, none⟩ (.int .u32 src)).setCell ⟨n0 + 1, 1, none⟩ (.int .u32 dst)).setCell ⟨n0 + 1, 2, none⟩ (.int .u16 sport)).setCell ⟨n0 + 1, 3, none⟩ (.int .u16 dport)).setCell ⟨n0 + 1, 4, none⟩ (.int .u8 proto)))) := Lib.hid ((Below.setCell (Below.setCell (Below.setCell (Below.setCell (Below.setCell hbe.out (p := ⟨n0 + 1, 0, none⟩) (by rw [hn0]; simp only; omega) _) (p := ⟨n0 + 1, 1, none⟩) (by rw [hn0]; simp only; omega) _) (p := ⟨n0 + 1, 2, none⟩) (by rw [hn0]; simp only; omega) _) (p := ⟨n0 + 1, 3, none⟩) (by rw [hn0]; simp only; omega) _) (p := ⟨n0 + 1, 4, none⟩) (by rw [hn0]; simp only; omega) _))
    exact bodyPost_ret (v := .tuple #[kyV ⟨src, dst, sport, dport, proto⟩, .bool false]) (by simp [results, Tryz.results18, go_sem, kyV, kyC, *]) rfl ⟨by (rw [hV.out]) <;> rfl, HBE.out⟩
end Go.Proofs.YtahgapkecabnjaaGreatDoor
