/- Walks of cmp's functions, of package key and of its reference. Printed by gen_keya.py. -/
import Derived.Test.YtahgapkecabnjaaC00
import Derived.Test.YtahgapkecabnjaaC01
import Derived.Sort.Grow
import Derived.Lib.AppendIntMem
import Derived.RangeFuncNested
import Derived.RangeFuncBound
import Derived.RangeFuncCalls
import Derived.RangeFuncLeaves
import Derived.Shelf.Abstract
import Derived.Shelf.RegionOpen
import Derived.WalkKit
import Derived.OwnWalkIn
import Derived.TacticsInMore
import Derived.LoopNIn
import Derived.LoopIn
import Derived.Maps.AppendAt
import Derived.Shelf.SlGeneric
import Derived.Shelf.SlLaysF0
import Derived.Shelf.Lays8
import Derived.Shelf.Spec.SlicesGrow
import Derived.Ground.SlsfProg
import Derived.Ground.Names8Prog
import Derived.Shelf.Small.Bits
import Derived.Shelf.Strconv.Itoa0
import Derived.Shelf.Bits.Mul64
import Derived.Test.YtahgapkecabnjaaProg
import Derived.Shelf.SlSortCmp.NoneTotal
import Derived.Sort.OwnSorted
namespace Go.Proofs.Ytahgapkecabnjaa
set_option linter.unusedSimpArgs false
set_option linter.unusedVariables false
open Go Go.RowKit

/-! ### New blocks and draws alone -/
def Grew (w w' : World) : Prop := ∃ q os, w' = Sort.grow (w.drewN q) os
theorem Grew.refl (w : World) : Grew w w := ⟨0, #[], by simp [World.drewN]⟩
theorem Grew.alloc {w w1 : World} (h : Grew w w1) (o : Obj) : Grew w (w1.alloc o) := by
  obtain ⟨q, os, rfl⟩ := h
  exact ⟨q, os ++ #[o], by rw [Sort.alloc_eq_grow, Sort.grow_grow]⟩
theorem Grew.drew {w w1 : World} (h : Grew w w1) : Grew w w1.drew := by
  obtain ⟨q, os, rfl⟩ := h
  exact ⟨q + 1, os, rfl⟩
theorem Grew.below {w w1 : World} (h : Grew w w1) : Below w.heap.size w w1 := by
  obtain ⟨q, os, rfl⟩ := h
  exact Lib.below_grow _ w (Nat.le_refl _) q os
theorem Grew.cell {w w1 : World} (h : Grew w w1) {a : Addr} {v : Value} (hc : w.cell? a = some v) : w1.cell? a = some v := (Below.cell h.below (World.block_lt_of_cell? w a hc)).trans hc
theorem Grew.trans {w w1 w2 : World} (h : Grew w w1) (k : Grew w1 w2) : Grew w w2 := by
  obtain ⟨q, os, rfl⟩ := h
  obtain ⟨q2, os2, rfl⟩ := k
  refine ⟨q + q2, os ++ os2, ?_⟩
  rw [← Sort.grow_grow]
  unfold Sort.grow World.drewN
  simp [Nat.add_assoc]

/-! ### Package cmp -/
def cmpF (a b : Int) : Int := if a < b then -1 else if b < a then 1 else 0
def orF (l : List Int) : Int := (l.find? fun x => decide (x ≠ 0)).getD 0
set_option maxHeartbeats 1000000 in
theorem isNaN_u8 (a : Int) (w : World) :
    Calls Try.prog 85 #[.int .u8 a] w fun e w' => e = .returned (.bool false) ∧ w' = w := by
  go_enter Try.func85, Try.ntmps85
  go_wp2
  go_ret
  exact ⟨rfl, rfl⟩
set_option maxHeartbeats 2000000 in
theorem compare_u8 (a b : Int) (w : World) :
    Calls Try.prog 68 #[.int .u8 a, .int .u8 b] w fun e w' => e = .returned (.int .i64 (cmpF a b)) ∧ w' = w := by
  go_enter Try.func68, Try.ntmps68
  go_wp2_with (go_at_call 85; refine (isNaN_u8 _ _).mono ?_; rintro e w' ⟨rfl, rfl⟩)
  all_goals
    go_ret
    exact ⟨congrArg (fun b => Ending.returned (.int .i64 b)) (by unfold cmpF; (repeat' split) <;> omega), rfl⟩
set_option maxHeartbeats 1000000 in
theorem isNaN_u16 (a : Int) (w : World) :
    Calls Try.prog 87 #[.int .u16 a] w fun e w' => e = .returned (.bool false) ∧ w' = w := by
  go_enter Try.func87, Try.ntmps87
  go_wp2
  go_ret
  exact ⟨rfl, rfl⟩
set_option maxHeartbeats 2000000 in
theorem compare_u16 (a b : Int) (w : World) :
    Calls Try.prog 70 #[.int .u16 a, .int .u16 b] w fun e w' => e = .returned (.int .i64 (cmpF a b)) ∧ w' = w := by
  go_enter Try.func70, Try.ntmps70
  go_wp2_with (go_at_call 87; refine (isNaN_u16 _ _).mono ?_; rintro e w' ⟨rfl, rfl⟩)
  all_goals
    go_ret
    exact ⟨congrArg (fun b => Ending.returned (.int .i64 b)) (by unfold cmpF; (repeat' split) <;> omega), rfl⟩
set_option maxHeartbeats 1000000 in
theorem isNaN_u32 (a : Int) (w : World) :
    Calls Try.prog 86 #[.int .u32 a] w fun e w' => e = .returned (.bool false) ∧ w' = w := by
  go_enter Try.func86, Try.ntmps86
  go_wp2
  go_ret
  exact ⟨rfl, rfl⟩
set_option maxHeartbeats 2000000 in
theorem compare_u32 (a b : Int) (w : World) :
    Calls Try.prog 69 #[.int .u32 a, .int .u32 b] w fun e w' => e = .returned (.int .i64 (cmpF a b)) ∧ w' = w := by
  go_enter Try.func69, Try.ntmps69
  go_wp2_with (go_at_call 86; refine (isNaN_u32 _ _).mono ?_; rintro e w' ⟨rfl, rfl⟩)
  all_goals
    go_ret
    exact ⟨congrArg (fun b => Ending.returned (.int .i64 b)) (by unfold cmpF; (repeat' split) <;> omega), rfl⟩
set_option maxHeartbeats 2000000 in
theorem or_any (b c : Nat) (l : List Int) (w : World) (hc : ∀ j v, l[j]? = some v → w.cell? ⟨b, j, none⟩ = some (.int .i64 v)) (hl : l.length ≤ 1000) :
    Calls Try.prog 67 #[.slice (some ⟨b, 0, none⟩) l.length c] w fun e w' => e = .returned (.int .i64 (orF l)) ∧ w' = w := by
  have HC := Lib.hid hc
  clear hc
  go_enter Try.func67, Try.ntmps67
  go_wp2_with fail
  go_loopw [8] (fun n wr => ∃ j : Nat, n = .int .i64 j ∧ j ≤ l.length ∧ Hid (wr = w) ∧ Hid (∀ x ∈ l.take j, x = 0)) (fun n _ => l.length - (intOf n).toNat)
  case atStart => exact ⟨0, rfl, by omega, Lib.hid (by first | rfl | trivial), Lib.hid (by simp)⟩
  case round =>
    obtain ⟨j, rfl, hj, hww, hz⟩ := hrel
    obtain rfl := hww.out
    by_cases hlt : j < l.length
    · obtain ⟨x, hx⟩ : ∃ x, l[j]? = some x := ⟨l[j], List.getElem?_eq_getElem hlt⟩
      have c0 := HC.out j x hx
      by_cases h0 : x = 0
      · subst h0
        have HZ : Hid (∀ y ∈ l.take (j + 1), y = 0) := Lib.hid (by
          intro y hy
          rw [List.take_add_one, hx] at hy
          rcases List.mem_append.1 hy with h | h
          · exact hz.out y h
          · simpa using h)
        clear hx
        go_wp2_with fail
        go_roundw
        case rel => exact ⟨j + 1, by go_num, by omega, Lib.hid (by first | rfl | trivial), HZ⟩
        case measure => simp [intOf]; omega
      · have hv : Hid (orF l = x) := Lib.hid (by
          unfold orF
          have e : l = l.take j ++ x :: l.drop (j + 1) := by
            have h1 := List.take_append_drop j l
            rw [List.drop_eq_getElem_cons hlt] at h1
            rw [List.getElem?_eq_getElem hlt] at hx
            injection hx with hx
            rw [hx] at h1
            exact h1.symm
          have hn : (l.take j).find? (fun x => decide (x ≠ 0)) = none := by
            rw [List.find?_eq_none]
            intro y hy
            simp [hz.out y hy]
          rw [e, List.find?_append, hn]
          simp [h0])
        clear hx
        go_wp2_with fail
        go_ret
        exact ⟨by (rw [hv.out]) <;> rfl, rfl⟩
    · obtain rfl : j = l.length := by omega
      have hv : Hid (orF l = 0) := Lib.hid (by
        unfold orF
        have hn : l.find? (fun x => decide (x ≠ 0)) = none := by
          rw [List.find?_eq_none]
          intro y hy
          have := hz.out
          rw [List.take_length] at this
          simp [this y hy]
        rw [hn]; rfl)
      go_wp2_with fail
      go_ret
      exact ⟨by (rw [hv.out]) <;> rfl, rfl⟩

/-! ### Keys in memory -/
def kyC (k : Ky) : Array Value := #[.int .u32 k.a0, .int .u32 k.a1, .int .u16 k.p0, .int .u16 k.p1, .int .u8 k.pr]
abbrev kyV (k : Ky) : Value := .agg (kyC k)
theorem less_or (x y : Ky) : lessK x y = decide (orF [cmpF x.pr y.pr, cmpF x.a0 y.a0, cmpF x.p0 y.p0, cmpF x.a1 y.a1, cmpF x.p1 y.p1] < 0) := by
  have h : ∀ (a b : Nat) (l : List Int), orF (cmpF a b :: l) < 0 ↔ a < b ∨ a = b ∧ orF l < 0 := fun a b l => by
    unfold orF cmpF
    rw [List.find?_cons]
    by_cases h1 : a < b
    · have : (a : Int) < b := by omega
      simp [this, h1]
    · by_cases h2 : b < a
      · have e1 : ¬ (a : Int) < b := by omega
        have e2 : (b : Int) < a := by omega
        have e3 : ¬ a = b := by omega
        simp [e1, e2, h1, e3]
      · have e1 : ¬ (a : Int) < b := by omega
        have e2 : ¬ (b : Int) < a := by omega
        have e3 : a = b := by omega
        simp [e1, e2, h1, e3]
  rw [Bool.eq_iff_iff, lessK_iff, decide_eq_true_iff, h, h, h, h, h]
  unfold ltK
  simp [orF]
set_option maxHeartbeats 16000000 in
set_option maxRecDepth 100000 in
theorem less_any (x y : Ky) (w : World) :
    Calls Try.prog 56 #[kyV x, kyV y] w fun e w' => e = .returned (.bool (lessK x y)) ∧ Grew w w' := by
  have HL := Lib.hid (less_or x y)
  obtain ⟨a0, a1, p0, p1, pr⟩ := x
  obtain ⟨b0, b1, q0, q1, qr⟩ := y
  simp only at HL
  generalize lessK ⟨a0, a1, p0, p1, pr⟩ ⟨b0, b1, q0, q1, qr⟩ = res at *
  have C1 := Lib.hid (fun W => compare_u8 pr qr W)
  have C2 := Lib.hid (fun W => compare_u32 a0 b0 W)
  have C3 := Lib.hid (fun W => compare_u16 p0 q0 W)
  have C4 := Lib.hid (fun W => compare_u32 a1 b1 W)
  have C5 := Lib.hid (fun W => compare_u16 p1 q1 W)
  generalize cmpF pr qr = d1 at *
  generalize cmpF a0 b0 = d2 at *
  generalize cmpF p0 q0 = d3 at *
  generalize cmpF a1 b1 = d4 at *
  generalize cmpF p1 q1 = d5 at *
  unfold kyV kyC
  go_enter Try.func56, Try.ntmps56
  go_wp2_with fail
  have HG : Hid (Grew w ((w.alloc (.cells #[.int .u32 a0, .int .u32 a1, .int .u16 p0, .int .u16 p1, .int .u8 pr] 28)).alloc (.cells #[.int .u32 b0, .int .u32 b1, .int .u16 q0, .int .u16 q1, .int .u8 qr] 28))) := Lib.hid (((Grew.refl w).alloc _).alloc _)
  have xk0 : ((w.alloc (.cells #[.int .u32 a0, .int .u32 a1, .int .u16 p0, .int .u16 p1, .int .u8 pr] 28)).alloc (.cells #[.int .u32 b0, .int .u32 b1, .int .u16 q0, .int .u16 q1, .int .u8 qr] 28)).cell? ⟨w.heap.size, 0, none⟩ = some (.int .u32 a0) := by simp
  have xm0 : ((w.alloc (.cells #[.int .u32 a0, .int .u32 a1, .int .u16 p0, .int .u16 p1, .int .u8 pr] 28)).alloc (.cells #[.int .u32 b0, .int .u32 b1, .int .u16 q0, .int .u16 q1, .int .u8 qr] 28)).cell? ⟨w.heap.size + 1, 0, none⟩ = some (.int .u32 b0) := by simp
  have xk1 : ((w.alloc (.cells #[.int .u32 a0, .int .u32 a1, .int .u16 p0, .int .u16 p1, .int .u8 pr] 28)).alloc (.cells #[.int .u32 b0, .int .u32 b1, .int .u16 q0, .int .u16 q1, .int .u8 qr] 28)).cell? ⟨w.heap.size, 1, none⟩ = some (.int .u32 a1) := by simp
  have xm1 : ((w.alloc (.cells #[.int .u32 a0, .int .u32 a1, .int .u16 p0, .int .u16 p1, .int .u8 pr] 28)).alloc (.cells #[.int .u32 b0, .int .u32 b1, .int .u16 q0, .int .u16 q1, .int .u8 qr] 28)).cell? ⟨w.heap.size + 1, 1, none⟩ = some (.int .u32 b1) := by simp
  have xk2 : ((w.alloc (.cells #[.int .u32 a0, .int .u32 a1, .int .u16 p0, .int .u16 p1, .int .u8 pr] 28)).alloc (.cells #[.int .u32 b0, .int .u32 b1, .int .u16 q0, .int .u16 q1, .int .u8 qr] 28)).cell? ⟨w.heap.size, 2, none⟩ = some (.int .u16 p0) := by simp
  have xm2 : ((w.alloc (.cells #[.int .u32 a0, .int .u32 a1, .int .u16 p0, .int .u16 p1, .int .u8 pr] 28)).alloc (.cells #[.int .u32 b0, .int .u32 b1, .int .u16 q0, .int .u16 q1, .int .u8 qr] 28)).cell? ⟨w.heap.size + 1, 2, none⟩ = some (.int .u16 q0) := by simp
  have xk3 : ((w.alloc (.cells #[.int .u32 a0, .int .u32 a1, .int .u16 p0, .int .u16 p1, .int .u8 pr] 28)).alloc (.cells #[.int .u32 b0, .int .u32 b1, .int .u16 q0, .int .u16 q1, .int .u8 qr] 28)).cell? ⟨w.heap.size, 3, none⟩ = some (.int .u16 p1) := by simp
  have xm3 : ((w.alloc (.cells #[.int .u32 a0, .int .u32 a1, .int .u16 p0, .int .u16 p1, .int .u8 pr] 28)).alloc (.cells #[.int .u32 b0, .int .u32 b1, .int .u16 q0, .int .u16 q1, .int .u8 qr] 28)).cell? ⟨w.heap.size + 1, 3, none⟩ = some (.int .u16 q1) := by simp
  have xk4 : ((w.alloc (.cells #[.int .u32 a0, .int .u32 a1, .int .u16 p0, .int .u16 p1, .int .u8 pr] 28)).alloc (.cells #[.int .u32 b0, .int .u32 b1, .int .u16 q0, .int .u16 q1, .int .u8 qr] 28)).cell? ⟨w.heap.size, 4, none⟩ = some (.int .u8 pr) := by simp
  have xm4 : ((w.alloc (.cells #[.int .u32 a0, .int .u32 a1, .int .u16 p0, .int .u16 p1, .int .u8 pr] 28)).alloc (.cells #[.int .u32 b0, .int .u32 b1, .int .u16 q0, .int .u16 q1, .int .u8 qr] 28)).cell? ⟨w.heap.size + 1, 4, none⟩ = some (.int .u8 qr) := by simp
  generalize ((w.alloc (.cells #[.int .u32 a0, .int .u32 a1, .int .u16 p0, .int .u16 p1, .int .u8 pr] 28)).alloc (.cells #[.int .u32 b0, .int .u32 b1, .int .u16 q0, .int .u16 q1, .int .u8 qr] 28)) = wx at *
  generalize w.heap.size = n0 at *
  have HS0 : Hid (Grew wx wx.drew) := Lib.hid (Grew.refl _).drew
  refine WH.enter (Grew wx) (by kernel_rfl) 37 rfl ?_
  refine WH.take 0 (some 5) rfl rfl (by kernel_rfl) (by kernel_rfl) (by kernel_rfl) (fun _ _ _ h => h) (by rfl) (fun v hv => by have k0 := hv.cell xk0; have k1 := hv.cell xk1; have k2 := hv.cell xk2; have k3 := hv.cell xk3; have k4 := hv.cell xk4; have m0 := hv.cell xm0; have m1 := hv.cell xm1; have m2 := hv.cell xm2; have m3 := hv.cell xm3; have m4 := hv.cell xm4; go_simp; first | done | with_reducible rfl | (rw [if_neg (by omega)])) HS0.out ?_; simp only [Act.put, List.setIfInBounds_toArray, List.set_cons_zero, List.set_cons_succ]
  refine WH.take 1 (some 6) rfl rfl (by kernel_rfl) (by kernel_rfl) (by kernel_rfl) (fun _ _ _ h => h) (by rfl) (fun v hv => by have k0 := hv.cell xk0; have k1 := hv.cell xk1; have k2 := hv.cell xk2; have k3 := hv.cell xk3; have k4 := hv.cell xk4; have m0 := hv.cell xm0; have m1 := hv.cell xm1; have m2 := hv.cell xm2; have m3 := hv.cell xm3; have m4 := hv.cell xm4; go_simp; first | done | with_reducible rfl | (rw [if_neg (by omega)])) HS0.out ?_; simp only [Act.put, List.setIfInBounds_toArray, List.set_cons_zero, List.set_cons_succ]
  refine WH.take 2 (some 7) rfl rfl (by kernel_rfl) (by kernel_rfl) (by kernel_rfl) (fun _ _ _ h => h) (by rfl) (fun v hv => by have k0 := hv.cell xk0; have k1 := hv.cell xk1; have k2 := hv.cell xk2; have k3 := hv.cell xk3; have k4 := hv.cell xk4; have m0 := hv.cell xm0; have m1 := hv.cell xm1; have m2 := hv.cell xm2; have m3 := hv.cell xm3; have m4 := hv.cell xm4; go_simp; first | done | with_reducible rfl | (rw [if_neg (by omega)])) HS0.out ?_; simp only [Act.put, List.setIfInBounds_toArray, List.set_cons_zero, List.set_cons_succ]
  refine WH.take 3 (some 8) rfl rfl (by kernel_rfl) (by kernel_rfl) (by kernel_rfl) (fun _ _ _ h => h) (by rfl) (fun v hv => by have k0 := hv.cell xk0; have k1 := hv.cell xk1; have k2 := hv.cell xk2; have k3 := hv.cell xk3; have k4 := hv.cell xk4; have m0 := hv.cell xm0; have m1 := hv.cell xm1; have m2 := hv.cell xm2; have m3 := hv.cell xm3; have m4 := hv.cell xm4; go_simp; first | done | with_reducible rfl | (rw [if_neg (by omega)])) HS0.out ?_; simp only [Act.put, List.setIfInBounds_toArray, List.set_cons_zero, List.set_cons_succ]
  refine WH.take 5 (some 10) rfl rfl (by kernel_rfl) (by kernel_rfl) (by kernel_rfl) (fun _ _ _ h => h) (by rfl) (fun v hv => by have k0 := hv.cell xk0; have k1 := hv.cell xk1; have k2 := hv.cell xk2; have k3 := hv.cell xk3; have k4 := hv.cell xk4; have m0 := hv.cell xm0; have m1 := hv.cell xm1; have m2 := hv.cell xm2; have m3 := hv.cell xm3; have m4 := hv.cell xm4; go_simp; first | done | with_reducible rfl | (rw [if_neg (by omega)])) HS0.out ?_; simp only [Act.put, List.setIfInBounds_toArray, List.set_cons_zero, List.set_cons_succ]
  refine WH.take 6 (some 11) rfl rfl (by kernel_rfl) (by kernel_rfl) (by kernel_rfl) (fun _ _ _ h => h) (by rfl) (fun v hv => by have k0 := hv.cell xk0; have k1 := hv.cell xk1; have k2 := hv.cell xk2; have k3 := hv.cell xk3; have k4 := hv.cell xk4; have m0 := hv.cell xm0; have m1 := hv.cell xm1; have m2 := hv.cell xm2; have m3 := hv.cell xm3; have m4 := hv.cell xm4; go_simp; first | done | with_reducible rfl | (rw [if_neg (by omega)])) HS0.out ?_; simp only [Act.put, List.setIfInBounds_toArray, List.set_cons_zero, List.set_cons_succ]
  refine WH.take 7 (some 12) rfl rfl (by kernel_rfl) (by kernel_rfl) (by kernel_rfl) (fun _ _ _ h => h) (by rfl) (fun v hv => by have k0 := hv.cell xk0; have k1 := hv.cell xk1; have k2 := hv.cell xk2; have k3 := hv.cell xk3; have k4 := hv.cell xk4; have m0 := hv.cell xm0; have m1 := hv.cell xm1; have m2 := hv.cell xm2; have m3 := hv.cell xm3; have m4 := hv.cell xm4; go_simp; first | done | with_reducible rfl | (rw [if_neg (by omega)])) HS0.out ?_; simp only [Act.put, List.setIfInBounds_toArray, List.set_cons_zero, List.set_cons_succ]
  refine WH.take 8 (some 13) rfl rfl (by kernel_rfl) (by kernel_rfl) (by kernel_rfl) (fun _ _ _ h => h) (by rfl) (fun v hv => by have k0 := hv.cell xk0; have k1 := hv.cell xk1; have k2 := hv.cell xk2; have k3 := hv.cell xk3; have k4 := hv.cell xk4; have m0 := hv.cell xm0; have m1 := hv.cell xm1; have m2 := hv.cell xm2; have m3 := hv.cell xm3; have m4 := hv.cell xm4; go_simp; first | done | with_reducible rfl | (rw [if_neg (by omega)])) HS0.out ?_; simp only [Act.put, List.setIfInBounds_toArray, List.set_cons_zero, List.set_cons_succ]
  refine WH.take 9 (some 14) rfl rfl (by kernel_rfl) (by kernel_rfl) (by kernel_rfl) (fun _ _ _ h => h) (by rfl) (fun v hv => by have k0 := hv.cell xk0; have k1 := hv.cell xk1; have k2 := hv.cell xk2; have k3 := hv.cell xk3; have k4 := hv.cell xk4; have m0 := hv.cell xm0; have m1 := hv.cell xm1; have m2 := hv.cell xm2; have m3 := hv.cell xm3; have m4 := hv.cell xm4; go_simp; first | done | with_reducible rfl | (rw [if_neg (by omega)])) HS0.out ?_; simp only [Act.put, List.setIfInBounds_toArray, List.set_cons_zero, List.set_cons_succ]
  refine WH.take 10 (some 15) rfl rfl (by kernel_rfl) (by kernel_rfl) (by kernel_rfl) (fun _ _ _ h => h) (by rfl) (fun v hv => by have k0 := hv.cell xk0; have k1 := hv.cell xk1; have k2 := hv.cell xk2; have k3 := hv.cell xk3; have k4 := hv.cell xk4; have m0 := hv.cell xm0; have m1 := hv.cell xm1; have m2 := hv.cell xm2; have m3 := hv.cell xm3; have m4 := hv.cell xm4; go_simp; first | done | with_reducible rfl | (rw [if_neg (by omega)])) HS0.out ?_; simp only [Act.put, List.setIfInBounds_toArray, List.set_cons_zero, List.set_cons_succ]
  refine WH.take 12 (some 17) rfl rfl (by kernel_rfl) (by kernel_rfl) (by kernel_rfl) (fun _ _ _ h => h) (by rfl) (fun v hv => by have k0 := hv.cell xk0; have k1 := hv.cell xk1; have k2 := hv.cell xk2; have k3 := hv.cell xk3; have k4 := hv.cell xk4; have m0 := hv.cell xm0; have m1 := hv.cell xm1; have m2 := hv.cell xm2; have m3 := hv.cell xm3; have m4 := hv.cell xm4; go_simp; first | done | with_reducible rfl | (rw [if_neg (by omega)])) HS0.out ?_; simp only [Act.put, List.setIfInBounds_toArray, List.set_cons_zero, List.set_cons_succ]
  refine WH.take 13 (some 18) rfl rfl (by kernel_rfl) (by kernel_rfl) (by kernel_rfl) (fun _ _ _ h => h) (by rfl) (fun v hv => by have k0 := hv.cell xk0; have k1 := hv.cell xk1; have k2 := hv.cell xk2; have k3 := hv.cell xk3; have k4 := hv.cell xk4; have m0 := hv.cell xm0; have m1 := hv.cell xm1; have m2 := hv.cell xm2; have m3 := hv.cell xm3; have m4 := hv.cell xm4; go_simp; first | done | with_reducible rfl | (rw [if_neg (by omega)])) HS0.out ?_; simp only [Act.put, List.setIfInBounds_toArray, List.set_cons_zero, List.set_cons_succ]
  refine WH.take 14 (some 19) rfl rfl (by kernel_rfl) (by kernel_rfl) (by kernel_rfl) (fun _ _ _ h => h) (by rfl) (fun v hv => by have k0 := hv.cell xk0; have k1 := hv.cell xk1; have k2 := hv.cell xk2; have k3 := hv.cell xk3; have k4 := hv.cell xk4; have m0 := hv.cell xm0; have m1 := hv.cell xm1; have m2 := hv.cell xm2; have m3 := hv.cell xm3; have m4 := hv.cell xm4; go_simp; first | done | with_reducible rfl | (rw [if_neg (by omega)])) HS0.out ?_; simp only [Act.put, List.setIfInBounds_toArray, List.set_cons_zero, List.set_cons_succ]
  refine WH.take 15 (some 20) rfl rfl (by kernel_rfl) (by kernel_rfl) (by kernel_rfl) (fun _ _ _ h => h) (by rfl) (fun v hv => by have k0 := hv.cell xk0; have k1 := hv.cell xk1; have k2 := hv.cell xk2; have k3 := hv.cell xk3; have k4 := hv.cell xk4; have m0 := hv.cell xm0; have m1 := hv.cell xm1; have m2 := hv.cell xm2; have m3 := hv.cell xm3; have m4 := hv.cell xm4; go_simp; first | done | with_reducible rfl | (rw [if_neg (by omega)])) HS0.out ?_; simp only [Act.put, List.setIfInBounds_toArray, List.set_cons_zero, List.set_cons_succ]
  refine WH.take 16 (some 21) rfl rfl (by kernel_rfl) (by kernel_rfl) (by kernel_rfl) (fun _ _ _ h => h) (by rfl) (fun v hv => by have k0 := hv.cell xk0; have k1 := hv.cell xk1; have k2 := hv.cell xk2; have k3 := hv.cell xk3; have k4 := hv.cell xk4; have m0 := hv.cell xm0; have m1 := hv.cell xm1; have m2 := hv.cell xm2; have m3 := hv.cell xm3; have m4 := hv.cell xm4; go_simp; first | done | with_reducible rfl | (rw [if_neg (by omega)])) HS0.out ?_; simp only [Act.put, List.setIfInBounds_toArray, List.set_cons_zero, List.set_cons_succ]
  refine WH.take 17 (some 22) rfl rfl (by kernel_rfl) (by kernel_rfl) (by kernel_rfl) (fun _ _ _ h => h) (by rfl) (fun v hv => by have k0 := hv.cell xk0; have k1 := hv.cell xk1; have k2 := hv.cell xk2; have k3 := hv.cell xk3; have k4 := hv.cell xk4; have m0 := hv.cell xm0; have m1 := hv.cell xm1; have m2 := hv.cell xm2; have m3 := hv.cell xm3; have m4 := hv.cell xm4; go_simp; first | done | with_reducible rfl | (rw [if_neg (by omega)])) HS0.out ?_; simp only [Act.put, List.setIfInBounds_toArray, List.set_cons_zero, List.set_cons_succ]
  refine WH.take 19 (some 24) rfl rfl (by kernel_rfl) (by kernel_rfl) (by kernel_rfl) (fun _ _ _ h => h) (by rfl) (fun v hv => by have k0 := hv.cell xk0; have k1 := hv.cell xk1; have k2 := hv.cell xk2; have k3 := hv.cell xk3; have k4 := hv.cell xk4; have m0 := hv.cell xm0; have m1 := hv.cell xm1; have m2 := hv.cell xm2; have m3 := hv.cell xm3; have m4 := hv.cell xm4; go_simp; first | done | with_reducible rfl | (rw [if_neg (by omega)])) HS0.out ?_; simp only [Act.put, List.setIfInBounds_toArray, List.set_cons_zero, List.set_cons_succ]
  refine WH.take 20 (some 25) rfl rfl (by kernel_rfl) (by kernel_rfl) (by kernel_rfl) (fun _ _ _ h => h) (by rfl) (fun v hv => by have k0 := hv.cell xk0; have k1 := hv.cell xk1; have k2 := hv.cell xk2; have k3 := hv.cell xk3; have k4 := hv.cell xk4; have m0 := hv.cell xm0; have m1 := hv.cell xm1; have m2 := hv.cell xm2; have m3 := hv.cell xm3; have m4 := hv.cell xm4; go_simp; first | done | with_reducible rfl | (rw [if_neg (by omega)])) HS0.out ?_; simp only [Act.put, List.setIfInBounds_toArray, List.set_cons_zero, List.set_cons_succ]
  refine WH.take 21 (some 26) rfl rfl (by kernel_rfl) (by kernel_rfl) (by kernel_rfl) (fun _ _ _ h => h) (by rfl) (fun v hv => by have k0 := hv.cell xk0; have k1 := hv.cell xk1; have k2 := hv.cell xk2; have k3 := hv.cell xk3; have k4 := hv.cell xk4; have m0 := hv.cell xm0; have m1 := hv.cell xm1; have m2 := hv.cell xm2; have m3 := hv.cell xm3; have m4 := hv.cell xm4; go_simp; first | done | with_reducible rfl | (rw [if_neg (by omega)])) HS0.out ?_; simp only [Act.put, List.setIfInBounds_toArray, List.set_cons_zero, List.set_cons_succ]
  refine WH.take 22 (some 27) rfl rfl (by kernel_rfl) (by kernel_rfl) (by kernel_rfl) (fun _ _ _ h => h) (by rfl) (fun v hv => by have k0 := hv.cell xk0; have k1 := hv.cell xk1; have k2 := hv.cell xk2; have k3 := hv.cell xk3; have k4 := hv.cell xk4; have m0 := hv.cell xm0; have m1 := hv.cell xm1; have m2 := hv.cell xm2; have m3 := hv.cell xm3; have m4 := hv.cell xm4; go_simp; first | done | with_reducible rfl | (rw [if_neg (by omega)])) HS0.out ?_; simp only [Act.put, List.setIfInBounds_toArray, List.set_cons_zero, List.set_cons_succ]
  refine WH.take 23 (some 28) rfl rfl (by kernel_rfl) (by kernel_rfl) (by kernel_rfl) (fun _ _ _ h => h) (by rfl) (fun v hv => by have k0 := hv.cell xk0; have k1 := hv.cell xk1; have k2 := hv.cell xk2; have k3 := hv.cell xk3; have k4 := hv.cell xk4; have m0 := hv.cell xm0; have m1 := hv.cell xm1; have m2 := hv.cell xm2; have m3 := hv.cell xm3; have m4 := hv.cell xm4; go_simp; first | done | with_reducible rfl | (rw [if_neg (by omega)])) HS0.out ?_; simp only [Act.put, List.setIfInBounds_toArray, List.set_cons_zero, List.set_cons_succ]
  refine WH.take 24 (some 29) rfl rfl (by kernel_rfl) (by kernel_rfl) (by kernel_rfl) (fun _ _ _ h => h) (by rfl) (fun v hv => by have k0 := hv.cell xk0; have k1 := hv.cell xk1; have k2 := hv.cell xk2; have k3 := hv.cell xk3; have k4 := hv.cell xk4; have m0 := hv.cell xm0; have m1 := hv.cell xm1; have m2 := hv.cell xm2; have m3 := hv.cell xm3; have m4 := hv.cell xm4; go_simp; first | done | with_reducible rfl | (rw [if_neg (by omega)])) HS0.out ?_; simp only [Act.put, List.setIfInBounds_toArray, List.set_cons_zero, List.set_cons_succ]
  refine WH.take 26 (some 31) rfl rfl (by kernel_rfl) (by kernel_rfl) (by kernel_rfl) (fun _ _ _ h => h) (by rfl) (fun v hv => by have k0 := hv.cell xk0; have k1 := hv.cell xk1; have k2 := hv.cell xk2; have k3 := hv.cell xk3; have k4 := hv.cell xk4; have m0 := hv.cell xm0; have m1 := hv.cell xm1; have m2 := hv.cell xm2; have m3 := hv.cell xm3; have m4 := hv.cell xm4; go_simp; first | done | with_reducible rfl | (rw [if_neg (by omega)])) HS0.out ?_; simp only [Act.put, List.setIfInBounds_toArray, List.set_cons_zero, List.set_cons_succ]
  refine WH.take 27 (some 32) rfl rfl (by kernel_rfl) (by kernel_rfl) (by kernel_rfl) (fun _ _ _ h => h) (by rfl) (fun v hv => by have k0 := hv.cell xk0; have k1 := hv.cell xk1; have k2 := hv.cell xk2; have k3 := hv.cell xk3; have k4 := hv.cell xk4; have m0 := hv.cell xm0; have m1 := hv.cell xm1; have m2 := hv.cell xm2; have m3 := hv.cell xm3; have m4 := hv.cell xm4; go_simp; first | done | with_reducible rfl | (rw [if_neg (by omega)])) HS0.out ?_; simp only [Act.put, List.setIfInBounds_toArray, List.set_cons_zero, List.set_cons_succ]
  refine WH.take 28 (some 33) rfl rfl (by kernel_rfl) (by kernel_rfl) (by kernel_rfl) (fun _ _ _ h => h) (by rfl) (fun v hv => by have k0 := hv.cell xk0; have k1 := hv.cell xk1; have k2 := hv.cell xk2; have k3 := hv.cell xk3; have k4 := hv.cell xk4; have m0 := hv.cell xm0; have m1 := hv.cell xm1; have m2 := hv.cell xm2; have m3 := hv.cell xm3; have m4 := hv.cell xm4; go_simp; first | done | with_reducible rfl | (rw [if_neg (by omega)])) HS0.out ?_; simp only [Act.put, List.setIfInBounds_toArray, List.set_cons_zero, List.set_cons_succ]
  refine WH.take 29 (some 34) rfl rfl (by kernel_rfl) (by kernel_rfl) (by kernel_rfl) (fun _ _ _ h => h) (by rfl) (fun v hv => by have k0 := hv.cell xk0; have k1 := hv.cell xk1; have k2 := hv.cell xk2; have k3 := hv.cell xk3; have k4 := hv.cell xk4; have m0 := hv.cell xm0; have m1 := hv.cell xm1; have m2 := hv.cell xm2; have m3 := hv.cell xm3; have m4 := hv.cell xm4; go_simp; first | done | with_reducible rfl | (rw [if_neg (by omega)])) HS0.out ?_; simp only [Act.put, List.setIfInBounds_toArray, List.set_cons_zero, List.set_cons_succ]
  refine WH.take 30 (some 35) rfl rfl (by kernel_rfl) (by kernel_rfl) (by kernel_rfl) (fun _ _ _ h => h) (by rfl) (fun v hv => by have k0 := hv.cell xk0; have k1 := hv.cell xk1; have k2 := hv.cell xk2; have k3 := hv.cell xk3; have k4 := hv.cell xk4; have m0 := hv.cell xm0; have m1 := hv.cell xm1; have m2 := hv.cell xm2; have m3 := hv.cell xm3; have m4 := hv.cell xm4; go_simp; first | done | with_reducible rfl | (rw [if_neg (by omega)])) HS0.out ?_; simp only [Act.put, List.setIfInBounds_toArray, List.set_cons_zero, List.set_cons_succ]
  refine WH.take 31 (some 36) rfl rfl (by kernel_rfl) (by kernel_rfl) (by kernel_rfl) (fun _ _ _ h => h) (by rfl) (fun v hv => by have k0 := hv.cell xk0; have k1 := hv.cell xk1; have k2 := hv.cell xk2; have k3 := hv.cell xk3; have k4 := hv.cell xk4; have m0 := hv.cell xm0; have m1 := hv.cell xm1; have m2 := hv.cell xm2; have m3 := hv.cell xm3; have m4 := hv.cell xm4; go_simp; first | done | with_reducible rfl | (rw [if_neg (by omega)])) HS0.out ?_; simp only [Act.put, List.setIfInBounds_toArray, List.set_cons_zero, List.set_cons_succ]
  refine WH.one 4 (by kernel_rfl) rfl (by rfl) ?_
  go_wp2_with fail
  refine (C1.out _).mono ?_
  rintro e w' ⟨rfl, rfl⟩
  go_wp2_with fail
  refine ⟨HS0.out, ?_⟩
  refine WH.one 11 (by kernel_rfl) rfl (by rfl) ?_
  go_wp2_with fail
  refine (C2.out _).mono ?_
  rintro e w' ⟨rfl, rfl⟩
  go_wp2_with fail
  refine ⟨HS0.out, ?_⟩
  refine WH.one 18 (by kernel_rfl) rfl (by rfl) ?_
  go_wp2_with fail
  refine (C3.out _).mono ?_
  rintro e w' ⟨rfl, rfl⟩
  go_wp2_with fail
  refine ⟨HS0.out, ?_⟩
  refine WH.one 25 (by kernel_rfl) rfl (by rfl) ?_
  go_wp2_with fail
  refine (C4.out _).mono ?_
  rintro e w' ⟨rfl, rfl⟩
  go_wp2_with fail
  refine ⟨HS0.out, ?_⟩
  refine WH.one 32 (by kernel_rfl) rfl (by rfl) ?_
  go_wp2_with fail
  refine (C5.out _).mono ?_
  rintro e w' ⟨rfl, rfl⟩
  go_wp2_with fail
  refine ⟨HS0.out, ?_⟩
  refine WH.one 33 (by kernel_rfl) rfl (by rfl) ?_
  go_wp2_with fail
  have HS1 : Hid (Grew wx (wx.alloc (.cells #[.int .i64 d1, .int .i64 d2, .int .i64 d3, .int .i64 d4, .int .i64 d5] 3)).drew) := Lib.hid (HS0.out.alloc _)
  refine ⟨HS1.out, ?_⟩
  refine WH.one 34 (by kernel_rfl) rfl (by rfl) ?_
  go_wp2_with fail
  refine (or_any wx.heap.size 5 [d1, d2, d3, d4, d5] _ (fun j v hj => by
    match j, hj with
    | 0, hj => simp at hj; subst hj; simp
    | 1, hj => simp at hj; subst hj; simp
    | 2, hj => simp at hj; subst hj; simp
    | 3, hj => simp at hj; subst hj; simp
    | 4, hj => simp at hj; subst hj; simp
    | j + 5, hj => simp at hj) (by simp)).mono ?_
  rintro e w' ⟨rfl, rfl⟩
  generalize orF [d1, d2, d3, d4, d5] = oo at *
  go_wp2_with fail
  refine ⟨HS1.out, ?_⟩
  refine WH.take 35 (some 40) rfl rfl (by kernel_rfl) (by kernel_rfl) (by kernel_rfl) (fun _ _ _ h => h) (by rfl) (fun v hv => by have k0 := hv.cell xk0; have k1 := hv.cell xk1; have k2 := hv.cell xk2; have k3 := hv.cell xk3; have k4 := hv.cell xk4; have m0 := hv.cell xm0; have m1 := hv.cell xm1; have m2 := hv.cell xm2; have m3 := hv.cell xm3; have m4 := hv.cell xm4; go_simp; first | done | with_reducible rfl | (rw [if_neg (by omega)])) HS1.out ?_; simp only [Act.put, List.setIfInBounds_toArray, List.set_cons_zero, List.set_cons_succ]
  refine WH.take 36 (some 4) rfl rfl (by kernel_rfl) (by kernel_rfl) (by kernel_rfl) (fun _ _ _ h => h) (by rfl) (fun v hv => by have k0 := hv.cell xk0; have k1 := hv.cell xk1; have k2 := hv.cell xk2; have k3 := hv.cell xk3; have k4 := hv.cell xk4; have m0 := hv.cell xm0; have m1 := hv.cell xm1; have m2 := hv.cell xm2; have m3 := hv.cell xm3; have m4 := hv.cell xm4; go_simp; first | done | with_reducible rfl | (rw [if_neg (by omega)])) HS1.out ?_; simp only [Act.put, List.setIfInBounds_toArray, List.set_cons_zero, List.set_cons_succ]
  refine WH.done (by kernel_rfl) ?_
  go_wp2_with fail
  go_ret
  exact ⟨by (rw [HL.out]) <;> rfl, HG.out.trans HS1.out⟩
end Go.Proofs.Ytahgapkecabnjaa
/- maps.Keys over a map of flows: the iterator's contract. After Derived/Shelf/SlIter/Stops.lean, at keys that are structs. -/
namespace Go.Proofs.Ytahgapkecabnjaa
set_option linter.unusedSimpArgs false
set_option linter.unusedVariables false
open Go Go.RowKit Go.Maps Go.Shelf
attribute [local go_sem] Oper.semAt_some

/-- Block b is a map that holds flows. -/
structure FlowsAt {β : Type} (w : World) (b : Nat) (ev : β → Value) (fl : Kl β) (f : Value → Option Value) : Prop where
  is : IsMap w Try.prog 28 b f
  get : ∀ k, f (kyV k) = (getL fl k).map ev
  only : ∀ v x, f v = some x → ∃ k, v = kyV k
theorem kyV_inj {x y : Ky} (h : kyV x = kyV y) : x = y := by
  simp [kyC] at h
  rw [Ky.same]
  omega
theorem FlowsAt.of_block {β : Type} {w w' : World} {b : Nat} {ev : β → Value} {fl : Kl β} {f : Value → Option Value} (h : FlowsAt w b ev fl f) (e : w'.heap[b]? = w.heap[b]?) : FlowsAt w' b ev fl f := ⟨h.is.of_block e, h.get, h.only⟩
theorem nodup_le : ∀ (s l : List Ky), s.Nodup → (∀ x ∈ s, x ∈ l) → s.length ≤ l.length
  | [], l, _, _ => Nat.zero_le _
  | x :: s, l, hn, h => by
    have hx := h x (by simp)
    have h1 := nodup_le s (l.erase x) (List.nodup_cons.1 hn).2 (fun y hy => (List.mem_erase_of_ne (fun (e : y = x) => (List.nodup_cons.1 hn).1 (by rw [← e]; exact hy))).2 (h y (by simp [hy])))
    rw [List.length_erase_of_mem hx] at h1
    have := List.length_pos_of_mem hx
    simp only [List.length_cons]
    omega
/-- What has come of a range over flows. -/
theorem came_le {β : Type} {fl : Kl β} {ev : β → Value} {f : Value → Option Value} (hg : ∀ k, f (kyV k) = (getL fl k).map ev) {ss : List Ky} (hn : ss.Nodup) (hs : ∀ k ∈ ss, ∃ x, f (kyV k) = some x) : ss.length ≤ fl.length := by
  have h1 : ∀ k ∈ ss, k ∈ keysL fl := fun k hk => by
    obtain ⟨x, hx⟩ := hs k hk
    rw [hg] at hx
    cases h : getL fl k with
    | none => rw [h] at hx; cases hx
    | some y => exact List.mem_map.2 ⟨(k, y), getL_mem h, rfl⟩
  have := nodup_le ss (keysL fl) hn h1
  simpa [keysL] using this
theorem came_iff {β : Type} {fl : Kl β} {ev : β → Value} {f : Value → Option Value} (hg : ∀ k, f (kyV k) = (getL fl k).map ev) {k : Ky} : (∃ x, f (kyV k) = some x) ↔ k ∈ keysL fl := by
  constructor
  · rintro ⟨x, hx⟩
    rw [hg] at hx
    cases h : getL fl k with
    | none => rw [h] at hx; cases hx
    | some y => exact List.mem_map.2 ⟨(k, y), getL_mem h, rfl⟩
  · intro hk
    cases h : getL fl k with
    | none => exact absurd hk (getL_none.1 h)
    | some y => exact ⟨ev y, by rw [hg, h]; rfl⟩
end Go.Proofs.Ytahgapkecabnjaa
/- slices.AppendSeq and slices.Collect at keys of flows, against whatever iterator. After the kit's worked text GgPosAtTheDump. -/
namespace Go.Proofs.Ytahgapkecabnjaa
set_option linter.unusedSimpArgs false
set_option linter.unusedVariables false
open Go Go.RowKit Go.Maps Go.Shelf
attribute [local go_sem] Oper.semAt_some

theorem KeepsOthers.walks {W W' : World} (h : KeepsOthers W W') : KeepsWalks W W' := ⟨h.size, fun k o hk hw => h.same k o hk (Obj.not_cells_of_walk hw)⟩
def kyL (k : Ky) : List Value := (kyC k).toList
def kysL (l : List Ky) : List Value := l.flatMap kyL
theorem kysL_snoc (l : List Ky) (k : Ky) : kysL (l ++ [k]) = kysL l ++ kyL k := by simp [kysL]
theorem kyL_one (k : Ky) : ∀ u ∈ kyL k, u.oneCell' = true := by
  intro u hu
  simp only [kyL, kyC, List.mem_cons, List.not_mem_nil, or_false] at hu
  rcases hu with rfl | rfl | rfl | rfl | rfl <;> rfl
theorem keyInfo : (Try.prog.info? 28).map (fun i => (i.zero, i.size, i.bytes)) = some (some (.agg #[.int .u32 0, .int .u32 0, .int .u16 0, .int .u16 0, .int .u8 0]), 5, 16) := by kernel_rfl
/-- A key in a box. -/
def KBox (W : World) (b : Nat) (k : Ky) : Prop := W.heap[b]? = some (.cells (kyC k) 28 (0, 0))
theorem KBox.cell {W : World} {b : Nat} {k : Ky} (h : KBox W b k) {j : Nat} {v : Value} (hj : (kyC k)[j]? = some v) : W.cell? ⟨b, j, none⟩ = some v := by
  unfold KBox at h
  simp [World.cell?, h, hj]
theorem KBox.kept {W W' : World} {row : Option Nat} {b : Nat} {k : Ky} (h : KBox W b k) (hg : W.grownBy W' row) (hne : some b ≠ row) : KBox W' b k := (hg.block b (Array.getElem?_eq_some_iff.1 h).1 hne).trans h
theorem cells_newL (w : World) (l : List Value) (t : TypeId) : ∀ j u, l[j]? = some u → (w.alloc (.cells l.toArray t)).cell? ((⟨w.heap.size, 0, none⟩ : Addr).add j) = some u := by
  intro j u hj
  have e : (⟨w.heap.size, 0, none⟩ : Addr).add j = ⟨w.heap.size, j, none⟩ := by unfold Addr.add; split <;> simp_all
  rw [e]
  simp [hj]
set_option maxRecDepth 100000 in
set_option maxHeartbeats 4000000 in
theorem appendSeq_in (F : Fence) (n : Nat) (h105 : F.fn 35) (hro : F.round = none) (hn : 2 ≤ n) (g : Nat) (lb : Array Value) (hFg : F.fn g) (eg : ∀ args w, (callFunc g args).run Try.prog w = .ok (.enter g args) w)
    (S Sp : List Ky → Prop) (N : Nat) (B k : Nat) (sv : Value) (xs : List Value) (w : World) (hB : B ≤ w.heap.size) (hsv : w.ownsRow B 28 5 sv k xs) (hN : k + N ≤ 1000000)
    (hseq : SeqStopsK F (n - 1) Try.prog g lb (fun x : Ky => #[kyV x]) KeepsWalks S Sp N w) :
    CallsIn F n Try.prog 35 #[sv, .func (.func g) #[] lb] w fun e w' => ∃ (v : Value) (ss : List Ky), e = .returned v ∧ S ss ∧ w'.ownsRow B 28 5 v (k + ss.length) (xs ++ kysL ss) ∧ Below B w w' := by
  have h1 : 1 ≤ n := by omega
  obtain ⟨sa, sc, rfl⟩ : ∃ a c, sv = .slice a k c := by
    rcases hsv.2 with ⟨e, e2⟩ | ⟨g, cap, cur, e, _⟩
    · exact ⟨none, 0, by rw [e, e2]⟩
    · exact ⟨_, _, e⟩
  have HSV := Lib.hid hsv
  have HSQ := Lib.hid hseq
  clear hsv hseq
  obtain ⟨i0, hi, hz0, hz1, hz2⟩ := info_parts keyInfo
  refine callsIn_of_wp_marks Try.func35 rfl h105 ?_ hro
  simp only [Try.ntmps35, List.size_toArray, List.length_cons, List.length_nil, Nat.reduceAdd, Nat.reduceSub, Array.replicate_succ, Array.replicate_zero, List.push_toArray, List.append_toArray, List.nil_append, List.cons_append]
  gi_wp2
  have bO := Boxed.new w 38 (.slice sa k sc)
  have hB0 : Below B w (w.alloc (.cells #[.slice sa k sc] 38)) := (Below.refl _ w).alloc hB _
  have hr0 : (w.alloc (.cells #[.slice sa k sc] 38)).ownsRow B 28 5 (.slice sa k sc) k xs := HSV.out.alloc _
  have hseq' : SeqStopsK F (n - 1) Try.prog g lb (fun x : Ky => #[kyV x]) KeepsWalks S Sp N w := HSQ.out
  refine wpIn_rangeFunc_ownH hro h1 (gf := g) (lb := lb) rfl hFg eg hseq' walksK_t walksK_b ((Below.refl _ w).alloc (Nat.le_refl _) _) (fun _ => rfl)
    (fun pre W => (∃ v, Boxed W w.heap.size 38 v ∧ W.ownsRow B 28 5 v (k + pre.length) (xs ++ kysL pre) ∧ True) ∧ Below B w W)
    (fun _ _ _ => False)
    (OwnFrom.and (Own.from (holdsRow_own B w.heap.size 38 28 5 (fun pre => k + pre.length) (fun pre => xs ++ kysL pre) (fun _ _ => True)) _) (ownFrom_below hB (by simp; omega)))
    (fun _ _ _ _ _ hs _ _ => hs)
    ⟨⟨_, bO, by simpa [kysL] using hr0, trivial⟩, hB0⟩
    (fun x a' W => ∃ Bx, w.heap.size < Bx ∧ KBox W Bx x ∧ a' = { tmps := #[.slice sa k sc, .func (.func g) #[] lb, .pointer (some ⟨w.heap.size, 0, none⟩), undef, .slice none 0 0, .pointer (some ⟨Bx, 0, none⟩), .func (.func g) #[] lb, kyV x, undef, undef, undef, undef, undef], defers := [] })
    (fun x a' _ W W' row hs hg hr => by
      obtain ⟨Bx, h1, h2, h3⟩ := hs
      refine ⟨Bx, h1, h2.kept hg (fun e => ?_), h3⟩
      obtain ⟨o, ho, hc⟩ := (hr Bx e.symm).2
      unfold KBox at h2
      rw [h2] at ho; cases ho; cases hc)
    ?assign ?body ?done ?stop
  case assign =>
    rintro l pre x W K ⟨⟨v, hv, hrow, -⟩, hBW⟩ hK
    gi_wp2
    rw [kyC]
    gi_wp2
    exact hK _ _ ((KeepsOthers.alloc W (.cells (kyC x) 28)).from _) (KeepsOthers.alloc W (.cells (kyC x) 28)).walks
      ⟨⟨v, hv.alloc _, hrow.alloc _, trivial⟩, hBW.alloc (Nat.le_trans hB hBW.size) _⟩ ⟨W.heap.size, hv.lt, World.alloc_heap_new W _, rfl⟩
  case body =>
    rintro l pre x a' W hl hrec ⟨⟨v, hv, hrow, -⟩, hBW⟩ ⟨Bx, hBx, hx, rfl⟩ hlt
    have hc := hv.cell
    have hx0 := hx.cell (j := 0) rfl
    have hx1 := hx.cell (j := 1) rfl
    have hx2 := hx.cell (j := 2) rfl
    have hx3 := hx.cell (j := 3) rfl
    have hx4 := hx.cell (j := 4) rfl
    have hB2 : B ≤ W.heap.size := Nat.le_trans hB hBW.size
    gi_wp2_with (gi_at_builtin; refine wpListIn_append_own _ rfl _ _ 38 rfl B 28 i0 (.agg #[.int .u32 0, .int .u32 0, .int .u16 0, .int .u16 0, .int .u8 0]) 5 16 Try.underlying38 hi hz0 hz1 hz2 rfl (by decide) _ _ _ rfl (hrow.alloc _) ⟨W.heap.size, 0, none⟩ 1 1 (kyL x) rfl rfl (cells_newL _ (kyL x) _) (kyL_one _) (by simp only [maxLen]; omega) (by omega) (by simp; omega) ?_; intro v' w1 hown' hgrow _; obtain ⟨g', cap', rfl⟩ := ownsRow_succ hown'; obtain ⟨hv1, hv2, hr2, hk2, hb2⟩ := hv.appended (by decide) hrow hB2 hB hown' hgrow; have hc1 := hv1.cell; have hf1 := hv1.frozen)
    exact ⟨hk2.from _, hk2.walks, ⟨⟨_, hv2, by rw [kysL_snoc]; simpa [Nat.add_assoc] using hr2, trivial⟩, hBW.trans hb2⟩⟩
  case done =>
    rintro D ys W hD hS ⟨⟨v, hv, hrow, -⟩, hBW⟩ hK
    have hc := hv.cell
    gi_wp2
    refine ⟨by simp, .inl ⟨_, _, rfl, run_takeDeferred hK, ?_⟩⟩
    exact ⟨_, results_tmp rfl _ _ _, v, ys, rfl, hS, ownsRow_putObj hrow _ hK rfl, hBW.trans (belowK_b (w := w) hB W D _ _ (by simp at hD; omega) hK rfl rfl)⟩
  case stop =>
    rintro D c pre W _ _ h _
    exact h.elim
end Go.Proofs.Ytahgapkecabnjaa
/- Contracts of Go's library that this seat's proofs use, laid at this translation by the kit's own tools (lay-shelf, lay-plain), and nothing else. -/
namespace Go.Proofs
open Go.Shelf
def Try.sortK_ren : Go.Shelf.Ren := ⟨fun | 6 => 54 | 15 => 66 | 14 => 65 | 28 => 83 | 29 => 84 | 20 => 75 | 21 => 76 | 22 => 77 | 23 => 78 | 24 => 79 | 25 => 80 | 26 => 81 | 27 => 82 | 46 => 89 | 47 => 90 | 48 => 91 | 49 => 92 | 50 => 93 | 57 => 94 | n => n, fun | 22 => 38 | 24 => 28 | 25 => 107 | 3 => 3 | 39 => 101 | 0 => 0 | 53 => 23 | 55 => 93 | 4 => 4 | 46 => 126 | 45 => 125 | 50 => 94 | 5 => 5 | 9 => 9 | 66 => 136 | 70 => 140 | 76 => 142 | 77 => 143 | n => n, fun | n => n⟩
theorem Try.sortK : Go.Proofs.SlLaysF0.n6 Try.prog Try.sortK_ren := {
  mixed := by kernel_rfl
  f6 := ⟨Try.f54.name, by decide, Try.func54.trans (congrArg some (by kernel_rfl))⟩
  f14 := ⟨Try.f65.name, by decide, Try.func65.trans (congrArg some (by kernel_rfl))⟩
  f15 := Try.func66.trans (congrArg some (by kernel_rfl))
  f20 := ⟨Try.f75.name, by decide, Try.func75.trans (congrArg some (by kernel_rfl))⟩
  f21 := ⟨Try.f76.name, by decide, Try.func76.trans (congrArg some (by kernel_rfl))⟩
  f22 := ⟨Try.f77.name, by decide, Try.func77.trans (congrArg some (by kernel_rfl))⟩
  f23 := ⟨Try.f78.name, by decide, Try.func78.trans (congrArg some (by kernel_rfl))⟩
  f24 := ⟨Try.f79.name, by decide, Try.func79.trans (congrArg some (by kernel_rfl))⟩
  f25 := ⟨Try.f80.name, by decide, Try.func80.trans (congrArg some (by kernel_rfl))⟩
  f26 := ⟨Try.f81.name, by decide, Try.func81.trans (congrArg some (by kernel_rfl))⟩
  f27 := ⟨Try.f82.name, by decide, Try.func82.trans (congrArg some (by kernel_rfl))⟩
  f28 := Try.func83.trans (congrArg some (by kernel_rfl))
  f29 := Try.func84.trans (congrArg some (by kernel_rfl))
  f46 := ⟨Try.f89.name, by decide, Try.func89.trans (congrArg some (by kernel_rfl))⟩
  f47 := Try.func90.trans (congrArg some (by kernel_rfl))
  f48 := Try.func91.trans (congrArg some (by kernel_rfl))
  f49 := ⟨Try.f92.name, by decide, Try.func92.trans (congrArg some (by kernel_rfl))⟩
  f50 := ⟨Try.f93.name, by decide, Try.func93.trans (congrArg some (by kernel_rfl))⟩
  f57 := ⟨Try.f94.name, by decide, Try.func94.trans (congrArg some (by kernel_rfl))⟩
  t0 := Try.underlying0
  a0 := Try.isAgg0
  z0 := Try.sizeOf0
  v0 := Try.zeroValue0
  t3 := Try.underlying3
  a3 := Try.isAgg3
  z3 := Try.sizeOf3
  v3 := Try.zeroValue3
  t4 := Try.underlying4
  a4 := Try.isAgg4
  z4 := Try.sizeOf4
  v4 := Try.zeroValue4
  t5 := Try.underlying5
  a5 := Try.isAgg5
  z5 := Try.sizeOf5
  v5 := Try.zeroValue5
  t9 := Try.underlying9
  a9 := Try.isAgg9
  z9 := Try.sizeOf9
  v9 := Try.zeroValue9
  t22 := Try.underlying38
  a22 := Try.isAgg38
  z22 := Try.sizeOf38
  v22 := Try.zeroValue38
  t25 := Try.underlying107
  a25 := Try.isAgg107
  z25 := Try.sizeOf107
  v25 := Try.zeroValue107
  t39 := Try.underlying101
  a39 := Try.isAgg101
  z39 := Try.sizeOf101
  v39 := Try.zeroValue101
  t45 := Try.underlying125
  a45 := Try.isAgg125
  z45 := Try.sizeOf125
  v45 := Try.zeroValue125
  t46 := Try.underlying126
  a46 := Try.isAgg126
  z46 := Try.sizeOf126
  v46 := Try.zeroValue126
  t50 := Try.underlying94
  a50 := Try.isAgg94
  z50 := Try.sizeOf94
  v50 := Try.zeroValue94
  t53 := Try.underlying23
  a53 := Try.isAgg23
  z53 := Try.sizeOf23
  v53 := Try.zeroValue23
  t55 := Try.underlying93
  a55 := Try.isAgg93
  z55 := Try.sizeOf93
  v55 := Try.zeroValue93
  t66 := Try.underlying136
  a66 := Try.isAgg136
  z66 := Try.sizeOf136
  v66 := Try.zeroValue136
  t70 := Try.underlying140
  a70 := Try.isAgg140
  z70 := Try.sizeOf140
  v70 := Try.zeroValue140
  t76 := Try.underlying142
  a76 := Try.isAgg142
  z76 := Try.sizeOf142
  v76 := Try.zeroValue142
  t77 := Try.underlying143
  a77 := Try.isAgg143
  z77 := Try.sizeOf143
  v77 := Try.zeroValue143 }
def Try.growB_ren : Go.Shelf.Ren := ⟨fun | 4 => 88 | n => n, fun | 22 => 121 | 25 => 5 | 3 => 3 | 4 => 4 | 9 => 9 | 20 => 20 | 0 => 0 | n => n, fun | n => n⟩
theorem Try.growB : Go.Proofs.Lays8.n4 Try.prog Try.growB_ren := {
  mixed := by kernel_rfl
  f4 := ⟨Try.f88.name, by decide, Try.func88.trans (congrArg some (by kernel_rfl))⟩
  t0 := Try.underlying0
  a0 := Try.isAgg0
  z0 := Try.sizeOf0
  v0 := Try.zeroValue0
  t3 := Try.underlying3
  a3 := Try.isAgg3
  z3 := Try.sizeOf3
  v3 := Try.zeroValue3
  t4 := Try.underlying4
  a4 := Try.isAgg4
  z4 := Try.sizeOf4
  v4 := Try.zeroValue4
  t9 := Try.underlying9
  a9 := Try.isAgg9
  z9 := Try.sizeOf9
  v9 := Try.zeroValue9
  t20 := Try.underlying20
  a20 := Try.isAgg20
  z20 := Try.sizeOf20
  v20 := Try.zeroValue20
  t22 := Try.underlying121
  a22 := Try.isAgg121
  z22 := Try.sizeOf121
  v22 := Try.zeroValue121 }
end Go.Proofs
/- Auto.Keys: its comparison; the library's sort at keys; SortedFunc, Clip. Printed by gen_iterc.py. -/
namespace Go.Proofs.Ytahgapkecabnjaa
set_option linter.unusedSimpArgs false
set_option linter.unusedVariables false
open Go Go.RowKit Go.Maps Go.Shelf Go.Sort
attribute [local go_sem] Oper.semAt_some

def cfK (x y : Ky) : Int := if lessK x y = true then -1 else if lessK y x = true then 1 else 0
theorem ltOf_cfK (x y : Ky) : ltOf cfK x y = lessK x y := by
  unfold ltOf cfK
  cases lessK x y <;> cases lessK y x <;> simp
theorem swoK : SWO (ltOf cfK) where
  irrefl x := by rw [ltOf_cfK, lessK_not]; exact ltK_irrefl x
  trans x y z h1 h2 := by rw [ltOf_cfK, lessK_iff] at *; exact ltK_trans h1 h2
  ntrans x y z h1 h2 := by rw [ltOf_cfK, lessK_not] at *; exact ltK_ntrans h1 h2
theorem cfK_one (x y : Ky) (h : ltOf cfK x y = false) (k : ltOf cfK y x = false) : x = y := by
  rw [ltOf_cfK, lessK_not] at *
  by_cases e : x = y
  · exact e
  · exact ((ltK_total e).elim h k).elim
/-! ### Rows of keys -/
theorem kysL_len (l : List Ky) : (kysL l).length = l.length * 5 := by
  induction l with
  | nil => rfl
  | cons x l ih => simp only [kysL, List.flatMap_cons, List.length_append, List.length_cons] at *; rw [ih]; simp [kyL, kyC]; omega
theorem kysL_at : ∀ (l : List Ky) (t : Nat), t < l.length * 5 → (kysL l)[t]? = some ((kyL (l.toArray[t / 5]!))[t % 5]!)
  | [], t, h => by simp at h
  | x :: l, t, h => by
    have e : kysL (x :: l) = kyL x ++ kysL l := by simp [kysL]
    rw [e]
    by_cases ht : t < 5
    · rw [List.getElem?_append_left (by simpa [kyL, kyC] using ht), show t / 5 = 0 by omega, show t % 5 = t by omega]
      match t, ht with
      | 0, _ => rfl
      | 1, _ => rfl
      | 2, _ => rfl
      | 3, _ => rfl
      | 4, _ => rfl
    · rw [List.getElem?_append_right (by simp [kyL, kyC]; omega)]
      have hl : (kyL x).length = 5 := rfl
      rw [hl, kysL_at l (t - 5) (by simp at h; omega), show (t - 5) / 5 = t / 5 - 1 by omega, show (t - 5) % 5 = t % 5 by omega]
      obtain ⟨u, hu⟩ : ∃ u, t / 5 = u + 1 := ⟨t / 5 - 1, by omega⟩
      rw [hu]
      simp
theorem flat_keys (l : List Ky) : (flatK kyL 5 l.toArray).toList = kysL l := by
  apply List.ext_getElem?
  intro t
  by_cases h : t < l.length * 5
  · rw [kysL_at l t h]
    have := get_flatK kyL 5 l.toArray t (by simpa using h)
    rw [← this, Array.getElem?_toList, Array.getElem?_eq_getElem (by simpa using h), getElem!_pos _ t (by simpa using h)]
  · rw [List.getElem?_eq_none (by simpa using h), List.getElem?_eq_none (by rw [kysL_len]; omega)]
theorem holds_row {w : World} {g : Nat} {cur : Array Value} {e : TypeId} {F : Array Value} (hb : w.heap[g]? = some (.cells cur e (0, 0))) (ht : cur.toList.take F.size = F.toList) : Holds id w g 0 F := by
  intro j hj
  refine ⟨?_, by simp [World.frozen?, hb]⟩
  have h1 : (cur.toList.take F.size)[j]? = F.toList[j]? := by rw [ht]
  rw [List.getElem?_take_of_lt hj] at h1
  simp only [World.cell?, hb, Nat.zero_add]
  simp only [Option.isSome_none, Bool.false_eq_true, if_false]
  rw [← Array.getElem?_toList, h1]
  simp [hj]
theorem heap_row {w : World} {g n : Nat} {os : Array Obj} {cur : Array Value} {e : TypeId} {fr : Nat × Nat} (F : Array Value) (hb : w.heap[g]? = some (.cells cur e fr)) :
    (grow (putRow id (Sort.ahead w n) g 0 F) os).heap[g]? = some (.cells (putCells id 0 F cur) e fr) := by
  have hg : g < w.heap.size := (Array.getElem?_eq_some_iff.1 hb).1
  rw [heap_grow_old _ _ (by simpa using hg)]
  simp [putRow, mapBlock, Sort.ahead, Array.getElem?_modify, hb, onCells]
theorem grownBy_row {w : World} {g n : Nat} {os : Array Obj} (F : Array Value) : w.grownBy (grow (putRow id (Sort.ahead w n) g 0 F) os) (some g) := by
  refine ⟨rfl, rfl, rfl, by simp, fun k hk hne => ?_⟩
  rw [heap_grow_old _ _ (by simpa using hk)]
  have : g ≠ k := fun e => hne (by rw [e])
  simp [putRow, mapBlock, Sort.ahead, Array.getElem?_modify, this]
theorem take_row (cur F : Array Value) (h : F.size ≤ cur.size) : (putCells id 0 F cur).toList.take F.size = F.toList := by
  apply List.ext_getElem?
  intro j
  by_cases hj : j < F.size
  · rw [List.getElem?_take_of_lt hj, Array.getElem?_toList]
    simp [putCells, hj, show j < cur.size by omega]
  · rw [List.getElem?_take_eq_none (by omega), List.getElem?_eq_none (by simp; omega)]
/-- Behind the sort the same slice owns the list in its order. -/
theorem ownsRow_keys {w : World} {base g cap n : Nat} {e : TypeId} {os : Array Obj} {cur : Array Value} {ss ts : List Ky} (hl : ts.length = ss.length) (hbase : base ≤ g) (hb : w.heap[g]? = some (.cells cur e (0, 0)))
    (h1 : ss.length ≤ cap) (h2 : cap ≤ maxLen) (h3 : cur.size = cap * 5) :
    (sortWorldK kyL 5 w g 0 n ts.toArray os).ownsRow base e 5 (.slice (some ⟨g, 0, none⟩) ss.length cap) ss.length (kysL ts) := by
  have hF : (flatK kyL 5 ts.toArray).size = ss.length * 5 := by simp [hl]
  refine ⟨by rw [kysL_len, hl], .inr ⟨g, cap, _, rfl, hbase, heap_row (flatK kyL 5 ts.toArray) hb, h1, h2, by simp [putCells, h3], ?_⟩⟩
  rw [← hF, ← flat_keys]
  exact take_row cur _ (by rw [hF, h3]; exact Nat.mul_le_mul_right 5 h1)
theorem key_agg : ∀ w, (isAgg 28).run Try.prog w = .ok true w := Try.isAgg28
theorem key_size : ∀ w, (Go.sizeOf 28).run Try.prog w = .ok 5 w := Try.sizeOf28
/-- The list in its order. -/
def sortL (ss : List Ky) : List Ky := ss.mergeSort fun x y => !(ltOf cfK) y x
/-! ### Collect, SortedFunc, Clip, Auto.Keys -/
set_option maxHeartbeats 1000000 in
theorem collect_in (n : Nat) (hn : 3 ≤ n) (g : Nat) (lb : Array Value) (eg : ∀ args w, (callFunc g args).run Try.prog w = .ok (.enter g args) w)
    (S Sp : List Ky → Prop) (N : Nat) (w : World) (hN : N ≤ 1000000) (hseq : SeqStopsK Fence.wide (n - 1 - 1) Try.prog g lb (fun x : Ky => #[kyV x]) KeepsWalks S Sp N w) :
    CallsIn Fence.wide n Try.prog 39 #[.func (.func g) #[] lb] w fun e w' => ∃ (v : Value) (ss : List Ky), e = .returned v ∧ S ss ∧ w'.ownsRow w.heap.size 28 5 v ss.length (kysL ss) ∧ Below w.heap.size w w' := by
  have h1 : 1 ≤ n := by omega
  have f1 : Fence.wide.fn 35 := trivial
  refine callsIn_of_wp Try.func39 rfl trivial ?_ rfl
  simp only [Try.ntmps39, List.size_toArray, List.length_cons, List.length_nil, Nat.reduceAdd, Nat.reduceSub, Array.replicate_succ, Array.replicate_zero, List.push_toArray, List.append_toArray, List.nil_append, List.cons_append]
  gi_wp2_with (gi_at_call 35; refine (appendSeq_in Fence.wide (n - 1) trivial rfl (by omega) g lb trivial eg S Sp N w.heap.size 0 (.slice none 0 0) [] w (Nat.le_refl _) (World.ownsRow_nil _ _ _ _) (by omega) hseq).mono ?_; rintro e W ⟨v, ss, rfl, hS, hrow, hb⟩)
  go_ret
  exact ⟨v, ss, rfl, hS, by simpa using hrow, hb⟩
/-- A slice in whose places the keys of a list can be read. -/
def KeysAt (w : World) (B : Nat) (v : Value) (l : List Ky) : Prop :=
  ∃ a c, v = .slice a l.length c ∧ ∀ j x, (kysL l)[j]? = some x → ∃ g, a = some ⟨g, 0, none⟩ ∧ B ≤ g ∧ w.cell? ⟨g, j, none⟩ = some x
theorem KeysAt.nil (w : World) (B : Nat) (a : Option Addr) (c : Nat) : KeysAt w B (.slice a 0 c) [] := ⟨a, c, rfl, fun j x h => by simp [kysL] at h⟩
theorem KeysAt.kept {w w' : World} {B : Nat} {v : Value} {l : List Ky} (h : KeysAt w B v l) (hk : ∀ g, B ≤ g → g < w.heap.size → w'.heap[g]? = w.heap[g]?) : KeysAt w' B v l := by
  obtain ⟨a, c, rfl, h⟩ := h
  refine ⟨a, c, rfl, fun j x hj => ?_⟩
  obtain ⟨g, rfl, hB, hc⟩ := h j x hj
  exact ⟨g, rfl, hB, (World.cell?_of_block (hk g hB (World.block_lt_of_cell? w _ hc))).trans hc⟩
set_option maxHeartbeats 1000000 in
theorem clip_any (B : Nat) (v : Value) (l : List Ky) (w : World) (hrow : w.ownsRow B 28 5 v l.length (kysL l)) :
    Calls Try.prog 57 #[v] w fun e w' => ∃ v', e = .returned v' ∧ KeysAt w B v' l ∧ w' = w := by
  rcases hrow.2 with ⟨rfl, hz⟩ | ⟨gb, cap, cur, rfl, hbase, hgb, r1, r2, r3, r4⟩
  · have hss : l = [] := List.eq_nil_of_length_eq_zero hz
    subst hss
    go_enter Try.func57, Try.ntmps57
    go_wp2
    go_ret
    exact ⟨_, rfl, KeysAt.nil _ _ _ _, rfl⟩
  · have hcell : ∀ j x, (kysL l)[j]? = some x → w.cell? ⟨gb, j, none⟩ = some x := fun j x hj => by
      have hlt : j < l.length * 5 := by rw [← kysL_len]; exact (List.getElem?_eq_some_iff.1 hj).1
      rw [← r4, List.getElem?_take_of_lt hlt] at hj
      simp only [World.cell?, hgb]
      simpa using hj
    generalize hl : l.length = m at *
    clear hrow r3 r4 hgb
    have HC := Lib.hid hcell
    clear hcell
    go_enter Try.func57, Try.ntmps57
    go_wp2
    go_ret
    exact ⟨.slice (some ⟨gb, 0, none⟩) m m, rfl, ⟨_, _, by rw [hl], fun j x hj => ⟨gb, rfl, hbase, HC.out j x hj⟩⟩, rfl⟩
theorem sortL_one {ss l : List Ky} (hn : ss.Nodup) (hm : ∀ k, k ∈ ss ↔ k ∈ l) (hr : Rises l) : sortL ss = l := by
  have hp : (sortL ss).Perm ss := List.mergeSort_perm ss _
  refine rises_one (rises_of_sorted ?_ (hp.nodup_iff.2 hn)) hr (fun x => (hp.mem_iff).trans (hm x))
  refine List.Pairwise.imp (R := fun x y => (!(ltOf cfK) y x) = true) (fun {x y} h => ?_) (List.pairwise_mergeSort (le := fun x y => !(ltOf cfK) y x) ?_ ?_ ss)
  · rw [ltOf_cfK] at h
    simpa [lessK_not] using h
  · intro x y z h1 h2
    rw [ltOf_cfK] at *
    simp only [Bool.not_eq_true', lessK_not] at *
    exact ltK_ntrans h2 h1
  · intro x y
    simp only [ltOf_cfK]
    by_cases e : lessK y x = true
    · have : lessK x y = false := lessK_not.2 (ltK_asymm (lessK_iff.1 e))
      simp [this]
    · simp [e]
end Go.Proofs.Ytahgapkecabnjaa
