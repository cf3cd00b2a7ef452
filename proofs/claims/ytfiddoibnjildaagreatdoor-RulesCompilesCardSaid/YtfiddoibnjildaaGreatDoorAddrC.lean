/- Walks of the reference's May, top, Has of layer 3, and of addr's rest, may, Has. -/
import Derived.Test.YtfiddoibnjildaaGreatDoorAddrB
import Derived.WalkLawsBesides
import Derived.Laws.ShiftsVar
import Derived.Laws.ShiftsVarLaws
import Derived.Laws.BitsLemmas
import Derived.Laws.Bits
import Derived.Laws.BitsAllLaws
import Derived.Deep.RegionHeld3
import Derived.Test.YtfiddoibnjildaaGreatDoorReg
namespace Go.Proofs.YtfiddoibnjildaaGreatDoor
set_option linter.unusedSimpArgs false
set_option linter.unusedVariables false
open Go Go.RowKit

theorem band_mask (a k : Nat) (ha : a < 4294967296) (hk : k ≤ 32) : bits .and .u32 (a : Int) ((2 ^ k - 1 : Nat) : Int) = ((a % 2 ^ k : Nat) : Int) := by
  have hp : 0 < 2 ^ k := Nat.two_pow_pos k
  have hm : 2 ^ k ≤ 2 ^ 32 := Nat.pow_le_pow_right (by omega) hk
  rw [u32_and_nat a _ ha (by omega), Nat.and_two_pow_sub_one_eq_mod]
theorem band_one (a : Nat) (ha : a < 4294967296) : bits .and .u32 (a : Int) 1 = ((a % 2 : Nat) : Int) := band_mask a 1 ha (by omega)
theorem nat_clear (a k : Nat) (ha : a < 2 ^ 32) (hk : k ≤ 32) : a &&& (4294967295 - (2 ^ k - 1)) = a / 2 ^ k * 2 ^ k := by
  have hp : 0 < 2 ^ k := Nat.two_pow_pos k
  have he : 2 ^ (32 - k) * 2 ^ k = 2 ^ 32 := by rw [← Nat.pow_add, show 32 - k + k = 32 by omega]
  have e1 : 4294967295 - (2 ^ k - 1) = (2 ^ (32 - k) - 1) <<< k := by
    rw [Nat.shiftLeft_eq, Nat.sub_mul, he]
    omega
  have e2 : a / 2 ^ k * 2 ^ k = (a >>> k) <<< k := by rw [Nat.shiftLeft_eq, Nat.shiftRight_eq_div_pow]
  rw [e1, e2]
  apply Nat.eq_of_testBit_eq
  intro j
  simp only [Nat.testBit_and, Nat.testBit_shiftLeft, Nat.testBit_shiftRight, Nat.testBit_two_pow_sub_one]
  by_cases hj : k ≤ j
  · by_cases hj2 : j < 32
    · rw [show k + (j - k) = j by omega]
      simp [hj]
      intro _; omega
    · have : a.testBit j = false := Nat.testBit_lt_two_pow (Nat.lt_of_lt_of_le ha (Nat.pow_le_pow_right (by omega) (by omega)))
      rw [show k + (j - k) = j by omega]
      simp [this]
  · simp [hj]
theorem bclear (a k : Nat) (ha : a < 4294967296) (hk : k ≤ 32) : bits .andNot .u32 (a : Int) ((2 ^ k - 1 : Nat) : Int) = ((a / 2 ^ k * 2 ^ k : Nat) : Int) := by
  have hm : 2 ^ k ≤ 2 ^ 32 := Nat.pow_le_pow_right (by omega) hk
  have hp : 0 < 2 ^ k := Nat.two_pow_pos k
  rw [u32_andNot_nat a _ ha (by omega), nat_clear a k ha hk]
theorem bit_step {a k : Nat} (h : a % 2 ^ k = 0) : (a / 2 ^ k % 2 = 0 ∧ a % 2 ^ (k + 1) = 0) ∨ (a / 2 ^ k % 2 = 1 ∧ ∀ j, k < j → a % 2 ^ j ≠ 0) := by
  have hs : a % 2 ^ (k + 1) = a % 2 ^ k + 2 ^ k * (a / 2 ^ k % 2) := by rw [Nat.pow_succ]; exact Nat.mod_mul
  rcases Nat.mod_two_eq_zero_or_one (a / 2 ^ k) with h1 | h1
  · left; refine ⟨h1, ?_⟩; rw [hs, h, h1]; simp
  · right
    refine ⟨h1, fun j hj e => ?_⟩
    have hp : 0 < 2 ^ k := Nat.two_pow_pos k
    have hd : 2 ^ (k + 1) ∣ a := Nat.dvd_trans (Nat.pow_dvd_pow 2 (by omega)) (Nat.dvd_of_mod_eq_zero e)
    have := Nat.mod_eq_zero_of_dvd hd
    rw [hs, h, h1] at this
    omega

set_option maxHeartbeats 1000000 in
set_option maxRecDepth 100000 in
theorem refMay_any (a : Nat) (n : Int) (w : World) (ha : a < 4294967296) :
    Calls Tryz.prog 33 #[.agg #[.int .u32 a, .int .i64 n]] w fun e w' => e = .returned (.bool (mayNet a n)) ∧ Below w.heap.size w w' := by
  by_cases h0 : n < 0
  · go_enter Tryz.func33, Tryz.ntmps33
    go_wp2_with fail
    go_ret
    refine retB ?_ ((Below.refl _ _).alloc (Nat.le_refl _) _)
    unfold mayNet; rw [decide_eq_false (by omega)]; rfl
  · by_cases h1 : 32 < n
    · go_enter Tryz.func33, Tryz.ntmps33
      go_wp2_with fail
      go_ret
      refine retB ?_ ((Below.refl _ _).alloc (Nat.le_refl _) _)
      unfold mayNet; rw [decide_eq_false (by omega)]; rfl
    · have hn : 0 ≤ n := by omega
      have hn2 : n ≤ 32 := by omega
      go_enter Tryz.func33, Tryz.ntmps33
      go_wp2_with fail
      go_loop [3] (fun i => ∃ k : Nat, k ≤ 32 ∧ i = .int .i64 k ∧ Hid ((k : Int) ≤ 32 - n ∧ a % 2 ^ k = 0)) (fun i => 32 - (intOf i).toNat)
      case atStart => exact ⟨0, by omega, rfl, Lib.hid ⟨by omega, by omega⟩⟩
      case round =>
        obtain ⟨k, hk, rfl, hh⟩ := hrel
        by_cases hlt : (k : Int) < 32 - n
        · have hd1 : a / 2 ^ k < 4294967296 := Nat.lt_of_le_of_lt (Nat.div_le_self _ _) ha
          have hb1 : bits .and .u32 ((a : Int) / 2 ^ k) 1 = ((a / 2 ^ k % 2 : Nat) : Int) := by
            rw [← band_one _ hd1]; simp
          rcases bit_step hh.out.2 with ⟨h2, h3⟩ | ⟨h2, h3⟩
          · have hq : (bits .and .u32 ((a : Int) / 2 ^ k) 1 == 1) = false := by rw [hb1, h2]; rfl
            have H3 := Lib.hid h3
            clear hb1 h2 h3
            go_wp2_with fail
            go_round
            case rel => exact ⟨k + 1, by omega, by go_num, Lib.hid ⟨by omega, H3.out⟩⟩
            case measure => simp [intOf]; omega
          · have hq : (bits .and .u32 ((a : Int) / 2 ^ k) 1 == 1) = true := by rw [hb1, h2]; rfl
            have H3 := Lib.hid h3
            clear hb1 h2 h3
            go_wp2_with fail
            go_ret
            refine retB ?_ ((Below.refl _ _).alloc (Nat.le_refl _) _)
            unfold mayNet; rw [decide_eq_false (fun h => H3.out (32 - n).toNat (by omega) h.2.2)]; rfl
        · go_wp2_with fail
          go_ret
          refine retB ?_ ((Below.refl _ _).alloc (Nat.le_refl _) _)
          have := hh.out
          unfold mayNet; rw [decide_eq_true ⟨hn, hn2, by rw [show (32 - n).toNat = k by omega]; exact this.2⟩]; rfl

def topF (a : Nat) (n : Int) : Nat := if n = 0 then 0 else a / 2 ^ (32 - n).toNat

theorem beq_nat {x y : Nat} : ((x : Int) == (y : Int)) = (x == y) := by rw [Bool.eq_iff_iff, beq_iff_eq, beq_iff_eq]; omega
theorem refMay_val (a : Nat) (n : Int) (b : Bool) (w : World) (ha : a < 4294967296) (hb : mayNet a n = b) :
    Calls Tryz.prog 33 #[.agg #[.int .u32 a, .int .i64 n]] w fun e w' => e = .returned (.bool b) ∧ Below w.heap.size w w' := by rw [← hb]; exact refMay_any a n w ha
theorem may_range {a : Nat} {n : Int} (h : mayNet a n = true) : 0 ≤ n ∧ n ≤ 32 := by unfold mayNet at h; rw [decide_eq_true_iff] at h; exact ⟨h.1, h.2.1⟩
theorem top_has {a b : Nat} {n : Int} (ha : a < 4294967296) (hb : b < 4294967296) (h : mayNet a n = true) : (topF a n = topF b n) ↔ hasNet a n b = true := by
  unfold hasNet
  rw [h, Bool.true_and, decide_eq_true_iff]
  unfold topF
  by_cases hn : n = 0
  · subst hn
    rw [if_pos rfl, if_pos rfl]
    have e1 : a / 2 ^ (32 - (0 : Int)).toNat = 0 := Nat.div_eq_of_lt (by simpa using ha)
    have e2 : b / 2 ^ (32 - (0 : Int)).toNat = 0 := Nat.div_eq_of_lt (by simpa using hb)
    rw [e1, e2]
  · rw [if_neg hn, if_neg hn]
    exact ⟨fun h => h.symm, fun h => h.symm⟩

/-- A net in memory. -/
def NetAt (w : World) (b : Nat) (a n : Int) : Prop := w.cell? ⟨b, 0, none⟩ = some (.int .u32 a) ∧ w.cell? ⟨b, 1, none⟩ = some (.int .i64 n)
theorem NetAt.below {w w1 : World} {b : Nat} {a n : Int} (h : NetAt w b a n) (hb : Below w.heap.size w w1) : NetAt w1 b a n :=
  ⟨(hb.cell (p := ⟨b, 0, none⟩) (World.block_lt_of_cell? w ⟨b, 0, none⟩ h.1)).trans h.1, (hb.cell (p := ⟨b, 1, none⟩) (World.block_lt_of_cell? w ⟨b, 1, none⟩ h.2)).trans h.2⟩
theorem NetAt.drew {w : World} {b : Nat} {a n : Int} (h : NetAt w b a n) : NetAt w.drew b a n := h
theorem NetAt.new (w : World) (a n : Int) (T : TypeId) : NetAt (w.alloc (.cells #[.int .u32 a, .int .i64 n] T)) w.heap.size a n := ⟨by simp, by simp⟩
theorem below_then {w w1 w2 : World} (h : Below w.heap.size w w1) (h2 : Below w1.heap.size w1 w2) : Below w.heap.size w w2 := h.trans (h2.mono h.size)

theorem rest_num (k : Nat) (hk2 : k ≤ 32) : (((2 : Int) ^ k % 4294967296 - 1) % 4294967296) = ((2 ^ k - 1 : Nat) : Int) := by
  have hp : 0 < 2 ^ k := Nat.two_pow_pos k
  have e : ((2 : Int) ^ k) = ((2 ^ k : Nat) : Int) := by simp
  rw [e]
  by_cases h : k = 32
  · subst h; rfl
  · have : 2 ^ k ≤ 2 ^ 31 := Nat.pow_le_pow_right (by omega) (by omega)
    generalize 2 ^ k = q at *
    omega
set_option maxHeartbeats 1000000 in
set_option maxRecDepth 100000 in
theorem rest_any (n : Int) (w : World) (h0 : 0 ≤ n) (h1 : n ≤ 32) :
    Calls Tryz.prog 64 #[.int .i64 n] w fun e w' => e = .returned (.int .u32 (2 ^ (32 - n).toNat - 1 : Nat)) ∧ w' = w := by
  go_enter Tryz.func64, Tryz.ntmps64
  go_wp2_with fail
  go_ret
  exact ⟨by rw [rest_num _ (by omega)]; rfl, rfl⟩
theorem rest_val (n : Int) (w : World) (h0 : 0 ≤ n) (h1 : n ≤ 32) :
    Calls Tryz.prog 64 #[.int .i64 n] w fun e w' => e = .returned (.int .u32 (2 ^ (32 - n).toNat - 1 : Nat)) ∧ Below w.heap.size w w' :=
  (rest_any n w h0 h1).mono fun e w' ⟨he, hw⟩ => ⟨he, by rw [hw]; exact Below.refl _ _⟩

set_option maxHeartbeats 1000000 in
set_option maxRecDepth 100000 in
theorem may_any (a : Nat) (n : Int) (w : World) (ha : a < 4294967296) :
    Calls Tryz.prog 51 #[.agg #[.int .u32 a, .int .i64 n]] w fun e w' => e = .returned (.bool (mayNet a n)) ∧ Below w.heap.size w w' := by
  have B0 : Below w.heap.size w (w.alloc (.cells #[.int .u32 a, .int .i64 n] 39)) := (Below.refl _ _).alloc (Nat.le_refl _) _
  have N0 := NetAt.new w a n 39
  by_cases h0 : n < 0
  · have hv : Hid (mayNet a n = false) := Lib.hid (by unfold mayNet; rw [decide_eq_false (by omega)])
    have d0 : decide (0 ≤ n) = false := by simpa using h0
    go_enter Tryz.func51, Tryz.ntmps51
    go_wp2_with fail
    generalize w.alloc (.cells #[.int .u32 a, .int .i64 n] 39) = w0 at *
    have HB0 := Lib.hid B0
    clear B0
    obtain ⟨c0, c1⟩ := N0
    refine WQ.enter w0 (Since.refl _) (by kernel_rfl) (by kernel_rfl) ?_
    refine WQ.val (by rfl) (fun v hv => by have k0 := hv.cell c0; have k1 := hv.cell c1; go_simp; first | done | with_reducible rfl) ?_; simp only [Act.put, List.setIfInBounds_toArray, List.set_cons_zero, List.set_cons_succ]
    refine WQ.val (by rfl) (fun v hv => by have k0 := hv.cell c0; have k1 := hv.cell c1; go_simp; first | done | with_reducible rfl) ?_; simp only [Act.put, List.setIfInBounds_toArray, List.set_cons_zero, List.set_cons_succ]
    refine WQ.val (by rfl) (fun v hv => by have k0 := hv.cell c0; have k1 := hv.cell c1; go_simp; first | done | with_reducible rfl) ?_; simp only [Act.put, List.setIfInBounds_toArray, List.set_cons_zero, List.set_cons_succ]
    refine WQ.val (by rfl) (fun v hv => by have k0 := hv.cell c0; have k1 := hv.cell c1; go_simp; first | done | with_reducible rfl) ?_; simp only [Act.put, List.setIfInBounds_toArray, List.set_cons_zero, List.set_cons_succ]
    refine WQ.off (by rfl) ?_; simp only [Act.put, List.setIfInBounds_toArray, List.set_cons_zero, List.set_cons_succ]
    refine WQ.off (by rfl) ?_; simp only [Act.put, List.setIfInBounds_toArray, List.set_cons_zero, List.set_cons_succ]
    refine WQ.off (by rfl) ?_; simp only [Act.put, List.setIfInBounds_toArray, List.set_cons_zero, List.set_cons_succ]
    refine WQ.val (by rfl) (fun v hv => by have k0 := hv.cell c0; have k1 := hv.cell c1; go_simp; first | done | with_reducible rfl) ?_; simp only [Act.put, List.setIfInBounds_toArray, List.set_cons_zero, List.set_cons_succ]
    refine WQ.val (by rfl) (fun v hv => by have k0 := hv.cell c0; have k1 := hv.cell c1; go_simp; first | done | with_reducible rfl) ?_; simp only [Act.put, List.setIfInBounds_toArray, List.set_cons_zero, List.set_cons_succ]
    refine WQ.off (by rfl) ?_; simp only [Act.put, List.setIfInBounds_toArray, List.set_cons_zero, List.set_cons_succ]
    refine WQ.off (by rfl) ?_; simp only [Act.put, List.setIfInBounds_toArray, List.set_cons_zero, List.set_cons_succ]
    refine WQ.off (by rfl) ?_; simp only [Act.put, List.setIfInBounds_toArray, List.set_cons_zero, List.set_cons_succ]
    refine WQ.off (by rfl) ?_; simp only [Act.put, List.setIfInBounds_toArray, List.set_cons_zero, List.set_cons_succ]
    refine WQ.off (by rfl) ?_; simp only [Act.put, List.setIfInBounds_toArray, List.set_cons_zero, List.set_cons_succ]
    refine WQ.off (by rfl) ?_; simp only [Act.put, List.setIfInBounds_toArray, List.set_cons_zero, List.set_cons_succ]
    refine WQ.off (by rfl) ?_; simp only [Act.put, List.setIfInBounds_toArray, List.set_cons_zero, List.set_cons_succ]
    refine WQ.val (by rfl) (fun v hv => by have k0 := hv.cell c0; have k1 := hv.cell c1; go_simp; first | done | with_reducible rfl) ?_; simp only [Act.put, List.setIfInBounds_toArray, List.set_cons_zero, List.set_cons_succ]
    refine WQ.val (by rfl) (fun v hv => by have k0 := hv.cell c0; have k1 := hv.cell c1; go_simp; first | done | with_reducible rfl) ?_; simp only [Act.put, List.setIfInBounds_toArray, List.set_cons_zero, List.set_cons_succ]
    refine WQ.done ?_
    intro w5 hw5
    have HB5 := Lib.hid (below_then HB0.out hw5)
    clear hw5 c0 c1
    go_wp2_with fail
    go_ret
    exact retB (by rw [hv.out]; rfl) HB5.out
  · by_cases h1 : 32 < n
    · have hv : Hid (mayNet a n = false) := Lib.hid (by unfold mayNet; rw [decide_eq_false (by omega)])
      have d0 : decide (0 ≤ n) = true := by simpa using h0
      have d1 : decide (n ≤ 32) = false := by simpa using h1
      go_enter Tryz.func51, Tryz.ntmps51
      go_wp2_with fail
      generalize w.alloc (.cells #[.int .u32 a, .int .i64 n] 39) = w0 at *
      have HB0 := Lib.hid B0
      clear B0
      obtain ⟨c0, c1⟩ := N0
      refine WQ.enter w0 (Since.refl _) (by kernel_rfl) (by kernel_rfl) ?_
      refine WQ.val (by rfl) (fun v hv => by have k0 := hv.cell c0; have k1 := hv.cell c1; go_simp; first | done | with_reducible rfl) ?_; simp only [Act.put, List.setIfInBounds_toArray, List.set_cons_zero, List.set_cons_succ]
      refine WQ.val (by rfl) (fun v hv => by have k0 := hv.cell c0; have k1 := hv.cell c1; go_simp; first | done | with_reducible rfl) ?_; simp only [Act.put, List.setIfInBounds_toArray, List.set_cons_zero, List.set_cons_succ]
      refine WQ.val (by rfl) (fun v hv => by have k0 := hv.cell c0; have k1 := hv.cell c1; go_simp; first | done | with_reducible rfl) ?_; simp only [Act.put, List.setIfInBounds_toArray, List.set_cons_zero, List.set_cons_succ]
      refine WQ.val (by rfl) (fun v hv => by have k0 := hv.cell c0; have k1 := hv.cell c1; go_simp; first | done | with_reducible rfl) ?_; simp only [Act.put, List.setIfInBounds_toArray, List.set_cons_zero, List.set_cons_succ]
      refine WQ.val (by rfl) (fun v hv => by have k0 := hv.cell c0; have k1 := hv.cell c1; go_simp; first | done | with_reducible rfl) ?_; simp only [Act.put, List.setIfInBounds_toArray, List.set_cons_zero, List.set_cons_succ]
      refine WQ.val (by rfl) (fun v hv => by have k0 := hv.cell c0; have k1 := hv.cell c1; go_simp; first | done | with_reducible rfl) ?_; simp only [Act.put, List.setIfInBounds_toArray, List.set_cons_zero, List.set_cons_succ]
      refine WQ.val (by rfl) (fun v hv => by have k0 := hv.cell c0; have k1 := hv.cell c1; go_simp; first | done | with_reducible rfl) ?_; simp only [Act.put, List.setIfInBounds_toArray, List.set_cons_zero, List.set_cons_succ]
      refine WQ.val (by rfl) (fun v hv => by have k0 := hv.cell c0; have k1 := hv.cell c1; go_simp; first | done | with_reducible rfl) ?_; simp only [Act.put, List.setIfInBounds_toArray, List.set_cons_zero, List.set_cons_succ]
      refine WQ.val (by rfl) (fun v hv => by have k0 := hv.cell c0; have k1 := hv.cell c1; go_simp; first | done | with_reducible rfl) ?_; simp only [Act.put, List.setIfInBounds_toArray, List.set_cons_zero, List.set_cons_succ]
      refine WQ.off (by rfl) ?_; simp only [Act.put, List.setIfInBounds_toArray, List.set_cons_zero, List.set_cons_succ]
      refine WQ.off (by rfl) ?_; simp only [Act.put, List.setIfInBounds_toArray, List.set_cons_zero, List.set_cons_succ]
      refine WQ.off (by rfl) ?_; simp only [Act.put, List.setIfInBounds_toArray, List.set_cons_zero, List.set_cons_succ]
      refine WQ.off (by rfl) ?_; simp only [Act.put, List.setIfInBounds_toArray, List.set_cons_zero, List.set_cons_succ]
      refine WQ.off (by rfl) ?_; simp only [Act.put, List.setIfInBounds_toArray, List.set_cons_zero, List.set_cons_succ]
      refine WQ.off (by rfl) ?_; simp only [Act.put, List.setIfInBounds_toArray, List.set_cons_zero, List.set_cons_succ]
      refine WQ.off (by rfl) ?_; simp only [Act.put, List.setIfInBounds_toArray, List.set_cons_zero, List.set_cons_succ]
      refine WQ.val (by rfl) (fun v hv => by have k0 := hv.cell c0; have k1 := hv.cell c1; go_simp; first | done | with_reducible rfl) ?_; simp only [Act.put, List.setIfInBounds_toArray, List.set_cons_zero, List.set_cons_succ]
      refine WQ.val (by rfl) (fun v hv => by have k0 := hv.cell c0; have k1 := hv.cell c1; go_simp; first | done | with_reducible rfl) ?_; simp only [Act.put, List.setIfInBounds_toArray, List.set_cons_zero, List.set_cons_succ]
      refine WQ.done ?_
      intro w5 hw5
      have HB5 := Lib.hid (below_then HB0.out hw5)
      clear hw5 c0 c1
      go_wp2_with fail
      go_ret
      exact retB (by rw [hv.out]; rfl) HB5.out
    · have h0' : 0 ≤ n := by omega
      have h1' : n ≤ 32 := by omega
      have hv : Hid (mayNet a n = (bits .and .u32 (a : Int) (2 ^ (32 - n).toNat - 1 : Nat) == 0)) := Lib.hid (by
        rw [band_mask a _ ha (by omega), Bool.eq_iff_iff, beq_iff_eq]
        unfold mayNet
        rw [decide_eq_true_iff]
        omega)
      have HR := Lib.hid (fun v => rest_val n v h0' h1')
      generalize ((2 ^ (32 - n).toNat - 1 : Nat) : Int) = m at *
      have d0 : decide (0 ≤ n) = true := by simpa using h0
      have d1 : decide (n ≤ 32) = true := by simpa using h1
      go_enter Tryz.func51, Tryz.ntmps51
      go_wp2_with fail
      generalize w.alloc (.cells #[.int .u32 a, .int .i64 n] 39) = w0 at *
      have HB0 := Lib.hid B0
      clear B0
      obtain ⟨c0, c1⟩ := N0
      refine WQ.enter w0 (Since.refl _) (by kernel_rfl) (by kernel_rfl) ?_
      refine WQ.val (by rfl) (fun v hv => by have k0 := hv.cell c0; have k1 := hv.cell c1; go_simp; first | done | with_reducible rfl) ?_; simp only [Act.put, List.setIfInBounds_toArray, List.set_cons_zero, List.set_cons_succ]
      refine WQ.val (by rfl) (fun v hv => by have k0 := hv.cell c0; have k1 := hv.cell c1; go_simp; first | done | with_reducible rfl) ?_; simp only [Act.put, List.setIfInBounds_toArray, List.set_cons_zero, List.set_cons_succ]
      refine WQ.val (by rfl) (fun v hv => by have k0 := hv.cell c0; have k1 := hv.cell c1; go_simp; first | done | with_reducible rfl) ?_; simp only [Act.put, List.setIfInBounds_toArray, List.set_cons_zero, List.set_cons_succ]
      refine WQ.val (by rfl) (fun v hv => by have k0 := hv.cell c0; have k1 := hv.cell c1; go_simp; first | done | with_reducible rfl) ?_; simp only [Act.put, List.setIfInBounds_toArray, List.set_cons_zero, List.set_cons_succ]
      refine WQ.val (by rfl) (fun v hv => by have k0 := hv.cell c0; have k1 := hv.cell c1; go_simp; first | done | with_reducible rfl) ?_; simp only [Act.put, List.setIfInBounds_toArray, List.set_cons_zero, List.set_cons_succ]
      refine WQ.val (by rfl) (fun v hv => by have k0 := hv.cell c0; have k1 := hv.cell c1; go_simp; first | done | with_reducible rfl) ?_; simp only [Act.put, List.setIfInBounds_toArray, List.set_cons_zero, List.set_cons_succ]
      refine WQ.val (by rfl) (fun v hv => by have k0 := hv.cell c0; have k1 := hv.cell c1; go_simp; first | done | with_reducible rfl) ?_; simp only [Act.put, List.setIfInBounds_toArray, List.set_cons_zero, List.set_cons_succ]
      refine WQ.val (by rfl) (fun v hv => by have k0 := hv.cell c0; have k1 := hv.cell c1; go_simp; first | done | with_reducible rfl) ?_; simp only [Act.put, List.setIfInBounds_toArray, List.set_cons_zero, List.set_cons_succ]
      refine WQ.val (by rfl) (fun v hv => by have k0 := hv.cell c0; have k1 := hv.cell c1; go_simp; first | done | with_reducible rfl) ?_; simp only [Act.put, List.setIfInBounds_toArray, List.set_cons_zero, List.set_cons_succ]
      refine WQ.val (by rfl) (fun v hv => by have k0 := hv.cell c0; have k1 := hv.cell c1; go_simp; first | done | with_reducible rfl) ?_; simp only [Act.put, List.setIfInBounds_toArray, List.set_cons_zero, List.set_cons_succ]
      refine WQ.val (by rfl) (fun v hv => by have k0 := hv.cell c0; have k1 := hv.cell c1; go_simp; first | done | with_reducible rfl) ?_; simp only [Act.put, List.setIfInBounds_toArray, List.set_cons_zero, List.set_cons_succ]
      refine WQ.val (by rfl) (fun v hv => by have k0 := hv.cell c0; have k1 := hv.cell c1; go_simp; first | done | with_reducible rfl) ?_; simp only [Act.put, List.setIfInBounds_toArray, List.set_cons_zero, List.set_cons_succ]
      refine WQ.val (by rfl) (fun v hv => by have k0 := hv.cell c0; have k1 := hv.cell c1; go_simp; first | done | with_reducible rfl) ?_; simp only [Act.put, List.setIfInBounds_toArray, List.set_cons_zero, List.set_cons_succ]
      refine WQ.call (f := 64) (args := #[.int .i64 n]) (by rfl) (fun v hv => by go_simp) (fun v hv => (HR.out v).mono (fun e v' ⟨he, hb⟩ => ⟨he, hv.step hb⟩)) ?_; simp only [Act.put, List.setIfInBounds_toArray, List.set_cons_zero, List.set_cons_succ]
      refine WQ.val (by rfl) (fun v hv => by have k0 := hv.cell c0; have k1 := hv.cell c1; go_simp; first | done | with_reducible rfl) ?_; simp only [Act.put, List.setIfInBounds_toArray, List.set_cons_zero, List.set_cons_succ]
      refine WQ.val (by rfl) (fun v hv => by have k0 := hv.cell c0; have k1 := hv.cell c1; go_simp; first | done | with_reducible rfl) ?_; simp only [Act.put, List.setIfInBounds_toArray, List.set_cons_zero, List.set_cons_succ]
      refine WQ.val (by rfl) (fun v hv => by have k0 := hv.cell c0; have k1 := hv.cell c1; go_simp; first | done | with_reducible rfl) ?_; simp only [Act.put, List.setIfInBounds_toArray, List.set_cons_zero, List.set_cons_succ]
      refine WQ.val (by rfl) (fun v hv => by have k0 := hv.cell c0; have k1 := hv.cell c1; go_simp; first | done | with_reducible rfl) ?_; simp only [Act.put, List.setIfInBounds_toArray, List.set_cons_zero, List.set_cons_succ]
      refine WQ.done ?_
      intro w5 hw5
      have HB5 := Lib.hid (below_then HB0.out hw5)
      clear hw5 c0 c1
      go_wp2_with fail
      go_ret
      exact retB (by rw [hv.out]; rfl) HB5.out

theorem may_val (a : Nat) (n : Int) (b : Bool) (w : World) (ha : a < 4294967296) (hb : mayNet a n = b) :
    Calls Tryz.prog 51 #[.agg #[.int .u32 a, .int .i64 n]] w fun e w' => e = .returned (.bool b) ∧ Below w.heap.size w w' := by rw [← hb]; exact may_any a n w ha

end Go.Proofs.YtfiddoibnjildaaGreatDoor
