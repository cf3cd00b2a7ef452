/- Walks of the reference's May, top, Has of layer 3, and of addr's rest, may, Has. -/
import Derived.Test.YtahgapkecabnjaaGreatDoorC00
import Derived.WalkLawsBesides
import Derived.Laws.ShiftsVar
import Derived.Laws.ShiftsVarLaws
import Derived.Laws.BitsLemmas
import Derived.Laws.Bits
import Derived.Laws.BitsAllLaws
import Derived.Deep.RegionHeld3
namespace Go.Proofs.YtahgapkecabnjaaGreatDoor
set_option linter.unusedSimpArgs false
set_option linter.unusedVariables false
open Go Go.RowKit

theorem band_mask (a k : Nat) (ha : a < 4294967296) (hk : k ≤ 32) : bits .and .u32 (a : Int) ((2 ^ k - 1 : Nat) : Int) = ((a % 2 ^ k : Nat) : Int) := by
  have hp : 0 < 2 ^ k := Nat.two_pow_pos k
  have hm : 2 ^ k ≤ 2 ^ 32 := Nat.pow_le_pow_right (by omega) hk
  rw [u32_and_nat a _ ha (by omega), Nat.and_two_pow_sub_one_eq_mod]
theorem band_one (a : Nat) (ha : a < 4294967296) : bits .and .u32 (a : Int) 1 = ((a % 2 : Nat) : Int) := band_mask a 1 ha (by omega)
theorem nat_clear (a k : Nat) (ha : a < 2 ^ 32) (hk : k ≤ 32) : a &&& (4294967295 - (2 ^ k - 1)) = a / 2 ^ k * 2 ^ k := by
  have hp : 0 < 2 ^ k := Nat.two_pow_pos k
  have he : 2 ^ (32 - k) * 2 ^ k = 2 ^ 32 := by rw [← Nat.pow_add, show 32 - k + k = 32 by omega]
  have e1 : 4294967295 - (2 ^ k - 1) = (2 ^ (32 - k) - 1) <<< k := by
    rw [Nat.shiftLeft_eq, Nat.sub_mul, he]
    omega
  have e2 : a / 2 ^ k * 2 ^ k = (a >>> k) <<< k := by rw [Nat.shiftLeft_eq, Nat.shiftRight_eq_div_pow]
  rw [e1, e2]
  apply Nat.eq_of_testBit_eq
  intro j
  simp only [Nat.testBit_and, Nat.testBit_shiftLeft, Nat.testBit_shiftRight, Nat.testBit_two_pow_sub_one]
  by_cases hj : k ≤ j
  · by_cases hj2 : j < 32
    · rw [show k + (j - k) = j by omega]
      simp [hj]
      intro _; omega
    · have : a.testBit j = false := Nat.testBit_lt_two_pow (Nat.lt_of_lt_of_le ha (Nat.pow_le_pow_right (by omega) (by omega)))
      rw [show k + (j - k) = j by omega]
      simp [this]
  · simp [hj]
theorem bclear (a k : Nat) (ha : a < 4294967296) (hk : k ≤ 32) : bits .andNot .u32 (a : Int) ((2 ^ k - 1 : Nat) : Int) = ((a / 2 ^ k * 2 ^ k : Nat) : Int) := by
  have hm : 2 ^ k ≤ 2 ^ 32 := Nat.pow_le_pow_right (by omega) hk
  have hp : 0 < 2 ^ k := Nat.two_pow_pos k
  rw [u32_andNot_nat a _ ha (by omega), nat_clear a k ha hk]
theorem bit_step {a k : Nat} (h : a % 2 ^ k = 0) : (a / 2 ^ k % 2 = 0 ∧ a % 2 ^ (k + 1) = 0) ∨ (a / 2 ^ k % 2 = 1 ∧ ∀ j, k < j → a % 2 ^ j ≠ 0) := by
  have hs : a % 2 ^ (k + 1) = a % 2 ^ k + 2 ^ k * (a / 2 ^ k % 2) := by rw [Nat.pow_succ]; exact Nat.mod_mul
  rcases Nat.mod_two_eq_zero_or_one (a / 2 ^ k) with h1 | h1
  · left; refine ⟨h1, ?_⟩; rw [hs, h, h1]; simp
  · right
    refine ⟨h1, fun j hj e => ?_⟩
    have hp : 0 < 2 ^ k := Nat.two_pow_pos k
    have hd : 2 ^ (k + 1) ∣ a := Nat.dvd_trans (Nat.pow_dvd_pow 2 (by omega)) (Nat.dvd_of_mod_eq_zero e)
    have := Nat.mod_eq_zero_of_dvd hd
    rw [hs, h, h1] at this
    omega

set_option maxHeartbeats 1000000 in
set_option maxRecDepth 100000 in
theorem refMay_any (a : Nat) (n : Int) (w : World) (ha : a < 4294967296) :
    Calls Tryz.prog 115 #[.agg #[.int .u32 a, .int .i64 n]] w fun e w' => e = .returned (.bool (mayNet a n)) ∧ Below w.heap.size w w' := by
  by_cases h0 : n < 0
  · go_enter Tryz.func115, Tryz.ntmps115
    go_wp2_with fail
    go_ret
    refine retB ?_ ((Below.refl _ _).alloc (Nat.le_refl _) _)
    unfold mayNet; rw [decide_eq_false (by omega)]; rfl
  · by_cases h1 : 32 < n
    · go_enter Tryz.func115, Tryz.ntmps115
      go_wp2_with fail
      go_ret
      refine retB ?_ ((Below.refl _ _).alloc (Nat.le_refl _) _)
      unfold mayNet; rw [decide_eq_false (by omega)]; rfl
    · have hn : 0 ≤ n := by omega
      have hn2 : n ≤ 32 := by omega
      go_enter Tryz.func115, Tryz.ntmps115
      go_wp2_with fail
      go_loop [3] (fun i => ∃ k : Nat, k ≤ 32 ∧ i = .int .i64 k ∧ Hid ((k : Int) ≤ 32 - n ∧ a % 2 ^ k = 0)) (fun i => 32 - (intOf i).toNat)
      case atStart => exact ⟨0, by omega, rfl, Lib.hid ⟨by omega, by omega⟩⟩
      case round =>
        obtain ⟨k, hk, rfl, hh⟩ := hrel
        by_cases hlt : (k : Int) < 32 - n
        · have hd1 : a / 2 ^ k < 4294967296 := Nat.lt_of_le_of_lt (Nat.div_le_self _ _) ha
          have hb1 : bits .and .u32 ((a : Int) / 2 ^ k) 1 = ((a / 2 ^ k % 2 : Nat) : Int) := by
            rw [← band_one _ hd1]; simp
          rcases bit_step hh.out.2 with ⟨h2, h3⟩ | ⟨h2, h3⟩
          · have hq : (bits .and .u32 ((a : Int) / 2 ^ k) 1 == 1) = false := by rw [hb1, h2]; rfl
            have H3 := Lib.hid h3
            clear hb1 h2 h3
            go_wp2_with fail
            go_round
            case rel => exact ⟨k + 1, by omega, by go_num, Lib.hid ⟨by omega, H3.out⟩⟩
            case measure => simp [intOf]; omega
          · have hq : (bits .and .u32 ((a : Int) / 2 ^ k) 1 == 1) = true := by rw [hb1, h2]; rfl
            have H3 := Lib.hid h3
            clear hb1 h2 h3
            go_wp2_with fail
            go_ret
            refine retB ?_ ((Below.refl _ _).alloc (Nat.le_refl _) _)
            unfold mayNet; rw [decide_eq_false (fun h => H3.out (32 - n).toNat (by omega) h.2.2)]; rfl
        · go_wp2_with fail
          go_ret
          refine retB ?_ ((Below.refl _ _).alloc (Nat.le_refl _) _)
          have := hh.out
          unfold mayNet; rw [decide_eq_true ⟨hn, hn2, by rw [show (32 - n).toNat = k by omega]; exact this.2⟩]; rfl

def topF (a : Nat) (n : Int) : Nat := if n = 0 then 0 else a / 2 ^ (32 - n).toNat

set_option maxHeartbeats 1000000 in
set_option maxRecDepth 100000 in
theorem top_any (a : Nat) (n : Int) (w : World) (ha : a < 4294967296) (h0 : 0 ≤ n) (h1 : n ≤ 32) :
    Calls Tryz.prog 137 #[.int .u32 a, .int .i64 n] w fun e w' => e = .returned (.int .u32 (topF a n : Nat)) ∧ w' = w := by
  by_cases hn : n = 0
  · subst hn
    go_enter Tryz.func137, Tryz.ntmps137
    go_wp2_with fail
    go_ret
    exact ⟨rfl, rfl⟩
  · have hn' : (n == 0) = false := beq_eq_false_iff_ne.2 hn
    have ht : Hid (topF a n = a / 2 ^ (32 - n).toNat) := Lib.hid (by unfold topF; rw [if_neg hn])
    go_enter Tryz.func137, Tryz.ntmps137
    go_wp2_with fail
    go_ret
    refine ⟨?_, rfl⟩
    rw [ht.out]
    simp

theorem beq_nat {x y : Nat} : ((x : Int) == (y : Int)) = (x == y) := by rw [Bool.eq_iff_iff, beq_iff_eq, beq_iff_eq]; omega
theorem refMay_val (a : Nat) (n : Int) (b : Bool) (w : World) (ha : a < 4294967296) (hb : mayNet a n = b) :
    Calls Tryz.prog 115 #[.agg #[.int .u32 a, .int .i64 n]] w fun e w' => e = .returned (.bool b) ∧ Below w.heap.size w w' := by rw [← hb]; exact refMay_any a n w ha
theorem may_range {a : Nat} {n : Int} (h : mayNet a n = true) : 0 ≤ n ∧ n ≤ 32 := by unfold mayNet at h; rw [decide_eq_true_iff] at h; exact ⟨h.1, h.2.1⟩
theorem top_has {a b : Nat} {n : Int} (ha : a < 4294967296) (hb : b < 4294967296) (h : mayNet a n = true) : (topF a n = topF b n) ↔ hasNet a n b = true := by
  unfold hasNet
  rw [h, Bool.true_and, decide_eq_true_iff]
  unfold topF
  by_cases hn : n = 0
  · subst hn
    rw [if_pos rfl, if_pos rfl]
    have e1 : a / 2 ^ (32 - (0 : Int)).toNat = 0 := Nat.div_eq_of_lt (by simpa using ha)
    have e2 : b / 2 ^ (32 - (0 : Int)).toNat = 0 := Nat.div_eq_of_lt (by simpa using hb)
    rw [e1, e2]
  · rw [if_neg hn, if_neg hn]
    exact ⟨fun h => h.symm, fun h => h.symm⟩

/-- A net in memory. -/
def NetAt (w : World) (b : Nat) (a n : Int) : Prop := w.cell? ⟨b, 0, none⟩ = some (.int .u32 a) ∧ w.cell? ⟨b, 1, none⟩ = some (.int .i64 n)
theorem NetAt.below {w w1 : World} {b : Nat} {a n : Int} (h : NetAt w b a n) (hb : Below w.heap.size w w1) : NetAt w1 b a n :=
  ⟨(hb.cell (p := ⟨b, 0, none⟩) (World.block_lt_of_cell? w ⟨b, 0, none⟩ h.1)).trans h.1, (hb.cell (p := ⟨b, 1, none⟩) (World.block_lt_of_cell? w ⟨b, 1, none⟩ h.2)).trans h.2⟩
theorem NetAt.drew {w : World} {b : Nat} {a n : Int} (h : NetAt w b a n) : NetAt w.drew b a n := h
theorem NetAt.new (w : World) (a n : Int) (T : TypeId) : NetAt (w.alloc (.cells #[.int .u32 a, .int .i64 n] T)) w.heap.size a n := ⟨by simp, by simp⟩

set_option maxHeartbeats 1000000 in
set_option maxRecDepth 100000 in
theorem refHas_any (a : Nat) (n : Int) (b : Nat) (w : World) (ha : a < 4294967296) (hb : b < 4294967296) :
    Calls Tryz.prog 121 #[.agg #[.int .u32 a, .int .i64 n], .int .u32 b] w fun e w' => e = .returned (.bool (hasNet a n b)) ∧ Below w.heap.size w w' := by
  have B0 : Below w.heap.size w (w.alloc (.cells #[.int .u32 a, .int .i64 n] 75)) := (Below.refl _ _).alloc (Nat.le_refl _) _
  have N0 := NetAt.new w a n 75
  cases hm : mayNet a n with
  | false =>
    have hv : Hid (hasNet a n b = false) := Lib.hid (by unfold hasNet; rw [hm]; rfl)
    have HM := Lib.hid hm
    clear hm
    go_enter Tryz.func121, Tryz.ntmps121
    go_wp2_with fail
    generalize w.alloc (.cells #[.int .u32 a, .int .i64 n] 75) = w0 at *
    have HB0 := Lib.hid B0
    clear B0
    obtain ⟨c0, c1⟩ := N0
    refine WQ.enter w0 (Since.refl _) (by kernel_rfl) (by kernel_rfl) ?_
    refine WQ.val (by rfl) (fun v hv => by have k0 := hv.cell c0; have k1 := hv.cell c1; go_simp; first | done | with_reducible rfl) ?_; simp only [Act.put, List.setIfInBounds_toArray, List.set_cons_zero, List.set_cons_succ]
    refine WQ.call (f := 115) (args := #[.agg #[.int .u32 a, .int .i64 n]]) (by rfl) (fun v hv => by go_simp) (fun v hv => (refMay_val a n false v ha HM.out).mono (fun e v' ⟨he, hb⟩ => ⟨he, hv.step hb⟩)) ?_; simp only [Act.put, List.setIfInBounds_toArray, List.set_cons_zero, List.set_cons_succ]
    refine WQ.val (by rfl) (fun v hv => by have k0 := hv.cell c0; have k1 := hv.cell c1; go_simp; first | done | with_reducible rfl) ?_; simp only [Act.put, List.setIfInBounds_toArray, List.set_cons_zero, List.set_cons_succ]
    refine WQ.off (by rfl) ?_; simp only [Act.put, List.setIfInBounds_toArray, List.set_cons_zero, List.set_cons_succ]
    refine WQ.off (by rfl) ?_; simp only [Act.put, List.setIfInBounds_toArray, List.set_cons_zero, List.set_cons_succ]
    refine WQ.off (by rfl) ?_; simp only [Act.put, List.setIfInBounds_toArray, List.set_cons_zero, List.set_cons_succ]
    refine WQ.off (by rfl) ?_; simp only [Act.put, List.setIfInBounds_toArray, List.set_cons_zero, List.set_cons_succ]
    refine WQ.off (by rfl) ?_; simp only [Act.put, List.setIfInBounds_toArray, List.set_cons_zero, List.set_cons_succ]
    refine WQ.off (by rfl) ?_; simp only [Act.put, List.setIfInBounds_toArray, List.set_cons_zero, List.set_cons_succ]
    refine WQ.off (by rfl) ?_; simp only [Act.put, List.setIfInBounds_toArray, List.set_cons_zero, List.set_cons_succ]
    refine WQ.off (by rfl) ?_; simp only [Act.put, List.setIfInBounds_toArray, List.set_cons_zero, List.set_cons_succ]
    refine WQ.off (by rfl) ?_; simp only [Act.put, List.setIfInBounds_toArray, List.set_cons_zero, List.set_cons_succ]
    refine WQ.off (by rfl) ?_; simp only [Act.put, List.setIfInBounds_toArray, List.set_cons_zero, List.set_cons_succ]
    refine WQ.val (by rfl) (fun v hv => by have k0 := hv.cell c0; have k1 := hv.cell c1; go_simp; first | done | with_reducible rfl) ?_; simp only [Act.put, List.setIfInBounds_toArray, List.set_cons_zero, List.set_cons_succ]
    refine WQ.val (by rfl) (fun v hv => by have k0 := hv.cell c0; have k1 := hv.cell c1; go_simp; first | done | with_reducible rfl) ?_; simp only [Act.put, List.setIfInBounds_toArray, List.set_cons_zero, List.set_cons_succ]
    refine WQ.done ?_
    intro w5 hw5
    have HB5 := Lib.hid (below_then HB0.out hw5)
    clear hw5 c0 c1
    go_wp2_with fail
    go_ret
    exact retB (by rw [hv.out]; rfl) HB5.out
  | true =>
    have hr := may_range hm
    have hx := top_has ha hb hm
    obtain ⟨x, ex⟩ : ∃ x, topF a n = x := ⟨_, rfl⟩
    obtain ⟨y, ey⟩ : ∃ y, topF b n = y := ⟨_, rfl⟩
    have hv : Hid (hasNet a n b = (x == y)) := Lib.hid (by rw [Bool.eq_iff_iff, beq_iff_eq, ← hx, ex, ey])
    have TA : ∀ v, Calls Tryz.prog 137 #[.int .u32 a, .int .i64 n] v fun e v' => e = .returned (.int .u32 x) ∧ Below v.heap.size v v' := fun v => (top_any a n v ha hr.1 hr.2).mono fun e v' ⟨he, hw⟩ => ⟨by rw [he, ex], by rw [hw]; exact Below.refl _ _⟩
    have TB : ∀ v, Calls Tryz.prog 137 #[.int .u32 b, .int .i64 n] v fun e v' => e = .returned (.int .u32 y) ∧ Below v.heap.size v v' := fun v => (top_any b n v hb hr.1 hr.2).mono fun e v' ⟨he, hw⟩ => ⟨by rw [he, ey], by rw [hw]; exact Below.refl _ _⟩
    have HM := Lib.hid hm
    have HTA := Lib.hid TA
    have HTB := Lib.hid TB
    clear hm hx ex ey TA TB hr
    go_enter Tryz.func121, Tryz.ntmps121
    go_wp2_with fail
    generalize w.alloc (.cells #[.int .u32 a, .int .i64 n] 75) = w0 at *
    have HB0 := Lib.hid B0
    clear B0
    obtain ⟨c0, c1⟩ := N0
    refine WQ.enter w0 (Since.refl _) (by kernel_rfl) (by kernel_rfl) ?_
    refine WQ.val (by rfl) (fun v hv => by have k0 := hv.cell c0; have k1 := hv.cell c1; go_simp; first | done | with_reducible rfl) ?_; simp only [Act.put, List.setIfInBounds_toArray, List.set_cons_zero, List.set_cons_succ]
    refine WQ.call (f := 115) (args := #[.agg #[.int .u32 a, .int .i64 n]]) (by rfl) (fun v hv => by go_simp) (fun v hv => (refMay_val a n true v ha HM.out).mono (fun e v' ⟨he, hb⟩ => ⟨he, hv.step hb⟩)) ?_; simp only [Act.put, List.setIfInBounds_toArray, List.set_cons_zero, List.set_cons_succ]
    refine WQ.val (by rfl) (fun v hv => by have k0 := hv.cell c0; have k1 := hv.cell c1; go_simp; first | done | with_reducible rfl) ?_; simp only [Act.put, List.setIfInBounds_toArray, List.set_cons_zero, List.set_cons_succ]
    refine WQ.val (by rfl) (fun v hv => by have k0 := hv.cell c0; have k1 := hv.cell c1; go_simp; first | done | with_reducible rfl) ?_; simp only [Act.put, List.setIfInBounds_toArray, List.set_cons_zero, List.set_cons_succ]
    refine WQ.val (by rfl) (fun v hv => by have k0 := hv.cell c0; have k1 := hv.cell c1; go_simp; first | done | with_reducible rfl) ?_; simp only [Act.put, List.setIfInBounds_toArray, List.set_cons_zero, List.set_cons_succ]
    refine WQ.val (by rfl) (fun v hv => by have k0 := hv.cell c0; have k1 := hv.cell c1; go_simp; first | done | with_reducible rfl) ?_; simp only [Act.put, List.setIfInBounds_toArray, List.set_cons_zero, List.set_cons_succ]
    refine WQ.val (by rfl) (fun v hv => by have k0 := hv.cell c0; have k1 := hv.cell c1; go_simp; first | done | with_reducible rfl) ?_; simp only [Act.put, List.setIfInBounds_toArray, List.set_cons_zero, List.set_cons_succ]
    refine WQ.call (f := 137) (args := #[.int .u32 a, .int .i64 n]) (by rfl) (fun v hv => by go_simp) (fun v hv => (HTA.out v).mono (fun e v' ⟨he, hb⟩ => ⟨he, hv.step hb⟩)) ?_; simp only [Act.put, List.setIfInBounds_toArray, List.set_cons_zero, List.set_cons_succ]
    refine WQ.val (by rfl) (fun v hv => by have k0 := hv.cell c0; have k1 := hv.cell c1; go_simp; first | done | with_reducible rfl) ?_; simp only [Act.put, List.setIfInBounds_toArray, List.set_cons_zero, List.set_cons_succ]
    refine WQ.val (by rfl) (fun v hv => by have k0 := hv.cell c0; have k1 := hv.cell c1; go_simp; first | done | with_reducible rfl) ?_; simp only [Act.put, List.setIfInBounds_toArray, List.set_cons_zero, List.set_cons_succ]
    refine WQ.val (by rfl) (fun v hv => by have k0 := hv.cell c0; have k1 := hv.cell c1; go_simp; first | done | with_reducible rfl) ?_; simp only [Act.put, List.setIfInBounds_toArray, List.set_cons_zero, List.set_cons_succ]
    refine WQ.call (f := 137) (args := #[.int .u32 b, .int .i64 n]) (by rfl) (fun v hv => by go_simp) (fun v hv => (HTB.out v).mono (fun e v' ⟨he, hb⟩ => ⟨he, hv.step hb⟩)) ?_; simp only [Act.put, List.setIfInBounds_toArray, List.set_cons_zero, List.set_cons_succ]
    refine WQ.val (by rfl) (fun v hv => by have k0 := hv.cell c0; have k1 := hv.cell c1; go_simp; first | done | with_reducible rfl) ?_; simp only [Act.put, List.setIfInBounds_toArray, List.set_cons_zero, List.set_cons_succ]
    refine WQ.val (by rfl) (fun v hv => by have k0 := hv.cell c0; have k1 := hv.cell c1; go_simp; first | done | with_reducible rfl) ?_; simp only [Act.put, List.setIfInBounds_toArray, List.set_cons_zero, List.set_cons_succ]
    refine WQ.val (by rfl) (fun v hv => by have k0 := hv.cell c0; have k1 := hv.cell c1; go_simp; first | done | with_reducible rfl) ?_; simp only [Act.put, List.setIfInBounds_toArray, List.set_cons_zero, List.set_cons_succ]
    refine WQ.done ?_
    intro w5 hw5
    have HB5 := Lib.hid (below_then HB0.out hw5)
    clear hw5 c0 c1
    go_wp2_with fail
    go_ret
    exact retB (by rw [hv.out]; simp [beq_nat]) HB5.out

theorem rest_num (k : Nat) (hk2 : k ≤ 32) : (((2 : Int) ^ k % 4294967296 - 1) % 4294967296) = ((2 ^ k - 1 : Nat) : Int) := by
  have hp : 0 < 2 ^ k := Nat.two_pow_pos k
  have e : ((2 : Int) ^ k) = ((2 ^ k : Nat) : Int) := by simp
  rw [e]
  by_cases h : k = 32
  · subst h; rfl
  · have : 2 ^ k ≤ 2 ^ 31 := Nat.pow_le_pow_right (by omega) (by omega)
    generalize 2 ^ k = q at *
    omega
set_option maxHeartbeats 1000000 in
set_option maxRecDepth 100000 in
theorem rest_any (n : Int) (w : World) (h0 : 0 ≤ n) (h1 : n ≤ 32) :
    Calls Tryz.prog 134 #[.int .i64 n] w fun e w' => e = .returned (.int .u32 (2 ^ (32 - n).toNat - 1 : Nat)) ∧ w' = w := by
  go_enter Tryz.func134, Tryz.ntmps134
  go_wp2_with fail
  go_ret
  exact ⟨by rw [rest_num _ (by omega)]; rfl, rfl⟩
theorem rest_val (n : Int) (w : World) (h0 : 0 ≤ n) (h1 : n ≤ 32) :
    Calls Tryz.prog 134 #[.int .i64 n] w fun e w' => e = .returned (.int .u32 (2 ^ (32 - n).toNat - 1 : Nat)) ∧ Below w.heap.size w w' :=
  (rest_any n w h0 h1).mono fun e w' ⟨he, hw⟩ => ⟨he, by rw [hw]; exact Below.refl _ _⟩

set_option maxHeartbeats 1000000 in
set_option maxRecDepth 100000 in
theorem may_any (a : Nat) (n : Int) (w : World) (ha : a < 4294967296) :
    Calls Tryz.prog 116 #[.agg #[.int .u32 a, .int .i64 n]] w fun e w' => e = .returned (.bool (mayNet a n)) ∧ Below w.heap.size w w' := by
  have B0 : Below w.heap.size w (w.alloc (.cells #[.int .u32 a, .int .i64 n] 75)) := (Below.refl _ _).alloc (Nat.le_refl _) _
  have N0 := NetAt.new w a n 75
  by_cases h0 : n < 0
  · have hv : Hid (mayNet a n = false) := Lib.hid (by unfold mayNet; rw [decide_eq_false (by omega)])
    have d0 : decide (0 ≤ n) = false := by simpa using h0
    go_enter Tryz.func116, Tryz.ntmps116
    go_wp2_with fail
    generalize w.alloc (.cells #[.int .u32 a, .int .i64 n] 75) = w0 at *
    have HB0 := Lib.hid B0
    clear B0
    obtain ⟨c0, c1⟩ := N0
    refine WQ.enter w0 (Since.refl _) (by kernel_rfl) (by kernel_rfl) ?_
    refine WQ.val (by rfl) (fun v hv => by have k0 := hv.cell c0; have k1 := hv.cell c1; go_simp; first | done | with_reducible rfl) ?_; simp only [Act.put, List.setIfInBounds_toArray, List.set_cons_zero, List.set_cons_succ]
    refine WQ.val (by rfl) (fun v hv => by have k0 := hv.cell c0; have k1 := hv.cell c1; go_simp; first | done | with_reducible rfl) ?_; simp only [Act.put, List.setIfInBounds_toArray, List.set_cons_zero, List.set_cons_succ]
    refine WQ.val (by rfl) (fun v hv => by have k0 := hv.cell c0; have k1 := hv.cell c1; go_simp; first | done | with_reducible rfl) ?_; simp only [Act.put, List.setIfInBounds_toArray, List.set_cons_zero, List.set_cons_succ]
    refine WQ.val (by rfl) (fun v hv => by have k0 := hv.cell c0; have k1 := hv.cell c1; go_simp; first | done | with_reducible rfl) ?_; simp only [Act.put, List.setIfInBounds_toArray, List.set_cons_zero, List.set_cons_succ]
    refine WQ.off (by rfl) ?_; simp only [Act.put, List.setIfInBounds_toArray, List.set_cons_zero, List.set_cons_succ]
    refine WQ.off (by rfl) ?_; simp only [Act.put, List.setIfInBounds_toArray, List.set_cons_zero, List.set_cons_succ]
    refine WQ.off (by rfl) ?_; simp only [Act.put, List.setIfInBounds_toArray, List.set_cons_zero, List.set_cons_succ]
    refine WQ.val (by rfl) (fun v hv => by have k0 := hv.cell c0; have k1 := hv.cell c1; go_simp; first | done | with_reducible rfl) ?_; simp only [Act.put, List.setIfInBounds_toArray, List.set_cons_zero, List.set_cons_succ]
    refine WQ.val (by rfl) (fun v hv => by have k0 := hv.cell c0; have k1 := hv.cell c1; go_simp; first | done | with_reducible rfl) ?_; simp only [Act.put, List.setIfInBounds_toArray, List.set_cons_zero, List.set_cons_succ]
    refine WQ.off (by rfl) ?_; simp only [Act.put, List.setIfInBounds_toArray, List.set_cons_zero, List.set_cons_succ]
    refine WQ.off (by rfl) ?_; simp only [Act.put, List.setIfInBounds_toArray, List.set_cons_zero, List.set_cons_succ]
    refine WQ.off (by rfl) ?_; simp only [Act.put, List.setIfInBounds_toArray, List.set_cons_zero, List.set_cons_succ]
    refine WQ.off (by rfl) ?_; simp only [Act.put, List.setIfInBounds_toArray, List.set_cons_zero, List.set_cons_succ]
    refine WQ.off (by rfl) ?_; simp only [Act.put, List.setIfInBounds_toArray, List.set_cons_zero, List.set_cons_succ]
    refine WQ.off (by rfl) ?_; simp only [Act.put, List.setIfInBounds_toArray, List.set_cons_zero, List.set_cons_succ]
    refine WQ.off (by rfl) ?_; simp only [Act.put, List.setIfInBounds_toArray, List.set_cons_zero, List.set_cons_succ]
    refine WQ.val (by rfl) (fun v hv => by have k0 := hv.cell c0; have k1 := hv.cell c1; go_simp; first | done | with_reducible rfl) ?_; simp only [Act.put, List.setIfInBounds_toArray, List.set_cons_zero, List.set_cons_succ]
    refine WQ.val (by rfl) (fun v hv => by have k0 := hv.cell c0; have k1 := hv.cell c1; go_simp; first | done | with_reducible rfl) ?_; simp only [Act.put, List.setIfInBounds_toArray, List.set_cons_zero, List.set_cons_succ]
    refine WQ.done ?_
    intro w5 hw5
    have HB5 := Lib.hid (below_then HB0.out hw5)
    clear hw5 c0 c1
    go_wp2_with fail
    go_ret
    exact retB (by rw [hv.out]; rfl) HB5.out
  · by_cases h1 : 32 < n
    · have hv : Hid (mayNet a n = false) := Lib.hid (by unfold mayNet; rw [decide_eq_false (by omega)])
      have d0 : decide (0 ≤ n) = true := by simpa using h0
      have d1 : decide (n ≤ 32) = false := by simpa using h1
      go_enter Tryz.func116, Tryz.ntmps116
      go_wp2_with fail
      generalize w.alloc (.cells #[.int .u32 a, .int .i64 n] 75) = w0 at *
      have HB0 := Lib.hid B0
      clear B0
      obtain ⟨c0, c1⟩ := N0
      refine WQ.enter w0 (Since.refl _) (by kernel_rfl) (by kernel_rfl) ?_
      refine WQ.val (by rfl) (fun v hv => by have k0 := hv.cell c0; have k1 := hv.cell c1; go_simp; first | done | with_reducible rfl) ?_; simp only [Act.put, List.setIfInBounds_toArray, List.set_cons_zero, List.set_cons_succ]
      refine WQ.val (by rfl) (fun v hv => by have k0 := hv.cell c0; have k1 := hv.cell c1; go_simp; first | done | with_reducible rfl) ?_; simp only [Act.put, List.setIfInBounds_toArray, List.set_cons_zero, List.set_cons_succ]
      refine WQ.val (by rfl) (fun v hv => by have k0 := hv.cell c0; have k1 := hv.cell c1; go_simp; first | done | with_reducible rfl) ?_; simp only [Act.put, List.setIfInBounds_toArray, List.set_cons_zero, List.set_cons_succ]
      refine WQ.val (by rfl) (fun v hv => by have k0 := hv.cell c0; have k1 := hv.cell c1; go_simp; first | done | with_reducible rfl) ?_; simp only [Act.put, List.setIfInBounds_toArray, List.set_cons_zero, List.set_cons_succ]
      refine WQ.val (by rfl) (fun v hv => by have k0 := hv.cell c0; have k1 := hv.cell c1; go_simp; first | done | with_reducible rfl) ?_; simp only [Act.put, List.setIfInBounds_toArray, List.set_cons_zero, List.set_cons_succ]
      refine WQ.val (by rfl) (fun v hv => by have k0 := hv.cell c0; have k1 := hv.cell c1; go_simp; first | done | with_reducible rfl) ?_; simp only [Act.put, List.setIfInBounds_toArray, List.set_cons_zero, List.set_cons_succ]
      refine WQ.val (by rfl) (fun v hv => by have k0 := hv.cell c0; have k1 := hv.cell c1; go_simp; first | done | with_reducible rfl) ?_; simp only [Act.put, List.setIfInBounds_toArray, List.set_cons_zero, List.set_cons_succ]
      refine WQ.val (by rfl) (fun v hv => by have k0 := hv.cell c0; have k1 := hv.cell c1; go_simp; first | done | with_reducible rfl) ?_; simp only [Act.put, List.setIfInBounds_toArray, List.set_cons_zero, List.set_cons_succ]
      refine WQ.val (by rfl) (fun v hv => by have k0 := hv.cell c0; have k1 := hv.cell c1; go_simp; first | done | with_reducible rfl) ?_; simp only [Act.put, List.setIfInBounds_toArray, List.set_cons_zero, List.set_cons_succ]
      refine WQ.off (by rfl) ?_; simp only [Act.put, List.setIfInBounds_toArray, List.set_cons_zero, List.set_cons_succ]
      refine WQ.off (by rfl) ?_; simp only [Act.put, List.setIfInBounds_toArray, List.set_cons_zero, List.set_cons_succ]
      refine WQ.off (by rfl) ?_; simp only [Act.put, List.setIfInBounds_toArray, List.set_cons_zero, List.set_cons_succ]
      refine WQ.off (by rfl) ?_; simp only [Act.put, List.setIfInBounds_toArray, List.set_cons_zero, List.set_cons_succ]
      refine WQ.off (by rfl) ?_; simp only [Act.put, List.setIfInBounds_toArray, List.set_cons_zero, List.set_cons_succ]
      refine WQ.off (by rfl) ?_; simp only [Act.put, List.setIfInBounds_toArray, List.set_cons_zero, List.set_cons_succ]
      refine WQ.off (by rfl) ?_; simp only [Act.put, List.setIfInBounds_toArray, List.set_cons_zero, List.set_cons_succ]
      refine WQ.val (by rfl) (fun v hv => by have k0 := hv.cell c0; have k1 := hv.cell c1; go_simp; first | done | with_reducible rfl) ?_; simp only [Act.put, List.setIfInBounds_toArray, List.set_cons_zero, List.set_cons_succ]
      refine WQ.val (by rfl) (fun v hv => by have k0 := hv.cell c0; have k1 := hv.cell c1; go_simp; first | done | with_reducible rfl) ?_; simp only [Act.put, List.setIfInBounds_toArray, List.set_cons_zero, List.set_cons_succ]
      refine WQ.done ?_
      intro w5 hw5
      have HB5 := Lib.hid (below_then HB0.out hw5)
      clear hw5 c0 c1
      go_wp2_with fail
      go_ret
      exact retB (by rw [hv.out]; rfl) HB5.out
    · have h0' : 0 ≤ n := by omega
      have h1' : n ≤ 32 := by omega
      have hv : Hid (mayNet a n = (bits .and .u32 (a : Int) (2 ^ (32 - n).toNat - 1 : Nat) == 0)) := Lib.hid (by
        rw [band_mask a _ ha (by omega), Bool.eq_iff_iff, beq_iff_eq]
        unfold mayNet
        rw [decide_eq_true_iff]
        omega)
      have HR := Lib.hid (fun v => rest_val n v h0' h1')
      generalize ((2 ^ (32 - n).toNat - 1 : Nat) : Int) = m at *
      have d0 : decide (0 ≤ n) = true := by simpa using h0
      have d1 : decide (n ≤ 32) = true := by simpa using h1
      go_enter Tryz.func116, Tryz.ntmps116
      go_wp2_with fail
      generalize w.alloc (.cells #[.int .u32 a, .int .i64 n] 75) = w0 at *
      have HB0 := Lib.hid B0
      clear B0
      obtain ⟨c0, c1⟩ := N0
      refine WQ.enter w0 (Since.refl _) (by kernel_rfl) (by kernel_rfl) ?_
      refine WQ.val (by rfl) (fun v hv => by have k0 := hv.cell c0; have k1 := hv.cell c1; go_simp; first | done | with_reducible rfl) ?_; simp only [Act.put, List.setIfInBounds_toArray, List.set_cons_zero, List.set_cons_succ]
      refine WQ.val (by rfl) (fun v hv => by have k0 := hv.cell c0; have k1 := hv.cell c1; go_simp; first | done | with_reducible rfl) ?_; simp only [Act.put, List.setIfInBounds_toArray, List.set_cons_zero, List.set_cons_succ]
      refine WQ.val (by rfl) (fun v hv => by have k0 := hv.cell c0; have k1 := hv.cell c1; go_simp; first | done | with_reducible rfl) ?_; simp only [Act.put, List.setIfInBounds_toArray, List.set_cons_zero, List.set_cons_succ]
      refine WQ.val (by rfl) (fun v hv => by have k0 := hv.cell c0; have k1 := hv.cell c1; go_simp; first | done | with_reducible rfl) ?_; simp only [Act.put, List.setIfInBounds_toArray, List.set_cons_zero, List.set_cons_succ]
      refine WQ.val (by rfl) (fun v hv => by have k0 := hv.cell c0; have k1 := hv.cell c1; go_simp; first | done | with_reducible rfl) ?_; simp only [Act.put, List.setIfInBounds_toArray, List.set_cons_zero, List.set_cons_succ]
      refine WQ.val (by rfl) (fun v hv => by have k0 := hv.cell c0; have k1 := hv.cell c1; go_simp; first | done | with_reducible rfl) ?_; simp only [Act.put, List.setIfInBounds_toArray, List.set_cons_zero, List.set_cons_succ]
      refine WQ.val (by rfl) (fun v hv => by have k0 := hv.cell c0; have k1 := hv.cell c1; go_simp; first | done | with_reducible rfl) ?_; simp only [Act.put, List.setIfInBounds_toArray, List.set_cons_zero, List.set_cons_succ]
      refine WQ.val (by rfl) (fun v hv => by have k0 := hv.cell c0; have k1 := hv.cell c1; go_simp; first | done | with_reducible rfl) ?_; simp only [Act.put, List.setIfInBounds_toArray, List.set_cons_zero, List.set_cons_succ]
      refine WQ.val (by rfl) (fun v hv => by have k0 := hv.cell c0; have k1 := hv.cell c1; go_simp; first | done | with_reducible rfl) ?_; simp only [Act.put, List.setIfInBounds_toArray, List.set_cons_zero, List.set_cons_succ]
      refine WQ.val (by rfl) (fun v hv => by have k0 := hv.cell c0; have k1 := hv.cell c1; go_simp; first | done | with_reducible rfl) ?_; simp only [Act.put, List.setIfInBounds_toArray, List.set_cons_zero, List.set_cons_succ]
      refine WQ.val (by rfl) (fun v hv => by have k0 := hv.cell c0; have k1 := hv.cell c1; go_simp; first | done | with_reducible rfl) ?_; simp only [Act.put, List.setIfInBounds_toArray, List.set_cons_zero, List.set_cons_succ]
      refine WQ.val (by rfl) (fun v hv => by have k0 := hv.cell c0; have k1 := hv.cell c1; go_simp; first | done | with_reducible rfl) ?_; simp only [Act.put, List.setIfInBounds_toArray, List.set_cons_zero, List.set_cons_succ]
      refine WQ.val (by rfl) (fun v hv => by have k0 := hv.cell c0; have k1 := hv.cell c1; go_simp; first | done | with_reducible rfl) ?_; simp only [Act.put, List.setIfInBounds_toArray, List.set_cons_zero, List.set_cons_succ]
      refine WQ.call (f := 134) (args := #[.int .i64 n]) (by rfl) (fun v hv => by go_simp) (fun v hv => (HR.out v).mono (fun e v' ⟨he, hb⟩ => ⟨he, hv.step hb⟩)) ?_; simp only [Act.put, List.setIfInBounds_toArray, List.set_cons_zero, List.set_cons_succ]
      refine WQ.val (by rfl) (fun v hv => by have k0 := hv.cell c0; have k1 := hv.cell c1; go_simp; first | done | with_reducible rfl) ?_; simp only [Act.put, List.setIfInBounds_toArray, List.set_cons_zero, List.set_cons_succ]
      refine WQ.val (by rfl) (fun v hv => by have k0 := hv.cell c0; have k1 := hv.cell c1; go_simp; first | done | with_reducible rfl) ?_; simp only [Act.put, List.setIfInBounds_toArray, List.set_cons_zero, List.set_cons_succ]
      refine WQ.val (by rfl) (fun v hv => by have k0 := hv.cell c0; have k1 := hv.cell c1; go_simp; first | done | with_reducible rfl) ?_; simp only [Act.put, List.setIfInBounds_toArray, List.set_cons_zero, List.set_cons_succ]
      refine WQ.val (by rfl) (fun v hv => by have k0 := hv.cell c0; have k1 := hv.cell c1; go_simp; first | done | with_reducible rfl) ?_; simp only [Act.put, List.setIfInBounds_toArray, List.set_cons_zero, List.set_cons_succ]
      refine WQ.done ?_
      intro w5 hw5
      have HB5 := Lib.hid (below_then HB0.out hw5)
      clear hw5 c0 c1
      go_wp2_with fail
      go_ret
      exact retB (by rw [hv.out]; rfl) HB5.out

theorem may_val (a : Nat) (n : Int) (b : Bool) (w : World) (ha : a < 4294967296) (hb : mayNet a n = b) :
    Calls Tryz.prog 116 #[.agg #[.int .u32 a, .int .i64 n]] w fun e w' => e = .returned (.bool b) ∧ Below w.heap.size w w' := by rw [← hb]; exact may_any a n w ha

set_option maxHeartbeats 1000000 in
set_option maxRecDepth 100000 in
theorem has_any (a : Nat) (n : Int) (b : Nat) (w : World) (ha : a < 4294967296) (hb : b < 4294967296) :
    Calls Tryz.prog 132 #[.agg #[.int .u32 a, .int .i64 n], .int .u32 b] w fun e w' => e = .returned (.bool (hasNet a n b)) ∧ Below w.heap.size w w' := by
  have B0 : Below w.heap.size w (w.alloc (.cells #[.int .u32 a, .int .i64 n] 75)) := (Below.refl _ _).alloc (Nat.le_refl _) _
  have N0 := NetAt.new w a n 75
  cases hm : mayNet a n with
  | false =>
    have hv : Hid (hasNet a n b = false) := Lib.hid (by unfold hasNet; rw [hm]; rfl)
    have HM := Lib.hid hm
    clear hm
    go_enter Tryz.func132, Tryz.ntmps132
    go_wp2_with fail
    generalize w.alloc (.cells #[.int .u32 a, .int .i64 n] 75) = w0 at *
    have HB0 := Lib.hid B0
    clear B0
    obtain ⟨c0, c1⟩ := N0
    refine WQ.enter w0 (Since.refl _) (by kernel_rfl) (by kernel_rfl) ?_
    refine WQ.val (by rfl) (fun v hv => by have k0 := hv.cell c0; have k1 := hv.cell c1; go_simp; first | done | with_reducible rfl) ?_; simp only [Act.put, List.setIfInBounds_toArray, List.set_cons_zero, List.set_cons_succ]
    refine WQ.call (f := 116) (args := #[.agg #[.int .u32 a, .int .i64 n]]) (by rfl) (fun v hv => by go_simp) (fun v hv => (may_val a n false v ha HM.out).mono (fun e v' ⟨he, hb⟩ => ⟨he, hv.step hb⟩)) ?_; simp only [Act.put, List.setIfInBounds_toArray, List.set_cons_zero, List.set_cons_succ]
    refine WQ.val (by rfl) (fun v hv => by have k0 := hv.cell c0; have k1 := hv.cell c1; go_simp; first | done | with_reducible rfl) ?_; simp only [Act.put, List.setIfInBounds_toArray, List.set_cons_zero, List.set_cons_succ]
    refine WQ.off (by rfl) ?_; simp only [Act.put, List.setIfInBounds_toArray, List.set_cons_zero, List.set_cons_succ]
    refine WQ.off (by rfl) ?_; simp only [Act.put, List.setIfInBounds_toArray, List.set_cons_zero, List.set_cons_succ]
    refine WQ.off (by rfl) ?_; simp only [Act.put, List.setIfInBounds_toArray, List.set_cons_zero, List.set_cons_succ]
    refine WQ.off (by rfl) ?_; simp only [Act.put, List.setIfInBounds_toArray, List.set_cons_zero, List.set_cons_succ]
    refine WQ.off (by rfl) ?_; simp only [Act.put, List.setIfInBounds_toArray, List.set_cons_zero, List.set_cons_succ]
    refine WQ.off (by rfl) ?_; simp only [Act.put, List.setIfInBounds_toArray, List.set_cons_zero, List.set_cons_succ]
    refine WQ.off (by rfl) ?_; simp only [Act.put, List.setIfInBounds_toArray, List.set_cons_zero, List.set_cons_succ]
    refine WQ.off (by rfl) ?_; simp only [Act.put, List.setIfInBounds_toArray, List.set_cons_zero, List.set_cons_succ]
    refine WQ.val (by rfl) (fun v hv => by have k0 := hv.cell c0; have k1 := hv.cell c1; go_simp; first | done | with_reducible rfl) ?_; simp only [Act.put, List.setIfInBounds_toArray, List.set_cons_zero, List.set_cons_succ]
    refine WQ.val (by rfl) (fun v hv => by have k0 := hv.cell c0; have k1 := hv.cell c1; go_simp; first | done | with_reducible rfl) ?_; simp only [Act.put, List.setIfInBounds_toArray, List.set_cons_zero, List.set_cons_succ]
    refine WQ.done ?_
    intro w5 hw5
    have HB5 := Lib.hid (below_then HB0.out hw5)
    clear hw5 c0 c1
    go_wp2_with fail
    go_ret
    exact retB (by rw [hv.out]; rfl) HB5.out
  | true =>
    have hr := may_range hm
    have hv : Hid (hasNet a n b = (bits .andNot .u32 (b : Int) (2 ^ (32 - n).toNat - 1 : Nat) == (a : Int))) := Lib.hid (by
      rw [bclear b _ hb (by omega), Bool.eq_iff_iff, beq_iff_eq]
      have hd : a % 2 ^ (32 - n).toNat = 0 := by unfold mayNet at hm; rw [decide_eq_true_iff] at hm; exact hm.2.2
      unfold hasNet
      rw [hm, Bool.true_and, decide_eq_true_iff]
      obtain ⟨q, rfl⟩ := Nat.dvd_of_mod_eq_zero hd
      have hp : 0 < 2 ^ (32 - n).toNat := Nat.two_pow_pos _
      rw [Nat.mul_div_cancel_left _ hp]
      constructor
      · intro h; rw [h, Nat.mul_comm]
      · intro h
        have h2 : b / 2 ^ (32 - n).toNat * 2 ^ (32 - n).toNat = 2 ^ (32 - n).toNat * q := by omega
        rw [Nat.mul_comm] at h2
        exact Nat.eq_of_mul_eq_mul_left hp h2)
    have HR := Lib.hid (fun v => rest_val n v hr.1 hr.2)
    generalize ((2 ^ (32 - n).toNat - 1 : Nat) : Int) = m at *
    have HM := Lib.hid hm
    clear hm hr
    go_enter Tryz.func132, Tryz.ntmps132
    go_wp2_with fail
    generalize w.alloc (.cells #[.int .u32 a, .int .i64 n] 75) = w0 at *
    have HB0 := Lib.hid B0
    clear B0
    obtain ⟨c0, c1⟩ := N0
    refine WQ.enter w0 (Since.refl _) (by kernel_rfl) (by kernel_rfl) ?_
    refine WQ.val (by rfl) (fun v hv => by have k0 := hv.cell c0; have k1 := hv.cell c1; go_simp; first | done | with_reducible rfl) ?_; simp only [Act.put, List.setIfInBounds_toArray, List.set_cons_zero, List.set_cons_succ]
    refine WQ.call (f := 116) (args := #[.agg #[.int .u32 a, .int .i64 n]]) (by rfl) (fun v hv => by go_simp) (fun v hv => (may_val a n true v ha HM.out).mono (fun e v' ⟨he, hb⟩ => ⟨he, hv.step hb⟩)) ?_; simp only [Act.put, List.setIfInBounds_toArray, List.set_cons_zero, List.set_cons_succ]
    refine WQ.val (by rfl) (fun v hv => by have k0 := hv.cell c0; have k1 := hv.cell c1; go_simp; first | done | with_reducible rfl) ?_; simp only [Act.put, List.setIfInBounds_toArray, List.set_cons_zero, List.set_cons_succ]
    refine WQ.val (by rfl) (fun v hv => by have k0 := hv.cell c0; have k1 := hv.cell c1; go_simp; first | done | with_reducible rfl) ?_; simp only [Act.put, List.setIfInBounds_toArray, List.set_cons_zero, List.set_cons_succ]
    refine WQ.val (by rfl) (fun v hv => by have k0 := hv.cell c0; have k1 := hv.cell c1; go_simp; first | done | with_reducible rfl) ?_; simp only [Act.put, List.setIfInBounds_toArray, List.set_cons_zero, List.set_cons_succ]
    refine WQ.val (by rfl) (fun v hv => by have k0 := hv.cell c0; have k1 := hv.cell c1; go_simp; first | done | with_reducible rfl) ?_; simp only [Act.put, List.setIfInBounds_toArray, List.set_cons_zero, List.set_cons_succ]
    refine WQ.call (f := 134) (args := #[.int .i64 n]) (by rfl) (fun v hv => by go_simp) (fun v hv => (HR.out v).mono (fun e v' ⟨he, hb⟩ => ⟨he, hv.step hb⟩)) ?_; simp only [Act.put, List.setIfInBounds_toArray, List.set_cons_zero, List.set_cons_succ]
    refine WQ.val (by rfl) (fun v hv => by have k0 := hv.cell c0; have k1 := hv.cell c1; go_simp; first | done | with_reducible rfl) ?_; simp only [Act.put, List.setIfInBounds_toArray, List.set_cons_zero, List.set_cons_succ]
    refine WQ.val (by rfl) (fun v hv => by have k0 := hv.cell c0; have k1 := hv.cell c1; go_simp; first | done | with_reducible rfl) ?_; simp only [Act.put, List.setIfInBounds_toArray, List.set_cons_zero, List.set_cons_succ]
    refine WQ.val (by rfl) (fun v hv => by have k0 := hv.cell c0; have k1 := hv.cell c1; go_simp; first | done | with_reducible rfl) ?_; simp only [Act.put, List.setIfInBounds_toArray, List.set_cons_zero, List.set_cons_succ]
    refine WQ.val (by rfl) (fun v hv => by have k0 := hv.cell c0; have k1 := hv.cell c1; go_simp; first | done | with_reducible rfl) ?_; simp only [Act.put, List.setIfInBounds_toArray, List.set_cons_zero, List.set_cons_succ]
    refine WQ.val (by rfl) (fun v hv => by have k0 := hv.cell c0; have k1 := hv.cell c1; go_simp; first | done | with_reducible rfl) ?_; simp only [Act.put, List.setIfInBounds_toArray, List.set_cons_zero, List.set_cons_succ]
    refine WQ.val (by rfl) (fun v hv => by have k0 := hv.cell c0; have k1 := hv.cell c1; go_simp; first | done | with_reducible rfl) ?_; simp only [Act.put, List.setIfInBounds_toArray, List.set_cons_zero, List.set_cons_succ]
    refine WQ.done ?_
    intro w5 hw5
    have HB5 := Lib.hid (below_then HB0.out hw5)
    clear hw5 c0 c1
    go_wp2_with fail
    go_ret
    exact retB (by rw [hv.out]; rfl) HB5.out
end Go.Proofs.YtahgapkecabnjaaGreatDoor
/- Walks of the reference's Print, Show and Net of layer 3. -/
namespace Go.Proofs.YtahgapkecabnjaaGreatDoor
set_option linter.unusedSimpArgs false
set_option linter.unusedVariables false
open Go Go.RowKit

abbrev str (l : List UInt8) : Value := .string ⟨l.toArray⟩
/-- What Show answers: the text, the error. -/
def showF (a : Nat) (n : Int) : List UInt8 × Int := match showNet a n with | some l => (l, 0) | none => ([], 1)
def StrPost (q : List UInt8 × Int) (w : World) (e : Ending) (w' : World) : Prop := e = .returned (.tuple #[str q.1, .int .i64 q.2]) ∧ Below w.heap.size w w'
theorem str_end {q : List UInt8 × Int} {s : ByteArray} {c : Int} {w w' : World} (h1 : s.data.toList = q.1) (h2 : q.2 = c) (hb : Below w.heap.size w w') : StrPost q w (.returned (.tuple #[.string s, .int .i64 c])) w' := by
  obtain ⟨l, d⟩ := q
  simp only at h1 h2
  subst h1 h2; exact ⟨rfl, hb⟩
theorem show_len (a : Nat) : (showAddr a).length ≤ 15 := by
  have l3 := dec_len_le 3 (byteAt a 3) (by unfold byteAt; omega) (by omega)
  have l2 := dec_len_le 3 (byteAt a 2) (by unfold byteAt; omega) (by omega)
  have l1 := dec_len_le 3 (byteAt a 1) (by unfold byteAt; omega) (by omega)
  have l0 := dec_len_le 3 (byteAt a 0) (by unfold byteAt; omega) (by omega)
  unfold showAddr; rw [Lib.join_cons]; simp [Lib.joinTail]; omega

theorem bcell {W w1 : World} (hb : Below W.heap.size W w1) : (∀ b o, b < W.heap.size → w1.cell? ⟨b, o, none⟩ = W.cell? ⟨b, o, none⟩) ∧ (∀ b o, b < W.heap.size → w1.frozen? ⟨b, o, none⟩ = W.frozen? ⟨b, o, none⟩) :=
  ⟨fun b o h => hb.cell (p := ⟨b, o, none⟩) h, fun b o h => hb.frozen (p := ⟨b, o, none⟩) h⟩
/-- A net of the call's own, in memory. -/
def NetOwn (w : World) (b : Nat) (a n : Int) : Prop := w.cell? ⟨b, 0, none⟩ = some (.int .u32 a) ∧ w.cell? ⟨b, 1, none⟩ = some (.int .i64 n) ∧ w.frozen? ⟨b, 0, none⟩ = false ∧ w.frozen? ⟨b, 1, none⟩ = false
theorem NetOwn.below {w w1 : World} {b : Nat} {a n : Int} (h : NetOwn w b a n) (hb : Below w.heap.size w w1) : NetOwn w1 b a n := by
  obtain ⟨h1, h2, h3, h4⟩ := h
  have hl := World.block_lt_of_cell? w ⟨b, 0, none⟩ h1
  obtain ⟨c, f⟩ := bcell hb
  exact ⟨(c b 0 hl).trans h1, (c b 1 hl).trans h2, (f b 0 hl).trans h3, (f b 1 hl).trans h4⟩
theorem NetOwn.new (w : World) (a n : Int) (T : TypeId) : NetOwn (w.alloc (.cells #[.int .u32 a, .int .i64 n] T)) w.heap.size a n := ⟨by simp, by simp, by simp, by simp⟩
theorem NetOwn.box {w : World} {b : Nat} {a n : Int} (h : NetOwn w b a n) (o : Obj) : NetOwn (w.alloc o) b a n := h.below ((Below.refl _ _).alloc (Nat.le_refl _) _)
/-- What Net answers: the address, the bits, the error. -/
def netF (l : List UInt8) : Nat × Nat × Int := match netOf l with | some (a, b) => (a, b, 0) | none => (0, 0, 3)
def NetPost (q : Nat × Nat × Int) (w : World) (e : Ending) (w' : World) : Prop := e = .returned (.tuple #[.agg #[.int .u32 q.1, .int .i64 q.2.1], .int .i64 q.2.2]) ∧ Below w.heap.size w w'
theorem net_end {q : Nat × Nat × Int} {a b c : Int} {w w' : World} (h1 : (q.1 : Int) = a) (h2 : (q.2.1 : Int) = b) (h3 : q.2.2 = c) (hb : Below w.heap.size w w') : NetPost q w (.returned (.tuple #[.agg #[.int .u32 a, .int .i64 b], .int .i64 c])) w' := by
  subst h1 h2 h3; exact ⟨rfl, hb⟩

/-- The reference's road to a net. -/
theorem netOf_ref {p r : List UInt8} (hp : (47 : UInt8) ∉ p) : netOf (p ++ 47 :: r) = match addrOf p with
    | none => none
    | some a => if showNet a (numF r) = some (p ++ 47 :: r) then some (a, (numF r).toNat) else none := by
  have hne : p ++ 47 :: r ≠ anyL := by
    intro e
    have : (47 : UInt8) ∈ anyL := by rw [← e]; simp
    revert this; decide
  cases e : netOf (p ++ 47 :: r) with
  | some ab =>
    obtain ⟨a, b⟩ := ab
    have h1 := showNet_netOf e
    rw [netOf, if_neg hne, cut_at hp] at e
    simp only at e
    cases ha : addrOf p with
    | none => rw [ha] at e; simp at e
    | some a' =>
      rw [ha] at e
      simp only at e ⊢
      split at e
      · rename_i hc
        injection e with e
        injection e with e1 e2
        subst e1
        obtain ⟨n, hn, rfl⟩ := isNum_iff.1 hc.1
        rw [valOf_dec] at e2
        subst e2
        have hnum : numF (Lib.decDigits n) = n := by
          unfold numF
          rw [if_pos, valOf_dec]
          have := dec_len_le 2 n (by omega) (by omega)
          exact ⟨by omega, by rw [valOf_dec]⟩
        rw [hnum, if_pos h1.1]; simp
      · cases e
  | none =>
    rw [netOf, if_neg hne, cut_at hp] at e
    simp only at e
    cases ha : addrOf p with
    | none => rfl
    | some a' =>
      rw [ha] at e
      simp only at e ⊢
      rw [if_neg]
      intro hs
      have h2 := netOf_show (addrOf_lt ha).1 hs
      rw [netOf, if_neg hne, cut_at hp] at h2
      simp only at h2
      rw [ha] at h2
      simp only at h2
      rw [e] at h2
      cases h2
theorem netOf_noslash {l : List UInt8} (h : (47 : UInt8) ∉ l) (hne : l ≠ anyL) : netOf l = none := by
  rw [netOf, if_neg hne, cut_none h]
  simp only
  split
  · rfl
  · rw [if_neg]
    rintro ⟨h1, -⟩
    obtain ⟨n, _, e⟩ := isNum_iff.1 h1
    exact dec_ne_nil n e.symm

/-- Up to the first slash. -/
def Scan (s : ByteArray) (k : Nat) : Prop := (47 : UInt8) ∉ s.data.toList.take k
theorem Scan.next {s : ByteArray} {k : Nat} (h : Scan s k) (hk : k < s.size) (hc : s[k] ≠ 47) : Scan s (k + 1) := by
  unfold Scan at *
  have : s.data.toList.take (k + 1) = s.data.toList.take k ++ [s[k]] := by rw [List.take_succ_eq_append_getElem (by simpa using hk)]; rfl
  rw [this]
  simp only [List.mem_append, List.mem_singleton, not_or]
  exact ⟨h, fun e => hc e.symm⟩
theorem Scan.cut {s : ByteArray} {k : Nat} (h : Scan s k) (hk : k < s.size) (hc : s[k] = 47) : s.data.toList = (s.extract 0 k).data.toList ++ 47 :: (s.extract (k + 1) s.size).data.toList ∧ (47 : UInt8) ∉ (s.extract 0 k).data.toList := by
  rw [Lib.extract_from_zero, Lib.extract_to_end]
  refine ⟨?_, h⟩
  have h8 : s.data.toList[k]'(by simpa using hk) = 47 := by rw [← hc]; simp; rfl
  rw [← h8, ← List.drop_eq_getElem_cons (by simpa using hk), List.take_append_drop]
theorem Scan.all {s : ByteArray} (h : Scan s s.size) : (47 : UInt8) ∉ s.data.toList := by
  unfold Scan at h
  rwa [List.take_of_length_le (by simp)] at h

end Go.Proofs.YtahgapkecabnjaaGreatDoor
