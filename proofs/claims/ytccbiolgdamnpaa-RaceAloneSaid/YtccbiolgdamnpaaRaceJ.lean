/- The walk of race.Before. Printed by gen_racej.py. -/
import Derived.Test.YtccbiolgdamnpaaRaceI
namespace Go.Proofs.Ytccbiolgdamnpaa
set_option linter.unusedSimpArgs false
set_option linter.unusedVariables false
open Go Go.RowKit

/-- What is known of from, on the way: up to k what comes ahead, at k itself c. -/
noncomputable def fromF (L : List Ac) (a k : Nat) (c : Bool) (i : Nat) : Bool := if i < k then hbB L a i else if i = k then c else false
theorem hbB_self (L : List Ac) (a : Nat) : hbB L a a = true := hbB_iff.2 .refl
theorem hbB_below (L : List Ac) {a i : Nat} (h : i < a) : hbB L a i = false := hbB_false.2 fun hb => by have := hb.le; omega
theorem from_set (L : List Ac) (a k i : Nat) (c : Bool) : (if i = k then Value.bool c else Value.bool (fromF L a k false i)) = Value.bool (fromF L a k c i) := by
  unfold fromF
  by_cases h : i = k
  · subst h; simp
  · simp [h]
theorem from_start (L : List Ac) (a i : Nat) : (if i = a then Value.bool true else Value.bool false) = Value.bool (fromF L a (a + 1) false i) := by
  unfold fromF
  by_cases h : i = a
  · subst h; simp [hbB_self]
  · rcases Nat.lt_or_ge i a with h2 | h2
    · simp [h, show i < a + 1 by omega, hbB_below L h2]
    · simp [h, show ¬ i < a + 1 by omega, show i ≠ a + 1 ∨ True by simp]
theorem from_next (L : List Ac) (a k i : Nat) (c : Bool) (hc : c = hbB L a k) : Value.bool (fromF L a k c i) = Value.bool (fromF L a (k + 1) false i) := by
  unfold fromF
  by_cases h : i < k
  · simp [h, show i < k + 1 by omega]
  · by_cases h2 : i = k
    · subst h2; simp [hc]
    · simp [h, h2, show ¬ i < k + 1 by omega]
/-- What the inner rounds have found. -/
def Inner (L : List Ac) (a k j : Nat) (c : Bool) : Prop := c = true ↔ ∃ m, a ≤ m ∧ m < j ∧ HB L a m ∧ rt (ac L m) (ac L k) = true
theorem inner_start (L : List Ac) (a k : Nat) : Inner L a k a false := ⟨fun h => (by cases h), fun ⟨m, h1, h2, _⟩ => by omega⟩
theorem inner_step {L : List Ac} {a k j : Nat} {c c' : Bool} (h : Inner L a k j c) (hc : c = false) (h1 : a ≤ j) (h2 : j < k) (e : (hbB L a j && rt (ac L j) (ac L k)) = c') : Inner L a k (j + 1) c' := by
  subst e hc
  unfold Inner at *
  rw [Bool.and_eq_true, hbB_iff]
  constructor
  · rintro ⟨g1, g2⟩; exact ⟨j, h1, by omega, g1, g2⟩
  · rintro ⟨m, g1, g2, g3, g4⟩
    rcases Nat.lt_or_eq_of_le (Nat.le_of_lt_succ g2) with g | rfl
    · exact absurd (h.2 ⟨m, g1, g, g3, g4⟩) (by simp)
    · exact ⟨g3, g4⟩
theorem inner_true {L : List Ac} {a k j : Nat} (hak : a < k) (hj : j ≤ k) (h : Inner L a k j true) : true = hbB L a k := by
  obtain ⟨m, h1, h2, h3, h4⟩ := h.1 rfl
  exact (hbB_iff.2 (.step h3 (by omega) h4)).symm
theorem inner_end {L : List Ac} {a k : Nat} {c : Bool} (hak : a < k) (h : Inner L a k k c) : c = hbB L a k := by
  rw [Bool.eq_iff_iff, hbB_iff, HB.iff_last hak]
  exact h.trans ⟨fun ⟨m, _, h2, h3, h4⟩ => ⟨m, h2, h3, h4⟩, fun ⟨m, h2, h3, h4⟩ => ⟨m, h3.le, h2, h3, h4⟩⟩
/-- What Before answers. -/
noncomputable def beforeB (L : List Ac) (x y : Int) : Bool := @decide (0 ≤ x ∧ x < y ∧ y < L.length ∧ HB L x.toNat y.toNat) (Classical.propDecidable _)
theorem beforeB_iff {L : List Ac} {x y : Int} : beforeB L x y = true ↔ 0 ≤ x ∧ x < y ∧ y < L.length ∧ HB L x.toNat y.toNat := by unfold beforeB; exact @decide_eq_true_iff _ (Classical.propDecidable _)
theorem beforeB_no {L : List Ac} {x y : Int} (h : x < 0 ∨ y ≤ x ∨ (L.length : Int) ≤ y) : beforeB L x y = false := by
  rw [← Bool.not_eq_true, beforeB_iff]; rintro ⟨h1, h2, h3, _⟩; omega
theorem beforeB_yes {L : List Ac} {a b : Nat} (h1 : a < b) (h2 : b < L.length) : beforeB L a b = hbB L a b := by
  rw [Bool.eq_iff_iff, beforeB_iff, hbB_iff, Int.toNat_natCast, Int.toNat_natCast]
  exact ⟨fun h => h.2.2.2, fun h => ⟨by omega, by omega, by omega, h⟩⟩
theorem boolInfo : (Try.prog.info? 4).map (fun i => (i.zero, i.size, i.bytes)) = some (some (.bool false), 1, 1) := by kernel_rfl

set_option maxHeartbeats 8000000 in
set_option maxRecDepth 100000 in
theorem before_any (s : Option Addr) (cap : Nat) (L : List Ac) (x y : Int) (w : World) (hL : LogAt w s L) (hlen : L.length ≤ 200) :
    Calls Try.prog 10 #[.slice s L.length cap, .int .i64 x, .int .i64 y] w fun e w' => e = .returned (.bool (beforeB L x y)) ∧ Below w.heap.size w w' := by
  have HL := Lib.hid hL
  clear hL
  by_cases h0 : x < 0
  · have HN := Lib.hid (beforeB_no (L := L) (x := x) (y := y) (by omega))
    go_enter Try.func10, Try.ntmps10
    go_wp2_with fail
    go_ret
    exact ⟨by (rw [HN.out]) <;> rfl, Below.refl _ _⟩
  obtain ⟨a, rfl⟩ := Int.eq_ofNat_of_zero_le (show 0 ≤ x by omega)
  by_cases h1 : y ≤ (a : Int)
  · have HN := Lib.hid (beforeB_no (L := L) (x := (a : Int)) (y := y) (by omega))
    go_enter Try.func10, Try.ntmps10
    go_wp2_with fail
    go_ret
    exact ⟨by (rw [HN.out]) <;> rfl, Below.refl _ _⟩
  obtain ⟨b, rfl⟩ := Int.eq_ofNat_of_zero_le (show 0 ≤ y by omega)
  by_cases h2 : L.length ≤ b
  · have HN := Lib.hid (beforeB_no (L := L) (x := (a : Int)) (y := (b : Int)) (by omega))
    go_enter Try.func10, Try.ntmps10
    go_wp2_with fail
    go_ret
    exact ⟨by (rw [HN.out]) <;> rfl, Below.refl _ _⟩
  have hab : a < b := by omega
  have q1 : decide ((a : Int) < 0) = false := decide_eq_false (by omega)
  have q2 : decide (b ≤ a) = false := decide_eq_false (by omega)
  have q3 : decide ((b : Int) ≤ (a : Int)) = false := decide_eq_false (by omega)
  clear h0 h1
  have hmk := run_make_row' (P := Try.prog) 39 4 (.bool false) 1 Try.underlying39 boolInfo rfl .i64 .i64 (b + 1) (by omega) (by omega) w
  rw [show ((b + 1 : Nat) : Int) = (b : Int) + 1 from by omega] at hmk
  have hrow0 := World.rowIs_made w (.bool false) (b + 1) 4
  have hrow1 := (hrow0.set a (.bool true)).congr (g := fun i => .bool (fromF L a (a + 1) false i)) (fun i _ => from_start L a i)
  have hc0 := hrow0.cell (show a < b + 1 by omega)
  have hc1 := hrow0.frozen a
  have hB0 : Below w.heap.size w (w.alloc (.cells (madeCells #[.bool false] (b + 1)) 4)) := (Below.refl _ _).alloc (Nat.le_refl _) _
  have hset : (w.alloc (.cells (madeCells #[.bool false] (b + 1)) 4)).setCell ⟨w.heap.size, a, none⟩ (.bool true) = w.alloc (.cells ((madeCells #[.bool false] (b + 1)).setIfInBounds a (.bool true)) 4) := World.setCell_alloc_new _ _ _ _
  rw [hset] at hrow1
  have HR := Lib.hid hrow1
  have HB0 := Lib.hid ((Below.refl _ w).alloc (Nat.le_refl _) (.cells ((madeCells #[.bool false] (b + 1)).setIfInBounds a (.bool true)) 4))
  clear hrow0 hrow1 hB0 hset
  go_enter Try.func10, Try.ntmps10
  go_wp2_with fail
  clear hmk hc0 hc1
  go_loopw [8] (fun n wr => ∃ k : Nat, a + 1 ≤ k ∧ k ≤ b + 1 ∧ n = .int .i64 k ∧ Hid (wr.rowIs w.heap.size 4 (b + 1) (fun i => .bool (fromF L a k false i))) ∧ Hid (Below w.heap.size w wr)) (fun n _ => b + 1 - (intOf n).toNat)
  case atStart => exact ⟨a + 1, by omega, by omega, by go_num, HR, HB0⟩
  case round =>
    clear HR HB0
    obtain ⟨k, hk1, hk2, rfl, hF, hB⟩ := hrel
    by_cases hkb : k ≤ b
    · go_wp2_with fail
      go_loopw [9] (fun m wr => ∃ (j : Nat) (c : Bool), a ≤ j ∧ j ≤ k ∧ m = .int .i64 j ∧ Hid (Inner L a k j c) ∧ Hid (wr.rowIs w.heap.size 4 (b + 1) (fun i => .bool (fromF L a k c i))) ∧ Hid (Below w.heap.size w wr)) (fun m _ => k - (intOf m).toNat)
      case atStart => exact ⟨a, false, by omega, by omega, rfl, Lib.hid (inner_start L a k), hF, hB⟩
      case round =>
        clear hF hB
        obtain ⟨j, c, hj1, hj2, rfl, hC, hF, hB⟩ := hrel
        have hfk : ∀ c, fromF L a k c k = c := fun c => by unfold fromF; simp
        have e0 := hF.out.cell (show k < b + 1 by omega)
        rw [hfk] at e0
        by_cases hjk : j < k
        · cases c with
          | true =>
            go_wp2_with fail
            go_roundw
            case rel => exact ⟨k + 1, by omega, by omega, by go_num, Lib.hid (hF.out.congr fun i _ => from_next L a k i true (inner_true (by omega) (by omega) hC.out)), hB⟩
            case measure => simp [intOf]; omega
          | false =>
            have f0 := hF.out.cell (show j < b + 1 by omega)
            have hj0 : (0 : Int) ≤ (j : Int) := by omega
            have hjb : (j : Int) < (b : Int) + 1 := by omega
            have hk0 : (0 : Int) ≤ (k : Int) := by omega
            have hkb1 : (k : Int) < (b : Int) + 1 := by omega
            have hjL : (j : Int) < (L.length : Int) := by omega
            have hkL : (k : Int) < (L.length : Int) := by omega
            rw [show fromF L a k false j = hbB L a j by unfold fromF; simp [hjk]] at f0
            cases hq : hbB L a j with
            | false =>
              rw [hq] at f0
              have HQ := Lib.hid hq
              clear hq
              go_wp2_with fail
              refine WQ.last (Since wr) (Below.refl _ _).drew 18 12 (by rfl) (by kernel_rfl) (by kernel_rfl) ?_; simp only [List.take_succ_cons, List.take_zero]
              refine WQ.val (by rfl) (fun v hv => by have k0 := hv.cell f0; go_simp; first | done | with_reducible rfl | (rw [if_neg (by omega)])) ?_; simp only [Act.put, List.setIfInBounds_toArray, List.set_cons_zero, List.set_cons_succ]
              refine WQ.val (by rfl) (fun v hv => by have k0 := hv.cell f0; go_simp; first | done | with_reducible rfl | (rw [if_neg (by omega)])) ?_; simp only [Act.put, List.setIfInBounds_toArray, List.set_cons_zero, List.set_cons_succ]
              refine WQ.val (by rfl) (fun v hv => by have k0 := hv.cell f0; go_simp; first | done | with_reducible rfl | (rw [if_neg (by omega)])) ?_; simp only [Act.put, List.setIfInBounds_toArray, List.set_cons_zero, List.set_cons_succ]
              refine WQ.val (by rfl) (fun v hv => by have k0 := hv.cell f0; go_simp; first | done | with_reducible rfl | (rw [if_neg (by omega)])) ?_; simp only [Act.put, List.setIfInBounds_toArray, List.set_cons_zero, List.set_cons_succ]
              refine WQ.val (by rfl) (fun v hv => by have k0 := hv.cell f0; go_simp; first | done | with_reducible rfl | (rw [if_neg (by omega)])) ?_; simp only [Act.put, List.setIfInBounds_toArray, List.set_cons_zero, List.set_cons_succ]
              refine WQ.val (by rfl) (fun v hv => by have k0 := hv.cell f0; go_simp; first | done | with_reducible rfl | (rw [if_neg (by omega)])) ?_; simp only [Act.put, List.setIfInBounds_toArray, List.set_cons_zero, List.set_cons_succ]
              refine WQ.val (by rfl) (fun v hv => by have k0 := hv.cell f0; go_simp; first | done | with_reducible rfl | (rw [if_neg (by omega)])) ?_; simp only [Act.put, List.setIfInBounds_toArray, List.set_cons_zero, List.set_cons_succ]
              refine WQ.off (by rfl) ?_; simp only [Act.put, List.setIfInBounds_toArray, List.set_cons_zero, List.set_cons_succ]
              refine WQ.off (by rfl) ?_; simp only [Act.put, List.setIfInBounds_toArray, List.set_cons_zero, List.set_cons_succ]
              refine WQ.off (by rfl) ?_; simp only [Act.put, List.setIfInBounds_toArray, List.set_cons_zero, List.set_cons_succ]
              refine WQ.off (by rfl) ?_; simp only [Act.put, List.setIfInBounds_toArray, List.set_cons_zero, List.set_cons_succ]
              refine WQ.off (by rfl) ?_; simp only [Act.put, List.setIfInBounds_toArray, List.set_cons_zero, List.set_cons_succ]
              refine WQ.off (by rfl) ?_; simp only [Act.put, List.setIfInBounds_toArray, List.set_cons_zero, List.set_cons_succ]
              refine WQ.off (by rfl) ?_; simp only [Act.put, List.setIfInBounds_toArray, List.set_cons_zero, List.set_cons_succ]
              refine WQ.off (by rfl) ?_; simp only [Act.put, List.setIfInBounds_toArray, List.set_cons_zero, List.set_cons_succ]
              refine WQ.off (by rfl) ?_; simp only [Act.put, List.setIfInBounds_toArray, List.set_cons_zero, List.set_cons_succ]
              refine WQ.val (by rfl) (fun v hv => by have k0 := hv.cell f0; go_simp; first | done | with_reducible rfl | (rw [if_neg (by omega)])) ?_; simp only [Act.put, List.setIfInBounds_toArray, List.set_cons_zero, List.set_cons_succ]
              refine WQ.val (by rfl) (fun v hv => by have k0 := hv.cell f0; go_simp; first | done | with_reducible rfl | (rw [if_neg (by omega)])) ?_; simp only [Act.put, List.setIfInBounds_toArray, List.set_cons_zero, List.set_cons_succ]
              refine WQ.done ?_
              intro w5 hw5
              have HF5 := Lib.hid (hF.out.of_block (w' := w5) (hw5.block _ hF.out.lt))
              have HB5 := Lib.hid (hB.out.trans (Below.mono hw5 hB.out.size))
              have g0 := HF5.out.cell (show k < b + 1 by omega)
              rw [hfk] at g0
              have g1 : w5.frozen? ⟨w.heap.size, k, none⟩ = false := HF5.out.frozen k
              have HF6 := Lib.hid ((HF5.out.set k (.bool false)).congr (g := fun i => .bool (fromF L a k false i)) (fun i _ => from_set L a k i _))
              have HB6 := Lib.hid (HB5.out.setCell (p := ⟨w.heap.size, k, none⟩) (Nat.le_refl _) (.bool false))
              have HC6 : Hid (Inner L a k (j + 1) false) := Lib.hid (inner_step hC.out rfl (by omega) (by omega) (by rw [HQ.out]; rfl))
              clear f0 e0
              refine wpOp_one rfl (by rfl) ?_
              intro K' hK'
              go_wp2_with fail
              go_roundw
              case rel => exact ⟨j + 1, false, by omega, by omega, by go_num, HC6, HF6, HB6⟩
              case measure => simp [intOf]; omega
            | true =>
              rw [hq] at f0
              have HQ := Lib.hid hq
              clear hq
              obtain ⟨_, ad, rfl, c0, c1, c2⟩ := (HL.out.below hB.out (Nat.le_refl _)).at_ j (by omega)
              obtain ⟨_, ad', had, d0, d1, d2⟩ := (HL.out.below hB.out (Nat.le_refl _)).at_ k (by omega)
              obtain rfl := Option.some.inj had
              have HX : Hid (ac L j = ⟨(ac L j).th, (ac L j).kd, (ac L j).pl⟩) := Lib.hid rfl
              have HY : Hid (ac L k = ⟨(ac L k).th, (ac L k).kd, (ac L k).pl⟩) := Lib.hid rfl
              clear had
              generalize (ac L j).th = xt at *
              generalize (ac L j).kd = xk at *
              generalize (ac L j).pl = xp at *
              generalize (ac L k).th = yt at *
              generalize (ac L k).kd = yk at *
              generalize (ac L k).pl = yp at *
              go_wp2_with fail
              refine WQ.last (Since wr) (Below.refl _ _).drew 18 12 (by rfl) (by kernel_rfl) (by kernel_rfl) ?_; simp only [List.take_succ_cons, List.take_zero]
              refine WQ.val (by rfl) (fun v hv => by have k0 := hv.cell f0; have k1 := hv.cell c0; have k2 := hv.cell c1; have k3 := hv.cell c2; have k4 := hv.cell d0; have k5 := hv.cell d1; have k6 := hv.cell d2; go_simp; first | done | with_reducible rfl | (rw [if_neg (by omega)])) ?_; simp only [Act.put, List.setIfInBounds_toArray, List.set_cons_zero, List.set_cons_succ]
              refine WQ.val (by rfl) (fun v hv => by have k0 := hv.cell f0; have k1 := hv.cell c0; have k2 := hv.cell c1; have k3 := hv.cell c2; have k4 := hv.cell d0; have k5 := hv.cell d1; have k6 := hv.cell d2; go_simp; first | done | with_reducible rfl | (rw [if_neg (by omega)])) ?_; simp only [Act.put, List.setIfInBounds_toArray, List.set_cons_zero, List.set_cons_succ]
              refine WQ.val (by rfl) (fun v hv => by have k0 := hv.cell f0; have k1 := hv.cell c0; have k2 := hv.cell c1; have k3 := hv.cell c2; have k4 := hv.cell d0; have k5 := hv.cell d1; have k6 := hv.cell d2; go_simp; first | done | with_reducible rfl | (rw [if_neg (by omega)])) ?_; simp only [Act.put, List.setIfInBounds_toArray, List.set_cons_zero, List.set_cons_succ]
              refine WQ.val (by rfl) (fun v hv => by have k0 := hv.cell f0; have k1 := hv.cell c0; have k2 := hv.cell c1; have k3 := hv.cell c2; have k4 := hv.cell d0; have k5 := hv.cell d1; have k6 := hv.cell d2; go_simp; first | done | with_reducible rfl | (rw [if_neg (by omega)])) ?_; simp only [Act.put, List.setIfInBounds_toArray, List.set_cons_zero, List.set_cons_succ]
              refine WQ.val (by rfl) (fun v hv => by have k0 := hv.cell f0; have k1 := hv.cell c0; have k2 := hv.cell c1; have k3 := hv.cell c2; have k4 := hv.cell d0; have k5 := hv.cell d1; have k6 := hv.cell d2; go_simp; first | done | with_reducible rfl | (rw [if_neg (by omega)])) ?_; simp only [Act.put, List.setIfInBounds_toArray, List.set_cons_zero, List.set_cons_succ]
              refine WQ.val (by rfl) (fun v hv => by have k0 := hv.cell f0; have k1 := hv.cell c0; have k2 := hv.cell c1; have k3 := hv.cell c2; have k4 := hv.cell d0; have k5 := hv.cell d1; have k6 := hv.cell d2; go_simp; first | done | with_reducible rfl | (rw [if_neg (by omega)])) ?_; simp only [Act.put, List.setIfInBounds_toArray, List.set_cons_zero, List.set_cons_succ]
              refine WQ.val (by rfl) (fun v hv => by have k0 := hv.cell f0; have k1 := hv.cell c0; have k2 := hv.cell c1; have k3 := hv.cell c2; have k4 := hv.cell d0; have k5 := hv.cell d1; have k6 := hv.cell d2; go_simp; first | done | with_reducible rfl | (rw [if_neg (by omega)])) ?_; simp only [Act.put, List.setIfInBounds_toArray, List.set_cons_zero, List.set_cons_succ]
              refine WQ.val (by rfl) (fun v hv => by have k0 := hv.cell f0; have k1 := hv.cell c0; have k2 := hv.cell c1; have k3 := hv.cell c2; have k4 := hv.cell d0; have k5 := hv.cell d1; have k6 := hv.cell d2; go_simp; first | done | with_reducible rfl | (rw [if_neg (by omega)])) ?_; simp only [Act.put, List.setIfInBounds_toArray, List.set_cons_zero, List.set_cons_succ]
              refine WQ.val (by rfl) (fun v hv => by have k0 := hv.cell f0; have k1 := hv.cell c0; have k2 := hv.cell c1; have k3 := hv.cell c2; have k4 := hv.cell d0; have k5 := hv.cell d1; have k6 := hv.cell d2; go_simp; first | done | with_reducible rfl | (rw [if_neg (by omega)])) ?_; simp only [Act.put, List.setIfInBounds_toArray, List.set_cons_zero, List.set_cons_succ]
              refine WQ.val (by rfl) (fun v hv => by have k0 := hv.cell f0; have k1 := hv.cell c0; have k2 := hv.cell c1; have k3 := hv.cell c2; have k4 := hv.cell d0; have k5 := hv.cell d1; have k6 := hv.cell d2; go_simp; first | done | with_reducible rfl | (rw [if_neg (by omega)])) ?_; simp only [Act.put, List.setIfInBounds_toArray, List.set_cons_zero, List.set_cons_succ]
              refine WQ.val (by rfl) (fun v hv => by have k0 := hv.cell f0; have k1 := hv.cell c0; have k2 := hv.cell c1; have k3 := hv.cell c2; have k4 := hv.cell d0; have k5 := hv.cell d1; have k6 := hv.cell d2; go_simp; first | done | with_reducible rfl | (rw [if_neg (by omega)])) ?_; simp only [Act.put, List.setIfInBounds_toArray, List.set_cons_zero, List.set_cons_succ]
              refine WQ.val (by rfl) (fun v hv => by have k0 := hv.cell f0; have k1 := hv.cell c0; have k2 := hv.cell c1; have k3 := hv.cell c2; have k4 := hv.cell d0; have k5 := hv.cell d1; have k6 := hv.cell d2; go_simp; first | done | with_reducible rfl | (rw [if_neg (by omega)])) ?_; simp only [Act.put, List.setIfInBounds_toArray, List.set_cons_zero, List.set_cons_succ]
              refine WQ.val (by rfl) (fun v hv => by have k0 := hv.cell f0; have k1 := hv.cell c0; have k2 := hv.cell c1; have k3 := hv.cell c2; have k4 := hv.cell d0; have k5 := hv.cell d1; have k6 := hv.cell d2; go_simp; first | done | with_reducible rfl | (rw [if_neg (by omega)])) ?_; simp only [Act.put, List.setIfInBounds_toArray, List.set_cons_zero, List.set_cons_succ]
              refine WQ.val (by rfl) (fun v hv => by have k0 := hv.cell f0; have k1 := hv.cell c0; have k2 := hv.cell c1; have k3 := hv.cell c2; have k4 := hv.cell d0; have k5 := hv.cell d1; have k6 := hv.cell d2; go_simp; first | done | with_reducible rfl | (rw [if_neg (by omega)])) ?_; simp only [Act.put, List.setIfInBounds_toArray, List.set_cons_zero, List.set_cons_succ]
              refine WQ.val (by rfl) (fun v hv => by have k0 := hv.cell f0; have k1 := hv.cell c0; have k2 := hv.cell c1; have k3 := hv.cell c2; have k4 := hv.cell d0; have k5 := hv.cell d1; have k6 := hv.cell d2; go_simp; first | done | with_reducible rfl | (rw [if_neg (by omega)])) ?_; simp only [Act.put, List.setIfInBounds_toArray, List.set_cons_zero, List.set_cons_succ]
              refine WQ.call (f := 17) (args := #[.agg #[.int .i64 xt, .int .i64 xk, .int .i64 xp], .agg #[.int .i64 yt, .int .i64 yk, .int .i64 yp]]) (by rfl) (fun v hv => by go_simp) (fun v hv => (right_any ⟨xt, xk, xp⟩ ⟨yt, yk, yp⟩ v).mono (fun e v' ⟨he, hb⟩ => ⟨he, hv.step hb⟩)) ?_; simp only [Act.put, List.setIfInBounds_toArray, List.set_cons_zero, List.set_cons_succ]
              refine WQ.val (by rfl) (fun v hv => by have k0 := hv.cell f0; have k1 := hv.cell c0; have k2 := hv.cell c1; have k3 := hv.cell c2; have k4 := hv.cell d0; have k5 := hv.cell d1; have k6 := hv.cell d2; go_simp; first | done | with_reducible rfl | (rw [if_neg (by omega)])) ?_; simp only [Act.put, List.setIfInBounds_toArray, List.set_cons_zero, List.set_cons_succ]
              refine WQ.val (by rfl) (fun v hv => by have k0 := hv.cell f0; have k1 := hv.cell c0; have k2 := hv.cell c1; have k3 := hv.cell c2; have k4 := hv.cell d0; have k5 := hv.cell d1; have k6 := hv.cell d2; go_simp; first | done | with_reducible rfl | (rw [if_neg (by omega)])) ?_; simp only [Act.put, List.setIfInBounds_toArray, List.set_cons_zero, List.set_cons_succ]
              refine WQ.done ?_
              intro w5 hw5
              have HF5 := Lib.hid (hF.out.of_block (w' := w5) (hw5.block _ hF.out.lt))
              have HB5 := Lib.hid (hB.out.trans (Below.mono hw5 hB.out.size))
              have g0 := HF5.out.cell (show k < b + 1 by omega)
              rw [hfk] at g0
              have g1 : w5.frozen? ⟨w.heap.size, k, none⟩ = false := HF5.out.frozen k
              have HF6 := Lib.hid ((HF5.out.set k (.bool (rt ⟨xt, xk, xp⟩ ⟨yt, yk, yp⟩))).congr (g := fun i => .bool (fromF L a k (rt ⟨xt, xk, xp⟩ ⟨yt, yk, yp⟩) i)) (fun i _ => from_set L a k i _))
              have HB6 := Lib.hid (HB5.out.setCell (p := ⟨w.heap.size, k, none⟩) (Nat.le_refl _) (.bool (rt ⟨xt, xk, xp⟩ ⟨yt, yk, yp⟩)))
              have HC6 : Hid (Inner L a k (j + 1) (rt ⟨xt, xk, xp⟩ ⟨yt, yk, yp⟩)) := Lib.hid (inner_step hC.out rfl (by omega) (by omega) (by rw [HQ.out, HX.out, HY.out]; rfl))
              clear f0 e0
              refine wpOp_one rfl (by rfl) ?_
              intro K' hK'
              go_wp2_with fail
              go_roundw
              case rel => exact ⟨j + 1, (rt ⟨xt, xk, xp⟩ ⟨yt, yk, yp⟩), by omega, by omega, by go_num, HC6, HF6, HB6⟩
              case measure => simp [intOf]; omega
        · obtain rfl : j = k := by omega
          go_wp2_with fail
          go_roundw
          case rel => exact ⟨j + 1, by omega, by omega, by go_num, Lib.hid (hF.out.congr fun i _ => from_next L a j i c (inner_end (by omega) hC.out)), hB⟩
          case measure => simp [intOf]; omega
    · obtain rfl : k = b + 1 := by omega
      have g0 := hF.out.cell (show b < b + 1 by omega)
      rw [show fromF L a (b + 1) false b = hbB L a b by unfold fromF; simp] at g0
      have HN := Lib.hid (beforeB_yes hab (show b < L.length by omega))
      go_wp2_with fail
      go_ret
      exact ⟨by (rw [HN.out]) <;> rfl, hB.out⟩
end Go.Proofs.Ytccbiolgdamnpaa
