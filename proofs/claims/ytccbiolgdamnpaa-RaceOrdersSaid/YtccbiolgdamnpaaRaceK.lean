/- The walks of the reference's ahead and Before. Printed by gen_racek.py. -/
import Derived.Test.YtccbiolgdamnpaaRaceJ
namespace Go.Proofs.Ytccbiolgdamnpaa
set_option linter.unusedSimpArgs false
set_option linter.unusedVariables false
open Go Go.RowKit

/-- What is known of out, on the way down: behind k what comes ahead, at k itself c. -/
noncomputable def outF (L : List Ac) (b k : Nat) (c : Bool) (i : Nat) : Bool := if k < i then hbB L i b else if i = k then c else false
noncomputable def outG (L : List Ac) (b k : Nat) (i : Nat) : Bool := if k ≤ i then hbB L i b else false
theorem out_set (L : List Ac) (b k i : Nat) (c : Bool) : (if i = k then Value.bool c else Value.bool (outF L b k false i)) = Value.bool (outF L b k c i) := by
  unfold outF
  by_cases h : i = k
  · subst h; simp
  · simp [h]
theorem out_start (L : List Ac) (b i : Nat) (hi : i < b + 1) : (if i = b then Value.bool true else Value.bool false) = Value.bool (outG L b b i) := by
  unfold outG
  by_cases h : i = b
  · subst h; simp [hbB_self]
  · simp [h, show ¬ b ≤ i by omega]
theorem out_down (L : List Ac) (b k i : Nat) : Value.bool (outG L b (k + 1) i) = Value.bool (outF L b k false i) := by
  unfold outF outG
  by_cases h : k < i
  · simp [h, show k + 1 ≤ i by omega]
  · simp [h, show ¬ k + 1 ≤ i by omega]
theorem out_next (L : List Ac) (b k i : Nat) (c : Bool) (hc : c = hbB L k b) : Value.bool (outF L b k c i) = Value.bool (outG L b k i) := by
  unfold outF outG
  by_cases h : k < i
  · simp [h, show k ≤ i by omega]
  · by_cases h2 : i = k
    · subst h2; simp [hc]
    · simp [h, h2, show ¬ k ≤ i by omega]
def Outer (L : List Ac) (b k j : Nat) (c : Bool) : Prop := c = true ↔ ∃ m, k < m ∧ m < j ∧ rt (ac L k) (ac L m) = true ∧ HB L m b
theorem outer_start (L : List Ac) (b k : Nat) : Outer L b k (k + 1) false := ⟨fun h => (by cases h), fun ⟨m, h1, h2, _⟩ => by omega⟩
theorem outer_step {L : List Ac} {b k j : Nat} {c c' : Bool} (h : Outer L b k j c) (hc : c = false) (h1 : k < j) (h2 : j ≤ b) (e : (hbB L j b && rt (ac L k) (ac L j)) = c') : Outer L b k (j + 1) c' := by
  subst e hc
  unfold Outer at *
  rw [Bool.and_eq_true, hbB_iff]
  constructor
  · rintro ⟨g1, g2⟩; exact ⟨j, h1, by omega, g2, g1⟩
  · rintro ⟨m, g1, g2, g3, g4⟩
    rcases Nat.lt_or_eq_of_le (Nat.le_of_lt_succ g2) with g | rfl
    · exact absurd (h.2 ⟨m, g1, g, g3, g4⟩) (by simp)
    · exact ⟨g4, g3⟩
theorem outer_true {L : List Ac} {b k j : Nat} (h : Outer L b k j true) : true = hbB L k b := by
  obtain ⟨m, h1, h2, h3, h4⟩ := h.1 rfl
  exact (hbB_iff.2 ((HB.one h1 h3).trans h4)).symm
theorem outer_end {L : List Ac} {b k : Nat} {c : Bool} (hkb : k < b) (h : Outer L b k (b + 1) c) : c = hbB L k b := by
  rw [Bool.eq_iff_iff, hbB_iff, HB.iff_first hkb]
  exact h.trans ⟨fun ⟨m, h1, h2, h3, h4⟩ => ⟨m, h1, by omega, h3, h4⟩, fun ⟨m, h1, h2, h3, h4⟩ => ⟨m, h1, by omega, h3, h4⟩⟩
theorem outG_zero (L : List Ac) (b i : Nat) : Value.bool (outG L b 0 i) = Value.bool (hbB L i b) := by unfold outG; simp

set_option maxHeartbeats 8000000 in
set_option maxRecDepth 100000 in
theorem ahead_any (s : Option Addr) (cap : Nat) (L : List Ac) (b : Nat) (w : World) (hL : LogAt w s L) (hlen : L.length ≤ 200) (hbL : b < L.length) :
    Calls Try.prog 16 #[.slice s L.length cap, .int .i64 b] w fun e w' => e = .returned (.slice (some ⟨w.heap.size, 0, none⟩) (b + 1) (b + 1)) ∧ w'.rowIs w.heap.size 4 (b + 1) (fun i => .bool (hbB L i b)) ∧ Below w.heap.size w w' := by
  have HL := Lib.hid hL
  clear hL
  have hmk := run_make_row' (P := Try.prog) 39 4 (.bool false) 1 Try.underlying39 boolInfo rfl .i64 .i64 (b + 1) (by omega) (by omega) w
  rw [show ((b + 1 : Nat) : Int) = (b : Int) + 1 from by omega] at hmk
  have hrow0 := World.rowIs_made w (.bool false) (b + 1) 4
  have hrow1 := (hrow0.set b (.bool true)).congr (g := fun i => .bool (outG L b b i)) (fun i hi => out_start L b i hi)
  have hc0 := hrow0.cell (show b < b + 1 by omega)
  have hc1 := hrow0.frozen b
  have hset : (w.alloc (.cells (madeCells #[.bool false] (b + 1)) 4)).setCell ⟨w.heap.size, b, none⟩ (.bool true) = w.alloc (.cells ((madeCells #[.bool false] (b + 1)).setIfInBounds b (.bool true)) 4) := World.setCell_alloc_new _ _ _ _
  rw [hset] at hrow1
  have HR := Lib.hid hrow1
  have HB0 := Lib.hid ((Below.refl _ w).alloc (Nat.le_refl _) (.cells ((madeCells #[.bool false] (b + 1)).setIfInBounds b (.bool true)) 4))
  clear hrow0 hrow1 hset
  have hb0 : (0 : Int) ≤ (b : Int) := by omega
  have hb1 : (b : Int) < (b : Int) + 1 := by omega
  go_enter Try.func16, Try.ntmps16
  go_wp2_with fail
  clear hmk hc0 hc1
  go_loopw [6] (fun n wr => ∃ k : Nat, k ≤ b ∧ n = .int .i64 ((k : Int) - 1) ∧ Hid (wr.rowIs w.heap.size 4 (b + 1) (fun i => .bool (outG L b k i))) ∧ Hid (Below w.heap.size w wr)) (fun n _ => (intOf n + 1).toNat)
  case atStart => exact ⟨b, by omega, rfl, HR, HB0⟩
  case round =>
    clear HR HB0
    obtain ⟨k, hk1, rfl, hF, hB⟩ := hrel
    cases k with
    | succ k =>
      have ek : ((k + 1 : Nat) : Int) - 1 = (k : Int) := by omega
      rw [ek]
      have hF0 := Lib.hid (hF.out.congr fun i _ => out_down L b k i)
      clear hF
      go_wp2_with fail
      go_loopw [7] (fun m wr => ∃ (j : Nat) (c : Bool), k + 1 ≤ j ∧ j ≤ b + 1 ∧ m = .int .i64 j ∧ Hid (Outer L b k j c) ∧ Hid (wr.rowIs w.heap.size 4 (b + 1) (fun i => .bool (outF L b k c i))) ∧ Hid (Below w.heap.size w wr)) (fun m _ => b + 1 - (intOf m).toNat)
      case atStart => exact ⟨k + 1, false, by omega, by omega, by go_num, Lib.hid (outer_start L b k), hF0, hB⟩
      case round =>
        clear hF0 hB
        obtain ⟨j, c, hj1, hj2, rfl, hC, hF, hB⟩ := hrel
        have hfk : ∀ c, outF L b k c k = c := fun c => by unfold outF; simp
        have e0 := hF.out.cell (show k < b + 1 by omega)
        rw [hfk] at e0
        by_cases hjb : j ≤ b
        · cases c with
          | true =>
            go_wp2_with fail
            go_roundw
            case rel => exact ⟨k, by omega, by first | rfl | go_num, Lib.hid (hF.out.congr fun i _ => out_next L b k i true (outer_true hC.out)), hB⟩
            case measure => first | (simp [intOf]; done) | (simp [intOf]; omega)
          | false =>
            have f0 := hF.out.cell (show j < b + 1 by omega)
            rw [show outF L b k false j = hbB L j b by unfold outF; simp [show k < j by omega]] at f0
            have hj0 : (0 : Int) ≤ (j : Int) := by omega
            have hjb : (j : Int) < (b : Int) + 1 := by omega
            have hk0 : (0 : Int) ≤ (k : Int) := by omega
            have hkb1 : (k : Int) < (b : Int) + 1 := by omega
            have hjL : (j : Int) < (L.length : Int) := by omega
            have hkL : (k : Int) < (L.length : Int) := by omega
            cases hq : hbB L j b with
            | false =>
              rw [hq] at f0
              have HQ := Lib.hid hq
              clear hq
              go_wp2_with fail
              refine WQ.last (Since wr) (Below.refl _ _).drew 18 12 (by rfl) (by kernel_rfl) (by kernel_rfl) ?_; simp only [List.take_succ_cons, List.take_zero]
              refine WQ.val (by rfl) (fun v hv => by have k0 := hv.cell f0; go_simp; first | done | with_reducible rfl | (rw [if_neg (by omega)])) ?_; simp only [Act.put, List.setIfInBounds_toArray, List.set_cons_zero, List.set_cons_succ]
              refine WQ.val (by rfl) (fun v hv => by have k0 := hv.cell f0; go_simp; first | done | with_reducible rfl | (rw [if_neg (by omega)])) ?_; simp only [Act.put, List.setIfInBounds_toArray, List.set_cons_zero, List.set_cons_succ]
              refine WQ.val (by rfl) (fun v hv => by have k0 := hv.cell f0; go_simp; first | done | with_reducible rfl | (rw [if_neg (by omega)])) ?_; simp only [Act.put, List.setIfInBounds_toArray, List.set_cons_zero, List.set_cons_succ]
              refine WQ.val (by rfl) (fun v hv => by have k0 := hv.cell f0; go_simp; first | done | with_reducible rfl | (rw [if_neg (by omega)])) ?_; simp only [Act.put, List.setIfInBounds_toArray, List.set_cons_zero, List.set_cons_succ]
              refine WQ.val (by rfl) (fun v hv => by have k0 := hv.cell f0; go_simp; first | done | with_reducible rfl | (rw [if_neg (by omega)])) ?_; simp only [Act.put, List.setIfInBounds_toArray, List.set_cons_zero, List.set_cons_succ]
              refine WQ.val (by rfl) (fun v hv => by have k0 := hv.cell f0; go_simp; first | done | with_reducible rfl | (rw [if_neg (by omega)])) ?_; simp only [Act.put, List.setIfInBounds_toArray, List.set_cons_zero, List.set_cons_succ]
              refine WQ.val (by rfl) (fun v hv => by have k0 := hv.cell f0; go_simp; first | done | with_reducible rfl | (rw [if_neg (by omega)])) ?_; simp only [Act.put, List.setIfInBounds_toArray, List.set_cons_zero, List.set_cons_succ]
              refine WQ.off (by rfl) ?_; simp only [Act.put, List.setIfInBounds_toArray, List.set_cons_zero, List.set_cons_succ]
              refine WQ.off (by rfl) ?_; simp only [Act.put, List.setIfInBounds_toArray, List.set_cons_zero, List.set_cons_succ]
              refine WQ.off (by rfl) ?_; simp only [Act.put, List.setIfInBounds_toArray, List.set_cons_zero, List.set_cons_succ]
              refine WQ.off (by rfl) ?_; simp only [Act.put, List.setIfInBounds_toArray, List.set_cons_zero, List.set_cons_succ]
              refine WQ.off (by rfl) ?_; simp only [Act.put, List.setIfInBounds_toArray, List.set_cons_zero, List.set_cons_succ]
              refine WQ.off (by rfl) ?_; simp only [Act.put, List.setIfInBounds_toArray, List.set_cons_zero, List.set_cons_succ]
              refine WQ.off (by rfl) ?_; simp only [Act.put, List.setIfInBounds_toArray, List.set_cons_zero, List.set_cons_succ]
              refine WQ.off (by rfl) ?_; simp only [Act.put, List.setIfInBounds_toArray, List.set_cons_zero, List.set_cons_succ]
              refine WQ.off (by rfl) ?_; simp only [Act.put, List.setIfInBounds_toArray, List.set_cons_zero, List.set_cons_succ]
              refine WQ.val (by rfl) (fun v hv => by have k0 := hv.cell f0; go_simp; first | done | with_reducible rfl | (rw [if_neg (by omega)])) ?_; simp only [Act.put, List.setIfInBounds_toArray, List.set_cons_zero, List.set_cons_succ]
              refine WQ.val (by rfl) (fun v hv => by have k0 := hv.cell f0; go_simp; first | done | with_reducible rfl | (rw [if_neg (by omega)])) ?_; simp only [Act.put, List.setIfInBounds_toArray, List.set_cons_zero, List.set_cons_succ]
              refine WQ.done ?_
              intro w5 hw5
              have HF5 := Lib.hid (hF.out.of_block (w' := w5) (hw5.block _ hF.out.lt))
              have HB5 := Lib.hid (hB.out.trans (Below.mono hw5 hB.out.size))
              have g0 := HF5.out.cell (show k < b + 1 by omega)
              rw [hfk] at g0
              have g1 : w5.frozen? ⟨w.heap.size, k, none⟩ = false := HF5.out.frozen k
              have HF6 := Lib.hid ((HF5.out.set k (.bool false)).congr (g := fun i => .bool (outF L b k false i)) (fun i _ => out_set L b k i _))
              have HB6 := Lib.hid (HB5.out.setCell (p := ⟨w.heap.size, k, none⟩) (Nat.le_refl _) (.bool false))
              have HC6 : Hid (Outer L b k (j + 1) false) := Lib.hid (outer_step hC.out rfl (by omega) (by omega) (by rw [HQ.out]; rfl))
              clear f0 e0
              refine wpOp_one rfl (by rfl) ?_
              intro K' hK'
              go_wp2_with fail
              go_roundw
              case rel => exact ⟨j + 1, false, by omega, by omega, by go_num, HC6, HF6, HB6⟩
              case measure => first | (simp [intOf]; done) | (simp [intOf]; omega)
            | true =>
              rw [hq] at f0
              have HQ := Lib.hid hq
              clear hq
              obtain ⟨_, ad, rfl, c0, c1, c2⟩ := (HL.out.below hB.out (Nat.le_refl _)).at_ k (by omega)
              obtain ⟨_, ad', had, d0, d1, d2⟩ := (HL.out.below hB.out (Nat.le_refl _)).at_ j (by omega)
              obtain rfl := Option.some.inj had
              have HX : Hid (ac L k = ⟨(ac L k).th, (ac L k).kd, (ac L k).pl⟩) := Lib.hid rfl
              have HY : Hid (ac L j = ⟨(ac L j).th, (ac L j).kd, (ac L j).pl⟩) := Lib.hid rfl
              clear had
              generalize (ac L k).th = xt at *
              generalize (ac L k).kd = xk at *
              generalize (ac L k).pl = xp at *
              generalize (ac L j).th = yt at *
              generalize (ac L j).kd = yk at *
              generalize (ac L j).pl = yp at *
              go_wp2_with fail
              refine WQ.last (Since wr) (Below.refl _ _).drew 18 12 (by rfl) (by kernel_rfl) (by kernel_rfl) ?_; simp only [List.take_succ_cons, List.take_zero]
              refine WQ.val (by rfl) (fun v hv => by have k0 := hv.cell f0; have k1 := hv.cell c0; have k2 := hv.cell c1; have k3 := hv.cell c2; have k4 := hv.cell d0; have k5 := hv.cell d1; have k6 := hv.cell d2; go_simp; first | done | with_reducible rfl | (rw [if_neg (by omega)])) ?_; simp only [Act.put, List.setIfInBounds_toArray, List.set_cons_zero, List.set_cons_succ]
              refine WQ.val (by rfl) (fun v hv => by have k0 := hv.cell f0; have k1 := hv.cell c0; have k2 := hv.cell c1; have k3 := hv.cell c2; have k4 := hv.cell d0; have k5 := hv.cell d1; have k6 := hv.cell d2; go_simp; first | done | with_reducible rfl | (rw [if_neg (by omega)])) ?_; simp only [Act.put, List.setIfInBounds_toArray, List.set_cons_zero, List.set_cons_succ]
              refine WQ.val (by rfl) (fun v hv => by have k0 := hv.cell f0; have k1 := hv.cell c0; have k2 := hv.cell c1; have k3 := hv.cell c2; have k4 := hv.cell d0; have k5 := hv.cell d1; have k6 := hv.cell d2; go_simp; first | done | with_reducible rfl | (rw [if_neg (by omega)])) ?_; simp only [Act.put, List.setIfInBounds_toArray, List.set_cons_zero, List.set_cons_succ]
              refine WQ.val (by rfl) (fun v hv => by have k0 := hv.cell f0; have k1 := hv.cell c0; have k2 := hv.cell c1; have k3 := hv.cell c2; have k4 := hv.cell d0; have k5 := hv.cell d1; have k6 := hv.cell d2; go_simp; first | done | with_reducible rfl | (rw [if_neg (by omega)])) ?_; simp only [Act.put, List.setIfInBounds_toArray, List.set_cons_zero, List.set_cons_succ]
              refine WQ.val (by rfl) (fun v hv => by have k0 := hv.cell f0; have k1 := hv.cell c0; have k2 := hv.cell c1; have k3 := hv.cell c2; have k4 := hv.cell d0; have k5 := hv.cell d1; have k6 := hv.cell d2; go_simp; first | done | with_reducible rfl | (rw [if_neg (by omega)])) ?_; simp only [Act.put, List.setIfInBounds_toArray, List.set_cons_zero, List.set_cons_succ]
              refine WQ.val (by rfl) (fun v hv => by have k0 := hv.cell f0; have k1 := hv.cell c0; have k2 := hv.cell c1; have k3 := hv.cell c2; have k4 := hv.cell d0; have k5 := hv.cell d1; have k6 := hv.cell d2; go_simp; first | done | with_reducible rfl | (rw [if_neg (by omega)])) ?_; simp only [Act.put, List.setIfInBounds_toArray, List.set_cons_zero, List.set_cons_succ]
              refine WQ.val (by rfl) (fun v hv => by have k0 := hv.cell f0; have k1 := hv.cell c0; have k2 := hv.cell c1; have k3 := hv.cell c2; have k4 := hv.cell d0; have k5 := hv.cell d1; have k6 := hv.cell d2; go_simp; first | done | with_reducible rfl | (rw [if_neg (by omega)])) ?_; simp only [Act.put, List.setIfInBounds_toArray, List.set_cons_zero, List.set_cons_succ]
              refine WQ.val (by rfl) (fun v hv => by have k0 := hv.cell f0; have k1 := hv.cell c0; have k2 := hv.cell c1; have k3 := hv.cell c2; have k4 := hv.cell d0; have k5 := hv.cell d1; have k6 := hv.cell d2; go_simp; first | done | with_reducible rfl | (rw [if_neg (by omega)])) ?_; simp only [Act.put, List.setIfInBounds_toArray, List.set_cons_zero, List.set_cons_succ]
              refine WQ.val (by rfl) (fun v hv => by have k0 := hv.cell f0; have k1 := hv.cell c0; have k2 := hv.cell c1; have k3 := hv.cell c2; have k4 := hv.cell d0; have k5 := hv.cell d1; have k6 := hv.cell d2; go_simp; first | done | with_reducible rfl | (rw [if_neg (by omega)])) ?_; simp only [Act.put, List.setIfInBounds_toArray, List.set_cons_zero, List.set_cons_succ]
              refine WQ.val (by rfl) (fun v hv => by have k0 := hv.cell f0; have k1 := hv.cell c0; have k2 := hv.cell c1; have k3 := hv.cell c2; have k4 := hv.cell d0; have k5 := hv.cell d1; have k6 := hv.cell d2; go_simp; first | done | with_reducible rfl | (rw [if_neg (by omega)])) ?_; simp only [Act.put, List.setIfInBounds_toArray, List.set_cons_zero, List.set_cons_succ]
              refine WQ.val (by rfl) (fun v hv => by have k0 := hv.cell f0; have k1 := hv.cell c0; have k2 := hv.cell c1; have k3 := hv.cell c2; have k4 := hv.cell d0; have k5 := hv.cell d1; have k6 := hv.cell d2; go_simp; first | done | with_reducible rfl | (rw [if_neg (by omega)])) ?_; simp only [Act.put, List.setIfInBounds_toArray, List.set_cons_zero, List.set_cons_succ]
              refine WQ.val (by rfl) (fun v hv => by have k0 := hv.cell f0; have k1 := hv.cell c0; have k2 := hv.cell c1; have k3 := hv.cell c2; have k4 := hv.cell d0; have k5 := hv.cell d1; have k6 := hv.cell d2; go_simp; first | done | with_reducible rfl | (rw [if_neg (by omega)])) ?_; simp only [Act.put, List.setIfInBounds_toArray, List.set_cons_zero, List.set_cons_succ]
              refine WQ.val (by rfl) (fun v hv => by have k0 := hv.cell f0; have k1 := hv.cell c0; have k2 := hv.cell c1; have k3 := hv.cell c2; have k4 := hv.cell d0; have k5 := hv.cell d1; have k6 := hv.cell d2; go_simp; first | done | with_reducible rfl | (rw [if_neg (by omega)])) ?_; simp only [Act.put, List.setIfInBounds_toArray, List.set_cons_zero, List.set_cons_succ]
              refine WQ.val (by rfl) (fun v hv => by have k0 := hv.cell f0; have k1 := hv.cell c0; have k2 := hv.cell c1; have k3 := hv.cell c2; have k4 := hv.cell d0; have k5 := hv.cell d1; have k6 := hv.cell d2; go_simp; first | done | with_reducible rfl | (rw [if_neg (by omega)])) ?_; simp only [Act.put, List.setIfInBounds_toArray, List.set_cons_zero, List.set_cons_succ]
              refine WQ.val (by rfl) (fun v hv => by have k0 := hv.cell f0; have k1 := hv.cell c0; have k2 := hv.cell c1; have k3 := hv.cell c2; have k4 := hv.cell d0; have k5 := hv.cell d1; have k6 := hv.cell d2; go_simp; first | done | with_reducible rfl | (rw [if_neg (by omega)])) ?_; simp only [Act.put, List.setIfInBounds_toArray, List.set_cons_zero, List.set_cons_succ]
              refine WQ.call (f := 21) (args := #[.agg #[.int .i64 xt, .int .i64 xk, .int .i64 xp], .agg #[.int .i64 yt, .int .i64 yk, .int .i64 yp]]) (by rfl) (fun v hv => by go_simp) (fun v hv => (refRight_any ⟨xt, xk, xp⟩ ⟨yt, yk, yp⟩ v).mono (fun e v' ⟨he, hb⟩ => ⟨he, hv.step hb⟩)) ?_; simp only [Act.put, List.setIfInBounds_toArray, List.set_cons_zero, List.set_cons_succ]
              refine WQ.val (by rfl) (fun v hv => by have k0 := hv.cell f0; have k1 := hv.cell c0; have k2 := hv.cell c1; have k3 := hv.cell c2; have k4 := hv.cell d0; have k5 := hv.cell d1; have k6 := hv.cell d2; go_simp; first | done | with_reducible rfl | (rw [if_neg (by omega)])) ?_; simp only [Act.put, List.setIfInBounds_toArray, List.set_cons_zero, List.set_cons_succ]
              refine WQ.val (by rfl) (fun v hv => by have k0 := hv.cell f0; have k1 := hv.cell c0; have k2 := hv.cell c1; have k3 := hv.cell c2; have k4 := hv.cell d0; have k5 := hv.cell d1; have k6 := hv.cell d2; go_simp; first | done | with_reducible rfl | (rw [if_neg (by omega)])) ?_; simp only [Act.put, List.setIfInBounds_toArray, List.set_cons_zero, List.set_cons_succ]
              refine WQ.done ?_
              intro w5 hw5
              have HF5 := Lib.hid (hF.out.of_block (w' := w5) (hw5.block _ hF.out.lt))
              have HB5 := Lib.hid (hB.out.trans (Below.mono hw5 hB.out.size))
              have g0 := HF5.out.cell (show k < b + 1 by omega)
              rw [hfk] at g0
              have g1 : w5.frozen? ⟨w.heap.size, k, none⟩ = false := HF5.out.frozen k
              have HF6 := Lib.hid ((HF5.out.set k (.bool (rt ⟨xt, xk, xp⟩ ⟨yt, yk, yp⟩))).congr (g := fun i => .bool (outF L b k (rt ⟨xt, xk, xp⟩ ⟨yt, yk, yp⟩) i)) (fun i _ => out_set L b k i _))
              have HB6 := Lib.hid (HB5.out.setCell (p := ⟨w.heap.size, k, none⟩) (Nat.le_refl _) (.bool (rt ⟨xt, xk, xp⟩ ⟨yt, yk, yp⟩)))
              have HC6 : Hid (Outer L b k (j + 1) (rt ⟨xt, xk, xp⟩ ⟨yt, yk, yp⟩)) := Lib.hid (outer_step hC.out rfl (by omega) (by omega) (by rw [HQ.out, HX.out, HY.out]; rfl))
              clear f0 e0
              refine wpOp_one rfl (by rfl) ?_
              intro K' hK'
              go_wp2_with fail
              go_roundw
              case rel => exact ⟨j + 1, (rt ⟨xt, xk, xp⟩ ⟨yt, yk, yp⟩), by omega, by omega, by go_num, HC6, HF6, HB6⟩
              case measure => first | (simp [intOf]; done) | (simp [intOf]; omega)
        · obtain rfl : j = b + 1 := by omega
          go_wp2_with fail
          go_roundw
          case rel => exact ⟨k, by omega, by first | rfl | go_num, Lib.hid (hF.out.congr fun i _ => out_next L b k i c (outer_end (by omega) hC.out)), hB⟩
          case measure => first | (simp [intOf]; done) | (simp [intOf]; omega)
    | zero =>
      have hF0 := Lib.hid (hF.out.congr fun i _ => outG_zero L b i)
      clear hF
      go_wp2_with fail
      go_ret
      exact ⟨rfl, hF0.out, hB.out⟩
set_option maxHeartbeats 4000000 in
set_option maxRecDepth 100000 in
theorem refBefore_any (s : Option Addr) (cap : Nat) (L : List Ac) (x y : Int) (w : World) (hL : LogAt w s L) (hlen : L.length ≤ 200) :
    Calls Try.prog 11 #[.slice s L.length cap, .int .i64 x, .int .i64 y] w fun e w' => e = .returned (.bool (beforeB L x y)) ∧ Below w.heap.size w w' := by
  have HL := Lib.hid hL
  clear hL
  by_cases h0 : x < 0
  · have HN := Lib.hid (beforeB_no (L := L) (x := x) (y := y) (by omega))
    go_enter Try.func11, Try.ntmps11
    go_wp2_with fail
    go_ret
    exact ⟨by (rw [HN.out]) <;> rfl, Below.refl _ _⟩
  obtain ⟨a, rfl⟩ := Int.eq_ofNat_of_zero_le (show 0 ≤ x by omega)
  by_cases h2 : (L.length : Int) ≤ y
  · have HN := Lib.hid (beforeB_no (L := L) (x := (a : Int)) (y := y) (by omega))
    go_enter Try.func11, Try.ntmps11
    go_wp2_with fail
    go_ret
    exact ⟨by (rw [HN.out]) <;> rfl, Below.refl _ _⟩
  by_cases h1 : y ≤ (a : Int)
  · have HN := Lib.hid (beforeB_no (L := L) (x := (a : Int)) (y := y) (by omega))
    go_enter Try.func11, Try.ntmps11
    go_wp2_with fail
    go_ret
    exact ⟨by (rw [HN.out]) <;> rfl, Below.refl _ _⟩
  obtain ⟨b, rfl⟩ := Int.eq_ofNat_of_zero_le (show 0 ≤ y by omega)
  have hab : a < b := by omega
  have HN := Lib.hid (beforeB_yes hab (show b < L.length by omega))
  have q1 : decide ((a : Int) < 0) = false := decide_eq_false (by omega)
  go_enter Try.func11, Try.ntmps11
  go_wp2_with fail
  refine (ahead_any s cap L b w HL.out hlen (by omega)).mono ?_
  rintro e w3 ⟨rfl, hF, hB⟩
  have f0 := hF.cell (show a < b + 1 by omega)
  have HB := Lib.hid hB
  have ha0 : (0 : Int) ≤ (a : Int) := by omega
  have ha1 : (a : Int) < (b : Int) + 1 := by omega
  clear hF hB
  go_wp2_with fail
  go_ret
  exact ⟨by (rw [HN.out]) <;> rfl, HB.out⟩
end Go.Proofs.Ytccbiolgdamnpaa
