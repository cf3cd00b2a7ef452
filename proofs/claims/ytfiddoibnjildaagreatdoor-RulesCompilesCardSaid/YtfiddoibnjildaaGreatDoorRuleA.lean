/- The walks of the words of protocols, of spans' texts, of ports. Printed by gen_rulea.py. -/
import Derived.Test.YtfiddoibnjildaaGreatDoorRuleP
import Derived.Test.YtfiddoibnjildaaGreatDoorTextE
namespace Go.Proofs.YtfiddoibnjildaaGreatDoor
set_option linter.unusedSimpArgs false
set_option linter.unusedVariables false
open Go Go.RowKit

theorem word_ne {n k : Nat} (h : n ≠ k) : ((n : Int) == (k : Int)) = false := beq_eq_false_iff_ne.2 (by omega)
set_option maxHeartbeats 2000000 in
set_option maxRecDepth 100000 in
theorem refWord_any (n : Nat) (w : World) (hn : n < 256) :
    Calls Tryz.prog 12 #[.int .u8 n] w fun e w' => e = .returned (str (wordF n)) ∧ w' = w := by
  have HV : Hid (wordF n = if n = 0 then anyL else if n = 1 then icmpL else if n = 6 then tcpL else if n = 17 then udpL else []) := Lib.hid rfl
  by_cases h0 : n = 0
  · subst h0
    go_enter Tryz.func12, Tryz.ntmps12
    go_wp2_with fail
    go_ret
    exact ⟨rfl, rfl⟩
  have e0 := word_ne h0
  by_cases h1 : n = 1
  · subst h1
    go_enter Tryz.func12, Tryz.ntmps12
    go_wp2_with fail
    go_ret
    exact ⟨rfl, rfl⟩
  have e1 := word_ne h1
  by_cases h6 : n = 6
  · subst h6
    go_enter Tryz.func12, Tryz.ntmps12
    go_wp2_with fail
    go_ret
    exact ⟨rfl, rfl⟩
  have e6 := word_ne h6
  by_cases h17 : n = 17
  · subst h17
    go_enter Tryz.func12, Tryz.ntmps12
    go_wp2_with fail
    go_ret
    exact ⟨rfl, rfl⟩
  have e17 := word_ne h17
  have HV2 : Hid (wordF n = []) := Lib.hid (by rw [HV.out, if_neg h0, if_neg h1, if_neg h6, if_neg h17])
  simp only [Int.natCast_zero] at e0
  go_enter Tryz.func12, Tryz.ntmps12
  go_wp2_with fail
  go_ret
  exact ⟨by (rw [HV2.out]) <;> rfl, rfl⟩

theorem span_len {lo : Nat} (h : lo < 65536) : (Lib.decDigits lo).length ≤ 5 := dec_len_le 5 lo (by omega) (by omega)
theorem span_cells (w : World) (lo hi : Nat) : (w.alloc (.cells #[.int .u16 lo, .int .u16 hi] 42)).cell? ⟨w.heap.size, 0, none⟩ = some (.int .u16 lo) ∧ (w.alloc (.cells #[.int .u16 lo, .int .u16 hi] 42)).cell? ⟨w.heap.size, 1, none⟩ = some (.int .u16 hi) := ⟨by simp, by simp⟩
set_option maxHeartbeats 2000000 in
set_option maxRecDepth 100000 in
theorem refspan_any (lo hi : Nat) (w : World) (hlo : lo < 65536) (hhi : hi < 65536) :
    Calls Tryz.prog 34 #[.agg #[.int .u16 lo, .int .u16 hi]] w fun e w' => e = .returned (str (spanL lo hi)) ∧ Below w.heap.size w w' := by
  have B0 : Below w.heap.size w (w.alloc (.cells #[.int .u16 lo, .int .u16 hi] 42)) := (Below.refl _ _).alloc (Nat.le_refl _) _
  obtain ⟨c0, c1⟩ := span_cells w lo hi
  have HB0 := Lib.hid B0
  clear B0
  have HV : Hid (spanL lo hi = if lo = 0 ∧ hi = 65535 then anyL else if lo = hi then Lib.decDigits lo else Lib.decDigits lo ++ 45 :: Lib.decDigits hi) := Lib.hid rfl
  have ll := span_len hlo
  have lh := span_len hhi
  have CL := Lib.hid (fun v => num_val lo (lo : Int) v rfl (by omega))
  have CH := Lib.hid (fun v => num_val hi (hi : Int) v rfl (by omega))
  have wl : IntKind.i64.wrap (lo : Int) = lo := IntWalk.i64_in _ (by omega)
  have wh : IntKind.i64.wrap (hi : Int) = hi := IntWalk.i64_in _ (by omega)
  by_cases h1 : lo = 0 ∧ hi = 65535
  · obtain ⟨rfl, rfl⟩ := h1
    have HV2 : Hid (spanL 0 65535 = anyL) := Lib.hid rfl
    go_enter Tryz.func34, Tryz.ntmps34
    go_wp2_with fail
    go_ret
    exact ⟨by (rw [HV2.out]) <;> rfl, HB0.out⟩
  have hb : ((lo : Int) == 0 && (hi : Int) == 65535) = false := by
    rw [← Bool.not_eq_true]; simp; omega
  by_cases h2 : lo = hi
  · subst h2
    have HV2 : Hid (spanL lo lo = Lib.decDigits lo) := Lib.hid (by rw [HV.out, if_neg h1, if_pos rfl])
    have e1 : ((lo : Int) == 0) = true → ((lo : Int) == 65535) = false := fun h => by simp at h; subst h; rfl
    clear h1
    generalize Lib.decDigits lo = d at *
    go_enter Tryz.func34, Tryz.ntmps34
    rcases hq : ((lo : Int) == 0) with _ | _
    · clear e1
      go_wp2_with fail
      refine (CL.out _).mono ?_
      rintro e w3 ⟨rfl, h3⟩
      have HB3 := Lib.hid (below_then HB0.out h3)
      clear h3
      go_wp2_with fail
      go_ret
      exact ⟨by (rw [HV2.out]) <;> rfl, HB3.out⟩
    · have e1 := e1 hq
      go_wp2_with fail
      refine (CL.out _).mono ?_
      rintro e w3 ⟨rfl, h3⟩
      have HB3 := Lib.hid (below_then HB0.out h3)
      clear h3
      go_wp2_with fail
      go_ret
      exact ⟨by (rw [HV2.out]) <;> rfl, HB3.out⟩
  have HV2 : Hid (spanL lo hi = Lib.decDigits lo ++ 45 :: Lib.decDigits hi) := Lib.hid (by rw [HV.out, if_neg h1, if_neg h2])
  have e2 : ((lo : Int) == (hi : Int)) = false := beq_eq_false_iff_ne.2 (by omega)
  have e1 : ((lo : Int) == 0) = true → ((hi : Int) == 65535) = false := fun h => by rw [h, Bool.true_and] at hb; exact hb
  clear h1 h2 hb
  generalize Lib.decDigits lo = dl at *
  generalize Lib.decDigits hi = dh at *
  go_enter Tryz.func34, Tryz.ntmps34
  generalize hw1 : w.alloc (.cells #[.int .u16 lo, .int .u16 hi] 42) = w1 at *
  rcases hq : ((lo : Int) == 0) with _ | _
  · clear e1
    go_wp2_with fail
    refine WQ.enter w1 (Since.refl _) (by kernel_rfl) (by kernel_rfl) ?_
    refine WQ.val (by rfl) (fun v hv => by have k0 := hv.cell c0; have k1 := hv.cell c1; go_simp; first | done | with_reducible rfl | (rw [if_neg (by omega)])) ?_; simp only [Act.put, List.setIfInBounds_toArray, List.set_cons_zero, List.set_cons_succ]
    refine WQ.val (by rfl) (fun v hv => by have k0 := hv.cell c0; have k1 := hv.cell c1; go_simp; first | done | with_reducible rfl | (rw [if_neg (by omega)])) ?_; simp only [Act.put, List.setIfInBounds_toArray, List.set_cons_zero, List.set_cons_succ]
    refine WQ.val (by rfl) (fun v hv => by have k0 := hv.cell c0; have k1 := hv.cell c1; go_simp; first | done | with_reducible rfl | (rw [if_neg (by omega)])) ?_; simp only [Act.put, List.setIfInBounds_toArray, List.set_cons_zero, List.set_cons_succ]
    refine WQ.call (f := 54) (args := #[.int .i64 lo]) (by rfl) (fun v hv => by go_simp) (fun v hv => (CL.out v).mono (fun e v' ⟨he, hb⟩ => ⟨he, hv.step hb⟩)) ?_; simp only [Act.put, List.setIfInBounds_toArray, List.set_cons_zero, List.set_cons_succ]
    refine WQ.val (by rfl) (fun v hv => by have k0 := hv.cell c0; have k1 := hv.cell c1; go_simp; first | done | with_reducible rfl | (rw [if_neg (by omega)])) ?_; simp only [Act.put, List.setIfInBounds_toArray, List.set_cons_zero, List.set_cons_succ]
    refine WQ.val (by rfl) (fun v hv => by have k0 := hv.cell c0; have k1 := hv.cell c1; go_simp; first | done | with_reducible rfl | (rw [if_neg (by omega)])) ?_; simp only [Act.put, List.setIfInBounds_toArray, List.set_cons_zero, List.set_cons_succ]
    refine WQ.val (by rfl) (fun v hv => by have k0 := hv.cell c0; have k1 := hv.cell c1; go_simp; first | done | with_reducible rfl | (rw [if_neg (by omega)])) ?_; simp only [Act.put, List.setIfInBounds_toArray, List.set_cons_zero, List.set_cons_succ]
    refine WQ.val (by rfl) (fun v hv => by have k0 := hv.cell c0; have k1 := hv.cell c1; go_simp; first | done | with_reducible rfl | (rw [if_neg (by omega)])) ?_; simp only [Act.put, List.setIfInBounds_toArray, List.set_cons_zero, List.set_cons_succ]
    refine WQ.call (f := 54) (args := #[.int .i64 hi]) (by rfl) (fun v hv => by go_simp) (fun v hv => (CH.out v).mono (fun e v' ⟨he, hb⟩ => ⟨he, hv.step hb⟩)) ?_; simp only [Act.put, List.setIfInBounds_toArray, List.set_cons_zero, List.set_cons_succ]
    refine WQ.val (by rfl) (fun v hv => by have k0 := hv.cell c0; have k1 := hv.cell c1; go_simp; first | done | with_reducible rfl | (rw [if_neg (by omega)])) ?_; simp only [Act.put, List.setIfInBounds_toArray, List.set_cons_zero, List.set_cons_succ]
    refine WQ.val (by rfl) (fun v hv => by have k0 := hv.cell c0; have k1 := hv.cell c1; go_simp; first | done | with_reducible rfl | (rw [if_neg (by omega)])) ?_; simp only [Act.put, List.setIfInBounds_toArray, List.set_cons_zero, List.set_cons_succ]
    refine WQ.done ?_
    intro w5 hw5
    have HB5 := Lib.hid (below_then HB0.out hw5)
    go_wp2_with fail
    go_ret
    refine ⟨?_, HB5.out⟩
    rw [HV2.out]
    refine congrArg Ending.returned (congrArg Value.string ?_)
    apply ByteArray.ext
    simp
  · have e1 := e1 hq
    go_wp2_with fail
    refine WQ.enter w1 (Since.refl _) (by kernel_rfl) (by kernel_rfl) ?_
    refine WQ.val (by rfl) (fun v hv => by have k0 := hv.cell c0; have k1 := hv.cell c1; go_simp; first | done | with_reducible rfl | (rw [if_neg (by omega)])) ?_; simp only [Act.put, List.setIfInBounds_toArray, List.set_cons_zero, List.set_cons_succ]
    refine WQ.val (by rfl) (fun v hv => by have k0 := hv.cell c0; have k1 := hv.cell c1; go_simp; first | done | with_reducible rfl | (rw [if_neg (by omega)])) ?_; simp only [Act.put, List.setIfInBounds_toArray, List.set_cons_zero, List.set_cons_succ]
    refine WQ.val (by rfl) (fun v hv => by have k0 := hv.cell c0; have k1 := hv.cell c1; go_simp; first | done | with_reducible rfl | (rw [if_neg (by omega)])) ?_; simp only [Act.put, List.setIfInBounds_toArray, List.set_cons_zero, List.set_cons_succ]
    refine WQ.call (f := 54) (args := #[.int .i64 lo]) (by rfl) (fun v hv => by go_simp) (fun v hv => (CL.out v).mono (fun e v' ⟨he, hb⟩ => ⟨he, hv.step hb⟩)) ?_; simp only [Act.put, List.setIfInBounds_toArray, List.set_cons_zero, List.set_cons_succ]
    refine WQ.val (by rfl) (fun v hv => by have k0 := hv.cell c0; have k1 := hv.cell c1; go_simp; first | done | with_reducible rfl | (rw [if_neg (by omega)])) ?_; simp only [Act.put, List.setIfInBounds_toArray, List.set_cons_zero, List.set_cons_succ]
    refine WQ.val (by rfl) (fun v hv => by have k0 := hv.cell c0; have k1 := hv.cell c1; go_simp; first | done | with_reducible rfl | (rw [if_neg (by omega)])) ?_; simp only [Act.put, List.setIfInBounds_toArray, List.set_cons_zero, List.set_cons_succ]
    refine WQ.val (by rfl) (fun v hv => by have k0 := hv.cell c0; have k1 := hv.cell c1; go_simp; first | done | with_reducible rfl | (rw [if_neg (by omega)])) ?_; simp only [Act.put, List.setIfInBounds_toArray, List.set_cons_zero, List.set_cons_succ]
    refine WQ.val (by rfl) (fun v hv => by have k0 := hv.cell c0; have k1 := hv.cell c1; go_simp; first | done | with_reducible rfl | (rw [if_neg (by omega)])) ?_; simp only [Act.put, List.setIfInBounds_toArray, List.set_cons_zero, List.set_cons_succ]
    refine WQ.call (f := 54) (args := #[.int .i64 hi]) (by rfl) (fun v hv => by go_simp) (fun v hv => (CH.out v).mono (fun e v' ⟨he, hb⟩ => ⟨he, hv.step hb⟩)) ?_; simp only [Act.put, List.setIfInBounds_toArray, List.set_cons_zero, List.set_cons_succ]
    refine WQ.val (by rfl) (fun v hv => by have k0 := hv.cell c0; have k1 := hv.cell c1; go_simp; first | done | with_reducible rfl | (rw [if_neg (by omega)])) ?_; simp only [Act.put, List.setIfInBounds_toArray, List.set_cons_zero, List.set_cons_succ]
    refine WQ.val (by rfl) (fun v hv => by have k0 := hv.cell c0; have k1 := hv.cell c1; go_simp; first | done | with_reducible rfl | (rw [if_neg (by omega)])) ?_; simp only [Act.put, List.setIfInBounds_toArray, List.set_cons_zero, List.set_cons_succ]
    refine WQ.done ?_
    intro w5 hw5
    have HB5 := Lib.hid (below_then HB0.out hw5)
    go_wp2_with fail
    go_ret
    refine ⟨?_, HB5.out⟩
    rw [HV2.out]
    refine congrArg Ending.returned (congrArg Value.string ?_)
    apply ByteArray.ext
    simp
theorem itoa_val (n : Nat) (i : Int) (w : World) (hi : i = n) (h1 : n ≤ 9223372036854775807) (hT : Tabs w) :
    Calls Tryz.prog 59 #[.int .i64 i] w fun e w' => e = .returned (str (Lib.decDigits n)) ∧ Below w.heap.size w w' := by
  subst hi
  exact itoa_nat n w (by omega) hT
set_option maxHeartbeats 2000000 in
set_option maxRecDepth 100000 in
theorem spanShow_any (lo hi : Nat) (w : World) (hlo : lo < 65536) (hhi : hi < 65536) (hT : Tabs w) :
    Calls Tryz.prog 53 #[.agg #[.int .u16 lo, .int .u16 hi]] w fun e w' => e = .returned (str (spanL lo hi)) ∧ Below w.heap.size w w' := by
  have B0 : Below w.heap.size w (w.alloc (.cells #[.int .u16 lo, .int .u16 hi] 42)) := (Below.refl _ _).alloc (Nat.le_refl _) _
  obtain ⟨c0, c1⟩ := span_cells w lo hi
  have HT1 := Lib.hid (hT.below B0)
  have HB0 := Lib.hid B0
  clear B0 hT
  have HV : Hid (spanL lo hi = if lo = 0 ∧ hi = 65535 then anyL else if lo = hi then Lib.decDigits lo else Lib.decDigits lo ++ 45 :: Lib.decDigits hi) := Lib.hid rfl
  have ll := span_len hlo
  have lh := span_len hhi
  have CL := Lib.hid (fun v hv => itoa_val lo (lo : Int) v rfl (by omega) hv)
  have CH := Lib.hid (fun v hv => itoa_val hi (hi : Int) v rfl (by omega) hv)
  have wl : IntKind.i64.wrap (lo : Int) = lo := IntWalk.i64_in _ (by omega)
  have wh : IntKind.i64.wrap (hi : Int) = hi := IntWalk.i64_in _ (by omega)
  generalize hdl : Lib.decDigits lo = dl at *
  generalize hdh : Lib.decDigits hi = dh at *
  have HE : Hid (lo = hi → dl = dh) := Lib.hid (fun h => by rw [← hdl, ← hdh, h])
  clear hdl hdh
  go_enter Tryz.func53, Tryz.ntmps53
  generalize hw1 : w.alloc (.cells #[.int .u16 lo, .int .u16 hi] 42) = w1 at *
  go_wp2_with fail
  refine WQ.enter w1 (Since.refl _) (by kernel_rfl) (by kernel_rfl) ?_
  refine WQ.val (by rfl) (fun v hv => by have k0 := hv.cell c0; have k1 := hv.cell c1; go_simp; first | done | with_reducible rfl | (rw [if_neg (by omega)])) ?_; simp only [Act.put, List.setIfInBounds_toArray, List.set_cons_zero, List.set_cons_succ]
  refine WQ.val (by rfl) (fun v hv => by have k0 := hv.cell c0; have k1 := hv.cell c1; go_simp; first | done | with_reducible rfl | (rw [if_neg (by omega)])) ?_; simp only [Act.put, List.setIfInBounds_toArray, List.set_cons_zero, List.set_cons_succ]
  refine WQ.val (by rfl) (fun v hv => by have k0 := hv.cell c0; have k1 := hv.cell c1; go_simp; first | done | with_reducible rfl | (rw [if_neg (by omega)])) ?_; simp only [Act.put, List.setIfInBounds_toArray, List.set_cons_zero, List.set_cons_succ]
  refine WQ.call (f := 59) (args := #[.int .i64 lo]) (by rfl) (fun v hv => by go_simp) (fun v hv => (CL.out v (HT1.out.below hv)).mono (fun e v' ⟨he, hb⟩ => ⟨he, hv.step hb⟩)) ?_; simp only [Act.put, List.setIfInBounds_toArray, List.set_cons_zero, List.set_cons_succ]
  refine WQ.val (by rfl) (fun v hv => by have k0 := hv.cell c0; have k1 := hv.cell c1; go_simp; first | done | with_reducible rfl | (rw [if_neg (by omega)])) ?_; simp only [Act.put, List.setIfInBounds_toArray, List.set_cons_zero, List.set_cons_succ]
  refine WQ.val (by rfl) (fun v hv => by have k0 := hv.cell c0; have k1 := hv.cell c1; go_simp; first | done | with_reducible rfl | (rw [if_neg (by omega)])) ?_; simp only [Act.put, List.setIfInBounds_toArray, List.set_cons_zero, List.set_cons_succ]
  refine WQ.val (by rfl) (fun v hv => by have k0 := hv.cell c0; have k1 := hv.cell c1; go_simp; first | done | with_reducible rfl | (rw [if_neg (by omega)])) ?_; simp only [Act.put, List.setIfInBounds_toArray, List.set_cons_zero, List.set_cons_succ]
  refine WQ.call (f := 59) (args := #[.int .i64 hi]) (by rfl) (fun v hv => by go_simp) (fun v hv => (CH.out v (HT1.out.below hv)).mono (fun e v' ⟨he, hb⟩ => ⟨he, hv.step hb⟩)) ?_; simp only [Act.put, List.setIfInBounds_toArray, List.set_cons_zero, List.set_cons_succ]
  refine WQ.val (by rfl) (fun v hv => by have k0 := hv.cell c0; have k1 := hv.cell c1; go_simp; first | done | with_reducible rfl | (rw [if_neg (by omega)])) ?_; simp only [Act.put, List.setIfInBounds_toArray, List.set_cons_zero, List.set_cons_succ]
  refine WQ.val (by rfl) (fun v hv => by have k0 := hv.cell c0; have k1 := hv.cell c1; go_simp; first | done | with_reducible rfl | (rw [if_neg (by omega)])) ?_; simp only [Act.put, List.setIfInBounds_toArray, List.set_cons_zero, List.set_cons_succ]
  refine WQ.done ?_
  intro w5 hw5
  have HB5 := Lib.hid (below_then HB0.out hw5)
  have d0 := Since.cell hw5 c0
  have d1 := Since.cell hw5 c1
  clear c0 c1 hw5
  by_cases h1 : lo = 0 ∧ hi = 65535
  · have HV2 : Hid (spanL lo hi = anyL) := Lib.hid (by rw [HV.out, if_pos h1])
    obtain ⟨rfl, rfl⟩ := h1
    go_wp2_with fail
    go_ret
    exact ⟨by (rw [HV2.out]) <;> rfl, HB5.out⟩
  have hb : ((lo : Int) == 0 && (hi : Int) == 65535) = false := by
    rw [← Bool.not_eq_true]; simp; omega
  have e1 : ((lo : Int) == 0) = true → ((hi : Int) == 65535) = false := fun h => by rw [h, Bool.true_and] at hb; exact hb
  clear hb
  by_cases h2 : lo = hi
  · have HV2 : Hid (spanL lo hi = dl) := Lib.hid (by rw [HV.out, if_neg h1, if_pos h2])
    have e2 : ((lo : Int) == (hi : Int)) = true := by simp [h2]
    clear h1 h2
    rcases hq : ((lo : Int) == 0) with _ | _
    · clear e1
      go_wp2_with fail
      go_ret
      exact ⟨by (rw [HV2.out]) <;> rfl, HB5.out⟩
    · have e1 := e1 hq
      go_wp2_with fail
      go_ret
      exact ⟨by (rw [HV2.out]) <;> rfl, HB5.out⟩
  · have HV2 : Hid (spanL lo hi = dl ++ 45 :: dh) := Lib.hid (by rw [HV.out, if_neg h1, if_neg h2])
    have e2 : ((lo : Int) == (hi : Int)) = false := beq_eq_false_iff_ne.2 (by omega)
    clear h1 h2
    rcases hq : ((lo : Int) == 0) with _ | _
    · clear e1
      go_wp2_with fail
      go_ret
      refine ⟨?_, HB5.out⟩
      rw [HV2.out]
      refine congrArg Ending.returned (congrArg Value.string ?_)
      apply ByteArray.ext
      simp
    · have e1 := e1 hq
      go_wp2_with fail
      go_ret
      refine ⟨?_, HB5.out⟩
      rw [HV2.out]
      refine congrArg Ending.returned (congrArg Value.string ?_)
      apply ByteArray.ext
      simp
theorem numT_numV (l : List UInt8) : numT l = (numV l : Nat) ∧ isNum l big62 = isNum l big62' := by
  refine ⟨?_, rfl⟩
  unfold numT numV
  have : isNum l big62 = isNum l big62' := rfl
  rw [this]
  split <;> rfl
theorem numV_lt (l : List UInt8) : numV l ≤ 4611686018427387904 := by
  unfold numV
  split
  · rename_i h
    obtain ⟨n, h1, h2⟩ := isNum_iff.1 h
    rw [h2, valOf_dec]; exact h1
  · omega
set_option maxHeartbeats 2000000 in
set_option maxRecDepth 100000 in
theorem port_any (s : ByteArray) (w : World) (hs : s.size ≤ 140737488351232) (hT : Tabs w) :
    Calls Tryz.prog 52 #[.string s] w fun e w' => e = .returned (.tuple #[.int .u16 ((numV s.data.toList % 65536 : Nat) : Int), .bool (portB s.data.toList)]) ∧ Below w.heap.size w w' := by
  have HN := Lib.hid (number_text s w hs hT)
  rw [(numT_numV _).1] at HN
  have hlt := numV_lt s.data.toList
  have HP : Hid (portB s.data.toList = (isNum s.data.toList big62 && decide (numV s.data.toList ≤ 65535))) := Lib.hid rfl
  clear hs hT
  generalize portB s.data.toList = pb at *
  generalize isNum s.data.toList big62 = nb at *
  generalize numV s.data.toList = n at *
  have hw : IntKind.u16.wrap (n : Int) = ((n % 65536 : Nat) : Int) := by
    have : IntKind.u16.wrap (n : Int) = (n : Int) % 65536 := rfl
    rw [this]; omega
  go_enter Tryz.func52, Tryz.ntmps52
  go_wp2_with fail
  refine HN.out.mono ?_
  rintro e w1 ⟨rfl, h1⟩
  have HB := Lib.hid h1
  clear h1 HN
  cases nb with
  | false =>
    have HP2 : Hid (pb = false) := Lib.hid (by rw [HP.out]; rfl)
    go_wp2_with fail
    go_ret2
    exact ⟨by (rw [HP2.out]) <;> rfl, HB.out⟩
  | true =>
    by_cases h : n ≤ 65535
    · have HP2 : Hid (pb = true) := Lib.hid (by rw [HP.out, Bool.true_and]; exact decide_eq_true h)
      have hh : decide ((n : Int) ≤ 65535) = true := decide_eq_true (by omega)
      go_wp2_with fail
      go_ret2
      exact ⟨by (rw [HP2.out]) <;> rfl, HB.out⟩
    · have HP2 : Hid (pb = false) := Lib.hid (by rw [HP.out, Bool.true_and]; exact decide_eq_false h)
      have hh : decide ((n : Int) ≤ 65535) = false := decide_eq_false (by omega)
      go_wp2_with fail
      go_ret2
      exact ⟨by (rw [HP2.out]) <;> rfl, HB.out⟩
end Go.Proofs.YtfiddoibnjildaaGreatDoor
