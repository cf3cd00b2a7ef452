/- The walks of rules.line and of the reference's Line. Printed by gen_rulef.py. -/
import Derived.Test.YtfiddoibnjildaaGreatDoorRuleE
import Derived.Test.YtfiddoibnjildaaGreatDoorRegL
namespace Go.Proofs.YtfiddoibnjildaaGreatDoor
set_option linter.unusedSimpArgs false
set_option linter.unusedVariables false
open Go Go.RowKit

theorem netL_fst (a : Nat) (n : Int) : (showF a n).1 = netL a n := by
  unfold showF netL
  cases showNet a n <;> rfl
theorem word_len (n : Nat) : (wordF n).length ≤ 4 := by
  unfold wordF
  split
  · decide
  · split
    · decide
    · split
      · decide
      · split <;> decide
theorem net_len (a : Nat) (n : Int) : (netL a n).length ≤ 18 := by
  unfold netL showNet
  split
  · rename_i h
    have := may_bits h
    simp only [Option.getD_some]
    split
    · decide
    · have h1 := show_len a
      have h2 := dec_len_le 2 n.toNat (by omega) (by omega)
      simp only [List.length_append, List.length_cons]
      omega
  · simp
theorem spanL_len {lo hi : Nat} (h1 : lo < 65536) (h2 : hi < 65536) : (spanL lo hi).length ≤ 11 := by
  unfold spanL
  have a1 := span_len h1
  have a2 := span_len h2
  split
  · decide
  · split
    · omega
    · simp only [List.length_append, List.length_cons]; omega
/-- A rule's line without its end. -/
def lineS (r : Rl) : List UInt8 := Lib.join (wordsR r) [32]
theorem lineS_eq (r : Rl) : lineS r = actL r.acc ++ [32] ++ wordF r.pr ++ [32] ++ netL r.sa r.sb ++ [32] ++ spanL r.sl r.sh ++ [32] ++ netL r.da r.db ++ [32] ++ spanL r.dl r.dh := by
  unfold lineS wordsR
  rw [Lib.join_cons]
  simp [Lib.joinTail]

set_option maxHeartbeats 4000000 in
set_option maxRecDepth 100000 in
theorem refLine_any (r : Rl) (w : World) (hr : r.In) :
    Calls Tryz.prog 15 #[ruleW r] w fun e w' => e = .returned (str (lineS r)) ∧ Below w.heap.size w w' := by
  have HL := Lib.hid (lineS_eq r)
  have H1 := Lib.hid (fun W => refShow_any r.sa r.sb W hr.sa)
  have H2 := Lib.hid (fun W => refShow_any r.da r.db W hr.da)
  have HW := Lib.hid (fun W => (refWord_any r.pr W hr.pr).mono fun e w' h => (show e = .returned (str (wordF r.pr)) ∧ Below W.heap.size W w' from ⟨h.1, by rw [h.2]; exact Below.refl _ _⟩))
  have HS1 := Lib.hid (fun W => refspan_any r.sl r.sh W hr.sl hr.sh)
  have HS2 := Lib.hid (fun W => refspan_any r.dl r.dh W hr.dl hr.dh)
  have lw := word_len r.pr
  have l1 := net_len r.sa r.sb
  have l2 := net_len r.da r.db
  have l3 := spanL_len hr.sl hr.sh
  have l4 := spanL_len hr.dl hr.dh
  have e1 := netL_fst r.sa r.sb
  have e2 := netL_fst r.da r.db
  obtain ⟨acc, pr, sa, sb, da, db, sl, sh, dl, dh⟩ := r
  simp only at HL H1 H2 HW HS1 HS2 lw l1 l2 l3 l4 e1 e2
  rw [← e1] at HL l1
  rw [← e2] at HL l2
  generalize lineS ⟨acc, pr, sa, sb, da, db, sl, sh, dl, dh⟩ = res at *
  clear e1 e2
  generalize showF sa sb = q1 at *
  generalize showF da db = q2 at *
  obtain ⟨t1, z1⟩ := q1
  obtain ⟨t2, z2⟩ := q2
  generalize wordF pr = wd at *
  generalize spanL sl sh = p1 at *
  generalize spanL dl dh = p2 at *
  simp only at l1 l2 HL
  have B0 : Below w.heap.size w (ruleBox w acc pr sa sb da db sl sh dl dh) := (Below.refl _ _).alloc (Nat.le_refl _) _
  have X0 := BoxAt.new w acc pr sa sb da db sl sh dl dh
  have HB0 := Lib.hid B0
  have HX0 := Lib.hid X0
  clear B0 hr
  obtain ⟨c0, c1, c2, c3, c4, c5, c6, c7, c8, c9⟩ := X0
  cases acc with
  | false =>
    go_enter Tryz.func15, Tryz.ntmps15
    go_wp2_with fail
    clear c0 c1 c2 c3 c4 c5 c6 c7 c8 c9
    refine (H1.out _).mono ?_
    rintro e w2 ⟨rfl, h2⟩
    have HB2 := Lib.hid (below_then HB0.out h2)
    have HX2 := Lib.hid (HX0.out.below h2)
    obtain ⟨c0, c1, c2, c3, c4, c5, c6, c7, c8, c9⟩ := HX2.out
    clear h2
    go_wp2_with fail
    clear c0 c1 c2 c3 c4 c5 c6 c7 c8 c9
    refine (H2.out _).mono ?_
    rintro e wr ⟨rfl, h3⟩
    have HB3 := Lib.hid (below_then HB2.out h3)
    have HX3 := Lib.hid (HX2.out.below h3)
    obtain ⟨c0, c1, c2, c3, c4, c5, c6, c7, c8, c9⟩ := HX3.out
    clear h3
    go_wp2_with fail
    refine WQ.enter wr (Since.refl _) (by kernel_rfl) (by kernel_rfl) ?_
    refine WQ.val (by rfl) (fun v hv => by have k0 := hv.cell c0; have k1 := hv.cell c1; have k2 := hv.cell c2; have k3 := hv.cell c3; have k4 := hv.cell c4; have k5 := hv.cell c5; have k6 := hv.cell c6; have k7 := hv.cell c7; have k8 := hv.cell c8; have k9 := hv.cell c9; go_simp; first | done | with_reducible rfl | (rw [if_neg (by omega)])) ?_; simp only [Act.put, List.setIfInBounds_toArray, List.set_cons_zero, List.set_cons_succ]
    refine WQ.val (by rfl) (fun v hv => by have k0 := hv.cell c0; have k1 := hv.cell c1; have k2 := hv.cell c2; have k3 := hv.cell c3; have k4 := hv.cell c4; have k5 := hv.cell c5; have k6 := hv.cell c6; have k7 := hv.cell c7; have k8 := hv.cell c8; have k9 := hv.cell c9; go_simp; first | done | with_reducible rfl | (rw [if_neg (by omega)])) ?_; simp only [Act.put, List.setIfInBounds_toArray, List.set_cons_zero, List.set_cons_succ]
    refine WQ.val (by rfl) (fun v hv => by have k0 := hv.cell c0; have k1 := hv.cell c1; have k2 := hv.cell c2; have k3 := hv.cell c3; have k4 := hv.cell c4; have k5 := hv.cell c5; have k6 := hv.cell c6; have k7 := hv.cell c7; have k8 := hv.cell c8; have k9 := hv.cell c9; go_simp; first | done | with_reducible rfl | (rw [if_neg (by omega)])) ?_; simp only [Act.put, List.setIfInBounds_toArray, List.set_cons_zero, List.set_cons_succ]
    refine WQ.call (f := 12) (args := #[.int .u8 pr]) (by rfl) (fun v hv => by go_simp) (fun v hv => (HW.out v).mono (fun e v' ⟨he, hb⟩ => ⟨he, hv.step hb⟩)) ?_; simp only [Act.put, List.setIfInBounds_toArray, List.set_cons_zero, List.set_cons_succ]
    refine WQ.val (by rfl) (fun v hv => by have k0 := hv.cell c0; have k1 := hv.cell c1; have k2 := hv.cell c2; have k3 := hv.cell c3; have k4 := hv.cell c4; have k5 := hv.cell c5; have k6 := hv.cell c6; have k7 := hv.cell c7; have k8 := hv.cell c8; have k9 := hv.cell c9; go_simp; first | done | with_reducible rfl | (rw [if_neg (by omega)])) ?_; simp only [Act.put, List.setIfInBounds_toArray, List.set_cons_zero, List.set_cons_succ]
    refine WQ.val (by rfl) (fun v hv => by have k0 := hv.cell c0; have k1 := hv.cell c1; have k2 := hv.cell c2; have k3 := hv.cell c3; have k4 := hv.cell c4; have k5 := hv.cell c5; have k6 := hv.cell c6; have k7 := hv.cell c7; have k8 := hv.cell c8; have k9 := hv.cell c9; go_simp; first | done | with_reducible rfl | (rw [if_neg (by omega)])) ?_; simp only [Act.put, List.setIfInBounds_toArray, List.set_cons_zero, List.set_cons_succ]
    refine WQ.val (by rfl) (fun v hv => by have k0 := hv.cell c0; have k1 := hv.cell c1; have k2 := hv.cell c2; have k3 := hv.cell c3; have k4 := hv.cell c4; have k5 := hv.cell c5; have k6 := hv.cell c6; have k7 := hv.cell c7; have k8 := hv.cell c8; have k9 := hv.cell c9; go_simp; first | done | with_reducible rfl | (rw [if_neg (by omega)])) ?_; simp only [Act.put, List.setIfInBounds_toArray, List.set_cons_zero, List.set_cons_succ]
    refine WQ.val (by rfl) (fun v hv => by have k0 := hv.cell c0; have k1 := hv.cell c1; have k2 := hv.cell c2; have k3 := hv.cell c3; have k4 := hv.cell c4; have k5 := hv.cell c5; have k6 := hv.cell c6; have k7 := hv.cell c7; have k8 := hv.cell c8; have k9 := hv.cell c9; go_simp; first | done | with_reducible rfl | (rw [if_neg (by omega)])) ?_; simp only [Act.put, List.setIfInBounds_toArray, List.set_cons_zero, List.set_cons_succ]
    refine WQ.val (by rfl) (fun v hv => by have k0 := hv.cell c0; have k1 := hv.cell c1; have k2 := hv.cell c2; have k3 := hv.cell c3; have k4 := hv.cell c4; have k5 := hv.cell c5; have k6 := hv.cell c6; have k7 := hv.cell c7; have k8 := hv.cell c8; have k9 := hv.cell c9; go_simp; first | done | with_reducible rfl | (rw [if_neg (by omega)])) ?_; simp only [Act.put, List.setIfInBounds_toArray, List.set_cons_zero, List.set_cons_succ]
    refine WQ.val (by rfl) (fun v hv => by have k0 := hv.cell c0; have k1 := hv.cell c1; have k2 := hv.cell c2; have k3 := hv.cell c3; have k4 := hv.cell c4; have k5 := hv.cell c5; have k6 := hv.cell c6; have k7 := hv.cell c7; have k8 := hv.cell c8; have k9 := hv.cell c9; go_simp; first | done | with_reducible rfl | (rw [if_neg (by omega)])) ?_; simp only [Act.put, List.setIfInBounds_toArray, List.set_cons_zero, List.set_cons_succ]
    refine WQ.val (by rfl) (fun v hv => by have k0 := hv.cell c0; have k1 := hv.cell c1; have k2 := hv.cell c2; have k3 := hv.cell c3; have k4 := hv.cell c4; have k5 := hv.cell c5; have k6 := hv.cell c6; have k7 := hv.cell c7; have k8 := hv.cell c8; have k9 := hv.cell c9; go_simp; first | done | with_reducible rfl | (rw [if_neg (by omega)])) ?_; simp only [Act.put, List.setIfInBounds_toArray, List.set_cons_zero, List.set_cons_succ]
    refine WQ.call (f := 34) (args := #[.agg #[.int .u16 sl, .int .u16 sh]]) (by rfl) (fun v hv => by go_simp) (fun v hv => (HS1.out v).mono (fun e v' ⟨he, hb⟩ => ⟨he, hv.step hb⟩)) ?_; simp only [Act.put, List.setIfInBounds_toArray, List.set_cons_zero, List.set_cons_succ]
    refine WQ.val (by rfl) (fun v hv => by have k0 := hv.cell c0; have k1 := hv.cell c1; have k2 := hv.cell c2; have k3 := hv.cell c3; have k4 := hv.cell c4; have k5 := hv.cell c5; have k6 := hv.cell c6; have k7 := hv.cell c7; have k8 := hv.cell c8; have k9 := hv.cell c9; go_simp; first | done | with_reducible rfl | (rw [if_neg (by omega)])) ?_; simp only [Act.put, List.setIfInBounds_toArray, List.set_cons_zero, List.set_cons_succ]
    refine WQ.val (by rfl) (fun v hv => by have k0 := hv.cell c0; have k1 := hv.cell c1; have k2 := hv.cell c2; have k3 := hv.cell c3; have k4 := hv.cell c4; have k5 := hv.cell c5; have k6 := hv.cell c6; have k7 := hv.cell c7; have k8 := hv.cell c8; have k9 := hv.cell c9; go_simp; first | done | with_reducible rfl | (rw [if_neg (by omega)])) ?_; simp only [Act.put, List.setIfInBounds_toArray, List.set_cons_zero, List.set_cons_succ]
    refine WQ.val (by rfl) (fun v hv => by have k0 := hv.cell c0; have k1 := hv.cell c1; have k2 := hv.cell c2; have k3 := hv.cell c3; have k4 := hv.cell c4; have k5 := hv.cell c5; have k6 := hv.cell c6; have k7 := hv.cell c7; have k8 := hv.cell c8; have k9 := hv.cell c9; go_simp; first | done | with_reducible rfl | (rw [if_neg (by omega)])) ?_; simp only [Act.put, List.setIfInBounds_toArray, List.set_cons_zero, List.set_cons_succ]
    refine WQ.val (by rfl) (fun v hv => by have k0 := hv.cell c0; have k1 := hv.cell c1; have k2 := hv.cell c2; have k3 := hv.cell c3; have k4 := hv.cell c4; have k5 := hv.cell c5; have k6 := hv.cell c6; have k7 := hv.cell c7; have k8 := hv.cell c8; have k9 := hv.cell c9; go_simp; first | done | with_reducible rfl | (rw [if_neg (by omega)])) ?_; simp only [Act.put, List.setIfInBounds_toArray, List.set_cons_zero, List.set_cons_succ]
    refine WQ.val (by rfl) (fun v hv => by have k0 := hv.cell c0; have k1 := hv.cell c1; have k2 := hv.cell c2; have k3 := hv.cell c3; have k4 := hv.cell c4; have k5 := hv.cell c5; have k6 := hv.cell c6; have k7 := hv.cell c7; have k8 := hv.cell c8; have k9 := hv.cell c9; go_simp; first | done | with_reducible rfl | (rw [if_neg (by omega)])) ?_; simp only [Act.put, List.setIfInBounds_toArray, List.set_cons_zero, List.set_cons_succ]
    refine WQ.val (by rfl) (fun v hv => by have k0 := hv.cell c0; have k1 := hv.cell c1; have k2 := hv.cell c2; have k3 := hv.cell c3; have k4 := hv.cell c4; have k5 := hv.cell c5; have k6 := hv.cell c6; have k7 := hv.cell c7; have k8 := hv.cell c8; have k9 := hv.cell c9; go_simp; first | done | with_reducible rfl | (rw [if_neg (by omega)])) ?_; simp only [Act.put, List.setIfInBounds_toArray, List.set_cons_zero, List.set_cons_succ]
    refine WQ.val (by rfl) (fun v hv => by have k0 := hv.cell c0; have k1 := hv.cell c1; have k2 := hv.cell c2; have k3 := hv.cell c3; have k4 := hv.cell c4; have k5 := hv.cell c5; have k6 := hv.cell c6; have k7 := hv.cell c7; have k8 := hv.cell c8; have k9 := hv.cell c9; go_simp; first | done | with_reducible rfl | (rw [if_neg (by omega)])) ?_; simp only [Act.put, List.setIfInBounds_toArray, List.set_cons_zero, List.set_cons_succ]
    refine WQ.call (f := 34) (args := #[.agg #[.int .u16 dl, .int .u16 dh]]) (by rfl) (fun v hv => by go_simp) (fun v hv => (HS2.out v).mono (fun e v' ⟨he, hb⟩ => ⟨he, hv.step hb⟩)) ?_; simp only [Act.put, List.setIfInBounds_toArray, List.set_cons_zero, List.set_cons_succ]
    refine WQ.val (by rfl) (fun v hv => by have k0 := hv.cell c0; have k1 := hv.cell c1; have k2 := hv.cell c2; have k3 := hv.cell c3; have k4 := hv.cell c4; have k5 := hv.cell c5; have k6 := hv.cell c6; have k7 := hv.cell c7; have k8 := hv.cell c8; have k9 := hv.cell c9; go_simp; first | done | with_reducible rfl | (rw [if_neg (by omega)])) ?_; simp only [Act.put, List.setIfInBounds_toArray, List.set_cons_zero, List.set_cons_succ]
    refine WQ.val (by rfl) (fun v hv => by have k0 := hv.cell c0; have k1 := hv.cell c1; have k2 := hv.cell c2; have k3 := hv.cell c3; have k4 := hv.cell c4; have k5 := hv.cell c5; have k6 := hv.cell c6; have k7 := hv.cell c7; have k8 := hv.cell c8; have k9 := hv.cell c9; go_simp; first | done | with_reducible rfl | (rw [if_neg (by omega)])) ?_; simp only [Act.put, List.setIfInBounds_toArray, List.set_cons_zero, List.set_cons_succ]
    refine WQ.done ?_
    intro w5 hw5
    have HB5 := Lib.hid (below_then HB3.out hw5)
    clear hw5 c0 c1 c2 c3 c4 c5 c6 c7 c8 c9
    go_wp2_with fail
    go_ret
    refine ⟨?_, HB5.out⟩
    rw [HL.out]
    refine congrArg Ending.returned (congrArg Value.string ?_)
    apply ByteArray.ext
    simp [actL, acceptL, dropL]
  | true =>
    go_enter Tryz.func15, Tryz.ntmps15
    go_wp2_with fail
    clear c0 c1 c2 c3 c4 c5 c6 c7 c8 c9
    refine (H1.out _).mono ?_
    rintro e w2 ⟨rfl, h2⟩
    have HB2 := Lib.hid (below_then HB0.out h2)
    have HX2 := Lib.hid (HX0.out.below h2)
    obtain ⟨c0, c1, c2, c3, c4, c5, c6, c7, c8, c9⟩ := HX2.out
    clear h2
    go_wp2_with fail
    clear c0 c1 c2 c3 c4 c5 c6 c7 c8 c9
    refine (H2.out _).mono ?_
    rintro e wr ⟨rfl, h3⟩
    have HB3 := Lib.hid (below_then HB2.out h3)
    have HX3 := Lib.hid (HX2.out.below h3)
    obtain ⟨c0, c1, c2, c3, c4, c5, c6, c7, c8, c9⟩ := HX3.out
    clear h3
    go_wp2_with fail
    refine WQ.enter wr (Since.refl _) (by kernel_rfl) (by kernel_rfl) ?_
    refine WQ.val (by rfl) (fun v hv => by have k0 := hv.cell c0; have k1 := hv.cell c1; have k2 := hv.cell c2; have k3 := hv.cell c3; have k4 := hv.cell c4; have k5 := hv.cell c5; have k6 := hv.cell c6; have k7 := hv.cell c7; have k8 := hv.cell c8; have k9 := hv.cell c9; go_simp; first | done | with_reducible rfl | (rw [if_neg (by omega)])) ?_; simp only [Act.put, List.setIfInBounds_toArray, List.set_cons_zero, List.set_cons_succ]
    refine WQ.val (by rfl) (fun v hv => by have k0 := hv.cell c0; have k1 := hv.cell c1; have k2 := hv.cell c2; have k3 := hv.cell c3; have k4 := hv.cell c4; have k5 := hv.cell c5; have k6 := hv.cell c6; have k7 := hv.cell c7; have k8 := hv.cell c8; have k9 := hv.cell c9; go_simp; first | done | with_reducible rfl | (rw [if_neg (by omega)])) ?_; simp only [Act.put, List.setIfInBounds_toArray, List.set_cons_zero, List.set_cons_succ]
    refine WQ.val (by rfl) (fun v hv => by have k0 := hv.cell c0; have k1 := hv.cell c1; have k2 := hv.cell c2; have k3 := hv.cell c3; have k4 := hv.cell c4; have k5 := hv.cell c5; have k6 := hv.cell c6; have k7 := hv.cell c7; have k8 := hv.cell c8; have k9 := hv.cell c9; go_simp; first | done | with_reducible rfl | (rw [if_neg (by omega)])) ?_; simp only [Act.put, List.setIfInBounds_toArray, List.set_cons_zero, List.set_cons_succ]
    refine WQ.call (f := 12) (args := #[.int .u8 pr]) (by rfl) (fun v hv => by go_simp) (fun v hv => (HW.out v).mono (fun e v' ⟨he, hb⟩ => ⟨he, hv.step hb⟩)) ?_; simp only [Act.put, List.setIfInBounds_toArray, List.set_cons_zero, List.set_cons_succ]
    refine WQ.val (by rfl) (fun v hv => by have k0 := hv.cell c0; have k1 := hv.cell c1; have k2 := hv.cell c2; have k3 := hv.cell c3; have k4 := hv.cell c4; have k5 := hv.cell c5; have k6 := hv.cell c6; have k7 := hv.cell c7; have k8 := hv.cell c8; have k9 := hv.cell c9; go_simp; first | done | with_reducible rfl | (rw [if_neg (by omega)])) ?_; simp only [Act.put, List.setIfInBounds_toArray, List.set_cons_zero, List.set_cons_succ]
    refine WQ.val (by rfl) (fun v hv => by have k0 := hv.cell c0; have k1 := hv.cell c1; have k2 := hv.cell c2; have k3 := hv.cell c3; have k4 := hv.cell c4; have k5 := hv.cell c5; have k6 := hv.cell c6; have k7 := hv.cell c7; have k8 := hv.cell c8; have k9 := hv.cell c9; go_simp; first | done | with_reducible rfl | (rw [if_neg (by omega)])) ?_; simp only [Act.put, List.setIfInBounds_toArray, List.set_cons_zero, List.set_cons_succ]
    refine WQ.val (by rfl) (fun v hv => by have k0 := hv.cell c0; have k1 := hv.cell c1; have k2 := hv.cell c2; have k3 := hv.cell c3; have k4 := hv.cell c4; have k5 := hv.cell c5; have k6 := hv.cell c6; have k7 := hv.cell c7; have k8 := hv.cell c8; have k9 := hv.cell c9; go_simp; first | done | with_reducible rfl | (rw [if_neg (by omega)])) ?_; simp only [Act.put, List.setIfInBounds_toArray, List.set_cons_zero, List.set_cons_succ]
    refine WQ.val (by rfl) (fun v hv => by have k0 := hv.cell c0; have k1 := hv.cell c1; have k2 := hv.cell c2; have k3 := hv.cell c3; have k4 := hv.cell c4; have k5 := hv.cell c5; have k6 := hv.cell c6; have k7 := hv.cell c7; have k8 := hv.cell c8; have k9 := hv.cell c9; go_simp; first | done | with_reducible rfl | (rw [if_neg (by omega)])) ?_; simp only [Act.put, List.setIfInBounds_toArray, List.set_cons_zero, List.set_cons_succ]
    refine WQ.val (by rfl) (fun v hv => by have k0 := hv.cell c0; have k1 := hv.cell c1; have k2 := hv.cell c2; have k3 := hv.cell c3; have k4 := hv.cell c4; have k5 := hv.cell c5; have k6 := hv.cell c6; have k7 := hv.cell c7; have k8 := hv.cell c8; have k9 := hv.cell c9; go_simp; first | done | with_reducible rfl | (rw [if_neg (by omega)])) ?_; simp only [Act.put, List.setIfInBounds_toArray, List.set_cons_zero, List.set_cons_succ]
    refine WQ.val (by rfl) (fun v hv => by have k0 := hv.cell c0; have k1 := hv.cell c1; have k2 := hv.cell c2; have k3 := hv.cell c3; have k4 := hv.cell c4; have k5 := hv.cell c5; have k6 := hv.cell c6; have k7 := hv.cell c7; have k8 := hv.cell c8; have k9 := hv.cell c9; go_simp; first | done | with_reducible rfl | (rw [if_neg (by omega)])) ?_; simp only [Act.put, List.setIfInBounds_toArray, List.set_cons_zero, List.set_cons_succ]
    refine WQ.val (by rfl) (fun v hv => by have k0 := hv.cell c0; have k1 := hv.cell c1; have k2 := hv.cell c2; have k3 := hv.cell c3; have k4 := hv.cell c4; have k5 := hv.cell c5; have k6 := hv.cell c6; have k7 := hv.cell c7; have k8 := hv.cell c8; have k9 := hv.cell c9; go_simp; first | done | with_reducible rfl | (rw [if_neg (by omega)])) ?_; simp only [Act.put, List.setIfInBounds_toArray, List.set_cons_zero, List.set_cons_succ]
    refine WQ.call (f := 34) (args := #[.agg #[.int .u16 sl, .int .u16 sh]]) (by rfl) (fun v hv => by go_simp) (fun v hv => (HS1.out v).mono (fun e v' ⟨he, hb⟩ => ⟨he, hv.step hb⟩)) ?_; simp only [Act.put, List.setIfInBounds_toArray, List.set_cons_zero, List.set_cons_succ]
    refine WQ.val (by rfl) (fun v hv => by have k0 := hv.cell c0; have k1 := hv.cell c1; have k2 := hv.cell c2; have k3 := hv.cell c3; have k4 := hv.cell c4; have k5 := hv.cell c5; have k6 := hv.cell c6; have k7 := hv.cell c7; have k8 := hv.cell c8; have k9 := hv.cell c9; go_simp; first | done | with_reducible rfl | (rw [if_neg (by omega)])) ?_; simp only [Act.put, List.setIfInBounds_toArray, List.set_cons_zero, List.set_cons_succ]
    refine WQ.val (by rfl) (fun v hv => by have k0 := hv.cell c0; have k1 := hv.cell c1; have k2 := hv.cell c2; have k3 := hv.cell c3; have k4 := hv.cell c4; have k5 := hv.cell c5; have k6 := hv.cell c6; have k7 := hv.cell c7; have k8 := hv.cell c8; have k9 := hv.cell c9; go_simp; first | done | with_reducible rfl | (rw [if_neg (by omega)])) ?_; simp only [Act.put, List.setIfInBounds_toArray, List.set_cons_zero, List.set_cons_succ]
    refine WQ.val (by rfl) (fun v hv => by have k0 := hv.cell c0; have k1 := hv.cell c1; have k2 := hv.cell c2; have k3 := hv.cell c3; have k4 := hv.cell c4; have k5 := hv.cell c5; have k6 := hv.cell c6; have k7 := hv.cell c7; have k8 := hv.cell c8; have k9 := hv.cell c9; go_simp; first | done | with_reducible rfl | (rw [if_neg (by omega)])) ?_; simp only [Act.put, List.setIfInBounds_toArray, List.set_cons_zero, List.set_cons_succ]
    refine WQ.val (by rfl) (fun v hv => by have k0 := hv.cell c0; have k1 := hv.cell c1; have k2 := hv.cell c2; have k3 := hv.cell c3; have k4 := hv.cell c4; have k5 := hv.cell c5; have k6 := hv.cell c6; have k7 := hv.cell c7; have k8 := hv.cell c8; have k9 := hv.cell c9; go_simp; first | done | with_reducible rfl | (rw [if_neg (by omega)])) ?_; simp only [Act.put, List.setIfInBounds_toArray, List.set_cons_zero, List.set_cons_succ]
    refine WQ.val (by rfl) (fun v hv => by have k0 := hv.cell c0; have k1 := hv.cell c1; have k2 := hv.cell c2; have k3 := hv.cell c3; have k4 := hv.cell c4; have k5 := hv.cell c5; have k6 := hv.cell c6; have k7 := hv.cell c7; have k8 := hv.cell c8; have k9 := hv.cell c9; go_simp; first | done | with_reducible rfl | (rw [if_neg (by omega)])) ?_; simp only [Act.put, List.setIfInBounds_toArray, List.set_cons_zero, List.set_cons_succ]
    refine WQ.val (by rfl) (fun v hv => by have k0 := hv.cell c0; have k1 := hv.cell c1; have k2 := hv.cell c2; have k3 := hv.cell c3; have k4 := hv.cell c4; have k5 := hv.cell c5; have k6 := hv.cell c6; have k7 := hv.cell c7; have k8 := hv.cell c8; have k9 := hv.cell c9; go_simp; first | done | with_reducible rfl | (rw [if_neg (by omega)])) ?_; simp only [Act.put, List.setIfInBounds_toArray, List.set_cons_zero, List.set_cons_succ]
    refine WQ.val (by rfl) (fun v hv => by have k0 := hv.cell c0; have k1 := hv.cell c1; have k2 := hv.cell c2; have k3 := hv.cell c3; have k4 := hv.cell c4; have k5 := hv.cell c5; have k6 := hv.cell c6; have k7 := hv.cell c7; have k8 := hv.cell c8; have k9 := hv.cell c9; go_simp; first | done | with_reducible rfl | (rw [if_neg (by omega)])) ?_; simp only [Act.put, List.setIfInBounds_toArray, List.set_cons_zero, List.set_cons_succ]
    refine WQ.call (f := 34) (args := #[.agg #[.int .u16 dl, .int .u16 dh]]) (by rfl) (fun v hv => by go_simp) (fun v hv => (HS2.out v).mono (fun e v' ⟨he, hb⟩ => ⟨he, hv.step hb⟩)) ?_; simp only [Act.put, List.setIfInBounds_toArray, List.set_cons_zero, List.set_cons_succ]
    refine WQ.val (by rfl) (fun v hv => by have k0 := hv.cell c0; have k1 := hv.cell c1; have k2 := hv.cell c2; have k3 := hv.cell c3; have k4 := hv.cell c4; have k5 := hv.cell c5; have k6 := hv.cell c6; have k7 := hv.cell c7; have k8 := hv.cell c8; have k9 := hv.cell c9; go_simp; first | done | with_reducible rfl | (rw [if_neg (by omega)])) ?_; simp only [Act.put, List.setIfInBounds_toArray, List.set_cons_zero, List.set_cons_succ]
    refine WQ.val (by rfl) (fun v hv => by have k0 := hv.cell c0; have k1 := hv.cell c1; have k2 := hv.cell c2; have k3 := hv.cell c3; have k4 := hv.cell c4; have k5 := hv.cell c5; have k6 := hv.cell c6; have k7 := hv.cell c7; have k8 := hv.cell c8; have k9 := hv.cell c9; go_simp; first | done | with_reducible rfl | (rw [if_neg (by omega)])) ?_; simp only [Act.put, List.setIfInBounds_toArray, List.set_cons_zero, List.set_cons_succ]
    refine WQ.done ?_
    intro w5 hw5
    have HB5 := Lib.hid (below_then HB3.out hw5)
    clear hw5 c0 c1 c2 c3 c4 c5 c6 c7 c8 c9
    go_wp2_with fail
    go_ret
    refine ⟨?_, HB5.out⟩
    rw [HL.out]
    refine congrArg Ending.returned (congrArg Value.string ?_)
    apply ByteArray.ext
    simp [actL, acceptL, dropL]
/-- Six words in a block. -/
def Six (w : World) (bk : Nat) (ws : List (List UInt8)) : Prop := ∀ j x, ws[j]? = some x → w.cell? ⟨bk, 0 + j, none⟩ = some (str x)
def LinePost (r : Rl) (w : World) (e : Ending) (w' : World) : Prop := ∃ bk, e = .returned (.slice (some ⟨bk, 0, none⟩) 6 6) ∧ Six w' bk (wordsR r) ∧ bk < w'.heap.size ∧ Below w.heap.size w w'
theorem six_new (w : World) (a b c d e f : List UInt8) (T : TypeId) : Six (w.alloc (.cells #[str a, str b, str c, str d, str e, str f] T)) w.heap.size [a, b, c, d, e, f] := fun j x hj => by
  rcases j with _ | _ | _ | _ | _ | _ | j <;> simp at hj <;> subst hj <;> simp
set_option maxHeartbeats 4000000 in
set_option maxRecDepth 100000 in
theorem line_any (r : Rl) (w : World) (hr : r.In) (hT : Tabs w) :
    Calls Tryz.prog 37 #[ruleW r] w (LinePost r w) := by
  have HV : Hid (wordsR r = [actL r.acc, wordF r.pr, netL r.sa r.sb, spanL r.sl r.sh, netL r.da r.db, spanL r.dl r.dh]) := Lib.hid rfl
  have H1 := Lib.hid (fun W (h : Tabs W) => show_any r.sa r.sb W hr.sa h)
  have H2 := Lib.hid (fun W (h : Tabs W) => show_any r.da r.db W hr.da h)
  have HW := Lib.hid (fun W => proto_any r.pr W hr.pr)
  have HS1 := Lib.hid (fun W (h : Tabs W) => spanShow_any r.sl r.sh W hr.sl hr.sh h)
  have HS2 := Lib.hid (fun W (h : Tabs W) => spanShow_any r.dl r.dh W hr.dl hr.dh h)
  have e1 := netL_fst r.sa r.sb
  have e2 := netL_fst r.da r.db
  unfold LinePost
  rw [HV.out, ← e1, ← e2]
  obtain ⟨acc, pr, sa, sb, da, db, sl, sh, dl, dh⟩ := r
  simp only at H1 H2 HW HS1 HS2
  simp only
  clear e1 e2 HV
  generalize showF sa sb = q1 at *
  generalize showF da db = q2 at *
  obtain ⟨t1, z1⟩ := q1
  obtain ⟨t2, z2⟩ := q2
  generalize wordF pr = wd at *
  generalize spanL sl sh = p1 at *
  generalize spanL dl dh = p2 at *
  have B0 : Below w.heap.size w (ruleBox w acc pr sa sb da db sl sh dl dh) := (Below.refl _ _).alloc (Nat.le_refl _) _
  have X0 := BoxAt.new w acc pr sa sb da db sl sh dl dh
  have HT0 := Lib.hid (hT.below B0)
  have HB0 := Lib.hid B0
  have HX0 := Lib.hid X0
  clear B0 hr hT
  obtain ⟨c0, c1, c2, c3, c4, c5, c6, c7, c8, c9⟩ := X0
  cases acc with
  | false =>
    generalize hac : actL false = ac
    have hac' : ac = dropL := hac.symm
    subst hac'
    clear hac
    go_enter Tryz.func37, Tryz.ntmps37
    go_wp2_with fail
    clear c0 c1 c2 c3 c4 c5 c6 c7 c8 c9
    refine (H1.out _ HT0.out).mono ?_
    rintro e w2 ⟨rfl, h2⟩
    have HT2 := Lib.hid (HT0.out.below h2)
    have HB2 := Lib.hid (below_then HB0.out h2)
    have HX2 := Lib.hid (HX0.out.below h2)
    obtain ⟨c0, c1, c2, c3, c4, c5, c6, c7, c8, c9⟩ := HX2.out
    clear h2
    go_wp2_with fail
    clear c0 c1 c2 c3 c4 c5 c6 c7 c8 c9
    refine (H2.out _ HT2.out).mono ?_
    rintro e wr ⟨rfl, h3⟩
    have HTr := Lib.hid (HT2.out.below h3)
    have HB3 := Lib.hid (below_then HB2.out h3)
    have HX3 := Lib.hid (HX2.out.below h3)
    obtain ⟨c0, c1, c2, c3, c4, c5, c6, c7, c8, c9⟩ := HX3.out
    clear h3
    go_wp2_with fail
    have hS0 : Since wr wr.drew := (Below.refl _ _).drew
    refine WH.enter (Since wr) (by kernel_rfl) 14 rfl ?_
    refine WH.take 0 (some 22) rfl rfl (by kernel_rfl) (by kernel_rfl) (by kernel_rfl) (fun _ _ _ h => h) (by rfl) (fun v hv => by have k0 := Since.cell hv c0; have k1 := Since.cell hv c1; have k2 := Since.cell hv c2; have k3 := Since.cell hv c3; have k4 := Since.cell hv c4; have k5 := Since.cell hv c5; have k6 := Since.cell hv c6; have k7 := Since.cell hv c7; have k8 := Since.cell hv c8; have k9 := Since.cell hv c9; go_simp; first | done | with_reducible rfl | (rw [if_neg (by omega)])) hS0 ?_; simp only [Act.put, List.setIfInBounds_toArray, List.set_cons_zero, List.set_cons_succ]
    refine WH.take 1 (some 23) rfl rfl (by kernel_rfl) (by kernel_rfl) (by kernel_rfl) (fun _ _ _ h => h) (by rfl) (fun v hv => by have k0 := Since.cell hv c0; have k1 := Since.cell hv c1; have k2 := Since.cell hv c2; have k3 := Since.cell hv c3; have k4 := Since.cell hv c4; have k5 := Since.cell hv c5; have k6 := Since.cell hv c6; have k7 := Since.cell hv c7; have k8 := Since.cell hv c8; have k9 := Since.cell hv c9; go_simp; first | done | with_reducible rfl | (rw [if_neg (by omega)])) hS0 ?_; simp only [Act.put, List.setIfInBounds_toArray, List.set_cons_zero, List.set_cons_succ]
    refine WH.take 2 (some 24) rfl rfl (by kernel_rfl) (by kernel_rfl) (by kernel_rfl) (fun _ _ _ h => h) (by rfl) (fun v hv => by have k0 := Since.cell hv c0; have k1 := Since.cell hv c1; have k2 := Since.cell hv c2; have k3 := Since.cell hv c3; have k4 := Since.cell hv c4; have k5 := Since.cell hv c5; have k6 := Since.cell hv c6; have k7 := Since.cell hv c7; have k8 := Since.cell hv c8; have k9 := Since.cell hv c9; go_simp; first | done | with_reducible rfl | (rw [if_neg (by omega)])) hS0 ?_; simp only [Act.put, List.setIfInBounds_toArray, List.set_cons_zero, List.set_cons_succ]
    refine WH.take 4 (some 26) rfl rfl (by kernel_rfl) (by kernel_rfl) (by kernel_rfl) (fun _ _ _ h => h) (by rfl) (fun v hv => by have k0 := Since.cell hv c0; have k1 := Since.cell hv c1; have k2 := Since.cell hv c2; have k3 := Since.cell hv c3; have k4 := Since.cell hv c4; have k5 := Since.cell hv c5; have k6 := Since.cell hv c6; have k7 := Since.cell hv c7; have k8 := Since.cell hv c8; have k9 := Since.cell hv c9; go_simp; first | done | with_reducible rfl | (rw [if_neg (by omega)])) hS0 ?_; simp only [Act.put, List.setIfInBounds_toArray, List.set_cons_zero, List.set_cons_succ]
    refine WH.take 5 (some 27) rfl rfl (by kernel_rfl) (by kernel_rfl) (by kernel_rfl) (fun _ _ _ h => h) (by rfl) (fun v hv => by have k0 := Since.cell hv c0; have k1 := Since.cell hv c1; have k2 := Since.cell hv c2; have k3 := Since.cell hv c3; have k4 := Since.cell hv c4; have k5 := Since.cell hv c5; have k6 := Since.cell hv c6; have k7 := Since.cell hv c7; have k8 := Since.cell hv c8; have k9 := Since.cell hv c9; go_simp; first | done | with_reducible rfl | (rw [if_neg (by omega)])) hS0 ?_; simp only [Act.put, List.setIfInBounds_toArray, List.set_cons_zero, List.set_cons_succ]
    refine WH.take 6 (some 28) rfl rfl (by kernel_rfl) (by kernel_rfl) (by kernel_rfl) (fun _ _ _ h => h) (by rfl) (fun v hv => by have k0 := Since.cell hv c0; have k1 := Since.cell hv c1; have k2 := Since.cell hv c2; have k3 := Since.cell hv c3; have k4 := Since.cell hv c4; have k5 := Since.cell hv c5; have k6 := Since.cell hv c6; have k7 := Since.cell hv c7; have k8 := Since.cell hv c8; have k9 := Since.cell hv c9; go_simp; first | done | with_reducible rfl | (rw [if_neg (by omega)])) hS0 ?_; simp only [Act.put, List.setIfInBounds_toArray, List.set_cons_zero, List.set_cons_succ]
    refine WH.take 8 (some 30) rfl rfl (by kernel_rfl) (by kernel_rfl) (by kernel_rfl) (fun _ _ _ h => h) (by rfl) (fun v hv => by have k0 := Since.cell hv c0; have k1 := Since.cell hv c1; have k2 := Since.cell hv c2; have k3 := Since.cell hv c3; have k4 := Since.cell hv c4; have k5 := Since.cell hv c5; have k6 := Since.cell hv c6; have k7 := Since.cell hv c7; have k8 := Since.cell hv c8; have k9 := Since.cell hv c9; go_simp; first | done | with_reducible rfl | (rw [if_neg (by omega)])) hS0 ?_; simp only [Act.put, List.setIfInBounds_toArray, List.set_cons_zero, List.set_cons_succ]
    refine WH.take 9 (some 31) rfl rfl (by kernel_rfl) (by kernel_rfl) (by kernel_rfl) (fun _ _ _ h => h) (by rfl) (fun v hv => by have k0 := Since.cell hv c0; have k1 := Since.cell hv c1; have k2 := Since.cell hv c2; have k3 := Since.cell hv c3; have k4 := Since.cell hv c4; have k5 := Since.cell hv c5; have k6 := Since.cell hv c6; have k7 := Since.cell hv c7; have k8 := Since.cell hv c8; have k9 := Since.cell hv c9; go_simp; first | done | with_reducible rfl | (rw [if_neg (by omega)])) hS0 ?_; simp only [Act.put, List.setIfInBounds_toArray, List.set_cons_zero, List.set_cons_succ]
    refine WH.take 10 (some 32) rfl rfl (by kernel_rfl) (by kernel_rfl) (by kernel_rfl) (fun _ _ _ h => h) (by rfl) (fun v hv => by have k0 := Since.cell hv c0; have k1 := Since.cell hv c1; have k2 := Since.cell hv c2; have k3 := Since.cell hv c3; have k4 := Since.cell hv c4; have k5 := Since.cell hv c5; have k6 := Since.cell hv c6; have k7 := Since.cell hv c7; have k8 := Since.cell hv c8; have k9 := Since.cell hv c9; go_simp; first | done | with_reducible rfl | (rw [if_neg (by omega)])) hS0 ?_; simp only [Act.put, List.setIfInBounds_toArray, List.set_cons_zero, List.set_cons_succ]
    refine WH.one 3 (by kernel_rfl) rfl (by rfl) ?_
    go_wp2_with fail
    refine (HW.out _).mono ?_
    rintro e w5 ⟨rfl, hw5⟩
    have H5 := Lib.hid (Since.step hS0 hw5)
    clear hw5
    go_wp2_with fail
    refine ⟨H5.out, ?_⟩
    refine WH.one 7 (by kernel_rfl) rfl (by rfl) ?_
    go_wp2_with fail
    refine (HS1.out _ (HTr.out.below H5.out)).mono ?_
    rintro e w6 ⟨rfl, hw6⟩
    have H6 := Lib.hid (Since.step H5.out hw6)
    clear hw6
    go_wp2_with fail
    refine ⟨H6.out, ?_⟩
    refine WH.one 11 (by kernel_rfl) rfl (by rfl) ?_
    go_wp2_with fail
    refine (HS2.out _ (HTr.out.below H6.out)).mono ?_
    rintro e w7 ⟨rfl, hw7⟩
    have H7 := Lib.hid (Since.step H6.out hw7)
    clear hw7
    go_wp2_with fail
    refine ⟨H7.out, ?_⟩
    refine WH.one 12 (by kernel_rfl) rfl (by rfl) ?_
    have hb9 := Since.step H7.out ((Below.refl _ w7).alloc (Nat.le_refl _) (.cells #[str dropL, str wd, str t1, str p1, str t2, str p2] 9))
    have H9 := Lib.hid hb9
    clear hb9
    go_wp2_with fail
    refine ⟨H9.out, ?_⟩
    refine WH.take 13 (some 2) rfl rfl (by kernel_rfl) (by kernel_rfl) (by kernel_rfl) (fun _ _ _ h => h) (by rfl) (fun v hv => by have k0 := Since.cell hv c0; have k1 := Since.cell hv c1; have k2 := Since.cell hv c2; have k3 := Since.cell hv c3; have k4 := Since.cell hv c4; have k5 := Since.cell hv c5; have k6 := Since.cell hv c6; have k7 := Since.cell hv c7; have k8 := Since.cell hv c8; have k9 := Since.cell hv c9; go_simp; first | done | with_reducible rfl | (rw [if_neg (by omega)])) H9.out ?_; simp only [Act.put, List.setIfInBounds_toArray, List.set_cons_zero, List.set_cons_succ]
    refine WH.done (by kernel_rfl) ?_
    have HBE := Lib.hid (below_then HB3.out H9.out)
    clear c0 c1 c2 c3 c4 c5 c6 c7 c8 c9
    go_wp2_with fail
    go_ret
    exact ⟨_, rfl, six_new _ _ _ _ _ _ _ _, by simp, HBE.out⟩
  | true =>
    generalize hac : actL true = ac
    have hac' : ac = acceptL := hac.symm
    subst hac'
    clear hac
    go_enter Tryz.func37, Tryz.ntmps37
    go_wp2_with fail
    clear c0 c1 c2 c3 c4 c5 c6 c7 c8 c9
    refine (H1.out _ HT0.out).mono ?_
    rintro e w2 ⟨rfl, h2⟩
    have HT2 := Lib.hid (HT0.out.below h2)
    have HB2 := Lib.hid (below_then HB0.out h2)
    have HX2 := Lib.hid (HX0.out.below h2)
    obtain ⟨c0, c1, c2, c3, c4, c5, c6, c7, c8, c9⟩ := HX2.out
    clear h2
    go_wp2_with fail
    clear c0 c1 c2 c3 c4 c5 c6 c7 c8 c9
    refine (H2.out _ HT2.out).mono ?_
    rintro e wr ⟨rfl, h3⟩
    have HTr := Lib.hid (HT2.out.below h3)
    have HB3 := Lib.hid (below_then HB2.out h3)
    have HX3 := Lib.hid (HX2.out.below h3)
    obtain ⟨c0, c1, c2, c3, c4, c5, c6, c7, c8, c9⟩ := HX3.out
    clear h3
    go_wp2_with fail
    have hS0 : Since wr wr.drew := (Below.refl _ _).drew
    refine WH.enter (Since wr) (by kernel_rfl) 14 rfl ?_
    refine WH.take 0 (some 22) rfl rfl (by kernel_rfl) (by kernel_rfl) (by kernel_rfl) (fun _ _ _ h => h) (by rfl) (fun v hv => by have k0 := Since.cell hv c0; have k1 := Since.cell hv c1; have k2 := Since.cell hv c2; have k3 := Since.cell hv c3; have k4 := Since.cell hv c4; have k5 := Since.cell hv c5; have k6 := Since.cell hv c6; have k7 := Since.cell hv c7; have k8 := Since.cell hv c8; have k9 := Since.cell hv c9; go_simp; first | done | with_reducible rfl | (rw [if_neg (by omega)])) hS0 ?_; simp only [Act.put, List.setIfInBounds_toArray, List.set_cons_zero, List.set_cons_succ]
    refine WH.take 1 (some 23) rfl rfl (by kernel_rfl) (by kernel_rfl) (by kernel_rfl) (fun _ _ _ h => h) (by rfl) (fun v hv => by have k0 := Since.cell hv c0; have k1 := Since.cell hv c1; have k2 := Since.cell hv c2; have k3 := Since.cell hv c3; have k4 := Since.cell hv c4; have k5 := Since.cell hv c5; have k6 := Since.cell hv c6; have k7 := Since.cell hv c7; have k8 := Since.cell hv c8; have k9 := Since.cell hv c9; go_simp; first | done | with_reducible rfl | (rw [if_neg (by omega)])) hS0 ?_; simp only [Act.put, List.setIfInBounds_toArray, List.set_cons_zero, List.set_cons_succ]
    refine WH.take 2 (some 24) rfl rfl (by kernel_rfl) (by kernel_rfl) (by kernel_rfl) (fun _ _ _ h => h) (by rfl) (fun v hv => by have k0 := Since.cell hv c0; have k1 := Since.cell hv c1; have k2 := Since.cell hv c2; have k3 := Since.cell hv c3; have k4 := Since.cell hv c4; have k5 := Since.cell hv c5; have k6 := Since.cell hv c6; have k7 := Since.cell hv c7; have k8 := Since.cell hv c8; have k9 := Since.cell hv c9; go_simp; first | done | with_reducible rfl | (rw [if_neg (by omega)])) hS0 ?_; simp only [Act.put, List.setIfInBounds_toArray, List.set_cons_zero, List.set_cons_succ]
    refine WH.take 4 (some 26) rfl rfl (by kernel_rfl) (by kernel_rfl) (by kernel_rfl) (fun _ _ _ h => h) (by rfl) (fun v hv => by have k0 := Since.cell hv c0; have k1 := Since.cell hv c1; have k2 := Since.cell hv c2; have k3 := Since.cell hv c3; have k4 := Since.cell hv c4; have k5 := Since.cell hv c5; have k6 := Since.cell hv c6; have k7 := Since.cell hv c7; have k8 := Since.cell hv c8; have k9 := Since.cell hv c9; go_simp; first | done | with_reducible rfl | (rw [if_neg (by omega)])) hS0 ?_; simp only [Act.put, List.setIfInBounds_toArray, List.set_cons_zero, List.set_cons_succ]
    refine WH.take 5 (some 27) rfl rfl (by kernel_rfl) (by kernel_rfl) (by kernel_rfl) (fun _ _ _ h => h) (by rfl) (fun v hv => by have k0 := Since.cell hv c0; have k1 := Since.cell hv c1; have k2 := Since.cell hv c2; have k3 := Since.cell hv c3; have k4 := Since.cell hv c4; have k5 := Since.cell hv c5; have k6 := Since.cell hv c6; have k7 := Since.cell hv c7; have k8 := Since.cell hv c8; have k9 := Since.cell hv c9; go_simp; first | done | with_reducible rfl | (rw [if_neg (by omega)])) hS0 ?_; simp only [Act.put, List.setIfInBounds_toArray, List.set_cons_zero, List.set_cons_succ]
    refine WH.take 6 (some 28) rfl rfl (by kernel_rfl) (by kernel_rfl) (by kernel_rfl) (fun _ _ _ h => h) (by rfl) (fun v hv => by have k0 := Since.cell hv c0; have k1 := Since.cell hv c1; have k2 := Since.cell hv c2; have k3 := Since.cell hv c3; have k4 := Since.cell hv c4; have k5 := Since.cell hv c5; have k6 := Since.cell hv c6; have k7 := Since.cell hv c7; have k8 := Since.cell hv c8; have k9 := Since.cell hv c9; go_simp; first | done | with_reducible rfl | (rw [if_neg (by omega)])) hS0 ?_; simp only [Act.put, List.setIfInBounds_toArray, List.set_cons_zero, List.set_cons_succ]
    refine WH.take 8 (some 30) rfl rfl (by kernel_rfl) (by kernel_rfl) (by kernel_rfl) (fun _ _ _ h => h) (by rfl) (fun v hv => by have k0 := Since.cell hv c0; have k1 := Since.cell hv c1; have k2 := Since.cell hv c2; have k3 := Since.cell hv c3; have k4 := Since.cell hv c4; have k5 := Since.cell hv c5; have k6 := Since.cell hv c6; have k7 := Since.cell hv c7; have k8 := Since.cell hv c8; have k9 := Since.cell hv c9; go_simp; first | done | with_reducible rfl | (rw [if_neg (by omega)])) hS0 ?_; simp only [Act.put, List.setIfInBounds_toArray, List.set_cons_zero, List.set_cons_succ]
    refine WH.take 9 (some 31) rfl rfl (by kernel_rfl) (by kernel_rfl) (by kernel_rfl) (fun _ _ _ h => h) (by rfl) (fun v hv => by have k0 := Since.cell hv c0; have k1 := Since.cell hv c1; have k2 := Since.cell hv c2; have k3 := Since.cell hv c3; have k4 := Since.cell hv c4; have k5 := Since.cell hv c5; have k6 := Since.cell hv c6; have k7 := Since.cell hv c7; have k8 := Since.cell hv c8; have k9 := Since.cell hv c9; go_simp; first | done | with_reducible rfl | (rw [if_neg (by omega)])) hS0 ?_; simp only [Act.put, List.setIfInBounds_toArray, List.set_cons_zero, List.set_cons_succ]
    refine WH.take 10 (some 32) rfl rfl (by kernel_rfl) (by kernel_rfl) (by kernel_rfl) (fun _ _ _ h => h) (by rfl) (fun v hv => by have k0 := Since.cell hv c0; have k1 := Since.cell hv c1; have k2 := Since.cell hv c2; have k3 := Since.cell hv c3; have k4 := Since.cell hv c4; have k5 := Since.cell hv c5; have k6 := Since.cell hv c6; have k7 := Since.cell hv c7; have k8 := Since.cell hv c8; have k9 := Since.cell hv c9; go_simp; first | done | with_reducible rfl | (rw [if_neg (by omega)])) hS0 ?_; simp only [Act.put, List.setIfInBounds_toArray, List.set_cons_zero, List.set_cons_succ]
    refine WH.one 3 (by kernel_rfl) rfl (by rfl) ?_
    go_wp2_with fail
    refine (HW.out _).mono ?_
    rintro e w5 ⟨rfl, hw5⟩
    have H5 := Lib.hid (Since.step hS0 hw5)
    clear hw5
    go_wp2_with fail
    refine ⟨H5.out, ?_⟩
    refine WH.one 7 (by kernel_rfl) rfl (by rfl) ?_
    go_wp2_with fail
    refine (HS1.out _ (HTr.out.below H5.out)).mono ?_
    rintro e w6 ⟨rfl, hw6⟩
    have H6 := Lib.hid (Since.step H5.out hw6)
    clear hw6
    go_wp2_with fail
    refine ⟨H6.out, ?_⟩
    refine WH.one 11 (by kernel_rfl) rfl (by rfl) ?_
    go_wp2_with fail
    refine (HS2.out _ (HTr.out.below H6.out)).mono ?_
    rintro e w7 ⟨rfl, hw7⟩
    have H7 := Lib.hid (Since.step H6.out hw7)
    clear hw7
    go_wp2_with fail
    refine ⟨H7.out, ?_⟩
    refine WH.one 12 (by kernel_rfl) rfl (by rfl) ?_
    have hb9 := Since.step H7.out ((Below.refl _ w7).alloc (Nat.le_refl _) (.cells #[str acceptL, str wd, str t1, str p1, str t2, str p2] 9))
    have H9 := Lib.hid hb9
    clear hb9
    go_wp2_with fail
    refine ⟨H9.out, ?_⟩
    refine WH.take 13 (some 2) rfl rfl (by kernel_rfl) (by kernel_rfl) (by kernel_rfl) (fun _ _ _ h => h) (by rfl) (fun v hv => by have k0 := Since.cell hv c0; have k1 := Since.cell hv c1; have k2 := Since.cell hv c2; have k3 := Since.cell hv c3; have k4 := Since.cell hv c4; have k5 := Since.cell hv c5; have k6 := Since.cell hv c6; have k7 := Since.cell hv c7; have k8 := Since.cell hv c8; have k9 := Since.cell hv c9; go_simp; first | done | with_reducible rfl | (rw [if_neg (by omega)])) H9.out ?_; simp only [Act.put, List.setIfInBounds_toArray, List.set_cons_zero, List.set_cons_succ]
    refine WH.done (by kernel_rfl) ?_
    have HBE := Lib.hid (below_then HB3.out H9.out)
    clear c0 c1 c2 c3 c4 c5 c6 c7 c8 c9
    go_wp2_with fail
    go_ret
    exact ⟨_, rfl, six_new _ _ _ _ _ _ _ _, by simp, HBE.out⟩
end Go.Proofs.YtfiddoibnjildaaGreatDoor
