/- The walk of the reference's Same of layer 11, where both are the same lines. Printed by gen_textd.py. -/
import Derived.Test.YtgajmepmjbmdoaaDoorTextC
namespace Go.Proofs.YtgajmepmjbmdoaaDoor
set_option linter.unusedSimpArgs false
set_option linter.unusedVariables false
open Go Go.RowKit

theorem Lines.at {w : World} {v : Value} {ls : List Ln} (h : Lines w v ls) : ∃ a c, v = .slice a ls.length c ∧ ∀ (i : Nat) (hi : i < ls.length), ∃ b o a' c', a = some ⟨b, o, none⟩ ∧ w.cell? ⟨b, o + i * 2, none⟩ = some (.int .i64 ls[i].1) ∧
    w.cell? ⟨b, o + i * 2 + 1, none⟩ = some (.slice a' ls[i].2.length c') ∧ ∀ (j : Nat) (hj : j < ls[i].2.length), ∃ b' o', a' = some ⟨b', o', none⟩ ∧ w.cell? ⟨b', o' + j, none⟩ = some (str ls[i].2[j]) := by
  obtain ⟨a, c, rfl, hc, h3⟩ := h
  refine ⟨a, c, rfl, fun i hi => ?_⟩
  obtain ⟨b, o, wv, rfl, k1, k2, a', c', rfl, _, k3⟩ := h3 i _ (List.getElem?_eq_getElem hi)
  refine ⟨b, o, a', c', rfl, by rw [Nat.mul_comm]; exact k1, by rw [Nat.mul_comm]; exact k2, fun j hj => ?_⟩
  obtain ⟨b', o', rfl, _, k⟩ := k3 j _ (List.getElem?_eq_getElem hj)
  exact ⟨b', o', rfl, k⟩
set_option maxHeartbeats 4000000 in
set_option maxRecDepth 100000 in
theorem same_eq (v1 v2 : Value) (ls : List Ln) (w : World) (h1 : Lines w v1 ls) (h2 : Lines w v2 ls) (hl : ls.length ≤ 8192) (hw : ∀ l ∈ ls, l.2.length ≤ 8192) :
    Calls Tryd.prog 25 #[v1, v2] w fun e w' => e = .returned (.bool true) ∧ Below w.heap.size w w' := by
  obtain ⟨a1, c1, rfl, H1⟩ := h1.at
  obtain ⟨a2, c2, rfl, H2⟩ := h2.at
  clear h1 h2
  have HH1 := Lib.hid H1
  have HH2 := Lib.hid H2
  have HW := Lib.hid (fun (i : Nat) (hi : i < ls.length) => hw _ (List.getElem_mem hi))
  clear hw H1 H2
  have hnn : ((ls.length : Int) != (ls.length : Int)) = false := by simp
  go_enter Tryd.func25, Tryd.ntmps25
  go_wp2_with fail
  go_loopw [5] (fun n wr => ∃ i : Nat, i ≤ ls.length ∧ n = .int .i64 i ∧ Hid (Since w wr)) (fun n _ => ls.length - (intOf n).toNat)
  case atStart => exact ⟨0, Nat.zero_le _, rfl, Lib.hid (Since.refl w)⟩
  case round =>
    obtain ⟨i, hi, rfl, HB⟩ := hrel
    by_cases hlt : i < ls.length
    · obtain ⟨b1, o1, x1, z1, rfl, q0, q1, HQ1⟩ := HH1.out i hlt
      obtain ⟨b2, o2, x2, z2, rfl, q2, q3, HQ2⟩ := HH2.out i hlt
      have hwl := HW.out i hlt
      have HK1 := Lib.hid HQ1
      have HK2 := Lib.hid HQ2
      clear HQ1 HQ2
      generalize ls[i] = ln at *
      obtain ⟨nn, ws⟩ := ln
      simp only at q0 q1 q2 q3 hwl HK1 HK2
      have hm1 : ((nn : Int) != (nn : Int)) = false := by simp
      have hm2 : ((ws.length : Int) != (ws.length : Int)) = false := by simp
      go_wp2_with fail
      refine WQ.enter w HB.out (by kernel_rfl) (by kernel_rfl) ?_
      refine WQ.val (by rfl) (fun v hv => by have k0 := hv.cell q0; have k1 := hv.cell q1; have k2 := hv.cell q2; have k3 := hv.cell q3; go_simp; first | done | with_reducible rfl | (rw [if_neg (by omega)])) ?_; simp only [Act.put, List.setIfInBounds_toArray, List.set_cons_zero, List.set_cons_succ]
      refine WQ.val (by rfl) (fun v hv => by have k0 := hv.cell q0; have k1 := hv.cell q1; have k2 := hv.cell q2; have k3 := hv.cell q3; go_simp; first | done | with_reducible rfl | (rw [if_neg (by omega)])) ?_; simp only [Act.put, List.setIfInBounds_toArray, List.set_cons_zero, List.set_cons_succ]
      refine WQ.val (by rfl) (fun v hv => by have k0 := hv.cell q0; have k1 := hv.cell q1; have k2 := hv.cell q2; have k3 := hv.cell q3; go_simp; first | done | with_reducible rfl | (rw [if_neg (by omega)])) ?_; simp only [Act.put, List.setIfInBounds_toArray, List.set_cons_zero, List.set_cons_succ]
      refine WQ.val (by rfl) (fun v hv => by have k0 := hv.cell q0; have k1 := hv.cell q1; have k2 := hv.cell q2; have k3 := hv.cell q3; go_simp; first | done | with_reducible rfl | (rw [if_neg (by omega)])) ?_; simp only [Act.put, List.setIfInBounds_toArray, List.set_cons_zero, List.set_cons_succ]
      refine WQ.val (by rfl) (fun v hv => by have k0 := hv.cell q0; have k1 := hv.cell q1; have k2 := hv.cell q2; have k3 := hv.cell q3; go_simp; first | done | with_reducible rfl | (rw [if_neg (by omega)])) ?_; simp only [Act.put, List.setIfInBounds_toArray, List.set_cons_zero, List.set_cons_succ]
      refine WQ.val (by rfl) (fun v hv => by have k0 := hv.cell q0; have k1 := hv.cell q1; have k2 := hv.cell q2; have k3 := hv.cell q3; go_simp; first | done | with_reducible rfl | (rw [if_neg (by omega)])) ?_; simp only [Act.put, List.setIfInBounds_toArray, List.set_cons_zero, List.set_cons_succ]
      refine WQ.val (by rfl) (fun v hv => by have k0 := hv.cell q0; have k1 := hv.cell q1; have k2 := hv.cell q2; have k3 := hv.cell q3; go_simp; first | done | with_reducible rfl | (rw [if_neg (by omega)])) ?_; simp only [Act.put, List.setIfInBounds_toArray, List.set_cons_zero, List.set_cons_succ]
      refine WQ.val (by rfl) (fun v hv => by have k0 := hv.cell q0; have k1 := hv.cell q1; have k2 := hv.cell q2; have k3 := hv.cell q3; go_simp; first | done | with_reducible rfl | (rw [if_neg (by omega)])) ?_; simp only [Act.put, List.setIfInBounds_toArray, List.set_cons_zero, List.set_cons_succ]
      refine WQ.val (by rfl) (fun v hv => by have k0 := hv.cell q0; have k1 := hv.cell q1; have k2 := hv.cell q2; have k3 := hv.cell q3; go_simp; first | done | with_reducible rfl | (rw [if_neg (by omega)])) ?_; simp only [Act.put, List.setIfInBounds_toArray, List.set_cons_zero, List.set_cons_succ]
      refine WQ.val (by rfl) (fun v hv => by have k0 := hv.cell q0; have k1 := hv.cell q1; have k2 := hv.cell q2; have k3 := hv.cell q3; go_simp; first | done | with_reducible rfl | (rw [if_neg (by omega)])) ?_; simp only [Act.put, List.setIfInBounds_toArray, List.set_cons_zero, List.set_cons_succ]
      refine WQ.val (by rfl) (fun v hv => by have k0 := hv.cell q0; have k1 := hv.cell q1; have k2 := hv.cell q2; have k3 := hv.cell q3; go_simp; first | done | with_reducible rfl | (rw [if_neg (by omega)])) ?_; simp only [Act.put, List.setIfInBounds_toArray, List.set_cons_zero, List.set_cons_succ]
      refine WQ.val (by rfl) (fun v hv => by have k0 := hv.cell q0; have k1 := hv.cell q1; have k2 := hv.cell q2; have k3 := hv.cell q3; go_simp; first | done | with_reducible rfl | (rw [if_neg (by omega)])) ?_; simp only [Act.put, List.setIfInBounds_toArray, List.set_cons_zero, List.set_cons_succ]
      refine WQ.val (by rfl) (fun v hv => by have k0 := hv.cell q0; have k1 := hv.cell q1; have k2 := hv.cell q2; have k3 := hv.cell q3; go_simp; first | done | with_reducible rfl | (rw [if_neg (by omega)])) ?_; simp only [Act.put, List.setIfInBounds_toArray, List.set_cons_zero, List.set_cons_succ]
      refine WQ.val (by rfl) (fun v hv => by have k0 := hv.cell q0; have k1 := hv.cell q1; have k2 := hv.cell q2; have k3 := hv.cell q3; go_simp; first | done | with_reducible rfl | (rw [if_neg (by omega)])) ?_; simp only [Act.put, List.setIfInBounds_toArray, List.set_cons_zero, List.set_cons_succ]
      refine WQ.val (by rfl) (fun v hv => by have k0 := hv.cell q0; have k1 := hv.cell q1; have k2 := hv.cell q2; have k3 := hv.cell q3; go_simp; first | done | with_reducible rfl | (rw [if_neg (by omega)])) ?_; simp only [Act.put, List.setIfInBounds_toArray, List.set_cons_zero, List.set_cons_succ]
      refine WQ.val (by rfl) (fun v hv => by have k0 := hv.cell q0; have k1 := hv.cell q1; have k2 := hv.cell q2; have k3 := hv.cell q3; go_simp; first | done | with_reducible rfl | (rw [if_neg (by omega)])) ?_; simp only [Act.put, List.setIfInBounds_toArray, List.set_cons_zero, List.set_cons_succ]
      refine WQ.val (by rfl) (fun v hv => by have k0 := hv.cell q0; have k1 := hv.cell q1; have k2 := hv.cell q2; have k3 := hv.cell q3; go_simp; first | done | with_reducible rfl | (rw [if_neg (by omega)])) ?_; simp only [Act.put, List.setIfInBounds_toArray, List.set_cons_zero, List.set_cons_succ]
      refine WQ.val (by rfl) (fun v hv => by have k0 := hv.cell q0; have k1 := hv.cell q1; have k2 := hv.cell q2; have k3 := hv.cell q3; go_simp; first | done | with_reducible rfl | (rw [if_neg (by omega)])) ?_; simp only [Act.put, List.setIfInBounds_toArray, List.set_cons_zero, List.set_cons_succ]
      refine WQ.val (by rfl) (fun v hv => by have k0 := hv.cell q0; have k1 := hv.cell q1; have k2 := hv.cell q2; have k3 := hv.cell q3; go_simp; first | done | with_reducible rfl | (rw [if_neg (by omega)])) ?_; simp only [Act.put, List.setIfInBounds_toArray, List.set_cons_zero, List.set_cons_succ]
      refine WQ.val (by rfl) (fun v hv => by have k0 := hv.cell q0; have k1 := hv.cell q1; have k2 := hv.cell q2; have k3 := hv.cell q3; go_simp; first | done | with_reducible rfl | (rw [if_neg (by omega)])) ?_; simp only [Act.put, List.setIfInBounds_toArray, List.set_cons_zero, List.set_cons_succ]
      refine WQ.val (by rfl) (fun v hv => by have k0 := hv.cell q0; have k1 := hv.cell q1; have k2 := hv.cell q2; have k3 := hv.cell q3; go_simp; first | done | with_reducible rfl | (rw [if_neg (by omega)])) ?_; simp only [Act.put, List.setIfInBounds_toArray, List.set_cons_zero, List.set_cons_succ]
      refine WQ.val (by rfl) (fun v hv => by have k0 := hv.cell q0; have k1 := hv.cell q1; have k2 := hv.cell q2; have k3 := hv.cell q3; go_simp; first | done | with_reducible rfl | (rw [if_neg (by omega)])) ?_; simp only [Act.put, List.setIfInBounds_toArray, List.set_cons_zero, List.set_cons_succ]
      refine WQ.val (by rfl) (fun v hv => by have k0 := hv.cell q0; have k1 := hv.cell q1; have k2 := hv.cell q2; have k3 := hv.cell q3; go_simp; first | done | with_reducible rfl | (rw [if_neg (by omega)])) ?_; simp only [Act.put, List.setIfInBounds_toArray, List.set_cons_zero, List.set_cons_succ]
      refine WQ.val (by rfl) (fun v hv => by have k0 := hv.cell q0; have k1 := hv.cell q1; have k2 := hv.cell q2; have k3 := hv.cell q3; go_simp; first | done | with_reducible rfl | (rw [if_neg (by omega)])) ?_; simp only [Act.put, List.setIfInBounds_toArray, List.set_cons_zero, List.set_cons_succ]
      refine WQ.val (by rfl) (fun v hv => by have k0 := hv.cell q0; have k1 := hv.cell q1; have k2 := hv.cell q2; have k3 := hv.cell q3; go_simp; first | done | with_reducible rfl | (rw [if_neg (by omega)])) ?_; simp only [Act.put, List.setIfInBounds_toArray, List.set_cons_zero, List.set_cons_succ]
      refine WQ.val (by rfl) (fun v hv => by have k0 := hv.cell q0; have k1 := hv.cell q1; have k2 := hv.cell q2; have k3 := hv.cell q3; go_simp; first | done | with_reducible rfl | (rw [if_neg (by omega)])) ?_; simp only [Act.put, List.setIfInBounds_toArray, List.set_cons_zero, List.set_cons_succ]
      refine WQ.done ?_
      intro w5 hw5
      have HC := Lib.hid hw5
      clear hw5 q0 q2
      go_wp2_with fail
      go_loopw [6] (fun k wv => ∃ j : Nat, j ≤ ws.length ∧ k = .int .i64 j ∧ Hid (Since w wv)) (fun k _ => ws.length - (intOf k).toNat)
      case atStart => exact ⟨0, Nat.zero_le _, rfl, HC⟩
      case round =>
        obtain ⟨j, hj, rfl, HC⟩ := hrel
        have q1' := HC.out.cell q1
        by_cases hjl : j < ws.length
        · obtain ⟨d1, e1, rfl, r0⟩ := HK1.out j hjl
          obtain ⟨d2, e2, rfl, r1⟩ := HK2.out j hjl
          generalize ws[j] = sw at *
          go_wp2_with fail
          refine WQ.enter w HC.out (by kernel_rfl) (by kernel_rfl) ?_
          refine WQ.val (by rfl) (fun v hv => by have k0 := hv.cell q1; have k1 := hv.cell q3; have k2 := hv.cell r0; have k3 := hv.cell r1; go_simp; first | done | with_reducible rfl | (rw [if_neg (by omega)])) ?_; simp only [Act.put, List.setIfInBounds_toArray, List.set_cons_zero, List.set_cons_succ]
          refine WQ.val (by rfl) (fun v hv => by have k0 := hv.cell q1; have k1 := hv.cell q3; have k2 := hv.cell r0; have k3 := hv.cell r1; go_simp; first | done | with_reducible rfl | (rw [if_neg (by omega)])) ?_; simp only [Act.put, List.setIfInBounds_toArray, List.set_cons_zero, List.set_cons_succ]
          refine WQ.val (by rfl) (fun v hv => by have k0 := hv.cell q1; have k1 := hv.cell q3; have k2 := hv.cell r0; have k3 := hv.cell r1; go_simp; first | done | with_reducible rfl | (rw [if_neg (by omega)])) ?_; simp only [Act.put, List.setIfInBounds_toArray, List.set_cons_zero, List.set_cons_succ]
          refine WQ.val (by rfl) (fun v hv => by have k0 := hv.cell q1; have k1 := hv.cell q3; have k2 := hv.cell r0; have k3 := hv.cell r1; go_simp; first | done | with_reducible rfl | (rw [if_neg (by omega)])) ?_; simp only [Act.put, List.setIfInBounds_toArray, List.set_cons_zero, List.set_cons_succ]
          refine WQ.val (by rfl) (fun v hv => by have k0 := hv.cell q1; have k1 := hv.cell q3; have k2 := hv.cell r0; have k3 := hv.cell r1; go_simp; first | done | with_reducible rfl | (rw [if_neg (by omega)])) ?_; simp only [Act.put, List.setIfInBounds_toArray, List.set_cons_zero, List.set_cons_succ]
          refine WQ.val (by rfl) (fun v hv => by have k0 := hv.cell q1; have k1 := hv.cell q3; have k2 := hv.cell r0; have k3 := hv.cell r1; go_simp; first | done | with_reducible rfl | (rw [if_neg (by omega)])) ?_; simp only [Act.put, List.setIfInBounds_toArray, List.set_cons_zero, List.set_cons_succ]
          refine WQ.val (by rfl) (fun v hv => by have k0 := hv.cell q1; have k1 := hv.cell q3; have k2 := hv.cell r0; have k3 := hv.cell r1; go_simp; first | done | with_reducible rfl | (rw [if_neg (by omega)])) ?_; simp only [Act.put, List.setIfInBounds_toArray, List.set_cons_zero, List.set_cons_succ]
          refine WQ.val (by rfl) (fun v hv => by have k0 := hv.cell q1; have k1 := hv.cell q3; have k2 := hv.cell r0; have k3 := hv.cell r1; go_simp; first | done | with_reducible rfl | (rw [if_neg (by omega)])) ?_; simp only [Act.put, List.setIfInBounds_toArray, List.set_cons_zero, List.set_cons_succ]
          refine WQ.val (by rfl) (fun v hv => by have k0 := hv.cell q1; have k1 := hv.cell q3; have k2 := hv.cell r0; have k3 := hv.cell r1; go_simp; first | done | with_reducible rfl | (rw [if_neg (by omega)])) ?_; simp only [Act.put, List.setIfInBounds_toArray, List.set_cons_zero, List.set_cons_succ]
          refine WQ.val (by rfl) (fun v hv => by have k0 := hv.cell q1; have k1 := hv.cell q3; have k2 := hv.cell r0; have k3 := hv.cell r1; go_simp; first | done | with_reducible rfl | (rw [if_neg (by omega)])) ?_; simp only [Act.put, List.setIfInBounds_toArray, List.set_cons_zero, List.set_cons_succ]
          refine WQ.val (by rfl) (fun v hv => by have k0 := hv.cell q1; have k1 := hv.cell q3; have k2 := hv.cell r0; have k3 := hv.cell r1; go_simp; first | done | with_reducible rfl | (rw [if_neg (by omega)])) ?_; simp only [Act.put, List.setIfInBounds_toArray, List.set_cons_zero, List.set_cons_succ]
          refine WQ.val (by rfl) (fun v hv => by have k0 := hv.cell q1; have k1 := hv.cell q3; have k2 := hv.cell r0; have k3 := hv.cell r1; go_simp; first | done | with_reducible rfl | (rw [if_neg (by omega)])) ?_; simp only [Act.put, List.setIfInBounds_toArray, List.set_cons_zero, List.set_cons_succ]
          refine WQ.val (by rfl) (fun v hv => by have k0 := hv.cell q1; have k1 := hv.cell q3; have k2 := hv.cell r0; have k3 := hv.cell r1; go_simp; first | done | with_reducible rfl | (rw [if_neg (by omega)])) ?_; simp only [Act.put, List.setIfInBounds_toArray, List.set_cons_zero, List.set_cons_succ]
          refine WQ.val (by rfl) (fun v hv => by have k0 := hv.cell q1; have k1 := hv.cell q3; have k2 := hv.cell r0; have k3 := hv.cell r1; go_simp; first | done | with_reducible rfl | (rw [if_neg (by omega)])) ?_; simp only [Act.put, List.setIfInBounds_toArray, List.set_cons_zero, List.set_cons_succ]
          refine WQ.val (by rfl) (fun v hv => by have k0 := hv.cell q1; have k1 := hv.cell q3; have k2 := hv.cell r0; have k3 := hv.cell r1; go_simp; first | done | with_reducible rfl | (rw [if_neg (by omega)])) ?_; simp only [Act.put, List.setIfInBounds_toArray, List.set_cons_zero, List.set_cons_succ]
          refine WQ.val (by rfl) (fun v hv => by have k0 := hv.cell q1; have k1 := hv.cell q3; have k2 := hv.cell r0; have k3 := hv.cell r1; go_simp; first | done | with_reducible rfl | (rw [if_neg (by omega)])) ?_; simp only [Act.put, List.setIfInBounds_toArray, List.set_cons_zero, List.set_cons_succ]
          refine WQ.val (by rfl) (fun v hv => by have k0 := hv.cell q1; have k1 := hv.cell q3; have k2 := hv.cell r0; have k3 := hv.cell r1; go_simp; first | done | with_reducible rfl | (rw [if_neg (by omega)])) ?_; simp only [Act.put, List.setIfInBounds_toArray, List.set_cons_zero, List.set_cons_succ]
          refine WQ.done ?_
          intro w6 hw6
          have HD := Lib.hid hw6
          clear hw6 q1 q3 q1' r0 r1
          go_wp2_with fail
          go_roundw
          case rel => exact ⟨j + 1, by omega, by go_num, HD⟩
          case measure => first | (simp [intOf]; omega) | (simp [intOf]; done)
        · obtain rfl : j = ws.length := by omega
          go_wp2_with fail
          go_roundw
          case rel => exact ⟨i + 1, by omega, by go_num, HC⟩
          case measure => first | (simp [intOf]; omega) | (simp [intOf]; done)
    · obtain rfl : i = ls.length := by omega
      go_wp2_with fail
      go_ret
      exact ⟨rfl, HB.out⟩
end Go.Proofs.YtgajmepmjbmdoaaDoor
