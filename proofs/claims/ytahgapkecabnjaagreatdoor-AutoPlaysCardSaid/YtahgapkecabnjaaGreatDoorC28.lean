/- alike: the engine and the reference tell the same. Printed by gen_refh.py. -/
import Derived.Test.YtahgapkecabnjaaGreatDoorC21
import Derived.Test.YtahgapkecabnjaaGreatDoorC25
import Derived.Test.YtahgapkecabnjaaGreatDoorC27
namespace Go.Proofs.YtahgapkecabnjaaGreatDoor
set_option linter.unusedSimpArgs false
set_option linter.unusedVariables false
open Go Go.RowKit Go.Shelf Go.Lib Go.Maps Go.MapKept

theorem keysL_at {l : Kl (Nat × Bool)} {j : Nat} {p : Ky × (Nat × Bool)} (h : l[j]? = some p) : (keysL l)[j]? = some p.1 := by
  unfold keysL
  rw [List.getElem?_map, h]; rfl
set_option maxHeartbeats 8000000 in
set_option maxRecDepth 100000 in
theorem alike_any {w : World} {ba ra : Nat} {F G : Nat → Prop} {s : St} (hA : AutoAt w ba F s) (hB : RefAt w ra G s) (hs : s.Ok) (hF : ∀ i, F i → i < w.heap.size) :
    Calls Tryz.prog 14 #[.pointer (some ⟨ba, 0, none⟩), .pointer (some ⟨ra, 0, none⟩)] w fun e w' => e = .returned (.bool true) ∧ Below w.heap.size w w' := by
  have hsm := hs.small
  have HSO := Lib.hid hs
  have HKS := Lib.hid (hA.keys (by omega) hs.rise)
  have HA := Lib.hid hA
  have HB := Lib.hid hB
  have HGA := Lib.hid (fun W (hA : AutoAt W ba F s) => gateOf_any hA hs.g)
  have HUN := Lib.hid (fun W => rgunpack_any s.g _ _ _ W hs.g rfl rfl rfl)
  have HFL := Lib.hid hF
  have HGB : Hid (verW s.g ≤ 9223372036854775807 ∧ cntW s.g ≤ 9223372036854775807 ∧ clkW s.g ≤ 9223372036854775807) := Lib.hid (by have := gate_parts hs.g; omega)
  unfold gateV at HGA
  clear hA hB hs hF
  generalize verW s.g = gv at *
  generalize cntW s.g = gc at *
  generalize clkW s.g = gk at *
  go_enter Tryz.func14, Tryz.ntmps14
  go_wp2_with fail
  refine HKS.out.mono ?_
  rintro e w2 ⟨v, rfl, hK, h2⟩
  obtain ⟨ka, kc, rfl⟩ := hK.len
  have hkl : (keysL s.flows).length = s.flows.length := by simp [keysL]
  rw [hkl] at hK ⊢
  have HKA := Lib.hid hK
  have HB2 := Lib.hid h2
  have HA2 := Lib.hid (HA.out.below h2)
  obtain ⟨rv, fv, vs, hR⟩ := HB.out.below h2
  have HR := Lib.hid hR
  obtain ⟨fa, fc, hfv, hfl⟩ := hR.flows
  have g0 : w2.cell? ⟨ra, 18, none⟩ = some (.int .u64 (s.g : Nat)) := hR.cell rfl
  have r0 : w2.cell? ⟨ra, 20, none⟩ = some fv := hR.cell rfl
  rw [hfv] at r0
  have HFW := Lib.hid hfl
  have HGA2 := Lib.hid (fun v (hv : Since w2 v) => HGA.out v (HA2.out.below hv))
  clear hK hkl h2 hR hfv hfl HKS
  generalize hm : s.flows.length = m at *
  have HM := Lib.hid hm
  clear hm
  go_wp2_with fail
  --M0
  refine WQ.enter w2 (Since.refl _) (by kernel_rfl) (by kernel_rfl) ?_
  refine WQ.val (by rfl) (fun v hv => by have k0 := hv.cell g0; have k1 := hv.cell r0; go_simp; first | done | with_reducible rfl | (rw [if_neg (by omega)])) ?_; simp only [Act.put, List.setIfInBounds_toArray, List.set_cons_zero, List.set_cons_succ]
  refine WQ.call (f := 22) (args := #[.pointer (some ⟨ba, 0, none⟩)]) (by rfl) (fun v hv => by go_simp) (fun v hv => (HGA2.out v hv).mono (fun e v' ⟨he, hb⟩ => ⟨he, hv.step hb⟩)) ?_; simp only [Act.put, List.setIfInBounds_toArray, List.set_cons_zero, List.set_cons_succ]
  refine WQ.val (by rfl) (fun v hv => by have k0 := hv.cell g0; have k1 := hv.cell r0; go_simp; first | done | with_reducible rfl | (rw [if_neg (by omega)])) ?_; simp only [Act.put, List.setIfInBounds_toArray, List.set_cons_zero, List.set_cons_succ]
  refine WQ.val (by rfl) (fun v hv => by have k0 := hv.cell g0; have k1 := hv.cell r0; go_simp; first | done | with_reducible rfl | (rw [if_neg (by omega)])) ?_; simp only [Act.put, List.setIfInBounds_toArray, List.set_cons_zero, List.set_cons_succ]
  refine WQ.val (by rfl) (fun v hv => by have k0 := hv.cell g0; have k1 := hv.cell r0; go_simp; first | done | with_reducible rfl | (rw [if_neg (by omega)])) ?_; simp only [Act.put, List.setIfInBounds_toArray, List.set_cons_zero, List.set_cons_succ]
  refine WQ.val (by rfl) (fun v hv => by have k0 := hv.cell g0; have k1 := hv.cell r0; go_simp; first | done | with_reducible rfl | (rw [if_neg (by omega)])) ?_; simp only [Act.put, List.setIfInBounds_toArray, List.set_cons_zero, List.set_cons_succ]
  refine WQ.call (f := 38) (args := #[.int .u64 (s.g : Nat)]) (by rfl) (fun v hv => by go_simp) (fun v hv => (HUN.out v).mono (fun e v' ⟨he, hb⟩ => ⟨he, hv.step hb⟩)) ?_; simp only [Act.put, List.setIfInBounds_toArray, List.set_cons_zero, List.set_cons_succ]
  refine WQ.val (u := .bool false) (by rfl) (fun v hv => exec_neGate (.tmp 12) (.tmp 17) _ rfl HGB.out.1 HGB.out.2.1 HGB.out.2.2 rfl rfl) ?_; simp only [Act.put, List.setIfInBounds_toArray, List.set_cons_zero, List.set_cons_succ]
  refine WQ.val (by rfl) (fun v hv => by have k0 := hv.cell g0; have k1 := hv.cell r0; go_simp; first | done | with_reducible rfl | (rw [if_neg (by omega)])) ?_; simp only [Act.put, List.setIfInBounds_toArray, List.set_cons_zero, List.set_cons_succ]
  refine WQ.val (by rfl) (fun v hv => by have k0 := hv.cell g0; have k1 := hv.cell r0; go_simp; first | done | with_reducible rfl | (rw [if_neg (by omega)])) ?_; simp only [Act.put, List.setIfInBounds_toArray, List.set_cons_zero, List.set_cons_succ]
  refine WQ.val (by rfl) (fun v hv => by have k0 := hv.cell g0; have k1 := hv.cell r0; go_simp; first | done | with_reducible rfl | (rw [if_neg (by omega)])) ?_; simp only [Act.put, List.setIfInBounds_toArray, List.set_cons_zero, List.set_cons_succ]
  refine WQ.val (by rfl) (fun v hv => by have k0 := hv.cell g0; have k1 := hv.cell r0; go_simp; first | done | with_reducible rfl | (rw [if_neg (by omega)])) ?_; simp only [Act.put, List.setIfInBounds_toArray, List.set_cons_zero, List.set_cons_succ]
  refine WQ.val (by rfl) (fun v hv => by have k0 := hv.cell g0; have k1 := hv.cell r0; go_simp; first | done | with_reducible rfl | (rw [if_neg (by omega)])) ?_; simp only [Act.put, List.setIfInBounds_toArray, List.set_cons_zero, List.set_cons_succ]
  refine WQ.val (by rfl) (fun v hv => by have k0 := hv.cell g0; have k1 := hv.cell r0; go_simp; first | done | with_reducible rfl | (rw [if_neg (by omega)])) ?_; simp only [Act.put, List.setIfInBounds_toArray, List.set_cons_zero, List.set_cons_succ]
  refine WQ.val (by rfl) (fun v hv => by have k0 := hv.cell g0; have k1 := hv.cell r0; go_simp; first | done | with_reducible rfl | (rw [if_neg (by omega)])) ?_; simp only [Act.put, List.setIfInBounds_toArray, List.set_cons_zero, List.set_cons_succ]
  refine WQ.val (by rfl) (fun v hv => by have k0 := hv.cell g0; have k1 := hv.cell r0; go_simp; first | done | with_reducible rfl | (rw [if_neg (by omega)])) ?_; simp only [Act.put, List.setIfInBounds_toArray, List.set_cons_zero, List.set_cons_succ]
  refine WQ.val (by rfl) (fun v hv => by have k0 := hv.cell g0; have k1 := hv.cell r0; go_simp; first | done | with_reducible rfl | (rw [if_neg (by omega)])) ?_; simp only [Act.put, List.setIfInBounds_toArray, List.set_cons_zero, List.set_cons_succ]
  refine WQ.val (by rfl) (fun v hv => by have k0 := hv.cell g0; have k1 := hv.cell r0; go_simp; first | done | with_reducible rfl | (rw [if_neg (by omega)])) ?_; simp only [Act.put, List.setIfInBounds_toArray, List.set_cons_zero, List.set_cons_succ]
  refine WQ.done ?_
  intro w3 hw3
  have HS3 : Hid (Since w2 w3) := Lib.hid hw3
  have r1 := hw3.cell r0
  clear hw3 g0 r0
  go_wp2_with fail
  --M1
  go_loopw [6] (fun x wr => ∃ j : Nat, x = .int .i64 j ∧ j ≤ m ∧ Hid (Since w3 wr)) (fun x _ => m - (intOf x).toNat)
  case atStart => exact ⟨0, rfl, Nat.zero_le _, Lib.hid (Since.refl _)⟩
  case round =>
    obtain ⟨j, rfl, hj, HSR⟩ := hrel
    by_cases hlt : j < m
    · obtain ⟨p, hp⟩ : ∃ p, s.flows[j]? = some p := ⟨_, List.getElem?_eq_getElem (by rw [HM.out]; exact hlt)⟩
      have hpi := HSO.out.kin p (List.mem_of_getElem? hp)
      have hgl : getL s.flows p.1 = some p.2 := getL_at HSO.out.rise (by rw [hp])
      obtain ⟨kg, rfl⟩ := HKA.out.head (keysL_at hp)
      have HS2 : Hid (Since w2 wr) := Lib.hid (below_then HS3.out HSR.out)
      have hk5 := HKA.out.key5 (Turn.of_below (F := fun _ => False) HS2.out) (fun _ h => h.elim) (keysL_at hp)
      obtain ⟨g, rfl, -, hc⟩ := HFW.out j p hp
      have hc : ∀ i v, (flowC p)[i]? = some v → wr.cell? ⟨g, j * 7 + i, none⟩ = some v := fun i v hv => HS2.out.cell (hc i v hv).1
      have HFO := Lib.hid hc
      have HLW : Hid (lookW s p.1 = p.2.1 ∧ hasL s.flows p.1 = true) := Lib.hid ⟨by unfold lookW entG; rw [hgl]; rfl, by unfold hasL; rw [hgl]; rfl⟩
      have HLO := Lib.hid (fun W (hA : AutoAt W ba F s) => look_any hpi.1 hA HSO.out)
      rw [HLW.out.1, HLW.out.2] at HLO
      unfold flowV at HLO
      have HKI := Lib.hid hpi.1
      have HUF := Lib.hid (fun W => rfunpack_any p.2.1 _ _ _ W hpi.2.1 rfl rfl rfl)
      have HBN : Hid (stW p.2.1 ≤ 9223372036854775807 ∧ seqW p.2.1 ≤ 9223372036854775807 ∧ untW p.2.1 ≤ 9223372036854775807) := Lib.hid (by have := flow_parts hpi.2.1; omega)
      have HAR := Lib.hid (HA2.out.below HS2.out)
      have f5 : wr.cell? ⟨g, j * 7 + 5, none⟩ = some (.int .u64 (p.2.1 : Nat)) := hc 5 _ rfl
      have f0 : wr.cell? ⟨g, j * 7, none⟩ = some (.int .u32 p.1.a0) := hc 0 _ rfl
      have f1 : wr.cell? ⟨g, j * 7 + 1, none⟩ = some (.int .u32 p.1.a1) := hc 1 _ rfl
      have f2 : wr.cell? ⟨g, j * 7 + 2, none⟩ = some (.int .u16 p.1.p0) := hc 2 _ rfl
      have f3 : wr.cell? ⟨g, j * 7 + 3, none⟩ = some (.int .u16 p.1.p1) := hc 3 _ rfl
      have f4 : wr.cell? ⟨g, j * 7 + 4, none⟩ = some (.int .u8 p.1.pr) := hc 4 _ rfl
      have r2 := HSR.out.cell r1
      clear hgl hc hp hpi HFO
      generalize p.1 = kq at *
      generalize p.2.1 = wd at *
      generalize stW wd = sw at *
      generalize seqW wd = qw at *
      generalize untW wd = uw at *
      obtain ⟨k0, k1, k2, k3, k4⟩ := hk5
      have hji : (0 : Int) ≤ j := by omega
      have hjm : (j : Int) < (m : Int) := by omega
      go_wp2_with fail
      --M2
      refine (HLO.out _ HAR.out).mono ?_
      rintro e w4 ⟨rfl, h4⟩
      have HB5 : Hid (Since w4 (w4.alloc (.cells #[.int .i64 (sw : Nat), .int .i64 (qw : Nat), .int .i64 (uw : Nat)] 50))) := Lib.hid ((Below.refl _ w4).alloc (Nat.le_refl _) _)
      have l0 : (w4.alloc (.cells #[.int .i64 (sw : Nat), .int .i64 (qw : Nat), .int .i64 (uw : Nat)] 50)).cell? ⟨w4.heap.size, 0, none⟩ = some (.int .i64 (sw : Nat)) := by simp
      have l1 : (w4.alloc (.cells #[.int .i64 (sw : Nat), .int .i64 (qw : Nat), .int .i64 (uw : Nat)] 50)).cell? ⟨w4.heap.size, 1, none⟩ = some (.int .i64 (qw : Nat)) := by simp
      have l2 : (w4.alloc (.cells #[.int .i64 (sw : Nat), .int .i64 (qw : Nat), .int .i64 (uw : Nat)] 50)).cell? ⟨w4.heap.size, 2, none⟩ = some (.int .i64 (uw : Nat)) := by simp
      have HS5 : Hid (Since wr (w4.alloc (.cells #[.int .i64 (sw : Nat), .int .i64 (qw : Nat), .int .i64 (uw : Nat)] 50))) := Lib.hid (below_then h4 HB5.out)
      replace k0 := HS5.out.cell k0
      replace k1 := HS5.out.cell k1
      replace k2 := HS5.out.cell k2
      replace k3 := HS5.out.cell k3
      replace k4 := HS5.out.cell k4
      replace f0 := HS5.out.cell f0
      replace f1 := HS5.out.cell f1
      replace f2 := HS5.out.cell f2
      replace f3 := HS5.out.cell f3
      replace f4 := HS5.out.cell f4
      replace f5 := HS5.out.cell f5
      replace r2 := HS5.out.cell r2
      clear h4 HB5
      go_wp2_with fail
      generalize hw5 : w4.alloc (.cells #[.int .i64 (sw : Nat), .int .i64 (qw : Nat), .int .i64 (uw : Nat)] 50) = w5 at *
      clear hw5
      --M3
      refine WQ.enter w5 (Since.refl _) (by kernel_rfl) (by kernel_rfl) ?_
      refine WQ.val (by rfl) (fun v hv => by have k0 := hv.cell k0; have k1 := hv.cell k1; have k2 := hv.cell k2; have k3 := hv.cell k3; have k4 := hv.cell k4; have k5 := hv.cell f0; have k6 := hv.cell f1; have k7 := hv.cell f2; have k8 := hv.cell f3; have k9 := hv.cell f4; have k10 := hv.cell f5; have k11 := hv.cell r2; have k12 := hv.cell l0; have k13 := hv.cell l1; have k14 := hv.cell l2; go_simp; first | done | with_reducible rfl | (rw [if_neg (by omega)])) ?_; simp only [Act.put, List.setIfInBounds_toArray, List.set_cons_zero, List.set_cons_succ]
      refine WQ.val (by rfl) (fun v hv => by have k0 := hv.cell k0; have k1 := hv.cell k1; have k2 := hv.cell k2; have k3 := hv.cell k3; have k4 := hv.cell k4; have k5 := hv.cell f0; have k6 := hv.cell f1; have k7 := hv.cell f2; have k8 := hv.cell f3; have k9 := hv.cell f4; have k10 := hv.cell f5; have k11 := hv.cell r2; have k12 := hv.cell l0; have k13 := hv.cell l1; have k14 := hv.cell l2; go_simp; first | done | with_reducible rfl | (rw [if_neg (by omega)])) ?_; simp only [Act.put, List.setIfInBounds_toArray, List.set_cons_zero, List.set_cons_succ]
      refine WQ.val (by rfl) (fun v hv => by have k0 := hv.cell k0; have k1 := hv.cell k1; have k2 := hv.cell k2; have k3 := hv.cell k3; have k4 := hv.cell k4; have k5 := hv.cell f0; have k6 := hv.cell f1; have k7 := hv.cell f2; have k8 := hv.cell f3; have k9 := hv.cell f4; have k10 := hv.cell f5; have k11 := hv.cell r2; have k12 := hv.cell l0; have k13 := hv.cell l1; have k14 := hv.cell l2; go_simp; first | done | with_reducible rfl | (rw [if_neg (by omega)])) ?_; simp only [Act.put, List.setIfInBounds_toArray, List.set_cons_zero, List.set_cons_succ]
      refine WQ.val (by rfl) (fun v hv => by have k0 := hv.cell k0; have k1 := hv.cell k1; have k2 := hv.cell k2; have k3 := hv.cell k3; have k4 := hv.cell k4; have k5 := hv.cell f0; have k6 := hv.cell f1; have k7 := hv.cell f2; have k8 := hv.cell f3; have k9 := hv.cell f4; have k10 := hv.cell f5; have k11 := hv.cell r2; have k12 := hv.cell l0; have k13 := hv.cell l1; have k14 := hv.cell l2; go_simp; first | done | with_reducible rfl | (rw [if_neg (by omega)])) ?_; simp only [Act.put, List.setIfInBounds_toArray, List.set_cons_zero, List.set_cons_succ]
      refine WQ.val (by rfl) (fun v hv => by have k0 := hv.cell k0; have k1 := hv.cell k1; have k2 := hv.cell k2; have k3 := hv.cell k3; have k4 := hv.cell k4; have k5 := hv.cell f0; have k6 := hv.cell f1; have k7 := hv.cell f2; have k8 := hv.cell f3; have k9 := hv.cell f4; have k10 := hv.cell f5; have k11 := hv.cell r2; have k12 := hv.cell l0; have k13 := hv.cell l1; have k14 := hv.cell l2; go_simp; first | done | with_reducible rfl | (rw [if_neg (by omega)])) ?_; simp only [Act.put, List.setIfInBounds_toArray, List.set_cons_zero, List.set_cons_succ]
      refine WQ.val (by rfl) (fun v hv => by have k0 := hv.cell k0; have k1 := hv.cell k1; have k2 := hv.cell k2; have k3 := hv.cell k3; have k4 := hv.cell k4; have k5 := hv.cell f0; have k6 := hv.cell f1; have k7 := hv.cell f2; have k8 := hv.cell f3; have k9 := hv.cell f4; have k10 := hv.cell f5; have k11 := hv.cell r2; have k12 := hv.cell l0; have k13 := hv.cell l1; have k14 := hv.cell l2; go_simp; first | done | with_reducible rfl | (rw [if_neg (by omega)])) ?_; simp only [Act.put, List.setIfInBounds_toArray, List.set_cons_zero, List.set_cons_succ]
      refine WQ.val (by rfl) (fun v hv => by have k0 := hv.cell k0; have k1 := hv.cell k1; have k2 := hv.cell k2; have k3 := hv.cell k3; have k4 := hv.cell k4; have k5 := hv.cell f0; have k6 := hv.cell f1; have k7 := hv.cell f2; have k8 := hv.cell f3; have k9 := hv.cell f4; have k10 := hv.cell f5; have k11 := hv.cell r2; have k12 := hv.cell l0; have k13 := hv.cell l1; have k14 := hv.cell l2; go_simp; first | done | with_reducible rfl | (rw [if_neg (by omega)])) ?_; simp only [Act.put, List.setIfInBounds_toArray, List.set_cons_zero, List.set_cons_succ]
      refine WQ.val (by rfl) (fun v hv => by have k0 := hv.cell k0; have k1 := hv.cell k1; have k2 := hv.cell k2; have k3 := hv.cell k3; have k4 := hv.cell k4; have k5 := hv.cell f0; have k6 := hv.cell f1; have k7 := hv.cell f2; have k8 := hv.cell f3; have k9 := hv.cell f4; have k10 := hv.cell f5; have k11 := hv.cell r2; have k12 := hv.cell l0; have k13 := hv.cell l1; have k14 := hv.cell l2; go_simp; first | done | with_reducible rfl | (rw [if_neg (by omega)])) ?_; simp only [Act.put, List.setIfInBounds_toArray, List.set_cons_zero, List.set_cons_succ]
      refine WQ.val (by rfl) (fun v hv => by have k0 := hv.cell k0; have k1 := hv.cell k1; have k2 := hv.cell k2; have k3 := hv.cell k3; have k4 := hv.cell k4; have k5 := hv.cell f0; have k6 := hv.cell f1; have k7 := hv.cell f2; have k8 := hv.cell f3; have k9 := hv.cell f4; have k10 := hv.cell f5; have k11 := hv.cell r2; have k12 := hv.cell l0; have k13 := hv.cell l1; have k14 := hv.cell l2; go_simp; first | done | with_reducible rfl | (rw [if_neg (by omega)])) ?_; simp only [Act.put, List.setIfInBounds_toArray, List.set_cons_zero, List.set_cons_succ]
      refine WQ.val (by rfl) (fun v hv => by have k0 := hv.cell k0; have k1 := hv.cell k1; have k2 := hv.cell k2; have k3 := hv.cell k3; have k4 := hv.cell k4; have k5 := hv.cell f0; have k6 := hv.cell f1; have k7 := hv.cell f2; have k8 := hv.cell f3; have k9 := hv.cell f4; have k10 := hv.cell f5; have k11 := hv.cell r2; have k12 := hv.cell l0; have k13 := hv.cell l1; have k14 := hv.cell l2; go_simp; first | done | with_reducible rfl | (rw [if_neg (by omega)])) ?_; simp only [Act.put, List.setIfInBounds_toArray, List.set_cons_zero, List.set_cons_succ]
      refine WQ.val (by rfl) (fun v hv => by have k0 := hv.cell k0; have k1 := hv.cell k1; have k2 := hv.cell k2; have k3 := hv.cell k3; have k4 := hv.cell k4; have k5 := hv.cell f0; have k6 := hv.cell f1; have k7 := hv.cell f2; have k8 := hv.cell f3; have k9 := hv.cell f4; have k10 := hv.cell f5; have k11 := hv.cell r2; have k12 := hv.cell l0; have k13 := hv.cell l1; have k14 := hv.cell l2; go_simp; first | done | with_reducible rfl | (rw [if_neg (by omega)])) ?_; simp only [Act.put, List.setIfInBounds_toArray, List.set_cons_zero, List.set_cons_succ]
      refine WQ.val (by rfl) (fun v hv => by have k0 := hv.cell k0; have k1 := hv.cell k1; have k2 := hv.cell k2; have k3 := hv.cell k3; have k4 := hv.cell k4; have k5 := hv.cell f0; have k6 := hv.cell f1; have k7 := hv.cell f2; have k8 := hv.cell f3; have k9 := hv.cell f4; have k10 := hv.cell f5; have k11 := hv.cell r2; have k12 := hv.cell l0; have k13 := hv.cell l1; have k14 := hv.cell l2; go_simp; first | done | with_reducible rfl | (rw [if_neg (by omega)])) ?_; simp only [Act.put, List.setIfInBounds_toArray, List.set_cons_zero, List.set_cons_succ]
      refine WQ.val (u := .bool false) (by rfl) (fun v hv => by rw [exec_neKey (.tmp 47) (.tmp 55) _ rfl HKI.out HKI.out rfl rfl]; simp) ?_; simp only [Act.put, List.setIfInBounds_toArray, List.set_cons_zero, List.set_cons_succ]
      refine WQ.val (by rfl) (fun v hv => by have k0 := hv.cell k0; have k1 := hv.cell k1; have k2 := hv.cell k2; have k3 := hv.cell k3; have k4 := hv.cell k4; have k5 := hv.cell f0; have k6 := hv.cell f1; have k7 := hv.cell f2; have k8 := hv.cell f3; have k9 := hv.cell f4; have k10 := hv.cell f5; have k11 := hv.cell r2; have k12 := hv.cell l0; have k13 := hv.cell l1; have k14 := hv.cell l2; go_simp; first | done | with_reducible rfl | (rw [if_neg (by omega)])) ?_; simp only [Act.put, List.setIfInBounds_toArray, List.set_cons_zero, List.set_cons_succ]
      refine WQ.val (by rfl) (fun v hv => by have k0 := hv.cell k0; have k1 := hv.cell k1; have k2 := hv.cell k2; have k3 := hv.cell k3; have k4 := hv.cell k4; have k5 := hv.cell f0; have k6 := hv.cell f1; have k7 := hv.cell f2; have k8 := hv.cell f3; have k9 := hv.cell f4; have k10 := hv.cell f5; have k11 := hv.cell r2; have k12 := hv.cell l0; have k13 := hv.cell l1; have k14 := hv.cell l2; go_simp; first | done | with_reducible rfl | (rw [if_neg (by omega)])) ?_; simp only [Act.put, List.setIfInBounds_toArray, List.set_cons_zero, List.set_cons_succ]
      refine WQ.val (by rfl) (fun v hv => by have k0 := hv.cell k0; have k1 := hv.cell k1; have k2 := hv.cell k2; have k3 := hv.cell k3; have k4 := hv.cell k4; have k5 := hv.cell f0; have k6 := hv.cell f1; have k7 := hv.cell f2; have k8 := hv.cell f3; have k9 := hv.cell f4; have k10 := hv.cell f5; have k11 := hv.cell r2; have k12 := hv.cell l0; have k13 := hv.cell l1; have k14 := hv.cell l2; go_simp; first | done | with_reducible rfl | (rw [if_neg (by omega)])) ?_; simp only [Act.put, List.setIfInBounds_toArray, List.set_cons_zero, List.set_cons_succ]
      refine WQ.val (by rfl) (fun v hv => by have k0 := hv.cell k0; have k1 := hv.cell k1; have k2 := hv.cell k2; have k3 := hv.cell k3; have k4 := hv.cell k4; have k5 := hv.cell f0; have k6 := hv.cell f1; have k7 := hv.cell f2; have k8 := hv.cell f3; have k9 := hv.cell f4; have k10 := hv.cell f5; have k11 := hv.cell r2; have k12 := hv.cell l0; have k13 := hv.cell l1; have k14 := hv.cell l2; go_simp; first | done | with_reducible rfl | (rw [if_neg (by omega)])) ?_; simp only [Act.put, List.setIfInBounds_toArray, List.set_cons_zero, List.set_cons_succ]
      refine WQ.val (by rfl) (fun v hv => by have k0 := hv.cell k0; have k1 := hv.cell k1; have k2 := hv.cell k2; have k3 := hv.cell k3; have k4 := hv.cell k4; have k5 := hv.cell f0; have k6 := hv.cell f1; have k7 := hv.cell f2; have k8 := hv.cell f3; have k9 := hv.cell f4; have k10 := hv.cell f5; have k11 := hv.cell r2; have k12 := hv.cell l0; have k13 := hv.cell l1; have k14 := hv.cell l2; go_simp; first | done | with_reducible rfl | (rw [if_neg (by omega)])) ?_; simp only [Act.put, List.setIfInBounds_toArray, List.set_cons_zero, List.set_cons_succ]
      refine WQ.val (by rfl) (fun v hv => by have k0 := hv.cell k0; have k1 := hv.cell k1; have k2 := hv.cell k2; have k3 := hv.cell k3; have k4 := hv.cell k4; have k5 := hv.cell f0; have k6 := hv.cell f1; have k7 := hv.cell f2; have k8 := hv.cell f3; have k9 := hv.cell f4; have k10 := hv.cell f5; have k11 := hv.cell r2; have k12 := hv.cell l0; have k13 := hv.cell l1; have k14 := hv.cell l2; go_simp; first | done | with_reducible rfl | (rw [if_neg (by omega)])) ?_; simp only [Act.put, List.setIfInBounds_toArray, List.set_cons_zero, List.set_cons_succ]
      refine WQ.val (by rfl) (fun v hv => by have k0 := hv.cell k0; have k1 := hv.cell k1; have k2 := hv.cell k2; have k3 := hv.cell k3; have k4 := hv.cell k4; have k5 := hv.cell f0; have k6 := hv.cell f1; have k7 := hv.cell f2; have k8 := hv.cell f3; have k9 := hv.cell f4; have k10 := hv.cell f5; have k11 := hv.cell r2; have k12 := hv.cell l0; have k13 := hv.cell l1; have k14 := hv.cell l2; go_simp; first | done | with_reducible rfl | (rw [if_neg (by omega)])) ?_; simp only [Act.put, List.setIfInBounds_toArray, List.set_cons_zero, List.set_cons_succ]
      refine WQ.val (by rfl) (fun v hv => by have k0 := hv.cell k0; have k1 := hv.cell k1; have k2 := hv.cell k2; have k3 := hv.cell k3; have k4 := hv.cell k4; have k5 := hv.cell f0; have k6 := hv.cell f1; have k7 := hv.cell f2; have k8 := hv.cell f3; have k9 := hv.cell f4; have k10 := hv.cell f5; have k11 := hv.cell r2; have k12 := hv.cell l0; have k13 := hv.cell l1; have k14 := hv.cell l2; go_simp; first | done | with_reducible rfl | (rw [if_neg (by omega)])) ?_; simp only [Act.put, List.setIfInBounds_toArray, List.set_cons_zero, List.set_cons_succ]
      refine WQ.val (by rfl) (fun v hv => by have k0 := hv.cell k0; have k1 := hv.cell k1; have k2 := hv.cell k2; have k3 := hv.cell k3; have k4 := hv.cell k4; have k5 := hv.cell f0; have k6 := hv.cell f1; have k7 := hv.cell f2; have k8 := hv.cell f3; have k9 := hv.cell f4; have k10 := hv.cell f5; have k11 := hv.cell r2; have k12 := hv.cell l0; have k13 := hv.cell l1; have k14 := hv.cell l2; go_simp; first | done | with_reducible rfl | (rw [if_neg (by omega)])) ?_; simp only [Act.put, List.setIfInBounds_toArray, List.set_cons_zero, List.set_cons_succ]
      refine WQ.val (by rfl) (fun v hv => by have k0 := hv.cell k0; have k1 := hv.cell k1; have k2 := hv.cell k2; have k3 := hv.cell k3; have k4 := hv.cell k4; have k5 := hv.cell f0; have k6 := hv.cell f1; have k7 := hv.cell f2; have k8 := hv.cell f3; have k9 := hv.cell f4; have k10 := hv.cell f5; have k11 := hv.cell r2; have k12 := hv.cell l0; have k13 := hv.cell l1; have k14 := hv.cell l2; go_simp; first | done | with_reducible rfl | (rw [if_neg (by omega)])) ?_; simp only [Act.put, List.setIfInBounds_toArray, List.set_cons_zero, List.set_cons_succ]
      refine WQ.val (by rfl) (fun v hv => by have k0 := hv.cell k0; have k1 := hv.cell k1; have k2 := hv.cell k2; have k3 := hv.cell k3; have k4 := hv.cell k4; have k5 := hv.cell f0; have k6 := hv.cell f1; have k7 := hv.cell f2; have k8 := hv.cell f3; have k9 := hv.cell f4; have k10 := hv.cell f5; have k11 := hv.cell r2; have k12 := hv.cell l0; have k13 := hv.cell l1; have k14 := hv.cell l2; go_simp; first | done | with_reducible rfl | (rw [if_neg (by omega)])) ?_; simp only [Act.put, List.setIfInBounds_toArray, List.set_cons_zero, List.set_cons_succ]
      refine WQ.val (by rfl) (fun v hv => by have k0 := hv.cell k0; have k1 := hv.cell k1; have k2 := hv.cell k2; have k3 := hv.cell k3; have k4 := hv.cell k4; have k5 := hv.cell f0; have k6 := hv.cell f1; have k7 := hv.cell f2; have k8 := hv.cell f3; have k9 := hv.cell f4; have k10 := hv.cell f5; have k11 := hv.cell r2; have k12 := hv.cell l0; have k13 := hv.cell l1; have k14 := hv.cell l2; go_simp; first | done | with_reducible rfl | (rw [if_neg (by omega)])) ?_; simp only [Act.put, List.setIfInBounds_toArray, List.set_cons_zero, List.set_cons_succ]
      refine WQ.val (by rfl) (fun v hv => by have k0 := hv.cell k0; have k1 := hv.cell k1; have k2 := hv.cell k2; have k3 := hv.cell k3; have k4 := hv.cell k4; have k5 := hv.cell f0; have k6 := hv.cell f1; have k7 := hv.cell f2; have k8 := hv.cell f3; have k9 := hv.cell f4; have k10 := hv.cell f5; have k11 := hv.cell r2; have k12 := hv.cell l0; have k13 := hv.cell l1; have k14 := hv.cell l2; go_simp; first | done | with_reducible rfl | (rw [if_neg (by omega)])) ?_; simp only [Act.put, List.setIfInBounds_toArray, List.set_cons_zero, List.set_cons_succ]
      refine WQ.val (by rfl) (fun v hv => by have k0 := hv.cell k0; have k1 := hv.cell k1; have k2 := hv.cell k2; have k3 := hv.cell k3; have k4 := hv.cell k4; have k5 := hv.cell f0; have k6 := hv.cell f1; have k7 := hv.cell f2; have k8 := hv.cell f3; have k9 := hv.cell f4; have k10 := hv.cell f5; have k11 := hv.cell r2; have k12 := hv.cell l0; have k13 := hv.cell l1; have k14 := hv.cell l2; go_simp; first | done | with_reducible rfl | (rw [if_neg (by omega)])) ?_; simp only [Act.put, List.setIfInBounds_toArray, List.set_cons_zero, List.set_cons_succ]
      refine WQ.call (f := 39) (args := #[.int .u64 (wd : Nat)]) (by rfl) (fun v hv => by go_simp) (fun v hv => (HUF.out v).mono (fun e v' ⟨he, hb⟩ => ⟨he, hv.step hb⟩)) ?_; simp only [Act.put, List.setIfInBounds_toArray, List.set_cons_zero, List.set_cons_succ]
      refine WQ.val (u := .bool false) (by rfl) (fun v hv => exec_neFlow (.tmp 62) (.tmp 71) _ rfl HBN.out.1 HBN.out.2.1 HBN.out.2.2 rfl rfl) ?_; simp only [Act.put, List.setIfInBounds_toArray, List.set_cons_zero, List.set_cons_succ]
      refine WQ.val (by rfl) (fun v hv => by have k0 := hv.cell k0; have k1 := hv.cell k1; have k2 := hv.cell k2; have k3 := hv.cell k3; have k4 := hv.cell k4; have k5 := hv.cell f0; have k6 := hv.cell f1; have k7 := hv.cell f2; have k8 := hv.cell f3; have k9 := hv.cell f4; have k10 := hv.cell f5; have k11 := hv.cell r2; have k12 := hv.cell l0; have k13 := hv.cell l1; have k14 := hv.cell l2; go_simp; first | done | with_reducible rfl | (rw [if_neg (by omega)])) ?_; simp only [Act.put, List.setIfInBounds_toArray, List.set_cons_zero, List.set_cons_succ]
      refine WQ.done ?_
      intro w6 hw6
      have HS6 : Hid (Since w3 w6) := Lib.hid (below_then HSR.out (below_then HS5.out hw6))
      clear hw6 k0 k1 k2 k3 k4 f0 f1 f2 f3 f4 f5 l0 l1 l2 r2
      go_wp2_with fail
      go_roundw
      case rel => exact ⟨j + 1, by go_num, by omega, HS6⟩
      case measure => simp [intOf]; omega
    · obtain rfl : j = m := by omega
      go_wp2_with fail
      go_ret
      exact ⟨rfl, below_then HB2.out (below_then HS3.out HSR.out)⟩
end Go.Proofs.YtahgapkecabnjaaGreatDoor
/- The walk of AutoPlays. Printed by gen_refi.py. -/
namespace Go.Proofs.YtahgapkecabnjaaGreatDoor
set_option linter.unusedSimpArgs false
set_option linter.unusedVariables false
open Go Go.RowKit Go.Shelf Go.Lib Go.Maps Go.MapKept

/-- No flow has protocol 99. -/
def No99 (s : St) : Prop := ∀ q ∈ s.flows, q.1.pr ≠ 99
theorem mem_putL {α : Type} {l : Kl α} {k : Ky} {x : α} {q : Ky × α} (h : q ∈ putL l k x) : q ∈ l ∨ q = (k, x) := by
  unfold putL at h
  rcases List.mem_append.1 h with h | h
  · exact .inl (List.mem_filter.1 h).1
  · rcases List.mem_cons.1 h with h | h
    · exact .inr h
    · exact .inl (List.mem_filter.1 h).1
theorem mem_delL {α : Type} {l : Kl α} {k : Ky} {q : Ky × α} (h : q ∈ delL l k) : q ∈ l := (List.mem_filter.1 h).1
theorem fopenF_99 {p : Pk} (hp : PkIn p) (h : (fopenF p).2 = true) : (keyF p).1.pr ≠ 99 := fun e => by
  have h0 := hp.proto
  have hk : (keyF p).1.pr = p.proto.toNat := by unfold keyF; split <;> rfl
  rw [hk] at e
  have e : p.proto = 99 := by omega
  unfold fopenF at h
  rw [e] at h
  simp at h
theorem no99_gone {s : St} (h : No99 s) (k : Ky) : No99 (goneS s k) := fun q hq => h q (mem_delL hq)
theorem no99_delete {s : St} (h : No99 s) (k : Ky) : No99 (deleteS s k) := by
  unfold deleteS; split
  · exact no99_gone h k
  · exact h
theorem no99_act {s : St} (h : No99 s) {p : Pk} (hp : PkIn p) : No99 (actS s p).1 := by
  have h := no99_delete h (keyF p).1
  unfold actS
  generalize deleteS s (keyF p).1 = z at *
  unfold actK
  split
  · rename_i e he
    have hm := h _ (getL_mem he)
    unfold onS
    split <;> exact fun q hq => (mem_putL hq).elim (h q) (fun e => by rw [e]; exact hm)
  · unfold beginS
    split
    · exact h
    · split
      · exact h
      · split
        · exact h
        · rename_i _ ho _
          exact fun q hq => (mem_putL hq).elim (h q) (fun e => by rw [e]; exact fopenF_99 hp (eq_true_of_ne_false ho))
theorem no99_step {s : St} (h : No99 s) {w : World} {d : Dod} (hd : d.In w) : No99 (stepP s d) := by
  unfold stepP
  split
  · exact h
  · split
    · unfold swapS; split <;> exact h
    · split
      · exact no99_delete h _
      · split
        · unfold dropS; split
          · exact no99_gone h _
          · exact h
        · split
          · unfold countF; split <;> exact h
          · exact no99_act h hd.p
theorem no99_has {s : St} (h : No99 s) : hasL s.flows ⟨0, 0, 0, 0, 99⟩ = false := by
  unfold hasL
  cases e : getL s.flows ⟨0, 0, 0, 0, 99⟩ with
  | none => rfl
  | some x => exact absurd rfl (h _ (getL_mem e))
theorem foldP_ok {s : St} (h : s.Ok) (h9 : No99 s) {w : World} {a : Option Addr} {ds : List Dod} (hd : DosAt w a ds) (n : Nat) : ((ds.take n).foldl stepP s).Ok ∧ No99 ((ds.take n).foldl stepP s) := by
  induction n with
  | zero => exact ⟨h, h9⟩
  | succ n ih =>
    rw [List.take_add_one, List.foldl_append]
    cases hn : ds[n]? with
    | none => exact ih
    | some d => exact ⟨stepP_ok ih.1 (hd n d hn).1, no99_step ih.2 (hd n d hn).1⟩
set_option maxHeartbeats 16000000 in
set_option maxRecDepth 100000 in
theorem autoPlays_walk (c : Cf) (la : Option Addr) (lk : Nat) (rs : List Rl) (aa : Option Addr) (ak : Nat) (ds : List Dod) (w : World) (hR : RulesAt w la rs) (hk : rs.length ≤ lk) (hkm : lk ≤ maxLen) (hN : la = none → lk = 0) (hD : DosAt w aa ds) (hdl : ds.length ≤ maxLen) (hDN : ∀ d ∈ ds, d.la = none → d.lc = 0) (hT : Tabs w) :
    Calls Tryz.prog 3 #[.agg (cfC c), .slice la rs.length lk, .slice aa ds.length ak] w fun e w' => e = .returned (.bool true) ∧ Below w.heap.size w w' := by
  have HB0 : Hid (Below w.heap.size w (w.alloc (.cells (cfC c) 24))) := Lib.hid ((Below.refl _ w).alloc (Nat.le_refl _) _)
  have HRG : Hid ((w.alloc (.cells (cfC c) 24)).rangeAt w.heap.size 0 (cfC c).toList) := Lib.hid (fun j v hv => by rw [← hv]; simp)
  have hi := cfInfo c
  have h7 : (rs.take 70).length ≤ lk := by rw [List.length_take]; omega
  have HFW := Lib.hid (fun W (hb : Below w.heap.size w W) => few_any la lk rs W (hR.below hb) hk hkm)
  have HNW := Lib.hid (fun W (hb : Below w.heap.size w W) => new_any c la lk (rs.take 70) W ((hR.below hb).take 70) (Nat.le_trans h7 hkm) (hT.below hb))
  have HRN := Lib.hid (fun W (hb : Below w.heap.size w W) => rnew_any c la lk (rs.take 70) W ((hR.below hb).take 70) h7 hkm hN)
  have HCK := Lib.hid (fun W (hb : Below w.heap.size w W) => check_any c la lk (rs.take 70) W ((hR.below hb).take 70) (Nat.le_trans h7 hkm) (hT.below hb))
  have HAW := Lib.hid (fun W (hb : Below w.heap.size w W) => awake18_any W (hT.below hb))
  have HD := Lib.hid hD
  have HDN := Lib.hid hDN
  have HT := Lib.hid hT
  unfold maxLen at hdl
  clear hR hk hkm hN hD hDN hT h7
  generalize rs.take 70 = r7 at *
  generalize hX : cfC c = X at *
  have HX := Lib.hid hX
  clear hX
  go_enter Tryz.func3, Tryz.ntmps3
  go_wp2_with fail
  generalize hw1 : w.alloc (.cells X 24) = w1 at *
  clear hw1
  have HS0 : Hid (Since w1 w1.drew) := Lib.hid ((Below.refl _ w1).trans ⟨rfl, rfl, rfl, Nat.le_refl _, fun _ _ => rfl⟩)
  refine WH.enter (Since w1) (by kernel_rfl) 9 rfl ?_
  refine WH.take 0 (some 15) rfl rfl (by kernel_rfl) (by kernel_rfl) (by kernel_rfl) (fun _ _ _ h => h) (by rfl) (fun v hv => by rw [exec_load_mid 24 (.tmp 3) rfl w.heap.size 0 rfl X.toList _ (Since.range hv HRG.out) Tryz.underlying24 rfl hi, Array.toArray_toList]) HS0.out ?_; simp only [Act.put, List.setIfInBounds_toArray, List.set_cons_zero, List.set_cons_succ]
  refine WH.take 1 (some 16) rfl rfl (by kernel_rfl) (by kernel_rfl) (by kernel_rfl) (fun _ _ _ h => h) (by rfl) (fun v hv => by go_simp; first | done | with_reducible rfl | (rw [if_neg (by omega)])) HS0.out ?_; simp only [Act.put, List.setIfInBounds_toArray, List.set_cons_zero, List.set_cons_succ]
  refine WH.one 2 (by kernel_rfl) rfl (by rfl) ?_
  go_wp2_with fail
  refine (HFW.out _ (below_then HB0.out HS0.out)).mono ?_
  rintro e wf ⟨rfl, rfl⟩
  go_wp2_with fail
  refine ⟨HS0.out, ?_⟩
  refine WH.one 3 (by kernel_rfl) rfl (by rfl) ?_
  go_wp2_with fail
  refine (HNW.out _ (below_then HB0.out HS0.out)).mono ?_
  rintro e w3 ⟨hb, hcase⟩
  have HS3 : Hid (Since w1 w3) := Lib.hid (Since.step HS0.out hb)
  have HS3d : Hid (Since w1 w3.drew) := Lib.hid (Since.step HS3.out ((Below.refl _ w3).trans ⟨rfl, rfl, rfl, Nat.le_refl _, fun _ _ => rfl⟩))
  rcases hcase with ⟨hne, rfl⟩ | ⟨h0, ba, F, rfl, hF, hA⟩
  · have HNE := Lib.hid hne
    clear hb
    go_wp2_with fail
    refine ⟨HS3.out, ?_⟩
    refine WH.take 4 (some 14) rfl rfl (by kernel_rfl) (by kernel_rfl) (by kernel_rfl) (fun _ _ _ h => h) (by rfl) (fun v hv => by go_simp; first | done | with_reducible rfl | (rw [if_neg (by omega)])) HS3.out ?_; simp only [Act.put, List.setIfInBounds_toArray, List.set_cons_zero, List.set_cons_succ]
    refine WH.take 5 (some 19) rfl rfl (by kernel_rfl) (by kernel_rfl) (by kernel_rfl) (fun _ _ _ h => h) (by rfl) (fun v hv => by go_simp; first | done | with_reducible rfl | (rw [if_neg (by omega)])) HS3.out ?_; simp only [Act.put, List.setIfInBounds_toArray, List.set_cons_zero, List.set_cons_succ]
    refine WH.take 6 (some 20) rfl rfl (by kernel_rfl) (by kernel_rfl) (by kernel_rfl) (fun _ _ _ h => h) (by rfl) (fun v hv => by go_simp; first | done | with_reducible rfl | (rw [if_neg (by omega)])) HS3.out ?_; simp only [Act.put, List.setIfInBounds_toArray, List.set_cons_zero, List.set_cons_succ]
    refine WH.take 7 (some 7) rfl rfl (by kernel_rfl) (by kernel_rfl) (by kernel_rfl) (fun _ _ _ h => h) (by rfl) (fun v hv => by go_simp; first | done | with_reducible rfl | (rw [if_neg (by omega)])) HS3.out ?_; simp only [Act.put, List.setIfInBounds_toArray, List.set_cons_zero, List.set_cons_succ]
    refine WH.take 8 (some 8) rfl rfl (by kernel_rfl) (by kernel_rfl) (by kernel_rfl) (fun _ _ _ h => h) (by rfl) (fun v hv => by go_simp; first | done | with_reducible rfl | (rw [if_neg (by omega)])) HS3.out ?_; simp only [Act.put, List.setIfInBounds_toArray, List.set_cons_zero, List.set_cons_succ]
    refine WH.done (by kernel_rfl) ?_
    go_wp2_with fail
    refine WH.enter (Since w1) (by kernel_rfl) 9 rfl ?_
    refine WH.take 0 (some 22) rfl rfl (by kernel_rfl) (by kernel_rfl) (by kernel_rfl) (fun _ _ _ h => h) (by rfl) (fun v hv => by rw [exec_load_mid 24 (.tmp 3) rfl w.heap.size 0 rfl X.toList _ (Since.range hv HRG.out) Tryz.underlying24 rfl hi, Array.toArray_toList]) HS3d.out ?_; simp only [Act.put, List.setIfInBounds_toArray, List.set_cons_zero, List.set_cons_succ]
    refine WH.take 1 (some 23) rfl rfl (by kernel_rfl) (by kernel_rfl) (by kernel_rfl) (fun _ _ _ h => h) (by rfl) (fun v hv => by go_simp; first | done | with_reducible rfl | (rw [if_neg (by omega)])) HS3d.out ?_; simp only [Act.put, List.setIfInBounds_toArray, List.set_cons_zero, List.set_cons_succ]
    refine WH.one 2 (by kernel_rfl) rfl (by rfl) ?_
    go_wp2_with fail
    refine (HFW.out _ (below_then HB0.out HS3d.out)).mono ?_
    rintro e wf ⟨rfl, rfl⟩
    go_wp2_with fail
    refine ⟨HS3d.out, ?_⟩
    refine WH.one 3 (by kernel_rfl) rfl (by rfl) ?_
    go_wp2_with fail
    refine (HRN.out _ (below_then HB0.out HS3d.out)).mono ?_
    rintro e w4 ⟨hb, hcase⟩
    have HS4 : Hid (Since w1 w4) := Lib.hid (Since.step HS3d.out hb)
    have hcase : e = .returned (.tuple #[.pointer none, .int .i64 (checkF c r7)]) := by
      rcases hcase with ⟨_, h⟩ | ⟨h0, _⟩
      · exact h
      · exact absurd h0 HNE.out
    subst hcase
    clear hb
    go_wp2_with fail
    refine ⟨HS4.out, ?_⟩
    refine WH.take 4 (some 21) rfl rfl (by kernel_rfl) (by kernel_rfl) (by kernel_rfl) (fun _ _ _ h => h) (by rfl) (fun v hv => by go_simp; first | done | with_reducible rfl | (rw [if_neg (by omega)])) HS4.out ?_; simp only [Act.put, List.setIfInBounds_toArray, List.set_cons_zero, List.set_cons_succ]
    refine WH.take 5 (some 26) rfl rfl (by kernel_rfl) (by kernel_rfl) (by kernel_rfl) (fun _ _ _ h => h) (by rfl) (fun v hv => by go_simp; first | done | with_reducible rfl | (rw [if_neg (by omega)])) HS4.out ?_; simp only [Act.put, List.setIfInBounds_toArray, List.set_cons_zero, List.set_cons_succ]
    refine WH.take 6 (some 27) rfl rfl (by kernel_rfl) (by kernel_rfl) (by kernel_rfl) (fun _ _ _ h => h) (by rfl) (fun v hv => by go_simp; first | done | with_reducible rfl | (rw [if_neg (by omega)])) HS4.out ?_; simp only [Act.put, List.setIfInBounds_toArray, List.set_cons_zero, List.set_cons_succ]
    refine WH.take 7 (some 9) rfl rfl (by kernel_rfl) (by kernel_rfl) (by kernel_rfl) (fun _ _ _ h => h) (by rfl) (fun v hv => by go_simp; first | done | with_reducible rfl | (rw [if_neg (by omega)])) HS4.out ?_; simp only [Act.put, List.setIfInBounds_toArray, List.set_cons_zero, List.set_cons_succ]
    refine WH.take 8 (some 10) rfl rfl (by kernel_rfl) (by kernel_rfl) (by kernel_rfl) (fun _ _ _ h => h) (by rfl) (fun v hv => by go_simp; first | done | with_reducible rfl | (rw [if_neg (by omega)])) HS4.out ?_; simp only [Act.put, List.setIfInBounds_toArray, List.set_cons_zero, List.set_cons_succ]
    refine WH.done (by kernel_rfl) ?_
    have hne := HNE.out
    have HFW2 := Lib.hid (fun v (hv : Since w4 v) => (HFW.out v (below_then HB0.out (below_then HS4.out hv))).mono (fun e v' (h : _ ∧ v' = v) => (⟨h.1, by rw [h.2]; exact Below.refl _ _⟩ : _ ∧ Below v.heap.size v v')))
    have HCK2 := Lib.hid (fun v (hv : Since w4 v) => HCK.out v (below_then HB0.out (below_then HS4.out hv)))
    have HAW2 := Lib.hid (fun v (hv : Since w4 v) => HAW.out v (below_then HB0.out (below_then HS4.out hv)))
    have HRG4 : Hid (∀ v, Since w4 v → v.rangeAt w.heap.size 0 X.toList) := Lib.hid (fun v hv => Since.range (below_then HS4.out hv) HRG.out)
    generalize checkF c r7 = ck at *
    go_wp2_with fail
    --M1
    refine WQ.enter w4 (Since.refl _) (by kernel_rfl) (by kernel_rfl) ?_
    refine WQ.call (f := 11) (args := #[]) (by rfl) (fun v hv => by go_simp) (fun v hv => (HAW2.out v hv).mono (fun e v' ⟨he, hb⟩ => ⟨he, hv.step hb⟩)) ?_; simp only [Act.put, List.setIfInBounds_toArray, List.set_cons_zero, List.set_cons_succ]
    refine WQ.val (by rfl) (fun v hv => by go_simp; first | done | with_reducible rfl | (rw [if_neg (by omega)])) ?_; simp only [Act.put, List.setIfInBounds_toArray, List.set_cons_zero, List.set_cons_succ]
    refine WQ.val (by rfl) (fun v hv => by go_simp; first | done | with_reducible rfl | (rw [if_neg (by omega)])) ?_; simp only [Act.put, List.setIfInBounds_toArray, List.set_cons_zero, List.set_cons_succ]
    refine WQ.val (by rfl) (fun v hv => by go_simp; first | done | with_reducible rfl | (rw [if_neg (by omega)])) ?_; simp only [Act.put, List.setIfInBounds_toArray, List.set_cons_zero, List.set_cons_succ]
    refine WQ.val (by rfl) (fun v hv => by go_simp; first | done | with_reducible rfl | (rw [if_neg (by omega)])) ?_; simp only [Act.put, List.setIfInBounds_toArray, List.set_cons_zero, List.set_cons_succ]
    refine WQ.val (by rfl) (fun v hv => by go_simp; first | done | with_reducible rfl | (rw [if_neg (by omega)])) ?_; simp only [Act.put, List.setIfInBounds_toArray, List.set_cons_zero, List.set_cons_succ]
    refine WQ.val (by rfl) (fun v hv => by go_simp; first | done | with_reducible rfl | (rw [if_neg (by omega)])) ?_; simp only [Act.put, List.setIfInBounds_toArray, List.set_cons_zero, List.set_cons_succ]
    refine WQ.val (by rfl) (fun v hv => by go_simp; first | done | with_reducible rfl | (rw [if_neg (by omega)])) ?_; simp only [Act.put, List.setIfInBounds_toArray, List.set_cons_zero, List.set_cons_succ]
    refine WQ.val (by rfl) (fun v hv => by go_simp; first | done | with_reducible rfl | (rw [if_neg (by omega)])) ?_; simp only [Act.put, List.setIfInBounds_toArray, List.set_cons_zero, List.set_cons_succ]
    refine WQ.val (by rfl) (fun v hv => by go_simp; first | done | with_reducible rfl | (rw [if_neg (by omega)])) ?_; simp only [Act.put, List.setIfInBounds_toArray, List.set_cons_zero, List.set_cons_succ]
    refine WQ.val (by rfl) (fun v hv => by go_simp; first | done | with_reducible rfl | (rw [if_neg (by omega)])) ?_; simp only [Act.put, List.setIfInBounds_toArray, List.set_cons_zero, List.set_cons_succ]
    refine WQ.val (u := .agg X) (by rfl) (fun v hv => by rw [exec_load_mid 24 (.tmp 3) rfl w.heap.size 0 rfl X.toList _ (HRG4.out v hv) Tryz.underlying24 rfl hi, Array.toArray_toList]) ?_; simp only [Act.put, List.setIfInBounds_toArray, List.set_cons_zero, List.set_cons_succ]
    refine WQ.val (by rfl) (fun v hv => by go_simp; first | done | with_reducible rfl | (rw [if_neg (by omega)])) ?_; simp only [Act.put, List.setIfInBounds_toArray, List.set_cons_zero, List.set_cons_succ]
    refine WQ.call (f := 9) (args := #[.slice la rs.length lk]) (by rfl) (fun v hv => by go_simp) (fun v hv => (HFW2.out v hv).mono (fun e v' ⟨he, hb⟩ => ⟨he, hv.step hb⟩)) ?_; simp only [Act.put, List.setIfInBounds_toArray, List.set_cons_zero, List.set_cons_succ]
    refine WQ.call (f := 12) (args := #[.agg X, .slice la r7.length lk]) (by rfl) (fun v hv => by go_simp) (fun v hv => (HCK2.out v hv).mono (fun e v' ⟨he, hb⟩ => ⟨he, hv.step hb⟩)) ?_; simp only [Act.put, List.setIfInBounds_toArray, List.set_cons_zero, List.set_cons_succ]
    refine WQ.val (by rfl) (fun v hv => by go_simp; first | done | with_reducible rfl | (rw [if_neg (by omega)])) ?_; simp only [Act.put, List.setIfInBounds_toArray, List.set_cons_zero, List.set_cons_succ]
    refine WQ.val (by rfl) (fun v hv => by go_simp; first | done | with_reducible rfl | (rw [if_neg (by omega)])) ?_; simp only [Act.put, List.setIfInBounds_toArray, List.set_cons_zero, List.set_cons_succ]
    refine WQ.val (by rfl) (fun v hv => by go_simp; first | done | with_reducible rfl | (rw [if_neg (by omega)])) ?_; simp only [Act.put, List.setIfInBounds_toArray, List.set_cons_zero, List.set_cons_succ]
    refine WQ.val (by rfl) (fun v hv => by go_simp; first | done | with_reducible rfl | (rw [if_neg (by omega)])) ?_; simp only [Act.put, List.setIfInBounds_toArray, List.set_cons_zero, List.set_cons_succ]
    refine WQ.done ?_
    intro w5 hw5
    have HS5 : Hid (Since w1 w5) := Lib.hid (below_then HS4.out hw5)
    clear hw5
    go_wp2_with fail
    go_ret
    exact ⟨rfl, below_then HB0.out HS5.out⟩
  · have h0' := Lib.hid h0
    have hbs := hb
    clear hb
    have HZA : Hid (AutoAt w3 ba F (newS c r7) ∧ ∀ i, F i → w.heap.size ≤ i ∧ i < w3.heap.size) := Lib.hid ⟨hA, fun i hi => ⟨Nat.le_trans HB0.out.size (Nat.le_trans (Below.size HS0.out) (hF i hi).1), (hF i hi).2⟩⟩
    clear hA hF hbs
    have HN0 := Lib.hid (newS_ok h0)
    go_wp2_with fail
    refine ⟨HS3.out, ?_⟩
    refine WH.take 4 (some 14) rfl rfl (by kernel_rfl) (by kernel_rfl) (by kernel_rfl) (fun _ _ _ h => h) (by rfl) (fun v hv => by go_simp; first | done | with_reducible rfl | (rw [if_neg (by omega)])) HS3.out ?_; simp only [Act.put, List.setIfInBounds_toArray, List.set_cons_zero, List.set_cons_succ]
    refine WH.take 5 (some 19) rfl rfl (by kernel_rfl) (by kernel_rfl) (by kernel_rfl) (fun _ _ _ h => h) (by rfl) (fun v hv => by go_simp; first | done | with_reducible rfl | (rw [if_neg (by omega)])) HS3.out ?_; simp only [Act.put, List.setIfInBounds_toArray, List.set_cons_zero, List.set_cons_succ]
    refine WH.take 6 (some 20) rfl rfl (by kernel_rfl) (by kernel_rfl) (by kernel_rfl) (fun _ _ _ h => h) (by rfl) (fun v hv => by go_simp; first | done | with_reducible rfl | (rw [if_neg (by omega)])) HS3.out ?_; simp only [Act.put, List.setIfInBounds_toArray, List.set_cons_zero, List.set_cons_succ]
    refine WH.take 7 (some 7) rfl rfl (by kernel_rfl) (by kernel_rfl) (by kernel_rfl) (fun _ _ _ h => h) (by rfl) (fun v hv => by go_simp; first | done | with_reducible rfl | (rw [if_neg (by omega)])) HS3.out ?_; simp only [Act.put, List.setIfInBounds_toArray, List.set_cons_zero, List.set_cons_succ]
    refine WH.take 8 (some 8) rfl rfl (by kernel_rfl) (by kernel_rfl) (by kernel_rfl) (fun _ _ _ h => h) (by rfl) (fun v hv => by go_simp; first | done | with_reducible rfl | (rw [if_neg (by omega)])) HS3.out ?_; simp only [Act.put, List.setIfInBounds_toArray, List.set_cons_zero, List.set_cons_succ]
    refine WH.done (by kernel_rfl) ?_
    go_wp2_with fail
    refine WH.enter (Since w1) (by kernel_rfl) 9 rfl ?_
    refine WH.take 0 (some 22) rfl rfl (by kernel_rfl) (by kernel_rfl) (by kernel_rfl) (fun _ _ _ h => h) (by rfl) (fun v hv => by rw [exec_load_mid 24 (.tmp 3) rfl w.heap.size 0 rfl X.toList _ (Since.range hv HRG.out) Tryz.underlying24 rfl hi, Array.toArray_toList]) HS3d.out ?_; simp only [Act.put, List.setIfInBounds_toArray, List.set_cons_zero, List.set_cons_succ]
    refine WH.take 1 (some 23) rfl rfl (by kernel_rfl) (by kernel_rfl) (by kernel_rfl) (fun _ _ _ h => h) (by rfl) (fun v hv => by go_simp; first | done | with_reducible rfl | (rw [if_neg (by omega)])) HS3d.out ?_; simp only [Act.put, List.setIfInBounds_toArray, List.set_cons_zero, List.set_cons_succ]
    refine WH.one 2 (by kernel_rfl) rfl (by rfl) ?_
    go_wp2_with fail
    refine (HFW.out _ (below_then HB0.out HS3d.out)).mono ?_
    rintro e wf ⟨rfl, rfl⟩
    go_wp2_with fail
    refine ⟨HS3d.out, ?_⟩
    refine WH.one 3 (by kernel_rfl) rfl (by rfl) ?_
    go_wp2_with fail
    refine (HRN.out _ (below_then HB0.out HS3d.out)).mono ?_
    rintro e w4 ⟨hb, hcase⟩
    have HS4 : Hid (Since w1 w4) := Lib.hid (Since.step HS3d.out hb)
    rcases hcase with ⟨hne, _⟩ | ⟨_, ra, G, rfl, hG, hB⟩
    · exact absurd h0 hne
    have HDU : Hid (Duo w w4 ba ra F G (newS c r7) (newS c r7)) := Lib.hid (by
      have z3 : w3.heap.size ≤ w4.heap.size := hb.size
      have z1 : w.heap.size ≤ w3.heap.size := (below_then HB0.out HS3.out).size
      have hA4 : AutoAt w4 ba F (newS c r7) := HZA.out.1.below (Since.step (w := w3) ((Below.refl _ w3).trans ⟨rfl, rfl, rfl, Nat.le_refl _, fun _ _ => rfl⟩ : Below w3.heap.size w3 w3.drew) hb)
      have hg3 : ∀ i, G i → w3.heap.size ≤ i ∧ i < w4.heap.size := fun i hi => hG i hi
      exact ⟨below_then HB0.out HS4.out, hA4, hB, fun i hf hg => by have h1 := (HZA.out.2 i hf).2; have h2 := (hg3 i hg).1; omega, fun i hi => by have := HZA.out.2 i hi; omega, fun i hi => by have := hg3 i hi; omega⟩)
    clear hb hG hB h0
    go_wp2_with fail
    refine ⟨HS4.out, ?_⟩
    refine WH.take 4 (some 21) rfl rfl (by kernel_rfl) (by kernel_rfl) (by kernel_rfl) (fun _ _ _ h => h) (by rfl) (fun v hv => by go_simp; first | done | with_reducible rfl | (rw [if_neg (by omega)])) HS4.out ?_; simp only [Act.put, List.setIfInBounds_toArray, List.set_cons_zero, List.set_cons_succ]
    refine WH.take 5 (some 26) rfl rfl (by kernel_rfl) (by kernel_rfl) (by kernel_rfl) (fun _ _ _ h => h) (by rfl) (fun v hv => by go_simp; first | done | with_reducible rfl | (rw [if_neg (by omega)])) HS4.out ?_; simp only [Act.put, List.setIfInBounds_toArray, List.set_cons_zero, List.set_cons_succ]
    refine WH.take 6 (some 27) rfl rfl (by kernel_rfl) (by kernel_rfl) (by kernel_rfl) (fun _ _ _ h => h) (by rfl) (fun v hv => by go_simp; first | done | with_reducible rfl | (rw [if_neg (by omega)])) HS4.out ?_; simp only [Act.put, List.setIfInBounds_toArray, List.set_cons_zero, List.set_cons_succ]
    refine WH.take 7 (some 9) rfl rfl (by kernel_rfl) (by kernel_rfl) (by kernel_rfl) (fun _ _ _ h => h) (by rfl) (fun v hv => by go_simp; first | done | with_reducible rfl | (rw [if_neg (by omega)])) HS4.out ?_; simp only [Act.put, List.setIfInBounds_toArray, List.set_cons_zero, List.set_cons_succ]
    refine WH.take 8 (some 10) rfl rfl (by kernel_rfl) (by kernel_rfl) (by kernel_rfl) (fun _ _ _ h => h) (by rfl) (fun v hv => by go_simp; first | done | with_reducible rfl | (rw [if_neg (by omega)])) HS4.out ?_; simp only [Act.put, List.setIfInBounds_toArray, List.set_cons_zero, List.set_cons_succ]
    refine WH.done (by kernel_rfl) ?_
    have HFW2 := Lib.hid (fun v (hv : Since w4 v) => (HFW.out v (below_then HB0.out (below_then HS4.out hv))).mono (fun e v' (h : _ ∧ v' = v) => (⟨h.1, by rw [h.2]; exact Below.refl _ _⟩ : _ ∧ Below v.heap.size v v')))
    have HCK2 := Lib.hid (fun v (hv : Since w4 v) => HCK.out v (below_then HB0.out (below_then HS4.out hv)))
    have HRG4 : Hid (∀ v, Since w4 v → v.rangeAt w.heap.size 0 X.toList) := Lib.hid (fun v hv => Since.range (below_then HS4.out hv) HRG.out)
    rw [h0'.out] at HCK2
    go_wp2_with fail
    --M2
    refine WQ.enter w4 (Since.refl _) (by kernel_rfl) (by kernel_rfl) ?_
    refine WQ.val (by rfl) (fun v hv => by go_simp; first | done | with_reducible rfl | (rw [if_neg (by omega)])) ?_; simp only [Act.put, List.setIfInBounds_toArray, List.set_cons_zero, List.set_cons_succ]
    refine WQ.val (by rfl) (fun v hv => by go_simp; first | done | with_reducible rfl | (rw [if_neg (by omega)])) ?_; simp only [Act.put, List.setIfInBounds_toArray, List.set_cons_zero, List.set_cons_succ]
    refine WQ.val (by rfl) (fun v hv => by go_simp; first | done | with_reducible rfl | (rw [if_neg (by omega)])) ?_; simp only [Act.put, List.setIfInBounds_toArray, List.set_cons_zero, List.set_cons_succ]
    refine WQ.val (u := .agg X) (by rfl) (fun v hv => by rw [exec_load_mid 24 (.tmp 3) rfl w.heap.size 0 rfl X.toList _ (HRG4.out v hv) Tryz.underlying24 rfl hi, Array.toArray_toList]) ?_; simp only [Act.put, List.setIfInBounds_toArray, List.set_cons_zero, List.set_cons_succ]
    refine WQ.val (by rfl) (fun v hv => by go_simp; first | done | with_reducible rfl | (rw [if_neg (by omega)])) ?_; simp only [Act.put, List.setIfInBounds_toArray, List.set_cons_zero, List.set_cons_succ]
    refine WQ.call (f := 9) (args := #[.slice la rs.length lk]) (by rfl) (fun v hv => by go_simp) (fun v hv => (HFW2.out v hv).mono (fun e v' ⟨he, hb⟩ => ⟨he, hv.step hb⟩)) ?_; simp only [Act.put, List.setIfInBounds_toArray, List.set_cons_zero, List.set_cons_succ]
    refine WQ.call (f := 12) (args := #[.agg X, .slice la r7.length lk]) (by rfl) (fun v hv => by go_simp) (fun v hv => (HCK2.out v hv).mono (fun e v' ⟨he, hb⟩ => ⟨he, hv.step hb⟩)) ?_; simp only [Act.put, List.setIfInBounds_toArray, List.set_cons_zero, List.set_cons_succ]
    refine WQ.val (by rfl) (fun v hv => by go_simp; first | done | with_reducible rfl | (rw [if_neg (by omega)])) ?_; simp only [Act.put, List.setIfInBounds_toArray, List.set_cons_zero, List.set_cons_succ]
    refine WQ.val (by rfl) (fun v hv => by go_simp; first | done | with_reducible rfl | (rw [if_neg (by omega)])) ?_; simp only [Act.put, List.setIfInBounds_toArray, List.set_cons_zero, List.set_cons_succ]
    refine WQ.done ?_
    intro w5 hw5
    have HD5 : Hid (∃ F G, Duo w w5 ba ra F G ((ds.take 0).foldl stepP (newS c r7)) ((ds.take 0).foldl stepP (newS c r7))) := Lib.hid ⟨F, G, HDU.out.below hw5⟩
    have H99 : Hid (No99 (newS c r7)) := Lib.hid (fun q hq => by cases hq)
    clear hw5 HCK2 HRG4 HFW2 HDU
    go_wp2_with fail
    --M3
    go_loopw [11] (fun n wr => ∃ k : Nat, n = .int .i64 k ∧ k ≤ 60 ∧ k ≤ ds.length ∧ Hid (∃ F G, Duo w wr ba ra F G ((ds.take k).foldl stepP (newS c r7)) ((ds.take k).foldl stepP (newS c r7)))) (fun n _ => ds.length - (intOf n).toNat)
    case atStart => exact ⟨0, rfl, by omega, by omega, HD5⟩
    case round =>
      obtain ⟨k, rfl, hk60, hkl, HDR⟩ := hrel
      obtain ⟨F1, G1, hD1⟩ := HDR.out
      have HSO := Lib.hid (foldP_ok HN0.out H99.out HD.out k)
      have HDU1 := Lib.hid hD1
      clear hD1 HDR
      by_cases hgo : k < ds.length ∧ k < 60
      · obtain ⟨hl1, hl2⟩ := hgo
        obtain ⟨d, hd⟩ : ∃ d, ds[k]? = some d := ⟨_, List.getElem?_eq_getElem hl1⟩
        obtain ⟨hdi, b, o, haa, hdc⟩ := HD.out k d hd
        have hrg : wr.rangeAt b (o + k * 15) [.int .u8 d.kd, .int .i64 d.n, .int .u8 d.p.proto, .int .u32 d.p.src, .int .u32 d.p.dst, .int .u16 d.p.sport, .int .u16 d.p.dport, .int .u8 d.p.flags, .int .u8 d.p.kind, .int .u32 d.k.a0, .int .u32 d.k.a1, .int .u16 d.k.p0, .int .u16 d.k.p1, .int .u8 d.k.pr, .slice d.la d.l.length d.lc] := fun j v hv => (HDU1.out.old.cell (World.block_lt_of_cell? w _ (hdc j v hv))).trans (hdc j v hv)
        have HST : Hid ((ds.take (k + 1)).foldl stepP (newS c r7) = stepP ((ds.take k).foldl stepP (newS c r7)) d) := Lib.hid (by rw [List.take_add_one, List.foldl_append, hd]; rfl)
        have HS1 := Lib.hid (stepP_ok HSO.out.1 hdi)
        have HDO := Lib.hid (does_any HDU1.out HSO.out.1 hdi HT.out (HDN.out d (List.mem_of_getElem? hd)))
        clear hd hdc hdi
        generalize (ds.take k).foldl stepP (newS c r7) = s at *
        subst haa
        have hki : (0 : Int) ≤ k := by omega
        have hkm : (k : Int) < (ds.length : Int) := by omega
        have hk6 : (k : Int) < 60 := by omega
        go_wp2_with (first
          | (refine wpList_load_mid_w (by rfl) 47 (.tmp 71) rfl b (o + k * 15) (by rfl) [.int .u8 d.kd, .int .i64 d.n, .int .u8 d.p.proto, .int .u32 d.p.src, .int .u32 d.p.dst, .int .u16 d.p.sport, .int .u16 d.p.dport, .int .u8 d.p.flags, .int .u8 d.p.kind, .int .u32 d.k.a0, .int .u32 d.k.a1, .int .u16 d.k.p0, .int .u16 d.k.p1, .int .u8 d.k.pr, .slice d.la d.l.length d.lc] _ hrg Tryz.underlying47 rfl (by kernel_rfl) ?_))
        --M4
        refine HDO.out.mono ?_
        rintro e w6 ⟨rfl, F2, G2, hD2⟩
        have HDU2 := Lib.hid hD2
        clear hD2 HDO hrg
        go_wp2_with fail
        refine (alike_any HDU2.out.a HDU2.out.b HS1.out (fun i hi => (HDU2.out.la i hi).2)).mono ?_
        rintro e w7 ⟨rfl, h7⟩
        have HDU3 : Hid (∃ F G, Duo w w7 ba ra F G ((ds.take (k + 1)).foldl stepP (newS c r7)) ((ds.take (k + 1)).foldl stepP (newS c r7))) := Lib.hid ⟨F2, G2, by rw [HST.out]; exact HDU2.out.below h7⟩
        clear h7
        go_wp2_with fail
        go_roundw
        case rel => exact ⟨k + 1, by go_num, by omega, by omega, HDU3⟩
        case measure => simp [intOf]; omega
      · have HLK := Lib.hid (look_any (k := ⟨0, 0, 0, 0, 99⟩) ⟨by decide, by decide, by decide, by decide, by decide⟩ HDU1.out.a HSO.out.1)
        rw [no99_has HSO.out.2] at HLK
        have HAW2 := Lib.hid (fun v (hv : Since wr v) => HAW.out v (below_then HDU1.out.old hv))
        have HS00 := Lib.hid (fun v (hv : Since wr v) => stat_any 0 (HDU1.out.a.below hv))
        have HS06 := Lib.hid (fun v (hv : Since wr v) => stat_any 6 (HDU1.out.a.below hv))
        generalize (ds.take k).foldl stepP (newS c r7) = s at *
        have hst0 : Hid (statF s 0 = 0) := Lib.hid rfl
        have hst6 : Hid (statF s 6 = 0) := Lib.hid rfl
        have hnn : ¬ ((k : Int) < (ds.length : Int) ∧ (k : Int) < 60) := by omega
        rcases (show (k = ds.length) ∨ (k < ds.length ∧ k = 60) by omega) with he | ⟨he1, he⟩
        · subst he
          clear hgo hnn
          rw [hst0.out] at HS00
          rw [hst6.out] at HS06
          go_wp2_with fail
          refine HLK.out.mono ?_
          rintro e w6 ⟨rfl, h6⟩
          unfold flowV
          have HS6 : Hid (Since wr (w6.alloc (.cells #[.int .i64 (stW (lookW s ⟨0, 0, 0, 0, 99⟩) : Nat), .int .i64 (seqW (lookW s ⟨0, 0, 0, 0, 99⟩) : Nat), .int .i64 (untW (lookW s ⟨0, 0, 0, 0, 99⟩) : Nat)] 50))) := Lib.hid (below_then h6 ((Below.refl _ w6).alloc (Nat.le_refl _) _))
          clear h6 HLK
          generalize stW (lookW s ⟨0, 0, 0, 0, 99⟩) = l1 at *
          generalize seqW (lookW s ⟨0, 0, 0, 0, 99⟩) = l2 at *
          generalize untW (lookW s ⟨0, 0, 0, 0, 99⟩) = l3 at *
          go_wp2_with fail
          --M5
          refine (HAW2.out _ HS6.out).mono ?_
          rintro e w7 ⟨rfl, h7⟩
          have HS7 : Hid (Since wr w7) := Lib.hid (below_then HS6.out h7)
          clear h7
          go_wp2_with fail
          refine (HS00.out _ HS7.out).mono ?_
          rintro e w8 ⟨rfl, h8⟩
          have HS8 : Hid (Since wr w8) := Lib.hid (below_then HS7.out h8)
          clear h8
          go_wp2_with fail
          refine (HS06.out _ HS8.out).mono ?_
          rintro e w9 ⟨rfl, h9⟩
          have HS9 : Hid (Since wr w9) := Lib.hid (below_then HS8.out h9)
          clear h9
          go_wp2_with fail
          go_ret
          exact ⟨rfl, below_then HDU1.out.old HS9.out⟩
        · subst he
          have hl1 : (60 : Int) < (ds.length : Int) := by omega
          clear hgo hnn
          rw [hst0.out] at HS00
          rw [hst6.out] at HS06
          go_wp2_with fail
          refine HLK.out.mono ?_
          rintro e w6 ⟨rfl, h6⟩
          unfold flowV
          have HS6 : Hid (Since wr (w6.alloc (.cells #[.int .i64 (stW (lookW s ⟨0, 0, 0, 0, 99⟩) : Nat), .int .i64 (seqW (lookW s ⟨0, 0, 0, 0, 99⟩) : Nat), .int .i64 (untW (lookW s ⟨0, 0, 0, 0, 99⟩) : Nat)] 50))) := Lib.hid (below_then h6 ((Below.refl _ w6).alloc (Nat.le_refl _) _))
          clear h6 HLK
          generalize stW (lookW s ⟨0, 0, 0, 0, 99⟩) = l1 at *
          generalize seqW (lookW s ⟨0, 0, 0, 0, 99⟩) = l2 at *
          generalize untW (lookW s ⟨0, 0, 0, 0, 99⟩) = l3 at *
          go_wp2_with fail
          --M5
          refine (HAW2.out _ HS6.out).mono ?_
          rintro e w7 ⟨rfl, h7⟩
          have HS7 : Hid (Since wr w7) := Lib.hid (below_then HS6.out h7)
          clear h7
          go_wp2_with fail
          refine (HS00.out _ HS7.out).mono ?_
          rintro e w8 ⟨rfl, h8⟩
          have HS8 : Hid (Since wr w8) := Lib.hid (below_then HS7.out h8)
          clear h8
          go_wp2_with fail
          refine (HS06.out _ HS8.out).mono ?_
          rintro e w9 ⟨rfl, h9⟩
          have HS9 : Hid (Since wr w9) := Lib.hid (below_then HS8.out h9)
          clear h9
          go_wp2_with fail
          go_ret
          exact ⟨rfl, below_then HDU1.out.old HS9.out⟩
end Go.Proofs.YtahgapkecabnjaaGreatDoor
