/- The walk of TablePlays. Printed by gen_tabu.py. -/
import Derived.Test.YtahgapkecabnjaaC14
namespace Go.Proofs.Ytahgapkecabnjaa
set_option linter.unusedSimpArgs false
set_option linter.unusedVariables false
open Go Go.RowKit Go.Maps Go.Shelf Go.Sort

set_option maxHeartbeats 16000000 in
set_option maxRecDepth 100000 in
theorem tablePlays_walk (st : Int) (a : Option Addr) (len cap : Nat) (w : World) (hz : RdDts w a len) :
    Calls Try.prog 4 #[.int .i64 st, .slice a len cap] w fun e w' => e = .returned (.bool true) ∧ Below w.heap.size w w' := by
  have hlen : len ≤ 9223372036854775807 := hz.1
  have HZ := Lib.hid hz
  clear hz
  go_enter Try.func4, Try.ntmps4
  go_wp2_with fail
  refine (new_any 0 16 _).mono ?_
  rintro e w1 ⟨bm, F1, rfl, hm, hb, hF⟩
  have HM1 := Lib.hid hm
  have HB1 := Lib.hid hb
  have HF1 := Lib.hid hF
  clear hm hb hF
  go_wp2_with fail
  refine (rnew_any 0 16 _).mono ?_
  rintro e w2 ⟨rm, G1, rfl, hr, hb2, hG⟩
  have HI0 := Lib.hid (fun n => tinv_new 0 16 n)
  have HM2 := Lib.hid (IsMem.turn HM1.out (Turn.of_below (F := fun _ => False) hb2) (fun _ _ h => h))
  have HR2 := Lib.hid hr
  have HB2 := Lib.hid hb2
  have HG1 := Lib.hid hG
  clear hr hb2 hG
  generalize newM 0 16 = m0 at *
  go_wp2_with fail
  refine (tnew_any HM2.out st).mono ?_
  rintro e w3 ⟨hb3, h3⟩
  have HB3 := Lib.hid hb3
  clear hb3
  rcases h3 with ⟨hno, rfl⟩ | ⟨n, g, F, hn, rfl, rfl, hT, hF3⟩
  · go_wp2_with fail
    refine (rtnew_any (HR2.out.turn (Turn.of_below (F := fun _ => False) HB3.out) (fun _ _ h => h)) st).mono ?_
    rintro e w4 ⟨hb4, h4⟩
    rcases h4 with ⟨hno4, rfl⟩ | ⟨n, u, G, hn, e1, -⟩
    · have HB4 := Lib.hid hb4
      clear hb4 hno hno4
      go_wp2_with fail
      refine (awake20_any _).mono ?_
      rintro e w5 ⟨rfl, hb5⟩
      have HB5 := Lib.hid hb5
      clear hb5
      go_wp2_with fail
      go_ret
      have l1 := HB1.out.size
      have l2 := HB2.out.size
      have l3 := HB3.out.size
      have l4 := HB4.out.size
      exact ⟨rfl, (((HB1.out.trans (HB2.out.mono l1)).trans (HB3.out.mono (by omega))).trans (HB4.out.mono (by omega))).trans (HB5.out.mono (by omega))⟩
    · exact absurd e1 (hno n hn)
  · have HT3 := Lib.hid hT
    have HF3 := Lib.hid hF3
    have HN := Lib.hid hn
    clear hT hF3 hn
    go_wp2_with fail
    refine (rtnew_any (HR2.out.turn (Turn.of_below (F := fun _ => False) HB3.out) (fun _ _ h => h)) (n : Nat)).mono ?_
    rintro e w4 ⟨hb4, h4⟩
    rcases h4 with ⟨hno4, -⟩ | ⟨n', u, G, hn', e1, rfl, hR, hF4⟩
    · exact absurd rfl (hno4 n HN.out)
    · obtain rfl : n' = n := by omega
      have HD0 := Lib.hid (TDuo.new HM1.out HB1.out HF1.out HR2.out HB2.out HG1.out HT3.out HB3.out HF3.out hR hb4 hF4)
      have HI := Lib.hid (HI0.out n')
      generalize (⟨m0, n', []⟩ : Tb) = t0 at *
      clear hR hb4 hF4 e1 HI0 HT3 HF3 HB3 HM2 HR2 HB2 HG1 HM1 HB1 HF1 hn'
      go_wp2_with fail
      go_loopw [9] (fun i wr => ∃ (j : Nat) (t : Tb), j ≤ len ∧ j ≤ 80 ∧ i = .int .i64 (j : Nat) ∧ Hid (TInv n' j t) ∧ Hid (TDuo w g bm u rm t t wr)) (fun i _ => len - (intOf i).toNat)
      case atStart => exact ⟨0, t0, Nat.zero_le _, Nat.zero_le _, rfl, HI, HD0⟩
      case round =>
        clear HD0 HI
        obtain ⟨j, t, hj, hj2, rfl, HI, HD⟩ := hrel
        have HOK := Lib.hid (HI.out.ok HN.out (by omega))
        have HRM := Lib.hid (HI.out.room (by omega))
        have HHD := Lib.hid HI.out.held
        by_cases hc : j < len ∧ j < 80
        · obtain ⟨hl1, hl2⟩ := hc
          obtain ⟨ad, x, rfl, hx, hok⟩ := HZ.out.2 j hl1
          have hx1 := hx.below HD.out.below
          have c0 : wr.cell? (ad.add (j * 9)) = some (.int .u8 x.kind) := hx1 0 _ rfl
          have c1 : wr.cell? ⟨(ad.add (j * 9)).block, (ad.add (j * 9)).off + 1, none⟩ = some (.int .i64 x.thread) := hx1 1 _ rfl
          have c2 : wr.cell? ⟨(ad.add (j * 9)).block, (ad.add (j * 9)).off + 2, none⟩ = some (.int .i64 x.at_) := hx1 2 _ rfl
          have c3 : wr.cell? ⟨(ad.add (j * 9)).block, (ad.add (j * 9)).off + 3, none⟩ = some (.int .u32 x.k.a0) := hx1 3 _ rfl
          have c4 : wr.cell? ⟨(ad.add (j * 9)).block, (ad.add (j * 9)).off + 4, none⟩ = some (.int .u32 x.k.a1) := hx1 4 _ rfl
          have c5 : wr.cell? ⟨(ad.add (j * 9)).block, (ad.add (j * 9)).off + 5, none⟩ = some (.int .u16 x.k.p0) := hx1 5 _ rfl
          have c6 : wr.cell? ⟨(ad.add (j * 9)).block, (ad.add (j * 9)).off + 6, none⟩ = some (.int .u16 x.k.p1) := hx1 6 _ rfl
          have c7 : wr.cell? ⟨(ad.add (j * 9)).block, (ad.add (j * 9)).off + 7, none⟩ = some (.int .u8 x.k.pr) := hx1 7 _ rfl
          have c8 : wr.cell? ⟨(ad.add (j * 9)).block, (ad.add (j * 9)).off + 8, none⟩ = some (.bool x.tu) := hx1 8 _ rfl
          have HT := Lib.hid (HD.out.two (.cells #[.int .u8 x.kind, .int .i64 x.thread, .int .i64 x.at_, .int .u32 x.k.a0, .int .u32 x.k.a1, .int .u16 x.k.p0, .int .u16 x.k.p1, .int .u8 x.k.pr, .bool x.tu] 30))
          have HB : Hid (DBox wr.heap.size x (wr.alloc (.cells #[.int .u8 x.kind, .int .i64 x.thread, .int .i64 x.at_, .int .u32 x.k.a0, .int .u32 x.k.a1, .int .u16 x.k.p0, .int .u16 x.k.p1, .int .u8 x.k.pr, .bool x.tu] 30))) := Lib.hid (MapKept.heap_alloc wr _).1
          have HTH := Lib.hid hok.th.2
          have HK := Lib.hid hok.k
          have HL1 := Lib.hid hl1
          obtain ⟨z0, z1⟩ := hok.kd
          obtain ⟨q, hq, hq8⟩ : ∃ q : Nat, x.kind.tmod 8 = q ∧ q < 8 := ⟨x.kind.toNat % 8, by rw [Int.tmod_eq_emod_of_nonneg z0]; omega, Nat.mod_lt _ (by decide)⟩
          clear hx hx1 hok HD z0 z1
          obtain rfl | rfl | rfl | rfl | rfl | rfl | rfl | rfl : q = 0 ∨ q = 1 ∨ q = 2 ∨ q = 3 ∨ q = 4 ∨ q = 5 ∨ q = 6 ∨ q = 7 := by omega
          · as_aux_lemma =>
            go_wp2_with fail
            generalize wr.heap.size = b at *
            generalize wr.alloc (.cells #[.int .u8 x.kind, .int .i64 x.thread, .int .i64 x.at_, .int .u32 x.k.a0, .int .u32 x.k.a1, .int .u16 x.k.p0, .int .u16 x.k.p1, .int .u8 x.k.pr, .bool x.tu] 30) = wx at *
            have HS0 := Lib.hid HT.out.drew
            have HB0 : Hid (DBox b x wx.drew) := Lib.hid HB.out
            clear c0 c1 c2 c3 c4 c5 c6 c7 c8 hq
            obtain ⟨r, hr⟩ : ∃ r, t.m.lockOk x.thread x.at_ = r := ⟨_, rfl⟩
            obtain ⟨t2, ht2⟩ : ∃ t2, (⟨t.m.lock x.thread x.at_, t.n, t.fl⟩ : Tb) = t2 := ⟨_, rfl⟩
            have HR := Lib.hid (congrArg Value.bool hr)
            have HE := Lib.hid ht2
            have HI2 : Hid (TInv n' (j + 1) t2) := Lib.hid (by rw [← ht2]; exact HI.out.mem (pinv_lock HI.out.2.2.2.2 x.thread x.at_ HTH.out))
            clear hr ht2
            refine WH.enter (DBox b x) (by kernel_rfl) 14 rfl ?_
            refine WH.take 0 (some 100) rfl rfl (by kernel_rfl) (by kernel_rfl) (by kernel_rfl) (fun _ _ _ h => h) (by rfl) (fun v hv => by obtain ⟨k0, k1, k2, k3, k4, k5, k6, k7, k8⟩ := DBox.cells hv; go_simp; first | done | with_reducible rfl | (rw [if_neg (by omega)])) HB0.out ?_; simp only [Act.put, List.setIfInBounds_toArray, List.set_cons_zero, List.set_cons_succ]
            refine WH.take 1 (some 101) rfl rfl (by kernel_rfl) (by kernel_rfl) (by kernel_rfl) (fun _ _ _ h => h) (by rfl) (fun v hv => by obtain ⟨k0, k1, k2, k3, k4, k5, k6, k7, k8⟩ := DBox.cells hv; go_simp; first | done | with_reducible rfl | (rw [if_neg (by omega)])) HB0.out ?_; simp only [Act.put, List.setIfInBounds_toArray, List.set_cons_zero, List.set_cons_succ]
            refine WH.take 2 (some 102) rfl rfl (by kernel_rfl) (by kernel_rfl) (by kernel_rfl) (fun _ _ _ h => h) (by rfl) (fun v hv => by obtain ⟨k0, k1, k2, k3, k4, k5, k6, k7, k8⟩ := DBox.cells hv; go_simp; first | done | with_reducible rfl | (rw [if_neg (by omega)])) HB0.out ?_; simp only [Act.put, List.setIfInBounds_toArray, List.set_cons_zero, List.set_cons_succ]
            refine WH.take 3 (some 103) rfl rfl (by kernel_rfl) (by kernel_rfl) (by kernel_rfl) (fun _ _ _ h => h) (by rfl) (fun v hv => by obtain ⟨k0, k1, k2, k3, k4, k5, k6, k7, k8⟩ := DBox.cells hv; go_simp; first | done | with_reducible rfl | (rw [if_neg (by omega)])) HB0.out ?_; simp only [Act.put, List.setIfInBounds_toArray, List.set_cons_zero, List.set_cons_succ]
            refine WH.take 4 (some 104) rfl rfl (by kernel_rfl) (by kernel_rfl) (by kernel_rfl) (fun _ _ _ h => h) (by rfl) (fun v hv => by obtain ⟨k0, k1, k2, k3, k4, k5, k6, k7, k8⟩ := DBox.cells hv; go_simp; first | done | with_reducible rfl | (rw [if_neg (by omega)])) HB0.out ?_; simp only [Act.put, List.setIfInBounds_toArray, List.set_cons_zero, List.set_cons_succ]
            refine WH.take 6 (some 106) rfl rfl (by kernel_rfl) (by kernel_rfl) (by kernel_rfl) (fun _ _ _ h => h) (by rfl) (fun v hv => by obtain ⟨k0, k1, k2, k3, k4, k5, k6, k7, k8⟩ := DBox.cells hv; go_simp; first | done | with_reducible rfl | (rw [if_neg (by omega)])) HB0.out ?_; simp only [Act.put, List.setIfInBounds_toArray, List.set_cons_zero, List.set_cons_succ]
            refine WH.take 7 (some 107) rfl rfl (by kernel_rfl) (by kernel_rfl) (by kernel_rfl) (fun _ _ _ h => h) (by rfl) (fun v hv => by obtain ⟨k0, k1, k2, k3, k4, k5, k6, k7, k8⟩ := DBox.cells hv; go_simp; first | done | with_reducible rfl | (rw [if_neg (by omega)])) HB0.out ?_; simp only [Act.put, List.setIfInBounds_toArray, List.set_cons_zero, List.set_cons_succ]
            refine WH.take 8 (some 108) rfl rfl (by kernel_rfl) (by kernel_rfl) (by kernel_rfl) (fun _ _ _ h => h) (by rfl) (fun v hv => by obtain ⟨k0, k1, k2, k3, k4, k5, k6, k7, k8⟩ := DBox.cells hv; go_simp; first | done | with_reducible rfl | (rw [if_neg (by omega)])) HB0.out ?_; simp only [Act.put, List.setIfInBounds_toArray, List.set_cons_zero, List.set_cons_succ]
            refine WH.take 9 (some 109) rfl rfl (by kernel_rfl) (by kernel_rfl) (by kernel_rfl) (fun _ _ _ h => h) (by rfl) (fun v hv => by obtain ⟨k0, k1, k2, k3, k4, k5, k6, k7, k8⟩ := DBox.cells hv; go_simp; first | done | with_reducible rfl | (rw [if_neg (by omega)])) HB0.out ?_; simp only [Act.put, List.setIfInBounds_toArray, List.set_cons_zero, List.set_cons_succ]
            refine WH.take 10 (some 110) rfl rfl (by kernel_rfl) (by kernel_rfl) (by kernel_rfl) (fun _ _ _ h => h) (by rfl) (fun v hv => by obtain ⟨k0, k1, k2, k3, k4, k5, k6, k7, k8⟩ := DBox.cells hv; go_simp; first | done | with_reducible rfl | (rw [if_neg (by omega)])) HB0.out ?_; simp only [Act.put, List.setIfInBounds_toArray, List.set_cons_zero, List.set_cons_succ]
            refine WH.one 5 (by kernel_rfl) rfl (by rfl) ?_
            go_wp2_with fail
            refine (HS0.out.left (fun F hT => hT.mem_post (fun Fm hm => lock_any bm Fm t.m x.thread x.at_ _ hm HOK.out.sm)) HR.out HE.out).mono ?_
            rintro e w6 ⟨rfl, h6, hb6⟩
            have H6 := Lib.hid h6
            have HB6 : Hid (DBox b x w6) := Lib.hid (hb6.trans HB0.out)
            clear h6 hb6
            go_wp2_with fail
            refine ⟨HB6.out, ?_⟩
            refine WH.one 11 (by kernel_rfl) rfl (by rfl) ?_
            go_wp2_with fail
            refine (H6.out.right (fun F hT => hT.mem_post (fun Fm hm => rlock_any rm Fm t.m x.thread x.at_ _ hm HOK.out.sm HHD.out HTH.out)) HR.out HE.out).mono ?_
            rintro e w7 ⟨rfl, h7, hb7⟩
            have H7 := Lib.hid h7
            have HB7 : Hid (DBox b x w7) := Lib.hid (hb7.trans HB6.out)
            clear h7 hb7
            go_wp2_with fail
            refine ⟨HB7.out, ?_⟩
            refine WH.take 12 (some 112) rfl rfl (by kernel_rfl) (by kernel_rfl) (by kernel_rfl) (fun _ _ _ h => h) (by rfl) (fun v hv => by obtain ⟨k0, k1, k2, k3, k4, k5, k6, k7, k8⟩ := DBox.cells hv; go_simp; first | done | with_reducible rfl | (rw [if_neg (by omega)])) HB7.out ?_; simp only [Act.put, List.setIfInBounds_toArray, List.set_cons_zero, List.set_cons_succ]
            refine WH.take 13 (some 11) rfl rfl (by kernel_rfl) (by kernel_rfl) (by kernel_rfl) (fun _ _ _ h => h) (by rfl) (fun v hv => by obtain ⟨k0, k1, k2, k3, k4, k5, k6, k7, k8⟩ := DBox.cells hv; go_simp; first | done | with_reducible rfl | (rw [if_neg (by omega)])) HB7.out ?_; simp only [Act.put, List.setIfInBounds_toArray, List.set_cons_zero, List.set_cons_succ]
            refine WH.done (by kernel_rfl) ?_
            clear HS0 HB0 H6 HB6 HB7 HR HE
            have HD7 := Lib.hid H7.out.duo
            have HOK2 := Lib.hid (HI2.out.ok HN.out (by omega))
            clear HT HB HOK HI
            go_wp2_with fail
            refine (HD7.out.allL HOK2.out).mono ?_
            rintro e w8 ⟨a8, c8, rfl, hk8, h8, hb8⟩
            have HK8 := Lib.hid hk8
            have H8 := Lib.hid h8
            clear hk8 h8 hb8
            go_wp2_with fail
            refine (H8.out.allR HOK2.out).mono ?_
            rintro e w9 ⟨a9, c9, rfl, hk9, h9, hb9⟩
            have HSA := Lib.hid (sameKeys_any (HK8.out.below hb9) hk9 (HI2.out.few (by omega)) HI2.out.2.2.1)
            have H9 := Lib.hid h9
            clear hk9 h9 hb9
            go_wp2_with fail
            refine HSA.out.mono ?_
            rintro e wA ⟨rfl, hbA⟩
            have HA := Lib.hid (H9.out.step hbA)
            clear hbA
            go_wp2_with fail
            go_roundw
            case rel => exact ⟨j + 1, t2, by omega, by omega, by push_cast; rfl, HI2, HA⟩
            case measure => simp [intOf]; omega
          · as_aux_lemma =>
            go_wp2_with fail
            generalize wr.heap.size = b at *
            generalize wr.alloc (.cells #[.int .u8 x.kind, .int .i64 x.thread, .int .i64 x.at_, .int .u32 x.k.a0, .int .u32 x.k.a1, .int .u16 x.k.p0, .int .u16 x.k.p1, .int .u8 x.k.pr, .bool x.tu] 30) = wx at *
            have HS0 := Lib.hid HT.out.drew
            have HB0 : Hid (DBox b x wx.drew) := Lib.hid HB.out
            clear c0 c1 c2 c3 c4 c5 c6 c7 c8 hq
            obtain ⟨r, hr⟩ : ∃ r, t.m.unlockE x.thread x.at_ = r := ⟨_, rfl⟩
            obtain ⟨t2, ht2⟩ : ∃ t2, (⟨t.m.unlock x.thread x.at_, t.n, t.fl⟩ : Tb) = t2 := ⟨_, rfl⟩
            have HR := Lib.hid (congrArg (Value.int .i64) hr)
            have HE := Lib.hid ht2
            have HI2 : Hid (TInv n' (j + 1) t2) := Lib.hid (by rw [← ht2]; exact HI.out.mem (pinv_unlock HI.out.2.2.2.2 x.thread x.at_))
            clear hr ht2
            refine WH.enter (DBox b x) (by kernel_rfl) 14 rfl ?_
            refine WH.take 0 (some 115) rfl rfl (by kernel_rfl) (by kernel_rfl) (by kernel_rfl) (fun _ _ _ h => h) (by rfl) (fun v hv => by obtain ⟨k0, k1, k2, k3, k4, k5, k6, k7, k8⟩ := DBox.cells hv; go_simp; first | done | with_reducible rfl | (rw [if_neg (by omega)])) HB0.out ?_; simp only [Act.put, List.setIfInBounds_toArray, List.set_cons_zero, List.set_cons_succ]
            refine WH.take 1 (some 116) rfl rfl (by kernel_rfl) (by kernel_rfl) (by kernel_rfl) (fun _ _ _ h => h) (by rfl) (fun v hv => by obtain ⟨k0, k1, k2, k3, k4, k5, k6, k7, k8⟩ := DBox.cells hv; go_simp; first | done | with_reducible rfl | (rw [if_neg (by omega)])) HB0.out ?_; simp only [Act.put, List.setIfInBounds_toArray, List.set_cons_zero, List.set_cons_succ]
            refine WH.take 2 (some 117) rfl rfl (by kernel_rfl) (by kernel_rfl) (by kernel_rfl) (fun _ _ _ h => h) (by rfl) (fun v hv => by obtain ⟨k0, k1, k2, k3, k4, k5, k6, k7, k8⟩ := DBox.cells hv; go_simp; first | done | with_reducible rfl | (rw [if_neg (by omega)])) HB0.out ?_; simp only [Act.put, List.setIfInBounds_toArray, List.set_cons_zero, List.set_cons_succ]
            refine WH.take 3 (some 118) rfl rfl (by kernel_rfl) (by kernel_rfl) (by kernel_rfl) (fun _ _ _ h => h) (by rfl) (fun v hv => by obtain ⟨k0, k1, k2, k3, k4, k5, k6, k7, k8⟩ := DBox.cells hv; go_simp; first | done | with_reducible rfl | (rw [if_neg (by omega)])) HB0.out ?_; simp only [Act.put, List.setIfInBounds_toArray, List.set_cons_zero, List.set_cons_succ]
            refine WH.take 4 (some 119) rfl rfl (by kernel_rfl) (by kernel_rfl) (by kernel_rfl) (fun _ _ _ h => h) (by rfl) (fun v hv => by obtain ⟨k0, k1, k2, k3, k4, k5, k6, k7, k8⟩ := DBox.cells hv; go_simp; first | done | with_reducible rfl | (rw [if_neg (by omega)])) HB0.out ?_; simp only [Act.put, List.setIfInBounds_toArray, List.set_cons_zero, List.set_cons_succ]
            refine WH.take 6 (some 121) rfl rfl (by kernel_rfl) (by kernel_rfl) (by kernel_rfl) (fun _ _ _ h => h) (by rfl) (fun v hv => by obtain ⟨k0, k1, k2, k3, k4, k5, k6, k7, k8⟩ := DBox.cells hv; go_simp; first | done | with_reducible rfl | (rw [if_neg (by omega)])) HB0.out ?_; simp only [Act.put, List.setIfInBounds_toArray, List.set_cons_zero, List.set_cons_succ]
            refine WH.take 7 (some 122) rfl rfl (by kernel_rfl) (by kernel_rfl) (by kernel_rfl) (fun _ _ _ h => h) (by rfl) (fun v hv => by obtain ⟨k0, k1, k2, k3, k4, k5, k6, k7, k8⟩ := DBox.cells hv; go_simp; first | done | with_reducible rfl | (rw [if_neg (by omega)])) HB0.out ?_; simp only [Act.put, List.setIfInBounds_toArray, List.set_cons_zero, List.set_cons_succ]
            refine WH.take 8 (some 123) rfl rfl (by kernel_rfl) (by kernel_rfl) (by kernel_rfl) (fun _ _ _ h => h) (by rfl) (fun v hv => by obtain ⟨k0, k1, k2, k3, k4, k5, k6, k7, k8⟩ := DBox.cells hv; go_simp; first | done | with_reducible rfl | (rw [if_neg (by omega)])) HB0.out ?_; simp only [Act.put, List.setIfInBounds_toArray, List.set_cons_zero, List.set_cons_succ]
            refine WH.take 9 (some 124) rfl rfl (by kernel_rfl) (by kernel_rfl) (by kernel_rfl) (fun _ _ _ h => h) (by rfl) (fun v hv => by obtain ⟨k0, k1, k2, k3, k4, k5, k6, k7, k8⟩ := DBox.cells hv; go_simp; first | done | with_reducible rfl | (rw [if_neg (by omega)])) HB0.out ?_; simp only [Act.put, List.setIfInBounds_toArray, List.set_cons_zero, List.set_cons_succ]
            refine WH.take 10 (some 125) rfl rfl (by kernel_rfl) (by kernel_rfl) (by kernel_rfl) (fun _ _ _ h => h) (by rfl) (fun v hv => by obtain ⟨k0, k1, k2, k3, k4, k5, k6, k7, k8⟩ := DBox.cells hv; go_simp; first | done | with_reducible rfl | (rw [if_neg (by omega)])) HB0.out ?_; simp only [Act.put, List.setIfInBounds_toArray, List.set_cons_zero, List.set_cons_succ]
            refine WH.one 5 (by kernel_rfl) rfl (by rfl) ?_
            go_wp2_with fail
            refine (HS0.out.left (fun F hT => hT.mem_post (fun Fm hm => unlock_any bm Fm t.m x.thread x.at_ _ hm HOK.out.sm)) HR.out HE.out).mono ?_
            rintro e w6 ⟨rfl, h6, hb6⟩
            have H6 := Lib.hid h6
            have HB6 : Hid (DBox b x w6) := Lib.hid (hb6.trans HB0.out)
            clear h6 hb6
            go_wp2_with fail
            refine ⟨HB6.out, ?_⟩
            refine WH.one 11 (by kernel_rfl) rfl (by rfl) ?_
            go_wp2_with fail
            refine (H6.out.right (fun F hT => hT.mem_post (fun Fm hm => runlock_any rm Fm t.m x.thread x.at_ _ hm HOK.out.sm HHD.out HTH.out)) HR.out HE.out).mono ?_
            rintro e w7 ⟨rfl, h7, hb7⟩
            have H7 := Lib.hid h7
            have HB7 : Hid (DBox b x w7) := Lib.hid (hb7.trans HB6.out)
            clear h7 hb7
            go_wp2_with fail
            refine ⟨HB7.out, ?_⟩
            refine WH.take 12 (some 127) rfl rfl (by kernel_rfl) (by kernel_rfl) (by kernel_rfl) (fun _ _ _ h => h) (by rfl) (fun v hv => by obtain ⟨k0, k1, k2, k3, k4, k5, k6, k7, k8⟩ := DBox.cells hv; go_simp; first | done | with_reducible rfl | (rw [if_neg (by omega)])) HB7.out ?_; simp only [Act.put, List.setIfInBounds_toArray, List.set_cons_zero, List.set_cons_succ]
            refine WH.take 13 (some 11) rfl rfl (by kernel_rfl) (by kernel_rfl) (by kernel_rfl) (fun _ _ _ h => h) (by rfl) (fun v hv => by obtain ⟨k0, k1, k2, k3, k4, k5, k6, k7, k8⟩ := DBox.cells hv; go_simp; first | done | with_reducible rfl | (rw [if_neg (by omega)])) HB7.out ?_; simp only [Act.put, List.setIfInBounds_toArray, List.set_cons_zero, List.set_cons_succ]
            refine WH.done (by kernel_rfl) ?_
            clear HS0 HB0 H6 HB6 HB7 HR HE
            have HD7 := Lib.hid H7.out.duo
            have HOK2 := Lib.hid (HI2.out.ok HN.out (by omega))
            clear HT HB HOK HI
            go_wp2_with fail
            refine (HD7.out.allL HOK2.out).mono ?_
            rintro e w8 ⟨a8, c8, rfl, hk8, h8, hb8⟩
            have HK8 := Lib.hid hk8
            have H8 := Lib.hid h8
            clear hk8 h8 hb8
            go_wp2_with fail
            refine (H8.out.allR HOK2.out).mono ?_
            rintro e w9 ⟨a9, c9, rfl, hk9, h9, hb9⟩
            have HSA := Lib.hid (sameKeys_any (HK8.out.below hb9) hk9 (HI2.out.few (by omega)) HI2.out.2.2.1)
            have H9 := Lib.hid h9
            clear hk9 h9 hb9
            go_wp2_with fail
            refine HSA.out.mono ?_
            rintro e wA ⟨rfl, hbA⟩
            have HA := Lib.hid (H9.out.step hbA)
            clear hbA
            go_wp2_with fail
            go_roundw
            case rel => exact ⟨j + 1, t2, by omega, by omega, by push_cast; rfl, HI2, HA⟩
            case measure => simp [intOf]; omega
          · as_aux_lemma =>
            go_wp2_with fail
            generalize wr.heap.size = b at *
            generalize wr.alloc (.cells #[.int .u8 x.kind, .int .i64 x.thread, .int .i64 x.at_, .int .u32 x.k.a0, .int .u32 x.k.a1, .int .u16 x.k.p0, .int .u16 x.k.p1, .int .u8 x.k.pr, .bool x.tu] 30) = wx at *
            have HS0 := Lib.hid HT.out.drew
            have HB0 : Hid (DBox b x wx.drew) := Lib.hid HB.out
            clear c0 c1 c2 c3 c4 c5 c6 c7 c8 hq
            obtain ⟨r, hr⟩ : ∃ r, t.may x.thread (t.of x.k : Nat) = r := ⟨_, rfl⟩
            obtain ⟨t2, ht2⟩ : ∃ t2, t.put x.thread x.k x.at_ x.tu = t2 := ⟨_, rfl⟩
            have HR := Lib.hid (congrArg (Value.int .i64) hr)
            have HE := Lib.hid ht2
            have HI2 : Hid (TInv n' (j + 1) t2) := Lib.hid (by rw [← ht2]; exact tinv_put HI.out x.thread HK.out x.at_ x.tu)
            clear hr ht2
            refine WH.enter (DBox b x) (by kernel_rfl) 22 rfl ?_
            refine WH.take 0 (some 131) rfl rfl (by kernel_rfl) (by kernel_rfl) (by kernel_rfl) (fun _ _ _ h => h) (by rfl) (fun v hv => by obtain ⟨k0, k1, k2, k3, k4, k5, k6, k7, k8⟩ := DBox.cells hv; go_simp; first | done | with_reducible rfl | (rw [if_neg (by omega)])) HB0.out ?_; simp only [Act.put, List.setIfInBounds_toArray, List.set_cons_zero, List.set_cons_succ]
            refine WH.take 1 (some 132) rfl rfl (by kernel_rfl) (by kernel_rfl) (by kernel_rfl) (fun _ _ _ h => h) (by rfl) (fun v hv => by obtain ⟨k0, k1, k2, k3, k4, k5, k6, k7, k8⟩ := DBox.cells hv; go_simp; first | done | with_reducible rfl | (rw [if_neg (by omega)])) HB0.out ?_; simp only [Act.put, List.setIfInBounds_toArray, List.set_cons_zero, List.set_cons_succ]
            refine WH.take 2 (some 133) rfl rfl (by kernel_rfl) (by kernel_rfl) (by kernel_rfl) (fun _ _ _ h => h) (by rfl) (fun v hv => by obtain ⟨k0, k1, k2, k3, k4, k5, k6, k7, k8⟩ := DBox.cells hv; go_simp; first | done | with_reducible rfl | (rw [if_neg (by omega)])) HB0.out ?_; simp only [Act.put, List.setIfInBounds_toArray, List.set_cons_zero, List.set_cons_succ]
            refine WH.take 3 (some 134) rfl rfl (by kernel_rfl) (by kernel_rfl) (by kernel_rfl) (fun _ _ _ h => h) (by rfl) (fun v hv => by obtain ⟨k0, k1, k2, k3, k4, k5, k6, k7, k8⟩ := DBox.cells hv; go_simp; first | done | with_reducible rfl | (rw [if_neg (by omega)])) HB0.out ?_; simp only [Act.put, List.setIfInBounds_toArray, List.set_cons_zero, List.set_cons_succ]
            refine WH.take 4 (some 135) rfl rfl (by kernel_rfl) (by kernel_rfl) (by kernel_rfl) (fun _ _ _ h => h) (by rfl) (fun v hv => by obtain ⟨k0, k1, k2, k3, k4, k5, k6, k7, k8⟩ := DBox.cells hv; go_simp; first | done | with_reducible rfl | (rw [if_neg (by omega)])) HB0.out ?_; simp only [Act.put, List.setIfInBounds_toArray, List.set_cons_zero, List.set_cons_succ]
            refine WH.take 5 (some 136) rfl rfl (by kernel_rfl) (by kernel_rfl) (by kernel_rfl) (fun _ _ _ h => h) (by rfl) (fun v hv => by obtain ⟨k0, k1, k2, k3, k4, k5, k6, k7, k8⟩ := DBox.cells hv; go_simp; first | done | with_reducible rfl | (rw [if_neg (by omega)])) HB0.out ?_; simp only [Act.put, List.setIfInBounds_toArray, List.set_cons_zero, List.set_cons_succ]
            refine WH.take 6 (some 137) rfl rfl (by kernel_rfl) (by kernel_rfl) (by kernel_rfl) (fun _ _ _ h => h) (by rfl) (fun v hv => by obtain ⟨k0, k1, k2, k3, k4, k5, k6, k7, k8⟩ := DBox.cells hv; go_simp; first | done | with_reducible rfl | (rw [if_neg (by omega)])) HB0.out ?_; simp only [Act.put, List.setIfInBounds_toArray, List.set_cons_zero, List.set_cons_succ]
            refine WH.take 7 (some 138) rfl rfl (by kernel_rfl) (by kernel_rfl) (by kernel_rfl) (fun _ _ _ h => h) (by rfl) (fun v hv => by obtain ⟨k0, k1, k2, k3, k4, k5, k6, k7, k8⟩ := DBox.cells hv; go_simp; first | done | with_reducible rfl | (rw [if_neg (by omega)])) HB0.out ?_; simp only [Act.put, List.setIfInBounds_toArray, List.set_cons_zero, List.set_cons_succ]
            refine WH.take 8 (some 139) rfl rfl (by kernel_rfl) (by kernel_rfl) (by kernel_rfl) (fun _ _ _ h => h) (by rfl) (fun v hv => by obtain ⟨k0, k1, k2, k3, k4, k5, k6, k7, k8⟩ := DBox.cells hv; go_simp; first | done | with_reducible rfl | (rw [if_neg (by omega)])) HB0.out ?_; simp only [Act.put, List.setIfInBounds_toArray, List.set_cons_zero, List.set_cons_succ]
            refine WH.take 10 (some 141) rfl rfl (by kernel_rfl) (by kernel_rfl) (by kernel_rfl) (fun _ _ _ h => h) (by rfl) (fun v hv => by obtain ⟨k0, k1, k2, k3, k4, k5, k6, k7, k8⟩ := DBox.cells hv; go_simp; first | done | with_reducible rfl | (rw [if_neg (by omega)])) HB0.out ?_; simp only [Act.put, List.setIfInBounds_toArray, List.set_cons_zero, List.set_cons_succ]
            refine WH.take 11 (some 142) rfl rfl (by kernel_rfl) (by kernel_rfl) (by kernel_rfl) (fun _ _ _ h => h) (by rfl) (fun v hv => by obtain ⟨k0, k1, k2, k3, k4, k5, k6, k7, k8⟩ := DBox.cells hv; go_simp; first | done | with_reducible rfl | (rw [if_neg (by omega)])) HB0.out ?_; simp only [Act.put, List.setIfInBounds_toArray, List.set_cons_zero, List.set_cons_succ]
            refine WH.take 12 (some 143) rfl rfl (by kernel_rfl) (by kernel_rfl) (by kernel_rfl) (fun _ _ _ h => h) (by rfl) (fun v hv => by obtain ⟨k0, k1, k2, k3, k4, k5, k6, k7, k8⟩ := DBox.cells hv; go_simp; first | done | with_reducible rfl | (rw [if_neg (by omega)])) HB0.out ?_; simp only [Act.put, List.setIfInBounds_toArray, List.set_cons_zero, List.set_cons_succ]
            refine WH.take 13 (some 144) rfl rfl (by kernel_rfl) (by kernel_rfl) (by kernel_rfl) (fun _ _ _ h => h) (by rfl) (fun v hv => by obtain ⟨k0, k1, k2, k3, k4, k5, k6, k7, k8⟩ := DBox.cells hv; go_simp; first | done | with_reducible rfl | (rw [if_neg (by omega)])) HB0.out ?_; simp only [Act.put, List.setIfInBounds_toArray, List.set_cons_zero, List.set_cons_succ]
            refine WH.take 14 (some 145) rfl rfl (by kernel_rfl) (by kernel_rfl) (by kernel_rfl) (fun _ _ _ h => h) (by rfl) (fun v hv => by obtain ⟨k0, k1, k2, k3, k4, k5, k6, k7, k8⟩ := DBox.cells hv; go_simp; first | done | with_reducible rfl | (rw [if_neg (by omega)])) HB0.out ?_; simp only [Act.put, List.setIfInBounds_toArray, List.set_cons_zero, List.set_cons_succ]
            refine WH.take 15 (some 146) rfl rfl (by kernel_rfl) (by kernel_rfl) (by kernel_rfl) (fun _ _ _ h => h) (by rfl) (fun v hv => by obtain ⟨k0, k1, k2, k3, k4, k5, k6, k7, k8⟩ := DBox.cells hv; go_simp; first | done | with_reducible rfl | (rw [if_neg (by omega)])) HB0.out ?_; simp only [Act.put, List.setIfInBounds_toArray, List.set_cons_zero, List.set_cons_succ]
            refine WH.take 16 (some 147) rfl rfl (by kernel_rfl) (by kernel_rfl) (by kernel_rfl) (fun _ _ _ h => h) (by rfl) (fun v hv => by obtain ⟨k0, k1, k2, k3, k4, k5, k6, k7, k8⟩ := DBox.cells hv; go_simp; first | done | with_reducible rfl | (rw [if_neg (by omega)])) HB0.out ?_; simp only [Act.put, List.setIfInBounds_toArray, List.set_cons_zero, List.set_cons_succ]
            refine WH.take 17 (some 148) rfl rfl (by kernel_rfl) (by kernel_rfl) (by kernel_rfl) (fun _ _ _ h => h) (by rfl) (fun v hv => by obtain ⟨k0, k1, k2, k3, k4, k5, k6, k7, k8⟩ := DBox.cells hv; go_simp; first | done | with_reducible rfl | (rw [if_neg (by omega)])) HB0.out ?_; simp only [Act.put, List.setIfInBounds_toArray, List.set_cons_zero, List.set_cons_succ]
            refine WH.take 18 (some 149) rfl rfl (by kernel_rfl) (by kernel_rfl) (by kernel_rfl) (fun _ _ _ h => h) (by rfl) (fun v hv => by obtain ⟨k0, k1, k2, k3, k4, k5, k6, k7, k8⟩ := DBox.cells hv; go_simp; first | done | with_reducible rfl | (rw [if_neg (by omega)])) HB0.out ?_; simp only [Act.put, List.setIfInBounds_toArray, List.set_cons_zero, List.set_cons_succ]
            refine WH.one 9 (by kernel_rfl) rfl (by rfl) ?_
            go_wp2_with fail
            refine (HS0.out.left (fun F hT => tbput_any hT HOK.out HK.out x.thread x.at_ x.tu) HR.out HE.out).mono ?_
            rintro e w6 ⟨rfl, h6, hb6⟩
            have H6 := Lib.hid h6
            have HB6 : Hid (DBox b x w6) := Lib.hid (hb6.trans HB0.out)
            clear h6 hb6
            go_wp2_with fail
            refine ⟨HB6.out, ?_⟩
            refine WH.one 19 (by kernel_rfl) rfl (by rfl) ?_
            go_wp2_with fail
            refine (H6.out.right (fun F hT => rtput_any hT HOK.out HRM.out HHD.out HK.out x.thread x.at_ x.tu) HR.out HE.out).mono ?_
            rintro e w7 ⟨rfl, h7, hb7⟩
            have H7 := Lib.hid h7
            have HB7 : Hid (DBox b x w7) := Lib.hid (hb7.trans HB6.out)
            clear h7 hb7
            go_wp2_with fail
            refine ⟨HB7.out, ?_⟩
            refine WH.take 20 (some 151) rfl rfl (by kernel_rfl) (by kernel_rfl) (by kernel_rfl) (fun _ _ _ h => h) (by rfl) (fun v hv => by obtain ⟨k0, k1, k2, k3, k4, k5, k6, k7, k8⟩ := DBox.cells hv; go_simp; first | done | with_reducible rfl | (rw [if_neg (by omega)])) HB7.out ?_; simp only [Act.put, List.setIfInBounds_toArray, List.set_cons_zero, List.set_cons_succ]
            refine WH.take 21 (some 11) rfl rfl (by kernel_rfl) (by kernel_rfl) (by kernel_rfl) (fun _ _ _ h => h) (by rfl) (fun v hv => by obtain ⟨k0, k1, k2, k3, k4, k5, k6, k7, k8⟩ := DBox.cells hv; go_simp; first | done | with_reducible rfl | (rw [if_neg (by omega)])) HB7.out ?_; simp only [Act.put, List.setIfInBounds_toArray, List.set_cons_zero, List.set_cons_succ]
            refine WH.done (by kernel_rfl) ?_
            clear HS0 HB0 H6 HB6 HB7 HR HE
            have HD7 := Lib.hid H7.out.duo
            have HOK2 := Lib.hid (HI2.out.ok HN.out (by omega))
            clear HT HB HOK HI
            go_wp2_with fail
            refine (HD7.out.allL HOK2.out).mono ?_
            rintro e w8 ⟨a8, c8, rfl, hk8, h8, hb8⟩
            have HK8 := Lib.hid hk8
            have H8 := Lib.hid h8
            clear hk8 h8 hb8
            go_wp2_with fail
            refine (H8.out.allR HOK2.out).mono ?_
            rintro e w9 ⟨a9, c9, rfl, hk9, h9, hb9⟩
            have HSA := Lib.hid (sameKeys_any (HK8.out.below hb9) hk9 (HI2.out.few (by omega)) HI2.out.2.2.1)
            have H9 := Lib.hid h9
            clear hk9 h9 hb9
            go_wp2_with fail
            refine HSA.out.mono ?_
            rintro e wA ⟨rfl, hbA⟩
            have HA := Lib.hid (H9.out.step hbA)
            clear hbA
            go_wp2_with fail
            go_roundw
            case rel => exact ⟨j + 1, t2, by omega, by omega, by push_cast; rfl, HI2, HA⟩
            case measure => simp [intOf]; omega
          · as_aux_lemma =>
            go_wp2_with fail
            generalize wr.heap.size = b at *
            generalize wr.alloc (.cells #[.int .u8 x.kind, .int .i64 x.thread, .int .i64 x.at_, .int .u32 x.k.a0, .int .u32 x.k.a1, .int .u16 x.k.p0, .int .u16 x.k.p1, .int .u8 x.k.pr, .bool x.tu] 30) = wx at *
            have HS0 := Lib.hid HT.out.drew
            have HB0 : Hid (DBox b x wx.drew) := Lib.hid HB.out
            clear c0 c1 c2 c3 c4 c5 c6 c7 c8 hq
            obtain ⟨r, hr⟩ : ∃ r, t.may x.thread (t.of x.k : Nat) = r := ⟨_, rfl⟩
            obtain ⟨t2, ht2⟩ : ∃ t2, t.put x.thread x.k x.at_ x.tu = t2 := ⟨_, rfl⟩
            have HR := Lib.hid (congrArg (Value.int .i64) hr)
            have HE := Lib.hid ht2
            have HI2 : Hid (TInv n' (j + 1) t2) := Lib.hid (by rw [← ht2]; exact tinv_put HI.out x.thread HK.out x.at_ x.tu)
            clear hr ht2
            refine WH.enter (DBox b x) (by kernel_rfl) 22 rfl ?_
            refine WH.take 0 (some 131) rfl rfl (by kernel_rfl) (by kernel_rfl) (by kernel_rfl) (fun _ _ _ h => h) (by rfl) (fun v hv => by obtain ⟨k0, k1, k2, k3, k4, k5, k6, k7, k8⟩ := DBox.cells hv; go_simp; first | done | with_reducible rfl | (rw [if_neg (by omega)])) HB0.out ?_; simp only [Act.put, List.setIfInBounds_toArray, List.set_cons_zero, List.set_cons_succ]
            refine WH.take 1 (some 132) rfl rfl (by kernel_rfl) (by kernel_rfl) (by kernel_rfl) (fun _ _ _ h => h) (by rfl) (fun v hv => by obtain ⟨k0, k1, k2, k3, k4, k5, k6, k7, k8⟩ := DBox.cells hv; go_simp; first | done | with_reducible rfl | (rw [if_neg (by omega)])) HB0.out ?_; simp only [Act.put, List.setIfInBounds_toArray, List.set_cons_zero, List.set_cons_succ]
            refine WH.take 2 (some 133) rfl rfl (by kernel_rfl) (by kernel_rfl) (by kernel_rfl) (fun _ _ _ h => h) (by rfl) (fun v hv => by obtain ⟨k0, k1, k2, k3, k4, k5, k6, k7, k8⟩ := DBox.cells hv; go_simp; first | done | with_reducible rfl | (rw [if_neg (by omega)])) HB0.out ?_; simp only [Act.put, List.setIfInBounds_toArray, List.set_cons_zero, List.set_cons_succ]
            refine WH.take 3 (some 134) rfl rfl (by kernel_rfl) (by kernel_rfl) (by kernel_rfl) (fun _ _ _ h => h) (by rfl) (fun v hv => by obtain ⟨k0, k1, k2, k3, k4, k5, k6, k7, k8⟩ := DBox.cells hv; go_simp; first | done | with_reducible rfl | (rw [if_neg (by omega)])) HB0.out ?_; simp only [Act.put, List.setIfInBounds_toArray, List.set_cons_zero, List.set_cons_succ]
            refine WH.take 4 (some 135) rfl rfl (by kernel_rfl) (by kernel_rfl) (by kernel_rfl) (fun _ _ _ h => h) (by rfl) (fun v hv => by obtain ⟨k0, k1, k2, k3, k4, k5, k6, k7, k8⟩ := DBox.cells hv; go_simp; first | done | with_reducible rfl | (rw [if_neg (by omega)])) HB0.out ?_; simp only [Act.put, List.setIfInBounds_toArray, List.set_cons_zero, List.set_cons_succ]
            refine WH.take 5 (some 136) rfl rfl (by kernel_rfl) (by kernel_rfl) (by kernel_rfl) (fun _ _ _ h => h) (by rfl) (fun v hv => by obtain ⟨k0, k1, k2, k3, k4, k5, k6, k7, k8⟩ := DBox.cells hv; go_simp; first | done | with_reducible rfl | (rw [if_neg (by omega)])) HB0.out ?_; simp only [Act.put, List.setIfInBounds_toArray, List.set_cons_zero, List.set_cons_succ]
            refine WH.take 6 (some 137) rfl rfl (by kernel_rfl) (by kernel_rfl) (by kernel_rfl) (fun _ _ _ h => h) (by rfl) (fun v hv => by obtain ⟨k0, k1, k2, k3, k4, k5, k6, k7, k8⟩ := DBox.cells hv; go_simp; first | done | with_reducible rfl | (rw [if_neg (by omega)])) HB0.out ?_; simp only [Act.put, List.setIfInBounds_toArray, List.set_cons_zero, List.set_cons_succ]
            refine WH.take 7 (some 138) rfl rfl (by kernel_rfl) (by kernel_rfl) (by kernel_rfl) (fun _ _ _ h => h) (by rfl) (fun v hv => by obtain ⟨k0, k1, k2, k3, k4, k5, k6, k7, k8⟩ := DBox.cells hv; go_simp; first | done | with_reducible rfl | (rw [if_neg (by omega)])) HB0.out ?_; simp only [Act.put, List.setIfInBounds_toArray, List.set_cons_zero, List.set_cons_succ]
            refine WH.take 8 (some 139) rfl rfl (by kernel_rfl) (by kernel_rfl) (by kernel_rfl) (fun _ _ _ h => h) (by rfl) (fun v hv => by obtain ⟨k0, k1, k2, k3, k4, k5, k6, k7, k8⟩ := DBox.cells hv; go_simp; first | done | with_reducible rfl | (rw [if_neg (by omega)])) HB0.out ?_; simp only [Act.put, List.setIfInBounds_toArray, List.set_cons_zero, List.set_cons_succ]
            refine WH.take 10 (some 141) rfl rfl (by kernel_rfl) (by kernel_rfl) (by kernel_rfl) (fun _ _ _ h => h) (by rfl) (fun v hv => by obtain ⟨k0, k1, k2, k3, k4, k5, k6, k7, k8⟩ := DBox.cells hv; go_simp; first | done | with_reducible rfl | (rw [if_neg (by omega)])) HB0.out ?_; simp only [Act.put, List.setIfInBounds_toArray, List.set_cons_zero, List.set_cons_succ]
            refine WH.take 11 (some 142) rfl rfl (by kernel_rfl) (by kernel_rfl) (by kernel_rfl) (fun _ _ _ h => h) (by rfl) (fun v hv => by obtain ⟨k0, k1, k2, k3, k4, k5, k6, k7, k8⟩ := DBox.cells hv; go_simp; first | done | with_reducible rfl | (rw [if_neg (by omega)])) HB0.out ?_; simp only [Act.put, List.setIfInBounds_toArray, List.set_cons_zero, List.set_cons_succ]
            refine WH.take 12 (some 143) rfl rfl (by kernel_rfl) (by kernel_rfl) (by kernel_rfl) (fun _ _ _ h => h) (by rfl) (fun v hv => by obtain ⟨k0, k1, k2, k3, k4, k5, k6, k7, k8⟩ := DBox.cells hv; go_simp; first | done | with_reducible rfl | (rw [if_neg (by omega)])) HB0.out ?_; simp only [Act.put, List.setIfInBounds_toArray, List.set_cons_zero, List.set_cons_succ]
            refine WH.take 13 (some 144) rfl rfl (by kernel_rfl) (by kernel_rfl) (by kernel_rfl) (fun _ _ _ h => h) (by rfl) (fun v hv => by obtain ⟨k0, k1, k2, k3, k4, k5, k6, k7, k8⟩ := DBox.cells hv; go_simp; first | done | with_reducible rfl | (rw [if_neg (by omega)])) HB0.out ?_; simp only [Act.put, List.setIfInBounds_toArray, List.set_cons_zero, List.set_cons_succ]
            refine WH.take 14 (some 145) rfl rfl (by kernel_rfl) (by kernel_rfl) (by kernel_rfl) (fun _ _ _ h => h) (by rfl) (fun v hv => by obtain ⟨k0, k1, k2, k3, k4, k5, k6, k7, k8⟩ := DBox.cells hv; go_simp; first | done | with_reducible rfl | (rw [if_neg (by omega)])) HB0.out ?_; simp only [Act.put, List.setIfInBounds_toArray, List.set_cons_zero, List.set_cons_succ]
            refine WH.take 15 (some 146) rfl rfl (by kernel_rfl) (by kernel_rfl) (by kernel_rfl) (fun _ _ _ h => h) (by rfl) (fun v hv => by obtain ⟨k0, k1, k2, k3, k4, k5, k6, k7, k8⟩ := DBox.cells hv; go_simp; first | done | with_reducible rfl | (rw [if_neg (by omega)])) HB0.out ?_; simp only [Act.put, List.setIfInBounds_toArray, List.set_cons_zero, List.set_cons_succ]
            refine WH.take 16 (some 147) rfl rfl (by kernel_rfl) (by kernel_rfl) (by kernel_rfl) (fun _ _ _ h => h) (by rfl) (fun v hv => by obtain ⟨k0, k1, k2, k3, k4, k5, k6, k7, k8⟩ := DBox.cells hv; go_simp; first | done | with_reducible rfl | (rw [if_neg (by omega)])) HB0.out ?_; simp only [Act.put, List.setIfInBounds_toArray, List.set_cons_zero, List.set_cons_succ]
            refine WH.take 17 (some 148) rfl rfl (by kernel_rfl) (by kernel_rfl) (by kernel_rfl) (fun _ _ _ h => h) (by rfl) (fun v hv => by obtain ⟨k0, k1, k2, k3, k4, k5, k6, k7, k8⟩ := DBox.cells hv; go_simp; first | done | with_reducible rfl | (rw [if_neg (by omega)])) HB0.out ?_; simp only [Act.put, List.setIfInBounds_toArray, List.set_cons_zero, List.set_cons_succ]
            refine WH.take 18 (some 149) rfl rfl (by kernel_rfl) (by kernel_rfl) (by kernel_rfl) (fun _ _ _ h => h) (by rfl) (fun v hv => by obtain ⟨k0, k1, k2, k3, k4, k5, k6, k7, k8⟩ := DBox.cells hv; go_simp; first | done | with_reducible rfl | (rw [if_neg (by omega)])) HB0.out ?_; simp only [Act.put, List.setIfInBounds_toArray, List.set_cons_zero, List.set_cons_succ]
            refine WH.one 9 (by kernel_rfl) rfl (by rfl) ?_
            go_wp2_with fail
            refine (HS0.out.left (fun F hT => tbput_any hT HOK.out HK.out x.thread x.at_ x.tu) HR.out HE.out).mono ?_
            rintro e w6 ⟨rfl, h6, hb6⟩
            have H6 := Lib.hid h6
            have HB6 : Hid (DBox b x w6) := Lib.hid (hb6.trans HB0.out)
            clear h6 hb6
            go_wp2_with fail
            refine ⟨HB6.out, ?_⟩
            refine WH.one 19 (by kernel_rfl) rfl (by rfl) ?_
            go_wp2_with fail
            refine (H6.out.right (fun F hT => rtput_any hT HOK.out HRM.out HHD.out HK.out x.thread x.at_ x.tu) HR.out HE.out).mono ?_
            rintro e w7 ⟨rfl, h7, hb7⟩
            have H7 := Lib.hid h7
            have HB7 : Hid (DBox b x w7) := Lib.hid (hb7.trans HB6.out)
            clear h7 hb7
            go_wp2_with fail
            refine ⟨HB7.out, ?_⟩
            refine WH.take 20 (some 151) rfl rfl (by kernel_rfl) (by kernel_rfl) (by kernel_rfl) (fun _ _ _ h => h) (by rfl) (fun v hv => by obtain ⟨k0, k1, k2, k3, k4, k5, k6, k7, k8⟩ := DBox.cells hv; go_simp; first | done | with_reducible rfl | (rw [if_neg (by omega)])) HB7.out ?_; simp only [Act.put, List.setIfInBounds_toArray, List.set_cons_zero, List.set_cons_succ]
            refine WH.take 21 (some 11) rfl rfl (by kernel_rfl) (by kernel_rfl) (by kernel_rfl) (fun _ _ _ h => h) (by rfl) (fun v hv => by obtain ⟨k0, k1, k2, k3, k4, k5, k6, k7, k8⟩ := DBox.cells hv; go_simp; first | done | with_reducible rfl | (rw [if_neg (by omega)])) HB7.out ?_; simp only [Act.put, List.setIfInBounds_toArray, List.set_cons_zero, List.set_cons_succ]
            refine WH.done (by kernel_rfl) ?_
            clear HS0 HB0 H6 HB6 HB7 HR HE
            have HD7 := Lib.hid H7.out.duo
            have HOK2 := Lib.hid (HI2.out.ok HN.out (by omega))
            clear HT HB HOK HI
            go_wp2_with fail
            refine (HD7.out.allL HOK2.out).mono ?_
            rintro e w8 ⟨a8, c8, rfl, hk8, h8, hb8⟩
            have HK8 := Lib.hid hk8
            have H8 := Lib.hid h8
            clear hk8 h8 hb8
            go_wp2_with fail
            refine (H8.out.allR HOK2.out).mono ?_
            rintro e w9 ⟨a9, c9, rfl, hk9, h9, hb9⟩
            have HSA := Lib.hid (sameKeys_any (HK8.out.below hb9) hk9 (HI2.out.few (by omega)) HI2.out.2.2.1)
            have H9 := Lib.hid h9
            clear hk9 h9 hb9
            go_wp2_with fail
            refine HSA.out.mono ?_
            rintro e wA ⟨rfl, hbA⟩
            have HA := Lib.hid (H9.out.step hbA)
            clear hbA
            go_wp2_with fail
            go_roundw
            case rel => exact ⟨j + 1, t2, by omega, by omega, by push_cast; rfl, HI2, HA⟩
            case measure => simp [intOf]; omega
          · as_aux_lemma =>
            go_wp2_with fail
            generalize wr.heap.size = b at *
            generalize wr.alloc (.cells #[.int .u8 x.kind, .int .i64 x.thread, .int .i64 x.at_, .int .u32 x.k.a0, .int .u32 x.k.a1, .int .u16 x.k.p0, .int .u16 x.k.p1, .int .u8 x.k.pr, .bool x.tu] 30) = wx at *
            have HS0 := Lib.hid HT.out.drew
            have HB0 : Hid (DBox b x wx.drew) := Lib.hid HB.out
            clear c0 c1 c2 c3 c4 c5 c6 c7 c8 hq
            obtain ⟨r, hr⟩ : ∃ r, t.removeE x.thread x.k = r := ⟨_, rfl⟩
            obtain ⟨t2, ht2⟩ : ∃ t2, t.remove x.thread x.k = t2 := ⟨_, rfl⟩
            have HR := Lib.hid (congrArg (Value.int .i64) hr)
            have HE := Lib.hid ht2
            have HI2 : Hid (TInv n' (j + 1) t2) := Lib.hid (by rw [← ht2]; exact tinv_remove HI.out x.thread x.k)
            clear hr ht2
            refine WH.enter (DBox b x) (by kernel_rfl) 14 rfl ?_
            refine WH.take 0 (some 154) rfl rfl (by kernel_rfl) (by kernel_rfl) (by kernel_rfl) (fun _ _ _ h => h) (by rfl) (fun v hv => by obtain ⟨k0, k1, k2, k3, k4, k5, k6, k7, k8⟩ := DBox.cells hv; go_simp; first | done | with_reducible rfl | (rw [if_neg (by omega)])) HB0.out ?_; simp only [Act.put, List.setIfInBounds_toArray, List.set_cons_zero, List.set_cons_succ]
            refine WH.take 1 (some 155) rfl rfl (by kernel_rfl) (by kernel_rfl) (by kernel_rfl) (fun _ _ _ h => h) (by rfl) (fun v hv => by obtain ⟨k0, k1, k2, k3, k4, k5, k6, k7, k8⟩ := DBox.cells hv; go_simp; first | done | with_reducible rfl | (rw [if_neg (by omega)])) HB0.out ?_; simp only [Act.put, List.setIfInBounds_toArray, List.set_cons_zero, List.set_cons_succ]
            refine WH.take 2 (some 156) rfl rfl (by kernel_rfl) (by kernel_rfl) (by kernel_rfl) (fun _ _ _ h => h) (by rfl) (fun v hv => by obtain ⟨k0, k1, k2, k3, k4, k5, k6, k7, k8⟩ := DBox.cells hv; go_simp; first | done | with_reducible rfl | (rw [if_neg (by omega)])) HB0.out ?_; simp only [Act.put, List.setIfInBounds_toArray, List.set_cons_zero, List.set_cons_succ]
            refine WH.take 3 (some 157) rfl rfl (by kernel_rfl) (by kernel_rfl) (by kernel_rfl) (fun _ _ _ h => h) (by rfl) (fun v hv => by obtain ⟨k0, k1, k2, k3, k4, k5, k6, k7, k8⟩ := DBox.cells hv; go_simp; first | done | with_reducible rfl | (rw [if_neg (by omega)])) HB0.out ?_; simp only [Act.put, List.setIfInBounds_toArray, List.set_cons_zero, List.set_cons_succ]
            refine WH.take 4 (some 158) rfl rfl (by kernel_rfl) (by kernel_rfl) (by kernel_rfl) (fun _ _ _ h => h) (by rfl) (fun v hv => by obtain ⟨k0, k1, k2, k3, k4, k5, k6, k7, k8⟩ := DBox.cells hv; go_simp; first | done | with_reducible rfl | (rw [if_neg (by omega)])) HB0.out ?_; simp only [Act.put, List.setIfInBounds_toArray, List.set_cons_zero, List.set_cons_succ]
            refine WH.take 6 (some 160) rfl rfl (by kernel_rfl) (by kernel_rfl) (by kernel_rfl) (fun _ _ _ h => h) (by rfl) (fun v hv => by obtain ⟨k0, k1, k2, k3, k4, k5, k6, k7, k8⟩ := DBox.cells hv; go_simp; first | done | with_reducible rfl | (rw [if_neg (by omega)])) HB0.out ?_; simp only [Act.put, List.setIfInBounds_toArray, List.set_cons_zero, List.set_cons_succ]
            refine WH.take 7 (some 161) rfl rfl (by kernel_rfl) (by kernel_rfl) (by kernel_rfl) (fun _ _ _ h => h) (by rfl) (fun v hv => by obtain ⟨k0, k1, k2, k3, k4, k5, k6, k7, k8⟩ := DBox.cells hv; go_simp; first | done | with_reducible rfl | (rw [if_neg (by omega)])) HB0.out ?_; simp only [Act.put, List.setIfInBounds_toArray, List.set_cons_zero, List.set_cons_succ]
            refine WH.take 8 (some 162) rfl rfl (by kernel_rfl) (by kernel_rfl) (by kernel_rfl) (fun _ _ _ h => h) (by rfl) (fun v hv => by obtain ⟨k0, k1, k2, k3, k4, k5, k6, k7, k8⟩ := DBox.cells hv; go_simp; first | done | with_reducible rfl | (rw [if_neg (by omega)])) HB0.out ?_; simp only [Act.put, List.setIfInBounds_toArray, List.set_cons_zero, List.set_cons_succ]
            refine WH.take 9 (some 163) rfl rfl (by kernel_rfl) (by kernel_rfl) (by kernel_rfl) (fun _ _ _ h => h) (by rfl) (fun v hv => by obtain ⟨k0, k1, k2, k3, k4, k5, k6, k7, k8⟩ := DBox.cells hv; go_simp; first | done | with_reducible rfl | (rw [if_neg (by omega)])) HB0.out ?_; simp only [Act.put, List.setIfInBounds_toArray, List.set_cons_zero, List.set_cons_succ]
            refine WH.take 10 (some 164) rfl rfl (by kernel_rfl) (by kernel_rfl) (by kernel_rfl) (fun _ _ _ h => h) (by rfl) (fun v hv => by obtain ⟨k0, k1, k2, k3, k4, k5, k6, k7, k8⟩ := DBox.cells hv; go_simp; first | done | with_reducible rfl | (rw [if_neg (by omega)])) HB0.out ?_; simp only [Act.put, List.setIfInBounds_toArray, List.set_cons_zero, List.set_cons_succ]
            refine WH.one 5 (by kernel_rfl) rfl (by rfl) ?_
            go_wp2_with fail
            refine (HS0.out.left (fun F hT => tbremove_any hT HOK.out HK.out x.thread) HR.out HE.out).mono ?_
            rintro e w6 ⟨rfl, h6, hb6⟩
            have H6 := Lib.hid h6
            have HB6 : Hid (DBox b x w6) := Lib.hid (hb6.trans HB0.out)
            clear h6 hb6
            go_wp2_with fail
            refine ⟨HB6.out, ?_⟩
            refine WH.one 11 (by kernel_rfl) rfl (by rfl) ?_
            go_wp2_with fail
            refine (H6.out.right (fun F hT => rtremove_any hT HOK.out HRM.out HHD.out HK.out x.thread) HR.out HE.out).mono ?_
            rintro e w7 ⟨rfl, h7, hb7⟩
            have H7 := Lib.hid h7
            have HB7 : Hid (DBox b x w7) := Lib.hid (hb7.trans HB6.out)
            clear h7 hb7
            go_wp2_with fail
            refine ⟨HB7.out, ?_⟩
            refine WH.take 12 (some 166) rfl rfl (by kernel_rfl) (by kernel_rfl) (by kernel_rfl) (fun _ _ _ h => h) (by rfl) (fun v hv => by obtain ⟨k0, k1, k2, k3, k4, k5, k6, k7, k8⟩ := DBox.cells hv; go_simp; first | done | with_reducible rfl | (rw [if_neg (by omega)])) HB7.out ?_; simp only [Act.put, List.setIfInBounds_toArray, List.set_cons_zero, List.set_cons_succ]
            refine WH.take 13 (some 11) rfl rfl (by kernel_rfl) (by kernel_rfl) (by kernel_rfl) (fun _ _ _ h => h) (by rfl) (fun v hv => by obtain ⟨k0, k1, k2, k3, k4, k5, k6, k7, k8⟩ := DBox.cells hv; go_simp; first | done | with_reducible rfl | (rw [if_neg (by omega)])) HB7.out ?_; simp only [Act.put, List.setIfInBounds_toArray, List.set_cons_zero, List.set_cons_succ]
            refine WH.done (by kernel_rfl) ?_
            clear HS0 HB0 H6 HB6 HB7 HR HE
            have HD7 := Lib.hid H7.out.duo
            have HOK2 := Lib.hid (HI2.out.ok HN.out (by omega))
            clear HT HB HOK HI
            go_wp2_with fail
            refine (HD7.out.allL HOK2.out).mono ?_
            rintro e w8 ⟨a8, c8, rfl, hk8, h8, hb8⟩
            have HK8 := Lib.hid hk8
            have H8 := Lib.hid h8
            clear hk8 h8 hb8
            go_wp2_with fail
            refine (H8.out.allR HOK2.out).mono ?_
            rintro e w9 ⟨a9, c9, rfl, hk9, h9, hb9⟩
            have HSA := Lib.hid (sameKeys_any (HK8.out.below hb9) hk9 (HI2.out.few (by omega)) HI2.out.2.2.1)
            have H9 := Lib.hid h9
            clear hk9 h9 hb9
            go_wp2_with fail
            refine HSA.out.mono ?_
            rintro e wA ⟨rfl, hbA⟩
            have HA := Lib.hid (H9.out.step hbA)
            clear hbA
            go_wp2_with fail
            go_roundw
            case rel => exact ⟨j + 1, t2, by omega, by omega, by push_cast; rfl, HI2, HA⟩
            case measure => simp [intOf]; omega
          · as_aux_lemma =>
            go_wp2_with fail
            generalize wr.heap.size = b at *
            generalize wr.alloc (.cells #[.int .u8 x.kind, .int .i64 x.thread, .int .i64 x.at_, .int .u32 x.k.a0, .int .u32 x.k.a1, .int .u16 x.k.p0, .int .u16 x.k.p1, .int .u8 x.k.pr, .bool x.tu] 30) = wx at *
            clear c0 c1 c2 c3 c4 c5 c6 c7 c8 hq
            obtain ⟨r, hr⟩ : ∃ r, t.may x.thread x.at_ = r := ⟨_, rfl⟩
            obtain ⟨l, hl⟩ : ∃ l, t.keysR x.thread x.at_ = l := ⟨_, rfl⟩
            obtain ⟨t2, ht2⟩ : ∃ t2, t.keysT x.thread x.at_ = t2 := ⟨_, rfl⟩
            have HI2 : Hid (TInv n' (j + 1) t2) := Lib.hid (by rw [← ht2]; exact tinv_keys HI.out x.thread x.at_)
            have HLF : Hid (l.length ≤ 1000000 ∧ ∀ k ∈ l, k.In) := Lib.hid (by have h := keysR_few (t := t) x.thread x.at_; rw [hl] at h; exact ⟨Nat.le_trans h.1 (HI.out.few (by omega)), fun k hk => HI.out.2.2.1 k (h.2 k hk)⟩)
            have HR := Lib.hid hr
            have HL := Lib.hid hl
            have HE := Lib.hid ht2
            clear hr hl ht2
            refine (HT.out.keysL (fun F hT => tbkeys_any hT HOK.out x.thread x.at_) HR.out HL.out HE.out).mono ?_
            rintro e w6 ⟨a6, c6, rfl, hk6, h6, hb6⟩
            have H6 := Lib.hid h6
            have HK6 := Lib.hid hk6
            have HB6 : Hid (DBox b x w6) := Lib.hid (hb6.trans HB.out)
            clear h6 hk6 hb6
            obtain ⟨k0, k1, k2, k3, k4, k5, k6, k7, k8⟩ := DBox.cells HB6.out
            go_wp2_with fail
            refine (H6.out.keysR HK6.out (fun F hT => rtkeys_any hT HOK.out HRM.out HHD.out x.thread x.at_) HR.out HL.out HE.out).mono ?_
            rintro e w7 ⟨a7, c7, rfl, hk7, hk67, h7, hb7⟩
            have H7 := Lib.hid h7
            have HSK := Lib.hid (sameKeys_any hk67 hk7 HLF.out.1 HLF.out.2)
            clear h7 hk7 hk67 hb7 k0 k1 k2 k3 k4 k5 k6 k7 k8
            go_wp2_with fail
            refine HSK.out.mono ?_
            rintro e wB ⟨rfl, hbB⟩
            have HTB := Lib.hid (H7.out.step hbB).1
            clear hbB
            clear HSK H6 HK6 HB6 H7 HR HL HE HLF
            have HD7 := Lib.hid HTB.out.duo
            have HOK2 := Lib.hid (HI2.out.ok HN.out (by omega))
            clear HT HB HOK HI
            go_wp2_with fail
            refine (HD7.out.allL HOK2.out).mono ?_
            rintro e w8 ⟨a8, c8, rfl, hk8, h8, hb8⟩
            have HK8 := Lib.hid hk8
            have H8 := Lib.hid h8
            clear hk8 h8 hb8
            go_wp2_with fail
            refine (H8.out.allR HOK2.out).mono ?_
            rintro e w9 ⟨a9, c9, rfl, hk9, h9, hb9⟩
            have HSA := Lib.hid (sameKeys_any (HK8.out.below hb9) hk9 (HI2.out.few (by omega)) HI2.out.2.2.1)
            have H9 := Lib.hid h9
            clear hk9 h9 hb9
            go_wp2_with fail
            refine HSA.out.mono ?_
            rintro e wA ⟨rfl, hbA⟩
            have HA := Lib.hid (H9.out.step hbA)
            clear hbA
            go_wp2_with fail
            go_roundw
            case rel => exact ⟨j + 1, t2, by omega, by omega, by push_cast; rfl, HI2, HA⟩
            case measure => simp [intOf]; omega
          · as_aux_lemma =>
            go_wp2_with fail
            generalize wr.heap.size = b at *
            generalize wr.alloc (.cells #[.int .u8 x.kind, .int .i64 x.thread, .int .i64 x.at_, .int .u32 x.k.a0, .int .u32 x.k.a1, .int .u16 x.k.p0, .int .u16 x.k.p1, .int .u8 x.k.pr, .bool x.tu] 30) = wx at *
            clear c0 c1 c2 c3 c4 c5 c6 c7 c8 hq
            obtain ⟨r1, r2, r3, r4, hr⟩ := findR_shape t x.thread x.k
            obtain ⟨t2, ht2⟩ : ∃ t2, t.find x.thread x.k = t2 := ⟨_, rfl⟩
            have HI2 : Hid (TInv n' (j + 1) t2) := Lib.hid (by rw [← ht2]; exact tinv_find HI.out x.thread x.k)
            have HR := Lib.hid hr
            have HE := Lib.hid ht2
            clear hr ht2
            refine (HT.out.left (fun F hT => tbfind_any hT HOK.out HK.out x.thread) HR.out HE.out).mono ?_
            rintro e w6 ⟨rfl, h6, hb6⟩
            have H6 := Lib.hid h6
            have HB6 : Hid (DBox b x w6) := Lib.hid (hb6.trans HB.out)
            clear h6 hb6
            obtain ⟨k0, k1, k2, k3, k4, k5, k6, k7, k8⟩ := DBox.cells HB6.out
            go_wp2_with fail
            refine (H6.out.right (fun F hT => rtfind_any hT HOK.out HRM.out HHD.out HK.out x.thread) HR.out HE.out).mono ?_
            rintro e w7 ⟨rfl, h7, hb7⟩
            have H7 := Lib.hid h7
            clear h7 hb7 k0 k1 k2 k3 k4 k5 k6 k7 k8 HR HE H6 HB6
            have HD7 := Lib.hid H7.out.duo
            have HOK2 := Lib.hid (HI2.out.ok HN.out (by omega))
            clear HT HB HOK HI
            go_wp2_with fail
            refine (HD7.out.allL HOK2.out).mono ?_
            rintro e w8 ⟨a8, c8, rfl, hk8, h8, hb8⟩
            have HK8 := Lib.hid hk8
            have H8 := Lib.hid h8
            clear hk8 h8 hb8
            go_wp2_with fail
            refine (H8.out.allR HOK2.out).mono ?_
            rintro e w9 ⟨a9, c9, rfl, hk9, h9, hb9⟩
            have HSA := Lib.hid (sameKeys_any (HK8.out.below hb9) hk9 (HI2.out.few (by omega)) HI2.out.2.2.1)
            have H9 := Lib.hid h9
            clear hk9 h9 hb9
            go_wp2_with fail
            refine HSA.out.mono ?_
            rintro e wA ⟨rfl, hbA⟩
            have HA := Lib.hid (H9.out.step hbA)
            clear hbA
            go_wp2_with fail
            go_roundw
            case rel => exact ⟨j + 1, t2, by omega, by omega, by push_cast; rfl, HI2, HA⟩
            case measure => simp [intOf]; omega
          · as_aux_lemma =>
            go_wp2_with fail
            generalize wr.heap.size = b at *
            generalize wr.alloc (.cells #[.int .u8 x.kind, .int .i64 x.thread, .int .i64 x.at_, .int .u32 x.k.a0, .int .u32 x.k.a1, .int .u16 x.k.p0, .int .u16 x.k.p1, .int .u8 x.k.pr, .bool x.tu] 30) = wx at *
            clear c0 c1 c2 c3 c4 c5 c6 c7 c8 hq
            obtain ⟨r1, r2, r3, r4, hr⟩ := findR_shape t x.thread x.k
            obtain ⟨t2, ht2⟩ : ∃ t2, t.find x.thread x.k = t2 := ⟨_, rfl⟩
            have HI2 : Hid (TInv n' (j + 1) t2) := Lib.hid (by rw [← ht2]; exact tinv_find HI.out x.thread x.k)
            have HR := Lib.hid hr
            have HE := Lib.hid ht2
            clear hr ht2
            refine (HT.out.left (fun F hT => tbfind_any hT HOK.out HK.out x.thread) HR.out HE.out).mono ?_
            rintro e w6 ⟨rfl, h6, hb6⟩
            have H6 := Lib.hid h6
            have HB6 : Hid (DBox b x w6) := Lib.hid (hb6.trans HB.out)
            clear h6 hb6
            obtain ⟨k0, k1, k2, k3, k4, k5, k6, k7, k8⟩ := DBox.cells HB6.out
            go_wp2_with fail
            refine (H6.out.right (fun F hT => rtfind_any hT HOK.out HRM.out HHD.out HK.out x.thread) HR.out HE.out).mono ?_
            rintro e w7 ⟨rfl, h7, hb7⟩
            have H7 := Lib.hid h7
            clear h7 hb7 k0 k1 k2 k3 k4 k5 k6 k7 k8 HR HE H6 HB6
            have HD7 := Lib.hid H7.out.duo
            have HOK2 := Lib.hid (HI2.out.ok HN.out (by omega))
            clear HT HB HOK HI
            go_wp2_with fail
            refine (HD7.out.allL HOK2.out).mono ?_
            rintro e w8 ⟨a8, c8, rfl, hk8, h8, hb8⟩
            have HK8 := Lib.hid hk8
            have H8 := Lib.hid h8
            clear hk8 h8 hb8
            go_wp2_with fail
            refine (H8.out.allR HOK2.out).mono ?_
            rintro e w9 ⟨a9, c9, rfl, hk9, h9, hb9⟩
            have HSA := Lib.hid (sameKeys_any (HK8.out.below hb9) hk9 (HI2.out.few (by omega)) HI2.out.2.2.1)
            have H9 := Lib.hid h9
            clear hk9 h9 hb9
            go_wp2_with fail
            refine HSA.out.mono ?_
            rintro e wA ⟨rfl, hbA⟩
            have HA := Lib.hid (H9.out.step hbA)
            clear hbA
            go_wp2_with fail
            go_roundw
            case rel => exact ⟨j + 1, t2, by omega, by omega, by push_cast; rfl, HI2, HA⟩
            case measure => simp [intOf]; omega
        · by_cases hcl : j < len
          · have hc80 : ¬ j < 80 := fun h => hc ⟨hcl, h⟩
            as_aux_lemma =>
              obtain ⟨F5, G5, hT5, hR5, -⟩ := id HD.out
              obtain ⟨ag, cg, hcg, hrd⟩ := hR5.logs
              have HLN : Hid (t.m.Lg.length < 1073741824) := Lib.hid (by have := HRM.out; omega)
              have HR0 := Lib.hid (RdFrom.below hrd (Below.drew (Below.refl wr.heap.size wr)))
              have HS0 := Lib.hid (HD.out.step (Below.drew (Below.refl wr.heap.size wr)))
              have HC0 : Hid (CellIs ⟨rm, 2, none⟩ (.slice ag t.m.Lg.length cg) wr.drew) := Lib.hid hcg
              clear hT5 hR5 hcg hrd
              generalize hlg : t.m.Lg.length = lg at *
              have HLG := Lib.hid hlg
              clear hlg
              go_wp2_with fail
              refine WH.enter (CellIs ⟨rm, 2, none⟩ (.slice ag lg cg)) (by kernel_rfl) 11 rfl ?_
              refine WH.one 0 (by kernel_rfl) rfl (by rfl) ?_
              go_wp2_with fail
              refine (awake20_any _).mono ?_
              rintro e w6 ⟨rfl, hb6⟩
              have H6 := Lib.hid (HS0.out.step hb6)
              have HC6 : Hid (CellIs ⟨rm, 2, none⟩ (.slice ag lg cg) w6) := Lib.hid ((hb6.cell (World.block_lt_of_cell? _ _ HC0.out)).trans HC0.out)
              have HR6 := Lib.hid (RdFrom.below HR0.out hb6)
              clear hb6
              go_wp2_with fail
              refine ⟨HC6.out, ?_⟩
              refine WH.take 1 (some 206) rfl rfl (by kernel_rfl) (by kernel_rfl) (by kernel_rfl) (fun _ _ _ h => h) (by rfl) (fun v hv => by have k0 := hv; unfold CellIs at k0; go_simp; first | done | with_reducible rfl | (rw [if_neg (by omega)])) HC6.out ?_; simp only [Act.put, List.setIfInBounds_toArray, List.set_cons_zero, List.set_cons_succ]
              refine WH.take 2 (some 207) rfl rfl (by kernel_rfl) (by kernel_rfl) (by kernel_rfl) (fun _ _ _ h => h) (by rfl) (fun v hv => by have k0 := hv; unfold CellIs at k0; go_simp; first | done | with_reducible rfl | (rw [if_neg (by omega)])) HC6.out ?_; simp only [Act.put, List.setIfInBounds_toArray, List.set_cons_zero, List.set_cons_succ]
              refine WH.take 4 (some 209) rfl rfl (by kernel_rfl) (by kernel_rfl) (by kernel_rfl) (fun _ _ _ h => h) (by rfl) (fun v hv => by have k0 := hv; unfold CellIs at k0; go_simp; first | done | with_reducible rfl | (rw [if_neg (by omega)])) HC6.out ?_; simp only [Act.put, List.setIfInBounds_toArray, List.set_cons_zero, List.set_cons_succ]
              refine WH.take 5 (some 210) rfl rfl (by kernel_rfl) (by kernel_rfl) (by kernel_rfl) (fun _ _ _ h => h) (by rfl) (fun v hv => by have k0 := hv; unfold CellIs at k0; go_simp; first | done | with_reducible rfl | (rw [if_neg (by omega)])) HC6.out ?_; simp only [Act.put, List.setIfInBounds_toArray, List.set_cons_zero, List.set_cons_succ]
              refine WH.take 6 (some 211) rfl rfl (by kernel_rfl) (by kernel_rfl) (by kernel_rfl) (fun _ _ _ h => h) (by rfl) (fun v hv => by have k0 := hv; unfold CellIs at k0; go_simp; first | done | with_reducible rfl | (rw [if_neg (by omega)])) HC6.out ?_; simp only [Act.put, List.setIfInBounds_toArray, List.set_cons_zero, List.set_cons_succ]
              refine WH.take 7 (some 212) rfl rfl (by kernel_rfl) (by kernel_rfl) (by kernel_rfl) (fun _ _ _ h => h) (by rfl) (fun v hv => by have k0 := hv; unfold CellIs at k0; go_simp; first | done | with_reducible rfl | (rw [if_neg (by omega)])) HC6.out ?_; simp only [Act.put, List.setIfInBounds_toArray, List.set_cons_zero, List.set_cons_succ]
              refine WH.one 3 (by kernel_rfl) rfl (by rfl) ?_
              obtain ⟨F7, G7, hT7, -⟩ := id H6.out
              obtain ⟨Fm7, hm7⟩ := hT7.mem
              have HLA := Lib.hid (log_any bm Fm7 t.m _ hm7 HOK.out.sm)
              clear hT7 hm7
              go_wp2_with fail
              refine HLA.out.mono ?_
              rintro e w7 ⟨a7, c7, rfl, hr7, hb7⟩
              have H7 := Lib.hid (H6.out.step hb7)
              have HC7 : Hid (CellIs ⟨rm, 2, none⟩ (.slice ag lg cg) w7) := Lib.hid ((hb7.cell (World.block_lt_of_cell? _ _ HC6.out)).trans HC6.out)
              have HR7 := Lib.hid (RdFrom.below HR6.out hb7)
              have HQ7 := Lib.hid hr7.zero
              clear hb7 hr7
              rw [HLG.out]
              go_wp2_with fail
              refine ⟨HC7.out, ?_⟩
              refine WH.one 8 (by kernel_rfl) rfl (by rfl) ?_
              have HSM := Lib.hid (same_any a7 ag c7 cg t.m.Lg t.m.Lg w7 0 HQ7.out HR7.out (by have := HLN.out; have := HLG.out; omega) (by have := HLN.out; have := HLG.out; omega))
              rw [HLG.out] at HSM
              go_wp2_with fail
              refine HSM.out.mono ?_
              rintro e w8 ⟨rr, rfl, hrr, hb8⟩
              obtain rfl : rr = true := hrr.2 rfl
              have H8 := Lib.hid (H7.out.step hb8)
              have HC8 : Hid (CellIs ⟨rm, 2, none⟩ (.slice ag lg cg) w8) := Lib.hid ((hb8.cell (World.block_lt_of_cell? _ _ HC7.out)).trans HC7.out)
              clear hb8 hrr
              go_wp2_with fail
              refine ⟨HC8.out, ?_⟩
              refine WH.take 9 (some 214) rfl rfl (by kernel_rfl) (by kernel_rfl) (by kernel_rfl) (fun _ _ _ h => h) (by rfl) (fun v hv => by have k0 := hv; unfold CellIs at k0; go_simp; first | done | with_reducible rfl | (rw [if_neg (by omega)])) HC8.out ?_; simp only [Act.put, List.setIfInBounds_toArray, List.set_cons_zero, List.set_cons_succ]
              refine WH.take 10 (some 4) rfl rfl (by kernel_rfl) (by kernel_rfl) (by kernel_rfl) (fun _ _ _ h => h) (by rfl) (fun v hv => by have k0 := hv; unfold CellIs at k0; go_simp; first | done | with_reducible rfl | (rw [if_neg (by omega)])) HC8.out ?_; simp only [Act.put, List.setIfInBounds_toArray, List.set_cons_zero, List.set_cons_succ]
              refine WH.done (by kernel_rfl) ?_
              go_wp2_with fail
              go_ret
              exact ⟨rfl, H8.out.below⟩
          · as_aux_lemma =>
              obtain ⟨F5, G5, hT5, hR5, -⟩ := id HD.out
              obtain ⟨ag, cg, hcg, hrd⟩ := hR5.logs
              have HLN : Hid (t.m.Lg.length < 1073741824) := Lib.hid (by have := HRM.out; omega)
              have HR0 := Lib.hid (RdFrom.below hrd (Below.drew (Below.refl wr.heap.size wr)))
              have HS0 := Lib.hid (HD.out.step (Below.drew (Below.refl wr.heap.size wr)))
              have HC0 : Hid (CellIs ⟨rm, 2, none⟩ (.slice ag t.m.Lg.length cg) wr.drew) := Lib.hid hcg
              clear hT5 hR5 hcg hrd
              generalize hlg : t.m.Lg.length = lg at *
              have HLG := Lib.hid hlg
              clear hlg
              go_wp2_with fail
              refine WH.enter (CellIs ⟨rm, 2, none⟩ (.slice ag lg cg)) (by kernel_rfl) 11 rfl ?_
              refine WH.one 0 (by kernel_rfl) rfl (by rfl) ?_
              go_wp2_with fail
              refine (awake20_any _).mono ?_
              rintro e w6 ⟨rfl, hb6⟩
              have H6 := Lib.hid (HS0.out.step hb6)
              have HC6 : Hid (CellIs ⟨rm, 2, none⟩ (.slice ag lg cg) w6) := Lib.hid ((hb6.cell (World.block_lt_of_cell? _ _ HC0.out)).trans HC0.out)
              have HR6 := Lib.hid (RdFrom.below HR0.out hb6)
              clear hb6
              go_wp2_with fail
              refine ⟨HC6.out, ?_⟩
              refine WH.take 1 (some 206) rfl rfl (by kernel_rfl) (by kernel_rfl) (by kernel_rfl) (fun _ _ _ h => h) (by rfl) (fun v hv => by have k0 := hv; unfold CellIs at k0; go_simp; first | done | with_reducible rfl | (rw [if_neg (by omega)])) HC6.out ?_; simp only [Act.put, List.setIfInBounds_toArray, List.set_cons_zero, List.set_cons_succ]
              refine WH.take 2 (some 207) rfl rfl (by kernel_rfl) (by kernel_rfl) (by kernel_rfl) (fun _ _ _ h => h) (by rfl) (fun v hv => by have k0 := hv; unfold CellIs at k0; go_simp; first | done | with_reducible rfl | (rw [if_neg (by omega)])) HC6.out ?_; simp only [Act.put, List.setIfInBounds_toArray, List.set_cons_zero, List.set_cons_succ]
              refine WH.take 4 (some 209) rfl rfl (by kernel_rfl) (by kernel_rfl) (by kernel_rfl) (fun _ _ _ h => h) (by rfl) (fun v hv => by have k0 := hv; unfold CellIs at k0; go_simp; first | done | with_reducible rfl | (rw [if_neg (by omega)])) HC6.out ?_; simp only [Act.put, List.setIfInBounds_toArray, List.set_cons_zero, List.set_cons_succ]
              refine WH.take 5 (some 210) rfl rfl (by kernel_rfl) (by kernel_rfl) (by kernel_rfl) (fun _ _ _ h => h) (by rfl) (fun v hv => by have k0 := hv; unfold CellIs at k0; go_simp; first | done | with_reducible rfl | (rw [if_neg (by omega)])) HC6.out ?_; simp only [Act.put, List.setIfInBounds_toArray, List.set_cons_zero, List.set_cons_succ]
              refine WH.take 6 (some 211) rfl rfl (by kernel_rfl) (by kernel_rfl) (by kernel_rfl) (fun _ _ _ h => h) (by rfl) (fun v hv => by have k0 := hv; unfold CellIs at k0; go_simp; first | done | with_reducible rfl | (rw [if_neg (by omega)])) HC6.out ?_; simp only [Act.put, List.setIfInBounds_toArray, List.set_cons_zero, List.set_cons_succ]
              refine WH.take 7 (some 212) rfl rfl (by kernel_rfl) (by kernel_rfl) (by kernel_rfl) (fun _ _ _ h => h) (by rfl) (fun v hv => by have k0 := hv; unfold CellIs at k0; go_simp; first | done | with_reducible rfl | (rw [if_neg (by omega)])) HC6.out ?_; simp only [Act.put, List.setIfInBounds_toArray, List.set_cons_zero, List.set_cons_succ]
              refine WH.one 3 (by kernel_rfl) rfl (by rfl) ?_
              obtain ⟨F7, G7, hT7, -⟩ := id H6.out
              obtain ⟨Fm7, hm7⟩ := hT7.mem
              have HLA := Lib.hid (log_any bm Fm7 t.m _ hm7 HOK.out.sm)
              clear hT7 hm7
              go_wp2_with fail
              refine HLA.out.mono ?_
              rintro e w7 ⟨a7, c7, rfl, hr7, hb7⟩
              have H7 := Lib.hid (H6.out.step hb7)
              have HC7 : Hid (CellIs ⟨rm, 2, none⟩ (.slice ag lg cg) w7) := Lib.hid ((hb7.cell (World.block_lt_of_cell? _ _ HC6.out)).trans HC6.out)
              have HR7 := Lib.hid (RdFrom.below HR6.out hb7)
              have HQ7 := Lib.hid hr7.zero
              clear hb7 hr7
              rw [HLG.out]
              go_wp2_with fail
              refine ⟨HC7.out, ?_⟩
              refine WH.one 8 (by kernel_rfl) rfl (by rfl) ?_
              have HSM := Lib.hid (same_any a7 ag c7 cg t.m.Lg t.m.Lg w7 0 HQ7.out HR7.out (by have := HLN.out; have := HLG.out; omega) (by have := HLN.out; have := HLG.out; omega))
              rw [HLG.out] at HSM
              go_wp2_with fail
              refine HSM.out.mono ?_
              rintro e w8 ⟨rr, rfl, hrr, hb8⟩
              obtain rfl : rr = true := hrr.2 rfl
              have H8 := Lib.hid (H7.out.step hb8)
              have HC8 : Hid (CellIs ⟨rm, 2, none⟩ (.slice ag lg cg) w8) := Lib.hid ((hb8.cell (World.block_lt_of_cell? _ _ HC7.out)).trans HC7.out)
              clear hb8 hrr
              go_wp2_with fail
              refine ⟨HC8.out, ?_⟩
              refine WH.take 9 (some 214) rfl rfl (by kernel_rfl) (by kernel_rfl) (by kernel_rfl) (fun _ _ _ h => h) (by rfl) (fun v hv => by have k0 := hv; unfold CellIs at k0; go_simp; first | done | with_reducible rfl | (rw [if_neg (by omega)])) HC8.out ?_; simp only [Act.put, List.setIfInBounds_toArray, List.set_cons_zero, List.set_cons_succ]
              refine WH.take 10 (some 4) rfl rfl (by kernel_rfl) (by kernel_rfl) (by kernel_rfl) (fun _ _ _ h => h) (by rfl) (fun v hv => by have k0 := hv; unfold CellIs at k0; go_simp; first | done | with_reducible rfl | (rw [if_neg (by omega)])) HC8.out ?_; simp only [Act.put, List.setIfInBounds_toArray, List.set_cons_zero, List.set_cons_succ]
              refine WH.done (by kernel_rfl) ?_
              go_wp2_with fail
              go_ret
              exact ⟨rfl, H8.out.below⟩
theorem tablePlays_row (st : Int) (a : Option Addr) (len cap : Nat) (w : World) (_ : (Lit.int .i64 st).wf = true) (hz : RdDts w a len) :
    Calls Try.prog 4 #[.int .i64 st, .slice a len cap] w fun e w' => e = .returned (.bool true) ∧ Below w.heap.size w w' := tablePlays_walk st a len cap w hz
end Go.Proofs.Ytahgapkecabnjaa
