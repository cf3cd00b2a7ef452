/- The walk of TableApart. Printed by gen_tabj.py. -/
import Derived.Test.YtahgapkecabnjaaC10
namespace Go.Proofs.Ytahgapkecabnjaa
set_option linter.unusedSimpArgs false
set_option linter.unusedVariables false
open Go Go.RowKit Go.Maps Go.Shelf Go.Sort

set_option maxHeartbeats 16000000 in
set_option maxRecDepth 100000 in
theorem tableApart_walk (st : Int) (a : Option Addr) (len cap : Nat) (x : Dt) (w : World) (hst : 0 ≤ st ∧ st ≤ 255) (hz : RdDts w a len) (hx : DtOk x) :
    Calls Try.prog 3 #[.int .u8 st, .slice a len cap, .agg (dtC x).toArray] w fun e w' => e = .returned (.bool true) ∧ Below w.heap.size w w' := by
  obtain ⟨s, rfl⟩ : ∃ s : Nat, st = s := ⟨st.toNat, by omega⟩
  obtain ⟨n, hn, hn16, hnp⟩ := shift_pow s
  have HB1 : Hid (Below w.heap.size w (w.alloc (.cells (dtC x).toArray 30))) := Lib.hid ((Below.refl _ w).alloc (Nat.le_refl _) _)
  have x0 : (w.alloc (.cells (dtC x).toArray 30)).cell? ⟨w.heap.size, 0, none⟩ = some (.int .u8 x.kind) := by simp [dtC]
  have x1 : (w.alloc (.cells (dtC x).toArray 30)).cell? ⟨w.heap.size, 1, none⟩ = some (.int .i64 x.thread) := by simp [dtC]
  have x2 : (w.alloc (.cells (dtC x).toArray 30)).cell? ⟨w.heap.size, 2, none⟩ = some (.int .i64 x.at_) := by simp [dtC]
  have x3 : (w.alloc (.cells (dtC x).toArray 30)).cell? ⟨w.heap.size, 3, none⟩ = some (.int .u32 x.k.a0) := by simp [dtC]
  have x4 : (w.alloc (.cells (dtC x).toArray 30)).cell? ⟨w.heap.size, 4, none⟩ = some (.int .u32 x.k.a1) := by simp [dtC]
  have x5 : (w.alloc (.cells (dtC x).toArray 30)).cell? ⟨w.heap.size, 5, none⟩ = some (.int .u16 x.k.p0) := by simp [dtC]
  have x6 : (w.alloc (.cells (dtC x).toArray 30)).cell? ⟨w.heap.size, 6, none⟩ = some (.int .u16 x.k.p1) := by simp [dtC]
  have x7 : (w.alloc (.cells (dtC x).toArray 30)).cell? ⟨w.heap.size, 7, none⟩ = some (.int .u8 x.k.pr) := by simp [dtC]
  have x8 : (w.alloc (.cells (dtC x).toArray 30)).cell? ⟨w.heap.size, 8, none⟩ = some (.bool x.tu) := by simp [dtC]
  have hlen : len ≤ 9223372036854775807 := hz.1
  have HZ := Lib.hid hz
  have HX := Lib.hid hx
  have HN := Lib.hid hn
  clear hz hx
  go_enter Try.func3, Try.ntmps3
  go_wp2_with fail
  rw [shift_val hnp hn16]
  clear hnp hst
  generalize w.alloc (.cells (dtC x).toArray 30) = w1 at *
  refine (On.new 0 16 w1 w1 (Below.refl _ _) newM_lockL).mono ?_
  rintro e w2 ⟨bm, rfl, h⟩
  go_wp2_with fail
  refine (show Calls _ _ _ _ _ from TOn.new h hn).mono ?_
  rintro e w3 ⟨g, rfl, h3⟩
  have HT3 := Lib.hid h3
  clear h h3
  go_wp2_with fail
  go_loopw [10] (fun i wr => ∃ (y : Nat) (Lg : List Acc), y ≤ n ∧ i = .int .i64 (y : Nat) ∧ Lg.length = y ∧ TOn w1 g bm 0 0 ⟨⟨[], lockL y, Lg⟩, n, []⟩ wr) (fun i _ => n - (intOf i).toNat)
  case atStart => exact ⟨0, [], Nat.zero_le _, rfl, rfl, HT3.out⟩
  case round =>
    clear HT3
    obtain ⟨y, Lg, hy, rfl, hlg, hT⟩ := hrel
    have HT := Lib.hid hT
    clear hT
    by_cases hyn : y < n
    · have HLK := Lib.hid (fun (W : World) (hT : TOn w1 g bm 0 0 ⟨⟨[], lockL y, Lg⟩, n, []⟩ W) => hT.mem_post (fun Fm hm => lock_any bm Fm _ 1 (y : Nat) W hm ⟨(by decide : (0 : Nat) < 1073741824), by show (lockL y).length < _; rw [lockL_len]; decide, by show Lg.length < _; omega⟩) (show Value.bool (M.lockOk ⟨[], lockL y, Lg⟩ 1 (y : Nat)) = _ from rfl) (show (⟨M.lock ⟨[], lockL y, Lg⟩ 1 (y : Nat), n, []⟩ : Tb) = ⟨⟨[], lockL (y + 1), Lg ++ [⟨1, 1, 3 * (y : Int) + 1⟩]⟩, n, []⟩ from by rw [lock_step (by omega)]))
      generalize M.lockOk ⟨[], lockL y, Lg⟩ 1 (y : Nat) = lk at *
      go_wp2_with fail
      refine (HLK.out _ HT.out).mono ?_
      rintro e w4 ⟨rfl, h4, -⟩
      have H4 := Lib.hid h4
      clear h4
      go_wp2_with fail
      go_roundw
      case rel => exact ⟨y + 1, _, by omega, by push_cast; rfl, by simp [hlg], H4.out⟩
      case measure => simp [intOf]; omega
    · obtain rfl : y = n := by omega
      have HH0 : Hid (HeldT y 16 0 ⟨⟨[], lockL y, Lg⟩, y, []⟩) := Lib.hid ⟨rfl, List.Pairwise.nil, (fun k hk => nomatch hk), Nat.le_refl _, rfl, lockL_len y, (fun s hs => by show (lockL y).getD s 0 = 1; rw [lockL_get (by omega), if_pos hs]), by show Lg.length ≤ 16; omega⟩
      have HN := Lib.hid hn
      generalize (⟨⟨[], lockL y, Lg⟩, y, []⟩ : Tb) = t0 at *
      clear hlg
      go_wp2_with fail
      go_loopw [11] (fun i wr => ∃ (j : Nat) (t : Tb), j ≤ len ∧ j ≤ 40 ∧ i = .int .i64 (j : Nat) ∧ HeldT y (16 + j) j t ∧ TOn w1 g bm 0 0 t wr) (fun i _ => len - (intOf i).toNat)
      case atStart => exact ⟨0, _, Nat.zero_le _, Nat.zero_le _, rfl, HH0.out, HT.out⟩
      case round =>
        clear HH0 HT
        obtain ⟨j, t, hj, hj2, rfl, hF, hT⟩ := hrel
        have HT := Lib.hid hT
        by_cases hc : j < len ∧ j < 40
        · obtain ⟨hl1, hl2⟩ := hc
          obtain ⟨ad, d, rfl, hd, hok⟩ := HZ.out.2 j hl1
          have hd1 := hd.below HB1.out
          have z3 : w1.cell? ⟨(ad.add (j * 9)).block, (ad.add (j * 9)).off + 3, none⟩ = some (.int .u32 d.k.a0) := hd1 3 _ rfl
          have z4 : w1.cell? ⟨(ad.add (j * 9)).block, (ad.add (j * 9)).off + 4, none⟩ = some (.int .u32 d.k.a1) := hd1 4 _ rfl
          have z5 : w1.cell? ⟨(ad.add (j * 9)).block, (ad.add (j * 9)).off + 5, none⟩ = some (.int .u16 d.k.p0) := hd1 5 _ rfl
          have z6 : w1.cell? ⟨(ad.add (j * 9)).block, (ad.add (j * 9)).off + 6, none⟩ = some (.int .u16 d.k.p1) := hd1 6 _ rfl
          have z7 : w1.cell? ⟨(ad.add (j * 9)).block, (ad.add (j * 9)).off + 7, none⟩ = some (.int .u8 d.k.pr) := hd1 7 _ rfl
          have z8 : w1.cell? ⟨(ad.add (j * 9)).block, (ad.add (j * 9)).off + 8, none⟩ = some (.bool d.tu) := hd1 8 _ rfl
          obtain ⟨t2, e2, hF2, -, hm0⟩ := hF.put HN.out hn16 hok.k (j : Int) d.tu
          have HPU := Lib.hid (fun (W : World) (hT : TOn w1 g bm 0 0 t W) => hT.post (fun F hT => tbput_any hT (hF.ok HN.out (by omega) (by omega)) hok.k 1 (j : Int) d.tu) (congrArg (Value.int .i64) hm0) e2)
          have HFN := Lib.hid hF2
          have HL1 := Lib.hid hl1
          have HS0 : Hid (Since w1 wr.drew) := Lib.hid ((hT.below).trans (Below.mono (Below.drew (Below.refl wr.heap.size wr)) hT.below.size))
          have HTD := Lib.hid (hT.step (Below.drew (Below.refl wr.heap.size wr))).1
          clear hd hd1 hok hF hT e2 hm0 hF2
          go_wp2_with fail
          refine WH.enter (Since w1) (by kernel_rfl) 14 rfl ?_
          refine WH.take 0 (some 54) rfl rfl (by kernel_rfl) (by kernel_rfl) (by kernel_rfl) (fun _ _ _ h => h) (by rfl) (fun v hv => by have k3 := Since.cell hv z3; have k4 := Since.cell hv z4; have k5 := Since.cell hv z5; have k6 := Since.cell hv z6; have k7 := Since.cell hv z7; have k8 := Since.cell hv z8; go_simp; first | done | with_reducible rfl | (rw [if_neg (by omega)])) HS0.out ?_; simp only [Act.put, List.setIfInBounds_toArray, List.set_cons_zero, List.set_cons_succ]
          refine WH.take 1 (some 55) rfl rfl (by kernel_rfl) (by kernel_rfl) (by kernel_rfl) (fun _ _ _ h => h) (by rfl) (fun v hv => by have k3 := Since.cell hv z3; have k4 := Since.cell hv z4; have k5 := Since.cell hv z5; have k6 := Since.cell hv z6; have k7 := Since.cell hv z7; have k8 := Since.cell hv z8; go_simp; first | done | with_reducible rfl | (rw [if_neg (by omega)])) HS0.out ?_; simp only [Act.put, List.setIfInBounds_toArray, List.set_cons_zero, List.set_cons_succ]
          refine WH.take 2 (some 56) rfl rfl (by kernel_rfl) (by kernel_rfl) (by kernel_rfl) (fun _ _ _ h => h) (by rfl) (fun v hv => by have k3 := Since.cell hv z3; have k4 := Since.cell hv z4; have k5 := Since.cell hv z5; have k6 := Since.cell hv z6; have k7 := Since.cell hv z7; have k8 := Since.cell hv z8; go_simp; first | done | with_reducible rfl | (rw [if_neg (by omega)])) HS0.out ?_; simp only [Act.put, List.setIfInBounds_toArray, List.set_cons_zero, List.set_cons_succ]
          refine WH.take 3 (some 57) rfl rfl (by kernel_rfl) (by kernel_rfl) (by kernel_rfl) (fun _ _ _ h => h) (by rfl) (fun v hv => exec_dtAt (.tmp 55) (.tmp 56) rfl rfl rfl HL1.out) HS0.out ?_; simp only [Act.put, List.setIfInBounds_toArray, List.set_cons_zero, List.set_cons_succ]
          refine WH.take 4 (some 58) rfl rfl (by kernel_rfl) (by kernel_rfl) (by kernel_rfl) (fun _ _ _ h => h) (by rfl) (fun v hv => by have k3 := Since.cell hv z3; have k4 := Since.cell hv z4; have k5 := Since.cell hv z5; have k6 := Since.cell hv z6; have k7 := Since.cell hv z7; have k8 := Since.cell hv z8; go_simp; first | done | with_reducible rfl | (rw [if_neg (by omega)])) HS0.out ?_; simp only [Act.put, List.setIfInBounds_toArray, List.set_cons_zero, List.set_cons_succ]
          refine WH.take 5 (some 59) rfl rfl (by kernel_rfl) (by kernel_rfl) (by kernel_rfl) (fun _ _ _ h => h) (by rfl) (fun v hv => by have k3 := Since.cell hv z3; have k4 := Since.cell hv z4; have k5 := Since.cell hv z5; have k6 := Since.cell hv z6; have k7 := Since.cell hv z7; have k8 := Since.cell hv z8; go_simp; first | done | with_reducible rfl | (rw [if_neg (by omega)])) HS0.out ?_; simp only [Act.put, List.setIfInBounds_toArray, List.set_cons_zero, List.set_cons_succ]
          refine WH.take 6 (some 60) rfl rfl (by kernel_rfl) (by kernel_rfl) (by kernel_rfl) (fun _ _ _ h => h) (by rfl) (fun v hv => by have k3 := Since.cell hv z3; have k4 := Since.cell hv z4; have k5 := Since.cell hv z5; have k6 := Since.cell hv z6; have k7 := Since.cell hv z7; have k8 := Since.cell hv z8; go_simp; first | done | with_reducible rfl | (rw [if_neg (by omega)])) HS0.out ?_; simp only [Act.put, List.setIfInBounds_toArray, List.set_cons_zero, List.set_cons_succ]
          refine WH.take 7 (some 61) rfl rfl (by kernel_rfl) (by kernel_rfl) (by kernel_rfl) (fun _ _ _ h => h) (by rfl) (fun v hv => by have k3 := Since.cell hv z3; have k4 := Since.cell hv z4; have k5 := Since.cell hv z5; have k6 := Since.cell hv z6; have k7 := Since.cell hv z7; have k8 := Since.cell hv z8; go_simp; first | done | with_reducible rfl | (rw [if_neg (by omega)])) HS0.out ?_; simp only [Act.put, List.setIfInBounds_toArray, List.set_cons_zero, List.set_cons_succ]
          refine WH.take 8 (some 62) rfl rfl (by kernel_rfl) (by kernel_rfl) (by kernel_rfl) (fun _ _ _ h => h) (by rfl) (fun v hv => by have k3 := Since.cell hv z3; have k4 := Since.cell hv z4; have k5 := Since.cell hv z5; have k6 := Since.cell hv z6; have k7 := Since.cell hv z7; have k8 := Since.cell hv z8; go_simp; first | done | with_reducible rfl | (rw [if_neg (by omega)])) HS0.out ?_; simp only [Act.put, List.setIfInBounds_toArray, List.set_cons_zero, List.set_cons_succ]
          refine WH.take 9 (some 63) rfl rfl (by kernel_rfl) (by kernel_rfl) (by kernel_rfl) (fun _ _ _ h => h) (by rfl) (fun v hv => exec_dtAt (.tmp 61) (.tmp 62) rfl rfl rfl HL1.out) HS0.out ?_; simp only [Act.put, List.setIfInBounds_toArray, List.set_cons_zero, List.set_cons_succ]
          refine WH.take 10 (some 64) rfl rfl (by kernel_rfl) (by kernel_rfl) (by kernel_rfl) (fun _ _ _ h => h) (by rfl) (fun v hv => by have k3 := Since.cell hv z3; have k4 := Since.cell hv z4; have k5 := Since.cell hv z5; have k6 := Since.cell hv z6; have k7 := Since.cell hv z7; have k8 := Since.cell hv z8; go_simp; first | done | with_reducible rfl | (rw [if_neg (by omega)])) HS0.out ?_; simp only [Act.put, List.setIfInBounds_toArray, List.set_cons_zero, List.set_cons_succ]
          refine WH.take 11 (some 65) rfl rfl (by kernel_rfl) (by kernel_rfl) (by kernel_rfl) (fun _ _ _ h => h) (by rfl) (fun v hv => by have k3 := Since.cell hv z3; have k4 := Since.cell hv z4; have k5 := Since.cell hv z5; have k6 := Since.cell hv z6; have k7 := Since.cell hv z7; have k8 := Since.cell hv z8; go_simp; first | done | with_reducible rfl | (rw [if_neg (by omega)])) HS0.out ?_; simp only [Act.put, List.setIfInBounds_toArray, List.set_cons_zero, List.set_cons_succ]
          refine WH.one 12 (by kernel_rfl) rfl (by rfl) ?_
          go_wp2_with fail
          refine (HPU.out _ HTD.out).mono ?_
          rintro e w6 ⟨rfl, h6, -⟩
          have H6 := Lib.hid h6
          clear h6
          go_wp2_with fail
          refine ⟨H6.out.below, ?_⟩
          refine WH.take 13 (some 67) rfl rfl (by kernel_rfl) (by kernel_rfl) (by kernel_rfl) (fun _ _ _ h => h) (by rfl) (fun v hv => by have k3 := Since.cell hv z3; have k4 := Since.cell hv z4; have k5 := Since.cell hv z5; have k6 := Since.cell hv z6; have k7 := Since.cell hv z7; have k8 := Since.cell hv z8; go_simp; first | done | with_reducible rfl | (rw [if_neg (by omega)])) H6.out.below ?_; simp only [Act.put, List.setIfInBounds_toArray, List.set_cons_zero, List.set_cons_succ]
          refine WH.done (by kernel_rfl) ?_
          clear z3 z4 z5 z6 z7 z8 HS0
          go_wp2_with fail
          go_roundw
          case rel => exact ⟨j + 1, t2, by omega, by omega, by push_cast; rfl, by rw [show 16 + (j + 1) = 16 + j + 1 by omega]; exact HFN.out, H6.out⟩
          case measure => simp [intOf]; omega
        · have HHT := Lib.hid hF
          clear hF hT
          by_cases hcl : j < len
          · have hc40 : ¬ j < 40 := fun h => hc ⟨hcl, h⟩
            obtain ⟨t1, e1, hF1, f1, r1⟩ := HHT.out.find HN.out hn16 x.k
            obtain ⟨t2, e2, hF2, f2, m2⟩ := hF1.put HN.out hn16 HX.out.k 99 x.tu
            obtain ⟨t3, e3, hF3, f3, r3⟩ := hF2.find HN.out hn16 x.k
            rw [f1] at f2
            rw [f2] at f3
            have HE1 := Lib.hid e1
            have HE2 := Lib.hid e2
            have HE3 := Lib.hid e3
            have HF1 := Lib.hid hF1
            have HF2 := Lib.hid hF2
            have HF3 := Lib.hid hF3
            have HR1 := Lib.hid r1
            have HM2 := Lib.hid m2
            have HR3 : Hid (t2.findR 1 x.k = .tuple #[.int .i64 99, .bool x.tu, .bool true, .int .i64 0]) := Lib.hid (by rw [r3, f2, (has_put t.fl x.k (99, x.tu)).1, (has_put t.fl x.k (99, x.tu)).2])
            have HHM := Lib.hid (had_more t.fl HHT.out.rise x.k (99, x.tu))
            have HDP := Lib.hid (del_put t.fl HHT.out.rise x.k (99, x.tu))
            have HF2F := Lib.hid f2
            have HF3F := Lib.hid f3
            have hcw : (keysL t.fl).length = t.fl.length := by simp [keysL]
            have hcm : (keysL t3.fl).length = (putL t.fl x.k (99, x.tu)).length := by rw [f3]; simp [keysL]
            have HCW := Lib.hid hcw
            have HCM := Lib.hid hcm
            have hfew := HHT.out.few
            have hmore : (putL t.fl x.k (99, x.tu)).length ≤ 41 := Nat.le_trans (length_putL t.fl x.k (99, x.tu) HHT.out.rise) (by omega)
            clear e1 e2 e3 hF1 hF2 hF3 f1 f2 f3 r1 r3 m2 hcw hcm
            go_wp2_with fail
            refine (HT.out.all (HHT.out.ok HN.out (by omega) (by omega))).mono ?_
            rintro e w2 ⟨v2, rfl, hk2, h2, -, -, -⟩
            obtain ⟨a2, c2, rfl⟩ := hk2.shape
            have H2 := Lib.hid h2
            clear hk2 h2
            rw [HCW.out]
            generalize hwas : t.fl.length = was at *
            have HWAS := Lib.hid hwas
            clear hwas
            have y3 := H2.out.cell x3
            have y4 := H2.out.cell x4
            have y5 := H2.out.cell x5
            have y6 := H2.out.cell x6
            have y7 := H2.out.cell x7
            have y8 := H2.out.cell x8
            go_wp2_with fail
            refine (H2.out.post (fun F hT => tbfind_any hT (HHT.out.ok HN.out (by omega) (by omega)) HX.out.k 1) HR1.out HE1.out).mono ?_
            rintro e w4 ⟨rfl, h4, -⟩
            have H4 := Lib.hid h4
            clear h4 y3 y4 y5 y6 y7 y8
            generalize (entT t.fl x.k).1 = ew at *
            generalize (entT t.fl x.k).2 = et at *
            generalize hasL t.fl x.k = had at *
            have y3 := H4.out.cell x3
            have y4 := H4.out.cell x4
            have y5 := H4.out.cell x5
            have y6 := H4.out.cell x6
            have y7 := H4.out.cell x7
            have y8 := H4.out.cell x8
            go_wp2_with fail
            refine (H4.out.post (fun F hT => tbput_any hT (HF1.out.ok HN.out (by omega) (by omega)) HX.out.k 1 99 x.tu) (congrArg (Value.int .i64) HM2.out) HE2.out).mono ?_
            rintro e w5 ⟨rfl, h5, -⟩
            have H5 := Lib.hid h5
            clear h5 y3 y4 y5 y6 y7 y8
            have y3 := H5.out.cell x3
            have y4 := H5.out.cell x4
            have y5 := H5.out.cell x5
            have y6 := H5.out.cell x6
            have y7 := H5.out.cell x7
            have y8 := H5.out.cell x8
            go_wp2_with fail
            refine (H5.out.post (fun F hT => tbfind_any hT (HF2.out.ok HN.out (by omega) (by omega)) HX.out.k 1) HR3.out HE3.out).mono ?_
            rintro e w6 ⟨rfl, h6, -⟩
            have H6 := Lib.hid h6
            clear h6 y3 y4 y5 y6 y7 y8
            go_wp2_with fail
            refine (H6.out.all (HF3.out.ok HN.out (by omega) (by omega))).mono ?_
            rintro e w7 ⟨v7, rfl, hk7, h7, -, -, -⟩
            obtain ⟨a7, c7, rfl⟩ := hk7.shape
            have H7 := Lib.hid h7
            clear hk7 h7
            rw [HCM.out]
            generalize hmo : (putL t.fl x.k (99, x.tu)).length = more at *
            have HMO := Lib.hid hmo
            clear hmo
            go_wp2_with fail
            go_loopw [22, 23] (fun u i wv => ∃ (q : Nat) (t4 : Tb), q ≤ y ∧ i = .int .i64 (q : Nat) ∧ u = .int .i64 (sumS y (putL t.fl x.k (99, x.tu)) q : Nat) ∧ HeldT y (16 + j + 1 + 1 + 1 + q) (j + 1) t4 ∧ t4.fl = putL t.fl x.k (99, x.tu) ∧ TOn w1 g bm 0 0 t4 wv) (fun _ i _ => y - (intOf i).toNat)
            case atStart => exact ⟨0, t3, Nat.zero_le _, rfl, by rw [sumS_zero]; rfl, HF3.out, HF3F.out, H7.out⟩
            case round =>
              clear H7
              obtain ⟨q, t4, hq, rfl, rfl, hF4, hf4, hT4⟩ := hrel
              have HT4 := Lib.hid hT4
              have HF4 := Lib.hid hF4
              have HFF4 := Lib.hid hf4
              clear hF4 hf4 hT4
              have hsl : sumS y (putL t.fl x.k (99, x.tu)) q ≤ more := by rw [← HMO.out]; exact sumS_le _ _ _
              by_cases hqy : q < y
              · obtain ⟨t5, e5, hF5, f5, r5, m5⟩ := HF4.out.keys hn16 hqy
                rw [HFF4.out] at f5 r5
                have HE5 := Lib.hid e5
                have HF5 := Lib.hid hF5
                have HFF5 := Lib.hid f5
                have HR5 := Lib.hid r5
                have HM5 := Lib.hid m5
                have HIN : Hid (∀ kk ∈ keysL (inS y q (putL t.fl x.k (99, x.tu))), kk.In ∧ stripeF kk y = q) := Lib.hid (fun kk hk => ⟨hF5.kin kk (by rw [f5]; exact (keys_inS.1 hk).1), (keys_inS.1 hk).2⟩)
                have HST := Lib.hid (sumS_step y (putL t.fl x.k (99, x.tu)) q)
                have hkl : (keysL (inS y q (putL t.fl x.k (99, x.tu)))).length = (inS y q (putL t.fl x.k (99, x.tu))).length := by simp [keysL]
                have hil : (inS y q (putL t.fl x.k (99, x.tu))).length ≤ more := by rw [← HMO.out]; exact inS_le _ _ _
                have HKLN := Lib.hid hkl
                clear e5 hF5 f5 r5 m5 hkl
                go_wp2_with fail
                refine (HT4.out.keys (HF4.out.ok HN.out (by omega) (by omega)) 1 (q : Nat) HM5.out HR5.out HE5.out).mono ?_
                rintro e w8 ⟨v8, rfl, hk8, h8, -⟩
                obtain ⟨a8, c8, rfl⟩ := hk8.shape
                rw [HKLN.out] at hk8 ⊢
                have HK8 := Lib.hid hk8
                have H8 := Lib.hid h8
                clear hk8 h8
                generalize hln : (inS y q (putL t.fl x.k (99, x.tu))).length = ln at *
                have HLN := Lib.hid hln
                clear hln
                generalize sumS y (putL t.fl x.k (99, x.tu)) q = sm at *
                have hw : IntKind.i64.wrap ((sm : Int) + (ln : Int)) = (sm : Int) + ln := IntWalk.i64_in _ (by omega)
                go_wp2_with fail
                go_loopw [26] (fun i wv => ∃ z : Nat, z ≤ ln ∧ i = .int .i64 (z : Nat) ∧ Below w8.heap.size w8 wv) (fun i _ => ln - (intOf i).toNat)
                case atStart => exact ⟨0, Nat.zero_le _, rfl, Below.refl _ _⟩
                case round =>
                  obtain ⟨z, hz, rfl, hb⟩ := hrel
                  have HBZ := Lib.hid hb
                  by_cases hzl : z < ln
                  · obtain ⟨kk, hkk⟩ : ∃ kk, (keysL (inS y q (putL t.fl x.k (99, x.tu))))[z]? = some kk := ⟨_, List.getElem?_eq_getElem (by rw [HKLN.out]; exact hzl)⟩
                    obtain ⟨hki, hks⟩ := HIN.out kk (List.mem_of_getElem? hkk)
                    obtain ⟨g', rfl, -, d0, d1, d2, d3, d4⟩ := (HK8.out.below hb).cells5 rfl hkk
                    have hrs := fun W => refStripe_any hki HN.out W
                    rw [hks] at hrs
                    have HRS := Lib.hid hrs
                    have qq : ((q : Int) != (q : Int)) = false := by simp
                    clear hb hkk hki hks hrs
                    go_wp2_with fail
                    refine (HRS.out _).mono ?_
                    rintro e w9 ⟨rfl, hb9⟩
                    have HB9 : Hid (Below w8.heap.size w8 w9) := Lib.hid (HBZ.out.trans (hb9.mono HBZ.out.size))
                    clear hb9 d0 d1 d2 d3 d4
                    go_wp2_with fail
                    go_roundw
                    case rel => exact ⟨z + 1, by omega, by push_cast; rfl, HB9.out⟩
                    case measure => simp [intOf]; omega
                  · obtain rfl : z = ln := by omega
                    clear hb
                    go_wp2_with fail
                    go_roundw
                    case rel => exact ⟨q + 1, t5, by omega, by push_cast; rfl, by rw [HST.out]; push_cast; rfl, by rw [show 16 + j + 1 + 1 + 1 + (q + 1) = 16 + j + 1 + 1 + 1 + q + 1 by omega]; exact HF5.out, HFF5.out, (H8.out.step HBZ.out).1⟩
                    case measure => simp [intOf]; omega
              · obtain rfl : q = y := by omega
                obtain ⟨t5, e5, hF5, f5, r5⟩ := HF4.out.remove HN.out hn16 x.k
                obtain ⟨t6, e6, hF6, f6, r6⟩ := hF5.remove HN.out hn16 x.k
                rw [HFF4.out] at f5 r5
                rw [(has_put t.fl x.k (99, x.tu)).1, if_pos rfl] at r5
                rw [f5] at f6 r6
                rw [has_del, if_neg (by decide)] at r6
                have hfin : (keysL t6.fl).length + 1 = more := by rw [f6, del_none (by have := has_del (putL t.fl x.k (99, x.tu)) x.k; unfold hasL at this; simpa using this)]; simp only [keysL, List.length_map]; exact HDP.out
                have hsum : sumS q (putL t.fl x.k (99, x.tu)) q = more := by rw [sumS_all (by have := (pows_pos HN.out).1; omega), HMO.out]
                rw [hsum]
                have HE5 := Lib.hid e5
                have HF5 := Lib.hid hF5
                have HR5 := Lib.hid r5
                have HE6 := Lib.hid e6
                have HF6 := Lib.hid hF6
                have HR6 := Lib.hid r6
                have HFIN := Lib.hid hfin
                obtain ⟨hb, qh⟩ : ∃ hb, ((more : Int) == (was : Int)) = hb := ⟨_, rfl⟩
                obtain rfl : had = hb := by
                  rw [HHM.out, ← qh]
                  by_cases e : more = was
                  · simp [e]
                  · simp [e]; omega
                have qt : (x.tu != x.tu) = false := by simp
                have qm : ((more : Int) != (more : Int)) = false := by simp
                clear e5 hF5 f5 r5 e6 hF6 f6 r6 hfin hsum hsl
                go_wp2_with fail
                have HS0 : Hid (TOn w1 g bm 0 0 t4 wr.drew) := Lib.hid (HT4.out.step (Below.drew (Below.refl wr.heap.size wr))).1
                refine WH.enter (Since w1) (by kernel_rfl) 10 rfl ?_
                refine WH.take 0 (some 131) rfl rfl (by kernel_rfl) (by kernel_rfl) (by kernel_rfl) (fun _ _ _ h => h) (by rfl) (fun v hv => by have k0 := Since.cell hv x0; have k1 := Since.cell hv x1; have k2 := Since.cell hv x2; have k3 := Since.cell hv x3; have k4 := Since.cell hv x4; have k5 := Since.cell hv x5; have k6 := Since.cell hv x6; have k7 := Since.cell hv x7; have k8 := Since.cell hv x8; go_simp; first | done | with_reducible rfl | (rw [if_neg (by omega)])) HS0.out.below ?_; simp only [Act.put, List.setIfInBounds_toArray, List.set_cons_zero, List.set_cons_succ]
                refine WH.take 1 (some 132) rfl rfl (by kernel_rfl) (by kernel_rfl) (by kernel_rfl) (fun _ _ _ h => h) (by rfl) (fun v hv => by have k0 := Since.cell hv x0; have k1 := Since.cell hv x1; have k2 := Since.cell hv x2; have k3 := Since.cell hv x3; have k4 := Since.cell hv x4; have k5 := Since.cell hv x5; have k6 := Since.cell hv x6; have k7 := Since.cell hv x7; have k8 := Since.cell hv x8; go_simp; first | done | with_reducible rfl | (rw [if_neg (by omega)])) HS0.out.below ?_; simp only [Act.put, List.setIfInBounds_toArray, List.set_cons_zero, List.set_cons_succ]
                refine WH.take 2 (some 133) rfl rfl (by kernel_rfl) (by kernel_rfl) (by kernel_rfl) (fun _ _ _ h => h) (by rfl) (fun v hv => by have k0 := Since.cell hv x0; have k1 := Since.cell hv x1; have k2 := Since.cell hv x2; have k3 := Since.cell hv x3; have k4 := Since.cell hv x4; have k5 := Since.cell hv x5; have k6 := Since.cell hv x6; have k7 := Since.cell hv x7; have k8 := Since.cell hv x8; go_simp; first | done | with_reducible rfl | (rw [if_neg (by omega)])) HS0.out.below ?_; simp only [Act.put, List.setIfInBounds_toArray, List.set_cons_zero, List.set_cons_succ]
                refine WH.take 4 (some 135) rfl rfl (by kernel_rfl) (by kernel_rfl) (by kernel_rfl) (fun _ _ _ h => h) (by rfl) (fun v hv => by have k0 := Since.cell hv x0; have k1 := Since.cell hv x1; have k2 := Since.cell hv x2; have k3 := Since.cell hv x3; have k4 := Since.cell hv x4; have k5 := Since.cell hv x5; have k6 := Since.cell hv x6; have k7 := Since.cell hv x7; have k8 := Since.cell hv x8; go_simp; first | done | with_reducible rfl | (rw [if_neg (by omega)])) HS0.out.below ?_; simp only [Act.put, List.setIfInBounds_toArray, List.set_cons_zero, List.set_cons_succ]
                refine WH.take 5 (some 136) rfl rfl (by kernel_rfl) (by kernel_rfl) (by kernel_rfl) (fun _ _ _ h => h) (by rfl) (fun v hv => by have k0 := Since.cell hv x0; have k1 := Since.cell hv x1; have k2 := Since.cell hv x2; have k3 := Since.cell hv x3; have k4 := Since.cell hv x4; have k5 := Since.cell hv x5; have k6 := Since.cell hv x6; have k7 := Since.cell hv x7; have k8 := Since.cell hv x8; go_simp; first | done | with_reducible rfl | (rw [if_neg (by omega)])) HS0.out.below ?_; simp only [Act.put, List.setIfInBounds_toArray, List.set_cons_zero, List.set_cons_succ]
                refine WH.take 6 (some 137) rfl rfl (by kernel_rfl) (by kernel_rfl) (by kernel_rfl) (fun _ _ _ h => h) (by rfl) (fun v hv => by have k0 := Since.cell hv x0; have k1 := Since.cell hv x1; have k2 := Since.cell hv x2; have k3 := Since.cell hv x3; have k4 := Since.cell hv x4; have k5 := Since.cell hv x5; have k6 := Since.cell hv x6; have k7 := Since.cell hv x7; have k8 := Since.cell hv x8; go_simp; first | done | with_reducible rfl | (rw [if_neg (by omega)])) HS0.out.below ?_; simp only [Act.put, List.setIfInBounds_toArray, List.set_cons_zero, List.set_cons_succ]
                refine WH.one 3 (by kernel_rfl) rfl (by rfl) ?_
                go_wp2_with fail
                refine (HS0.out.post (fun F hT => tbremove_any hT (HF4.out.ok HN.out (by omega) (by omega)) HX.out.k 1) (congrArg (Value.int .i64) HR5.out) HE5.out).mono ?_
                rintro e wA ⟨rfl, hA, -⟩
                have HA := Lib.hid hA
                clear hA
                go_wp2_with fail
                refine ⟨HA.out.below, ?_⟩
                refine WH.one 7 (by kernel_rfl) rfl (by rfl) ?_
                go_wp2_with fail
                refine (HA.out.post (fun F hT => tbremove_any hT (HF5.out.ok HN.out (by omega) (by omega)) HX.out.k 1) (congrArg (Value.int .i64) HR6.out) HE6.out).mono ?_
                rintro e wB ⟨rfl, hB, -⟩
                have HBB := Lib.hid hB
                clear hB
                go_wp2_with fail
                refine ⟨HBB.out.below, ?_⟩
                refine WH.take 8 (some 27) rfl rfl (by kernel_rfl) (by kernel_rfl) (by kernel_rfl) (fun _ _ _ h => h) (by rfl) (fun v hv => by have k0 := Since.cell hv x0; have k1 := Since.cell hv x1; have k2 := Since.cell hv x2; have k3 := Since.cell hv x3; have k4 := Since.cell hv x4; have k5 := Since.cell hv x5; have k6 := Since.cell hv x6; have k7 := Since.cell hv x7; have k8 := Since.cell hv x8; go_simp; first | done | with_reducible rfl | (rw [if_neg (by omega)])) HBB.out.below ?_; simp only [Act.put, List.setIfInBounds_toArray, List.set_cons_zero, List.set_cons_succ]
                refine WH.take 9 (some 28) rfl rfl (by kernel_rfl) (by kernel_rfl) (by kernel_rfl) (fun _ _ _ h => h) (by rfl) (fun v hv => by have k0 := Since.cell hv x0; have k1 := Since.cell hv x1; have k2 := Since.cell hv x2; have k3 := Since.cell hv x3; have k4 := Since.cell hv x4; have k5 := Since.cell hv x5; have k6 := Since.cell hv x6; have k7 := Since.cell hv x7; have k8 := Since.cell hv x8; go_simp; first | done | with_reducible rfl | (rw [if_neg (by omega)])) HBB.out.below ?_; simp only [Act.put, List.setIfInBounds_toArray, List.set_cons_zero, List.set_cons_succ]
                refine WH.done (by kernel_rfl) ?_
                have y8 := HBB.out.cell x8
                go_wp2_with fail
                refine (awake20_any _).mono ?_
                rintro e wC ⟨rfl, hbC⟩
                have HC := Lib.hid (HBB.out.step hbC).1
                clear hbC y8
                go_wp2_with fail
                refine (HC.out.all (HF6.out.ok HN.out (by omega) (by omega))).mono ?_
                rintro e wD ⟨vD, rfl, hkD, hD, -, -, -⟩
                obtain ⟨aD, cD, rfl⟩ := hkD.shape
                have HD := Lib.hid hD
                clear hkD hD
                have qe : (((keysL t6.fl).length : Int) == (more : Int) - 1) = true := by have := HFIN.out; simp; omega
                go_wp2_with fail
                go_ret
                exact ⟨rfl, HB1.out.trans (Below.mono HD.out.below HB1.out.size)⟩
          · skip
            obtain ⟨t1, e1, hF1, f1, r1⟩ := HHT.out.find HN.out hn16 x.k
            obtain ⟨t2, e2, hF2, f2, m2⟩ := hF1.put HN.out hn16 HX.out.k 99 x.tu
            obtain ⟨t3, e3, hF3, f3, r3⟩ := hF2.find HN.out hn16 x.k
            rw [f1] at f2
            rw [f2] at f3
            have HE1 := Lib.hid e1
            have HE2 := Lib.hid e2
            have HE3 := Lib.hid e3
            have HF1 := Lib.hid hF1
            have HF2 := Lib.hid hF2
            have HF3 := Lib.hid hF3
            have HR1 := Lib.hid r1
            have HM2 := Lib.hid m2
            have HR3 : Hid (t2.findR 1 x.k = .tuple #[.int .i64 99, .bool x.tu, .bool true, .int .i64 0]) := Lib.hid (by rw [r3, f2, (has_put t.fl x.k (99, x.tu)).1, (has_put t.fl x.k (99, x.tu)).2])
            have HHM := Lib.hid (had_more t.fl HHT.out.rise x.k (99, x.tu))
            have HDP := Lib.hid (del_put t.fl HHT.out.rise x.k (99, x.tu))
            have HF2F := Lib.hid f2
            have HF3F := Lib.hid f3
            have hcw : (keysL t.fl).length = t.fl.length := by simp [keysL]
            have hcm : (keysL t3.fl).length = (putL t.fl x.k (99, x.tu)).length := by rw [f3]; simp [keysL]
            have HCW := Lib.hid hcw
            have HCM := Lib.hid hcm
            have hfew := HHT.out.few
            have hmore : (putL t.fl x.k (99, x.tu)).length ≤ 41 := Nat.le_trans (length_putL t.fl x.k (99, x.tu) HHT.out.rise) (by omega)
            clear e1 e2 e3 hF1 hF2 hF3 f1 f2 f3 r1 r3 m2 hcw hcm
            go_wp2_with fail
            refine (HT.out.all (HHT.out.ok HN.out (by omega) (by omega))).mono ?_
            rintro e w2 ⟨v2, rfl, hk2, h2, -, -, -⟩
            obtain ⟨a2, c2, rfl⟩ := hk2.shape
            have H2 := Lib.hid h2
            clear hk2 h2
            rw [HCW.out]
            generalize hwas : t.fl.length = was at *
            have HWAS := Lib.hid hwas
            clear hwas
            have y3 := H2.out.cell x3
            have y4 := H2.out.cell x4
            have y5 := H2.out.cell x5
            have y6 := H2.out.cell x6
            have y7 := H2.out.cell x7
            have y8 := H2.out.cell x8
            go_wp2_with fail
            refine (H2.out.post (fun F hT => tbfind_any hT (HHT.out.ok HN.out (by omega) (by omega)) HX.out.k 1) HR1.out HE1.out).mono ?_
            rintro e w4 ⟨rfl, h4, -⟩
            have H4 := Lib.hid h4
            clear h4 y3 y4 y5 y6 y7 y8
            generalize (entT t.fl x.k).1 = ew at *
            generalize (entT t.fl x.k).2 = et at *
            generalize hasL t.fl x.k = had at *
            have y3 := H4.out.cell x3
            have y4 := H4.out.cell x4
            have y5 := H4.out.cell x5
            have y6 := H4.out.cell x6
            have y7 := H4.out.cell x7
            have y8 := H4.out.cell x8
            go_wp2_with fail
            refine (H4.out.post (fun F hT => tbput_any hT (HF1.out.ok HN.out (by omega) (by omega)) HX.out.k 1 99 x.tu) (congrArg (Value.int .i64) HM2.out) HE2.out).mono ?_
            rintro e w5 ⟨rfl, h5, -⟩
            have H5 := Lib.hid h5
            clear h5 y3 y4 y5 y6 y7 y8
            have y3 := H5.out.cell x3
            have y4 := H5.out.cell x4
            have y5 := H5.out.cell x5
            have y6 := H5.out.cell x6
            have y7 := H5.out.cell x7
            have y8 := H5.out.cell x8
            go_wp2_with fail
            refine (H5.out.post (fun F hT => tbfind_any hT (HF2.out.ok HN.out (by omega) (by omega)) HX.out.k 1) HR3.out HE3.out).mono ?_
            rintro e w6 ⟨rfl, h6, -⟩
            have H6 := Lib.hid h6
            clear h6 y3 y4 y5 y6 y7 y8
            go_wp2_with fail
            refine (H6.out.all (HF3.out.ok HN.out (by omega) (by omega))).mono ?_
            rintro e w7 ⟨v7, rfl, hk7, h7, -, -, -⟩
            obtain ⟨a7, c7, rfl⟩ := hk7.shape
            have H7 := Lib.hid h7
            clear hk7 h7
            rw [HCM.out]
            generalize hmo : (putL t.fl x.k (99, x.tu)).length = more at *
            have HMO := Lib.hid hmo
            clear hmo
            go_wp2_with fail
            go_loopw [22, 23] (fun u i wv => ∃ (q : Nat) (t4 : Tb), q ≤ y ∧ i = .int .i64 (q : Nat) ∧ u = .int .i64 (sumS y (putL t.fl x.k (99, x.tu)) q : Nat) ∧ HeldT y (16 + j + 1 + 1 + 1 + q) (j + 1) t4 ∧ t4.fl = putL t.fl x.k (99, x.tu) ∧ TOn w1 g bm 0 0 t4 wv) (fun _ i _ => y - (intOf i).toNat)
            case atStart => exact ⟨0, t3, Nat.zero_le _, rfl, by rw [sumS_zero]; rfl, HF3.out, HF3F.out, H7.out⟩
            case round =>
              clear H7
              obtain ⟨q, t4, hq, rfl, rfl, hF4, hf4, hT4⟩ := hrel
              have HT4 := Lib.hid hT4
              have HF4 := Lib.hid hF4
              have HFF4 := Lib.hid hf4
              clear hF4 hf4 hT4
              have hsl : sumS y (putL t.fl x.k (99, x.tu)) q ≤ more := by rw [← HMO.out]; exact sumS_le _ _ _
              by_cases hqy : q < y
              · obtain ⟨t5, e5, hF5, f5, r5, m5⟩ := HF4.out.keys hn16 hqy
                rw [HFF4.out] at f5 r5
                have HE5 := Lib.hid e5
                have HF5 := Lib.hid hF5
                have HFF5 := Lib.hid f5
                have HR5 := Lib.hid r5
                have HM5 := Lib.hid m5
                have HIN : Hid (∀ kk ∈ keysL (inS y q (putL t.fl x.k (99, x.tu))), kk.In ∧ stripeF kk y = q) := Lib.hid (fun kk hk => ⟨hF5.kin kk (by rw [f5]; exact (keys_inS.1 hk).1), (keys_inS.1 hk).2⟩)
                have HST := Lib.hid (sumS_step y (putL t.fl x.k (99, x.tu)) q)
                have hkl : (keysL (inS y q (putL t.fl x.k (99, x.tu)))).length = (inS y q (putL t.fl x.k (99, x.tu))).length := by simp [keysL]
                have hil : (inS y q (putL t.fl x.k (99, x.tu))).length ≤ more := by rw [← HMO.out]; exact inS_le _ _ _
                have HKLN := Lib.hid hkl
                clear e5 hF5 f5 r5 m5 hkl
                go_wp2_with fail
                refine (HT4.out.keys (HF4.out.ok HN.out (by omega) (by omega)) 1 (q : Nat) HM5.out HR5.out HE5.out).mono ?_
                rintro e w8 ⟨v8, rfl, hk8, h8, -⟩
                obtain ⟨a8, c8, rfl⟩ := hk8.shape
                rw [HKLN.out] at hk8 ⊢
                have HK8 := Lib.hid hk8
                have H8 := Lib.hid h8
                clear hk8 h8
                generalize hln : (inS y q (putL t.fl x.k (99, x.tu))).length = ln at *
                have HLN := Lib.hid hln
                clear hln
                generalize sumS y (putL t.fl x.k (99, x.tu)) q = sm at *
                have hw : IntKind.i64.wrap ((sm : Int) + (ln : Int)) = (sm : Int) + ln := IntWalk.i64_in _ (by omega)
                go_wp2_with fail
                go_loopw [26] (fun i wv => ∃ z : Nat, z ≤ ln ∧ i = .int .i64 (z : Nat) ∧ Below w8.heap.size w8 wv) (fun i _ => ln - (intOf i).toNat)
                case atStart => exact ⟨0, Nat.zero_le _, rfl, Below.refl _ _⟩
                case round =>
                  obtain ⟨z, hz, rfl, hb⟩ := hrel
                  have HBZ := Lib.hid hb
                  by_cases hzl : z < ln
                  · obtain ⟨kk, hkk⟩ : ∃ kk, (keysL (inS y q (putL t.fl x.k (99, x.tu))))[z]? = some kk := ⟨_, List.getElem?_eq_getElem (by rw [HKLN.out]; exact hzl)⟩
                    obtain ⟨hki, hks⟩ := HIN.out kk (List.mem_of_getElem? hkk)
                    obtain ⟨g', rfl, -, d0, d1, d2, d3, d4⟩ := (HK8.out.below hb).cells5 rfl hkk
                    have hrs := fun W => refStripe_any hki HN.out W
                    rw [hks] at hrs
                    have HRS := Lib.hid hrs
                    have qq : ((q : Int) != (q : Int)) = false := by simp
                    clear hb hkk hki hks hrs
                    go_wp2_with fail
                    refine (HRS.out _).mono ?_
                    rintro e w9 ⟨rfl, hb9⟩
                    have HB9 : Hid (Below w8.heap.size w8 w9) := Lib.hid (HBZ.out.trans (hb9.mono HBZ.out.size))
                    clear hb9 d0 d1 d2 d3 d4
                    go_wp2_with fail
                    go_roundw
                    case rel => exact ⟨z + 1, by omega, by push_cast; rfl, HB9.out⟩
                    case measure => simp [intOf]; omega
                  · obtain rfl : z = ln := by omega
                    clear hb
                    go_wp2_with fail
                    go_roundw
                    case rel => exact ⟨q + 1, t5, by omega, by push_cast; rfl, by rw [HST.out]; push_cast; rfl, by rw [show 16 + j + 1 + 1 + 1 + (q + 1) = 16 + j + 1 + 1 + 1 + q + 1 by omega]; exact HF5.out, HFF5.out, (H8.out.step HBZ.out).1⟩
                    case measure => simp [intOf]; omega
              · obtain rfl : q = y := by omega
                obtain ⟨t5, e5, hF5, f5, r5⟩ := HF4.out.remove HN.out hn16 x.k
                obtain ⟨t6, e6, hF6, f6, r6⟩ := hF5.remove HN.out hn16 x.k
                rw [HFF4.out] at f5 r5
                rw [(has_put t.fl x.k (99, x.tu)).1, if_pos rfl] at r5
                rw [f5] at f6 r6
                rw [has_del, if_neg (by decide)] at r6
                have hfin : (keysL t6.fl).length + 1 = more := by rw [f6, del_none (by have := has_del (putL t.fl x.k (99, x.tu)) x.k; unfold hasL at this; simpa using this)]; simp only [keysL, List.length_map]; exact HDP.out
                have hsum : sumS q (putL t.fl x.k (99, x.tu)) q = more := by rw [sumS_all (by have := (pows_pos HN.out).1; omega), HMO.out]
                rw [hsum]
                have HE5 := Lib.hid e5
                have HF5 := Lib.hid hF5
                have HR5 := Lib.hid r5
                have HE6 := Lib.hid e6
                have HF6 := Lib.hid hF6
                have HR6 := Lib.hid r6
                have HFIN := Lib.hid hfin
                obtain ⟨hb, qh⟩ : ∃ hb, ((more : Int) == (was : Int)) = hb := ⟨_, rfl⟩
                obtain rfl : had = hb := by
                  rw [HHM.out, ← qh]
                  by_cases e : more = was
                  · simp [e]
                  · simp [e]; omega
                have qt : (x.tu != x.tu) = false := by simp
                have qm : ((more : Int) != (more : Int)) = false := by simp
                clear e5 hF5 f5 r5 e6 hF6 f6 r6 hfin hsum hsl
                go_wp2_with fail
                have HS0 : Hid (TOn w1 g bm 0 0 t4 wr.drew) := Lib.hid (HT4.out.step (Below.drew (Below.refl wr.heap.size wr))).1
                refine WH.enter (Since w1) (by kernel_rfl) 10 rfl ?_
                refine WH.take 0 (some 131) rfl rfl (by kernel_rfl) (by kernel_rfl) (by kernel_rfl) (fun _ _ _ h => h) (by rfl) (fun v hv => by have k0 := Since.cell hv x0; have k1 := Since.cell hv x1; have k2 := Since.cell hv x2; have k3 := Since.cell hv x3; have k4 := Since.cell hv x4; have k5 := Since.cell hv x5; have k6 := Since.cell hv x6; have k7 := Since.cell hv x7; have k8 := Since.cell hv x8; go_simp; first | done | with_reducible rfl | (rw [if_neg (by omega)])) HS0.out.below ?_; simp only [Act.put, List.setIfInBounds_toArray, List.set_cons_zero, List.set_cons_succ]
                refine WH.take 1 (some 132) rfl rfl (by kernel_rfl) (by kernel_rfl) (by kernel_rfl) (fun _ _ _ h => h) (by rfl) (fun v hv => by have k0 := Since.cell hv x0; have k1 := Since.cell hv x1; have k2 := Since.cell hv x2; have k3 := Since.cell hv x3; have k4 := Since.cell hv x4; have k5 := Since.cell hv x5; have k6 := Since.cell hv x6; have k7 := Since.cell hv x7; have k8 := Since.cell hv x8; go_simp; first | done | with_reducible rfl | (rw [if_neg (by omega)])) HS0.out.below ?_; simp only [Act.put, List.setIfInBounds_toArray, List.set_cons_zero, List.set_cons_succ]
                refine WH.take 2 (some 133) rfl rfl (by kernel_rfl) (by kernel_rfl) (by kernel_rfl) (fun _ _ _ h => h) (by rfl) (fun v hv => by have k0 := Since.cell hv x0; have k1 := Since.cell hv x1; have k2 := Since.cell hv x2; have k3 := Since.cell hv x3; have k4 := Since.cell hv x4; have k5 := Since.cell hv x5; have k6 := Since.cell hv x6; have k7 := Since.cell hv x7; have k8 := Since.cell hv x8; go_simp; first | done | with_reducible rfl | (rw [if_neg (by omega)])) HS0.out.below ?_; simp only [Act.put, List.setIfInBounds_toArray, List.set_cons_zero, List.set_cons_succ]
                refine WH.take 4 (some 135) rfl rfl (by kernel_rfl) (by kernel_rfl) (by kernel_rfl) (fun _ _ _ h => h) (by rfl) (fun v hv => by have k0 := Since.cell hv x0; have k1 := Since.cell hv x1; have k2 := Since.cell hv x2; have k3 := Since.cell hv x3; have k4 := Since.cell hv x4; have k5 := Since.cell hv x5; have k6 := Since.cell hv x6; have k7 := Since.cell hv x7; have k8 := Since.cell hv x8; go_simp; first | done | with_reducible rfl | (rw [if_neg (by omega)])) HS0.out.below ?_; simp only [Act.put, List.setIfInBounds_toArray, List.set_cons_zero, List.set_cons_succ]
                refine WH.take 5 (some 136) rfl rfl (by kernel_rfl) (by kernel_rfl) (by kernel_rfl) (fun _ _ _ h => h) (by rfl) (fun v hv => by have k0 := Since.cell hv x0; have k1 := Since.cell hv x1; have k2 := Since.cell hv x2; have k3 := Since.cell hv x3; have k4 := Since.cell hv x4; have k5 := Since.cell hv x5; have k6 := Since.cell hv x6; have k7 := Since.cell hv x7; have k8 := Since.cell hv x8; go_simp; first | done | with_reducible rfl | (rw [if_neg (by omega)])) HS0.out.below ?_; simp only [Act.put, List.setIfInBounds_toArray, List.set_cons_zero, List.set_cons_succ]
                refine WH.take 6 (some 137) rfl rfl (by kernel_rfl) (by kernel_rfl) (by kernel_rfl) (fun _ _ _ h => h) (by rfl) (fun v hv => by have k0 := Since.cell hv x0; have k1 := Since.cell hv x1; have k2 := Since.cell hv x2; have k3 := Since.cell hv x3; have k4 := Since.cell hv x4; have k5 := Since.cell hv x5; have k6 := Since.cell hv x6; have k7 := Since.cell hv x7; have k8 := Since.cell hv x8; go_simp; first | done | with_reducible rfl | (rw [if_neg (by omega)])) HS0.out.below ?_; simp only [Act.put, List.setIfInBounds_toArray, List.set_cons_zero, List.set_cons_succ]
                refine WH.one 3 (by kernel_rfl) rfl (by rfl) ?_
                go_wp2_with fail
                refine (HS0.out.post (fun F hT => tbremove_any hT (HF4.out.ok HN.out (by omega) (by omega)) HX.out.k 1) (congrArg (Value.int .i64) HR5.out) HE5.out).mono ?_
                rintro e wA ⟨rfl, hA, -⟩
                have HA := Lib.hid hA
                clear hA
                go_wp2_with fail
                refine ⟨HA.out.below, ?_⟩
                refine WH.one 7 (by kernel_rfl) rfl (by rfl) ?_
                go_wp2_with fail
                refine (HA.out.post (fun F hT => tbremove_any hT (HF5.out.ok HN.out (by omega) (by omega)) HX.out.k 1) (congrArg (Value.int .i64) HR6.out) HE6.out).mono ?_
                rintro e wB ⟨rfl, hB, -⟩
                have HBB := Lib.hid hB
                clear hB
                go_wp2_with fail
                refine ⟨HBB.out.below, ?_⟩
                refine WH.take 8 (some 27) rfl rfl (by kernel_rfl) (by kernel_rfl) (by kernel_rfl) (fun _ _ _ h => h) (by rfl) (fun v hv => by have k0 := Since.cell hv x0; have k1 := Since.cell hv x1; have k2 := Since.cell hv x2; have k3 := Since.cell hv x3; have k4 := Since.cell hv x4; have k5 := Since.cell hv x5; have k6 := Since.cell hv x6; have k7 := Since.cell hv x7; have k8 := Since.cell hv x8; go_simp; first | done | with_reducible rfl | (rw [if_neg (by omega)])) HBB.out.below ?_; simp only [Act.put, List.setIfInBounds_toArray, List.set_cons_zero, List.set_cons_succ]
                refine WH.take 9 (some 28) rfl rfl (by kernel_rfl) (by kernel_rfl) (by kernel_rfl) (fun _ _ _ h => h) (by rfl) (fun v hv => by have k0 := Since.cell hv x0; have k1 := Since.cell hv x1; have k2 := Since.cell hv x2; have k3 := Since.cell hv x3; have k4 := Since.cell hv x4; have k5 := Since.cell hv x5; have k6 := Since.cell hv x6; have k7 := Since.cell hv x7; have k8 := Since.cell hv x8; go_simp; first | done | with_reducible rfl | (rw [if_neg (by omega)])) HBB.out.below ?_; simp only [Act.put, List.setIfInBounds_toArray, List.set_cons_zero, List.set_cons_succ]
                refine WH.done (by kernel_rfl) ?_
                have y8 := HBB.out.cell x8
                go_wp2_with fail
                refine (awake20_any _).mono ?_
                rintro e wC ⟨rfl, hbC⟩
                have HC := Lib.hid (HBB.out.step hbC).1
                clear hbC y8
                go_wp2_with fail
                refine (HC.out.all (HF6.out.ok HN.out (by omega) (by omega))).mono ?_
                rintro e wD ⟨vD, rfl, hkD, hD, -, -, -⟩
                obtain ⟨aD, cD, rfl⟩ := hkD.shape
                have HD := Lib.hid hD
                clear hkD hD
                have qe : (((keysL t6.fl).length : Int) == (more : Int) - 1) = true := by have := HFIN.out; simp; omega
                go_wp2_with fail
                go_ret
                exact ⟨rfl, HB1.out.trans (Below.mono HD.out.below HB1.out.size)⟩
theorem tableApart_row (st : Int) (a : Option Addr) (len cap : Nat) (x : Dt) (w : World) (hst : (Lit.int .u8 st).wf = true) (hz : RdDts w a len) (hx : DtOk x) :
    Calls Try.prog 3 #[.int .u8 st, .slice a len cap, .agg (dtC x).toArray] w fun e w' => e = .returned (.bool true) ∧ Below w.heap.size w w' := by
  obtain ⟨n, rfl, hn⟩ := wfn_u8 hst
  exact tableApart_walk n a len cap x w (by omega) hz hx
end Go.Proofs.Ytahgapkecabnjaa
