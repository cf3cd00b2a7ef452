/- The walk of TableHeld. Printed by gen_tabi.py. -/
import Derived.Test.YtahgapkecabnjaaC09
import Derived.Test.YtahgapkecabnjaaC13
namespace Go.Proofs.Ytahgapkecabnjaa
set_option linter.unusedSimpArgs false
set_option linter.unusedVariables false
open Go Go.RowKit Go.Maps Go.Shelf Go.Sort

theorem TOn.cell {w0 w : World} {g bm B E : Nat} {t : Tb} (h : TOn w0 g bm B E t w) {a : Addr} {v : Value} (hc : w0.cell? a = some v) : w.cell? a = some v := (h.below.cell (World.block_lt_of_cell? w0 _ hc)).trans hc
set_option maxHeartbeats 8000000 in
set_option maxRecDepth 100000 in
theorem tableHeld_walk (st : Int) (a : Option Addr) (len cap : Nat) (x : Dt) (w : World) (hst : 0 ≤ st ∧ st ≤ 255) (hz : RdDts w a len) (hx : DtOk x) :
    Calls Try.prog 5 #[.int .u8 st, .slice a len cap, .agg (dtC x).toArray] w fun e w' => e = .returned (.bool true) ∧ Below w.heap.size w w' := by
  obtain ⟨s, rfl⟩ : ∃ s : Nat, st = s := ⟨st.toNat, by omega⟩
  obtain ⟨n, hn, hn16, hnp⟩ := shift_pow s
  have HB1 : Hid (Below w.heap.size w (w.alloc (.cells (dtC x).toArray 30))) := Lib.hid ((Below.refl _ w).alloc (Nat.le_refl _) _)
  have x0 : (w.alloc (.cells (dtC x).toArray 30)).cell? ⟨w.heap.size, 0, none⟩ = some (.int .u8 x.kind) := by simp [dtC]
  have x1 : (w.alloc (.cells (dtC x).toArray 30)).cell? ⟨w.heap.size, 1, none⟩ = some (.int .i64 x.thread) := by simp [dtC]
  have x2 : (w.alloc (.cells (dtC x).toArray 30)).cell? ⟨w.heap.size, 2, none⟩ = some (.int .i64 x.at_) := by simp [dtC]
  have x3 : (w.alloc (.cells (dtC x).toArray 30)).cell? ⟨w.heap.size, 3, none⟩ = some (.int .u32 x.k.a0) := by simp [dtC]
  have x4 : (w.alloc (.cells (dtC x).toArray 30)).cell? ⟨w.heap.size, 4, none⟩ = some (.int .u32 x.k.a1) := by simp [dtC]
  have x5 : (w.alloc (.cells (dtC x).toArray 30)).cell? ⟨w.heap.size, 5, none⟩ = some (.int .u16 x.k.p0) := by simp [dtC]
  have x6 : (w.alloc (.cells (dtC x).toArray 30)).cell? ⟨w.heap.size, 6, none⟩ = some (.int .u16 x.k.p1) := by simp [dtC]
  have x7 : (w.alloc (.cells (dtC x).toArray 30)).cell? ⟨w.heap.size, 7, none⟩ = some (.int .u8 x.k.pr) := by simp [dtC]
  have x8 : (w.alloc (.cells (dtC x).toArray 30)).cell? ⟨w.heap.size, 8, none⟩ = some (.bool x.tu) := by simp [dtC]
  have hlen : len ≤ 9223372036854775807 := hz.1
  have HZ := Lib.hid hz
  have HX := Lib.hid hx
  have HN := Lib.hid hn
  clear hz hx
  go_enter Try.func5, Try.ntmps5
  go_wp2_with fail
  rw [shift_val hnp hn16]
  have x10 : w.heap.size < (w.alloc (.cells (dtC x).toArray 30)).heap.size := by simp
  clear hnp hst
  generalize w.alloc (.cells (dtC x).toArray 30) = w1 at *
  refine (On.new 0 16 w1 w1 (Below.refl _ _) (m := newM 0 16) rfl).mono ?_
  rintro e w2 ⟨bm, rfl, h⟩
  go_wp2_with fail
  refine (show Calls _ _ _ _ _ from TOn.new h hn).mono ?_
  rintro e w3 ⟨g, rfl, h3⟩
  have HT3 := Lib.hid h3
  have HF3 := Lib.hid (Free.new hn)
  generalize newM 0 16 = m0 at *
  clear h h3 x10
  go_wp2_with fail
  go_loopw [10] (fun i wr => ∃ (j : Nat) (t : Tb), j ≤ len ∧ j ≤ 40 ∧ i = .int .i64 (j : Nat) ∧ Free n j t ∧ TOn w1 g bm 0 0 t wr) (fun i _ => len - (intOf i).toNat)
  case atStart => exact ⟨0, _, Nat.zero_le _, Nat.zero_le _, rfl, HF3.out, HT3.out⟩
  case round =>
    clear HF3 HT3
    obtain ⟨j, t, hj, hj2, rfl, hF, hT⟩ := hrel
    have HF := Lib.hid hF
    have HT := Lib.hid hT
    by_cases hc : j < len ∧ j < 40
    · obtain ⟨hl1, hl2⟩ := hc
      obtain ⟨ad, d, rfl, hd, hok⟩ := HZ.out.2 j hl1
      have hd1 := hd.below HB1.out
      have z3 : w1.cell? ⟨(ad.add (j * 9)).block, (ad.add (j * 9)).off + 3, none⟩ = some (.int .u32 d.k.a0) := hd1 3 _ rfl
      have z4 : w1.cell? ⟨(ad.add (j * 9)).block, (ad.add (j * 9)).off + 4, none⟩ = some (.int .u32 d.k.a1) := hd1 4 _ rfl
      have z5 : w1.cell? ⟨(ad.add (j * 9)).block, (ad.add (j * 9)).off + 5, none⟩ = some (.int .u16 d.k.p0) := hd1 5 _ rfl
      have z6 : w1.cell? ⟨(ad.add (j * 9)).block, (ad.add (j * 9)).off + 6, none⟩ = some (.int .u16 d.k.p1) := hd1 6 _ rfl
      have z7 : w1.cell? ⟨(ad.add (j * 9)).block, (ad.add (j * 9)).off + 7, none⟩ = some (.int .u8 d.k.pr) := hd1 7 _ rfl
      have z8 : w1.cell? ⟨(ad.add (j * 9)).block, (ad.add (j * 9)).off + 8, none⟩ = some (.bool d.tu) := hd1 8 _ rfl
      have c3 := hT.cell z3
      have c4 := hT.cell z4
      have c5 := hT.cell z5
      have c6 := hT.cell z6
      have c7 := hT.cell z7
      have c8 := hT.cell z8
      obtain ⟨t1, t2, t3, e1, e2, e3, hm0, ok1, ok2, hF3⟩ := hF.round hn hn16 d.k hok.k (j : Int) d.tu
      have ok1 := ok1 (by omega)
      have ok2 := ok2 (by omega)
      have hof : t.of d.k = stripeF d.k n := by unfold Tb.of; rw [hF.n]
      rw [hof] at e1 e3
      have HST := Lib.hid (fun W => refStripe_any hok.k hn W)
      have HLK := Lib.hid (fun (W : World) (hT : TOn w1 g bm 0 0 t W) => hT.mem_post (fun Fm hm => lock_any bm Fm t.m 1 (stripeF d.k n : Nat) W hm (hF.ok hn (by omega)).sm) (show Value.bool (t.m.lockOk 1 (stripeF d.k n : Nat)) = _ from rfl) e1)
      have HPU := Lib.hid (fun (W : World) (hT : TOn w1 g bm 0 0 t1 W) => hT.post (fun F hT => tbput_any hT ok1 hok.k 1 (j : Int) d.tu) (congrArg (Value.int .i64) hm0) e2)
      have HUL := Lib.hid (fun (W : World) (hT : TOn w1 g bm 0 0 t2 W) => hT.mem_post (fun Fm hm => unlock_any bm Fm t2.m 1 (stripeF d.k n : Nat) W hm ok2.sm) (show Value.int .i64 (t2.m.unlockE 1 (stripeF d.k n : Nat)) = _ from rfl) e3)
      have HFN := Lib.hid hF3
      have HL1 := Lib.hid hl1
      clear hd hd1 hok hF hT e1 e2 e3 hm0 ok1 ok2 hF3 hof
      generalize stripeF d.k n = sf at *
      generalize t.m.lockOk 1 (sf : Nat) = lk at *
      generalize t2.m.unlockE 1 (sf : Nat) = ul at *
      go_wp2_with fail
      refine (HST.out _).mono ?_
      rintro e w4 ⟨rfl, hb4⟩
      have H4 := Lib.hid (HT.out.step hb4).1
      clear hb4 c3 c4 c5 c6 c7 c8
      go_wp2_with fail
      refine (HLK.out _ H4.out).mono ?_
      rintro e w5 ⟨rfl, h5, -⟩
      have H5 := Lib.hid h5
      clear h5
      go_wp2_with fail
      have HS0 : Hid (TOn w1 g bm 0 0 t1 w5.drew) := Lib.hid (H5.out.step (Below.drew (Below.refl w5.heap.size w5))).1
      refine WH.enter (Since w1) (by kernel_rfl) 13 rfl ?_
      refine WH.take 0 (some 49) rfl rfl (by kernel_rfl) (by kernel_rfl) (by kernel_rfl) (fun _ _ _ h => h) (by rfl) (fun v hv => by have k3 := Since.cell hv z3; have k4 := Since.cell hv z4; have k5 := Since.cell hv z5; have k6 := Since.cell hv z6; have k7 := Since.cell hv z7; have k8 := Since.cell hv z8; go_simp; first | done | with_reducible rfl | (rw [if_neg (by omega)])) HS0.out.below ?_; simp only [Act.put, List.setIfInBounds_toArray, List.set_cons_zero, List.set_cons_succ]
      refine WH.take 1 (some 50) rfl rfl (by kernel_rfl) (by kernel_rfl) (by kernel_rfl) (fun _ _ _ h => h) (by rfl) (fun v hv => by have k3 := Since.cell hv z3; have k4 := Since.cell hv z4; have k5 := Since.cell hv z5; have k6 := Since.cell hv z6; have k7 := Since.cell hv z7; have k8 := Since.cell hv z8; go_simp; first | done | with_reducible rfl | (rw [if_neg (by omega)])) HS0.out.below ?_; simp only [Act.put, List.setIfInBounds_toArray, List.set_cons_zero, List.set_cons_succ]
      refine WH.take 2 (some 51) rfl rfl (by kernel_rfl) (by kernel_rfl) (by kernel_rfl) (fun _ _ _ h => h) (by rfl) (fun v hv => by have k3 := Since.cell hv z3; have k4 := Since.cell hv z4; have k5 := Since.cell hv z5; have k6 := Since.cell hv z6; have k7 := Since.cell hv z7; have k8 := Since.cell hv z8; go_simp; first | done | with_reducible rfl | (rw [if_neg (by omega)])) HS0.out.below ?_; simp only [Act.put, List.setIfInBounds_toArray, List.set_cons_zero, List.set_cons_succ]
      refine WH.take 3 (some 52) rfl rfl (by kernel_rfl) (by kernel_rfl) (by kernel_rfl) (fun _ _ _ h => h) (by rfl) (fun v hv => exec_dtAt (.tmp 50) (.tmp 51) rfl rfl rfl HL1.out) HS0.out.below ?_; simp only [Act.put, List.setIfInBounds_toArray, List.set_cons_zero, List.set_cons_succ]
      refine WH.take 4 (some 53) rfl rfl (by kernel_rfl) (by kernel_rfl) (by kernel_rfl) (fun _ _ _ h => h) (by rfl) (fun v hv => by have k3 := Since.cell hv z3; have k4 := Since.cell hv z4; have k5 := Since.cell hv z5; have k6 := Since.cell hv z6; have k7 := Since.cell hv z7; have k8 := Since.cell hv z8; go_simp; first | done | with_reducible rfl | (rw [if_neg (by omega)])) HS0.out.below ?_; simp only [Act.put, List.setIfInBounds_toArray, List.set_cons_zero, List.set_cons_succ]
      refine WH.take 5 (some 54) rfl rfl (by kernel_rfl) (by kernel_rfl) (by kernel_rfl) (fun _ _ _ h => h) (by rfl) (fun v hv => by have k3 := Since.cell hv z3; have k4 := Since.cell hv z4; have k5 := Since.cell hv z5; have k6 := Since.cell hv z6; have k7 := Since.cell hv z7; have k8 := Since.cell hv z8; go_simp; first | done | with_reducible rfl | (rw [if_neg (by omega)])) HS0.out.below ?_; simp only [Act.put, List.setIfInBounds_toArray, List.set_cons_zero, List.set_cons_succ]
      refine WH.take 6 (some 55) rfl rfl (by kernel_rfl) (by kernel_rfl) (by kernel_rfl) (fun _ _ _ h => h) (by rfl) (fun v hv => by have k3 := Since.cell hv z3; have k4 := Since.cell hv z4; have k5 := Since.cell hv z5; have k6 := Since.cell hv z6; have k7 := Since.cell hv z7; have k8 := Since.cell hv z8; go_simp; first | done | with_reducible rfl | (rw [if_neg (by omega)])) HS0.out.below ?_; simp only [Act.put, List.setIfInBounds_toArray, List.set_cons_zero, List.set_cons_succ]
      refine WH.take 7 (some 56) rfl rfl (by kernel_rfl) (by kernel_rfl) (by kernel_rfl) (fun _ _ _ h => h) (by rfl) (fun v hv => by have k3 := Since.cell hv z3; have k4 := Since.cell hv z4; have k5 := Since.cell hv z5; have k6 := Since.cell hv z6; have k7 := Since.cell hv z7; have k8 := Since.cell hv z8; go_simp; first | done | with_reducible rfl | (rw [if_neg (by omega)])) HS0.out.below ?_; simp only [Act.put, List.setIfInBounds_toArray, List.set_cons_zero, List.set_cons_succ]
      refine WH.take 8 (some 57) rfl rfl (by kernel_rfl) (by kernel_rfl) (by kernel_rfl) (fun _ _ _ h => h) (by rfl) (fun v hv => by have k3 := Since.cell hv z3; have k4 := Since.cell hv z4; have k5 := Since.cell hv z5; have k6 := Since.cell hv z6; have k7 := Since.cell hv z7; have k8 := Since.cell hv z8; go_simp; first | done | with_reducible rfl | (rw [if_neg (by omega)])) HS0.out.below ?_; simp only [Act.put, List.setIfInBounds_toArray, List.set_cons_zero, List.set_cons_succ]
      refine WH.take 9 (some 58) rfl rfl (by kernel_rfl) (by kernel_rfl) (by kernel_rfl) (fun _ _ _ h => h) (by rfl) (fun v hv => exec_dtAt (.tmp 56) (.tmp 57) rfl rfl rfl HL1.out) HS0.out.below ?_; simp only [Act.put, List.setIfInBounds_toArray, List.set_cons_zero, List.set_cons_succ]
      refine WH.take 10 (some 59) rfl rfl (by kernel_rfl) (by kernel_rfl) (by kernel_rfl) (fun _ _ _ h => h) (by rfl) (fun v hv => by have k3 := Since.cell hv z3; have k4 := Since.cell hv z4; have k5 := Since.cell hv z5; have k6 := Since.cell hv z6; have k7 := Since.cell hv z7; have k8 := Since.cell hv z8; go_simp; first | done | with_reducible rfl | (rw [if_neg (by omega)])) HS0.out.below ?_; simp only [Act.put, List.setIfInBounds_toArray, List.set_cons_zero, List.set_cons_succ]
      refine WH.take 11 (some 60) rfl rfl (by kernel_rfl) (by kernel_rfl) (by kernel_rfl) (fun _ _ _ h => h) (by rfl) (fun v hv => by have k3 := Since.cell hv z3; have k4 := Since.cell hv z4; have k5 := Since.cell hv z5; have k6 := Since.cell hv z6; have k7 := Since.cell hv z7; have k8 := Since.cell hv z8; go_simp; first | done | with_reducible rfl | (rw [if_neg (by omega)])) HS0.out.below ?_; simp only [Act.put, List.setIfInBounds_toArray, List.set_cons_zero, List.set_cons_succ]
      refine WH.one 12 (by kernel_rfl) rfl (by rfl) ?_
      go_wp2_with fail
      refine (HPU.out _ HS0.out).mono ?_
      rintro e w6 ⟨rfl, h6, -⟩
      have H6 := Lib.hid h6
      clear h6
      go_wp2_with fail
      refine ⟨H6.out.below, ?_⟩
      refine WH.done (by kernel_rfl) ?_
      clear z3 z4 z5 z6 z7 z8 HS0
      go_wp2_with fail
      refine (HUL.out _ H6.out).mono ?_
      rintro e w7 ⟨rfl, h7, -⟩
      have H7 := Lib.hid h7
      clear h7
      go_wp2_with fail
      go_roundw
      case rel => exact ⟨j + 1, t3, by omega, by omega, by push_cast; rfl, HFN.out, H7.out⟩
      case measure => simp [intOf]; omega
    · have HSM : Hid (t.may x.thread (t.of x.k : Nat) = 13 ∧ t.find x.thread x.k = t ∧ t.findR x.thread x.k = .tuple #[.int .i64 0, .bool false, .bool false, .int .i64 13] ∧ t.put x.thread x.k 9 true = t ∧ t.remove x.thread x.k = t ∧ t.removeE x.thread x.k = 13) := Lib.hid ⟨hF.of_may hn _ _, hF.same hn x.thread x.k 9 true⟩
      have hmn := hF.may_ne x.thread x.at_
      have HOK := Lib.hid (hF.ok hn (by omega))
      have hkr : t.keysR x.thread x.at_ = [] ∧ t.keysT x.thread x.at_ = t := by unfold Tb.keysR Tb.keysT; exact ⟨if_neg hmn, if_neg hmn⟩
      have HKR := Lib.hid hkr
      obtain ⟨r, hr⟩ : ∃ r, t.may x.thread x.at_ = r := ⟨_, rfl⟩
      have HRR := Lib.hid hr
      have hr0 : (r == 0) = false := by rw [← hr]; simpa using hmn
      obtain ⟨lg, hlg⟩ : ∃ lg, t.m.Lg.length = lg := ⟨_, rfl⟩
      have HLG := Lib.hid hlg
      have hlb : lg ≤ 200 := by rw [← hlg]; have := hF.Lg; omega
      have hkl : (keysL t.fl).length ≤ 100 := by have := hF.few; simp only [keysL, List.length_map]; omega
      have HKL := Lib.hid hkl
      have HKI := Lib.hid hF.kin
      have q9 : (lg : Int) == lg := by simp
      clear hF hT hkr hr hmn hlg hkl
      by_cases hcl : j < len
      · have hc40 : ¬ j < 40 := fun h => hc ⟨hcl, h⟩
        go_wp2_with fail
        refine (HT.out.all HOK.out).mono ?_
        rintro e w2 ⟨v2, rfl, hk2, -, -, -, h2⟩
        obtain ⟨a2, c2, rfl⟩ := hk2.shape
        have KI2 := Lib.hid (KeysIn.of_at hk2)
        have H2 := Lib.hid h2
        clear hk2 h2
        go_wp2_with fail
        refine (H2.out.log HOK.out.sm HLG.out).mono ?_
        rintro e w3 ⟨a3, c3, rfl, h3, q3, -⟩
        have H3 := Lib.hid h3
        have KI3 := Lib.hid (q3 _ _ KI2.out)
        clear h3 q3
        have y1 := H3.out.cell x1
        have y2 := H3.out.cell x2
        have y3 := H3.out.cell x3
        have y4 := H3.out.cell x4
        have y5 := H3.out.cell x5
        have y6 := H3.out.cell x6
        have y7 := H3.out.cell x7
        have y8 := H3.out.cell x8
        go_wp2_with fail
        refine (H3.out.post (fun F hT => tbfind_any hT HOK.out HX.out.k x.thread) HSM.out.2.2.1 HSM.out.2.1).mono ?_
        rintro e w4 ⟨rfl, h4, q4⟩
        have H4 := Lib.hid h4
        have KI4 := Lib.hid (q4 _ _ KI3.out)
        clear h4 q4 y1 y2 y3 y4 y5 y6 y7 y8
        have y1 := H4.out.cell x1
        have y2 := H4.out.cell x2
        have y3 := H4.out.cell x3
        have y4 := H4.out.cell x4
        have y5 := H4.out.cell x5
        have y6 := H4.out.cell x6
        have y7 := H4.out.cell x7
        have y8 := H4.out.cell x8
        go_wp2_with fail
        refine (H4.out.keys HOK.out x.thread x.at_ HRR.out HKR.out.1 HKR.out.2).mono ?_
        rintro e w5 ⟨v5, rfl, hk5, h5, q5⟩
        obtain ⟨a5, c5, rfl⟩ := hk5.shape
        have H5 := Lib.hid h5
        have KI5 := Lib.hid (q5 _ _ KI4.out)
        clear h5 q5 hk5 y1 y2 y3 y4 y5 y6 y7 y8
        go_wp2_with fail
        have HS0 : Hid (TOn w1 g bm _ _ t w5.drew) := Lib.hid (H5.out.step (Below.drew (Below.refl w5.heap.size w5))).1
        have KI6 := Lib.hid ((H5.out.step (Below.drew (Below.refl w5.heap.size w5))).2 _ _ KI5.out)
        refine WH.enter (Since w1) (by kernel_rfl) 14 rfl ?_
        refine WH.take 0 (some 90) rfl rfl (by kernel_rfl) (by kernel_rfl) (by kernel_rfl) (fun _ _ _ h => h) (by rfl) (fun v hv => by have k0 := Since.cell hv x0; have k1 := Since.cell hv x1; have k2 := Since.cell hv x2; have k3 := Since.cell hv x3; have k4 := Since.cell hv x4; have k5 := Since.cell hv x5; have k6 := Since.cell hv x6; have k7 := Since.cell hv x7; have k8 := Since.cell hv x8; go_simp; first | done | with_reducible rfl | (rw [if_neg (by omega)])) HS0.out.below ?_; simp only [Act.put, List.setIfInBounds_toArray, List.set_cons_zero, List.set_cons_succ]
        refine WH.take 1 (some 91) rfl rfl (by kernel_rfl) (by kernel_rfl) (by kernel_rfl) (fun _ _ _ h => h) (by rfl) (fun v hv => by have k0 := Since.cell hv x0; have k1 := Since.cell hv x1; have k2 := Since.cell hv x2; have k3 := Since.cell hv x3; have k4 := Since.cell hv x4; have k5 := Since.cell hv x5; have k6 := Since.cell hv x6; have k7 := Since.cell hv x7; have k8 := Since.cell hv x8; go_simp; first | done | with_reducible rfl | (rw [if_neg (by omega)])) HS0.out.below ?_; simp only [Act.put, List.setIfInBounds_toArray, List.set_cons_zero, List.set_cons_succ]
        refine WH.take 2 (some 92) rfl rfl (by kernel_rfl) (by kernel_rfl) (by kernel_rfl) (fun _ _ _ h => h) (by rfl) (fun v hv => by have k0 := Since.cell hv x0; have k1 := Since.cell hv x1; have k2 := Since.cell hv x2; have k3 := Since.cell hv x3; have k4 := Since.cell hv x4; have k5 := Since.cell hv x5; have k6 := Since.cell hv x6; have k7 := Since.cell hv x7; have k8 := Since.cell hv x8; go_simp; first | done | with_reducible rfl | (rw [if_neg (by omega)])) HS0.out.below ?_; simp only [Act.put, List.setIfInBounds_toArray, List.set_cons_zero, List.set_cons_succ]
        refine WH.take 3 (some 93) rfl rfl (by kernel_rfl) (by kernel_rfl) (by kernel_rfl) (fun _ _ _ h => h) (by rfl) (fun v hv => by have k0 := Since.cell hv x0; have k1 := Since.cell hv x1; have k2 := Since.cell hv x2; have k3 := Since.cell hv x3; have k4 := Since.cell hv x4; have k5 := Since.cell hv x5; have k6 := Since.cell hv x6; have k7 := Since.cell hv x7; have k8 := Since.cell hv x8; go_simp; first | done | with_reducible rfl | (rw [if_neg (by omega)])) HS0.out.below ?_; simp only [Act.put, List.setIfInBounds_toArray, List.set_cons_zero, List.set_cons_succ]
        refine WH.take 4 (some 94) rfl rfl (by kernel_rfl) (by kernel_rfl) (by kernel_rfl) (fun _ _ _ h => h) (by rfl) (fun v hv => by have k0 := Since.cell hv x0; have k1 := Since.cell hv x1; have k2 := Since.cell hv x2; have k3 := Since.cell hv x3; have k4 := Since.cell hv x4; have k5 := Since.cell hv x5; have k6 := Since.cell hv x6; have k7 := Since.cell hv x7; have k8 := Since.cell hv x8; go_simp; first | done | with_reducible rfl | (rw [if_neg (by omega)])) HS0.out.below ?_; simp only [Act.put, List.setIfInBounds_toArray, List.set_cons_zero, List.set_cons_succ]
        refine WH.take 6 (some 96) rfl rfl (by kernel_rfl) (by kernel_rfl) (by kernel_rfl) (fun _ _ _ h => h) (by rfl) (fun v hv => by have k0 := Since.cell hv x0; have k1 := Since.cell hv x1; have k2 := Since.cell hv x2; have k3 := Since.cell hv x3; have k4 := Since.cell hv x4; have k5 := Since.cell hv x5; have k6 := Since.cell hv x6; have k7 := Since.cell hv x7; have k8 := Since.cell hv x8; go_simp; first | done | with_reducible rfl | (rw [if_neg (by omega)])) HS0.out.below ?_; simp only [Act.put, List.setIfInBounds_toArray, List.set_cons_zero, List.set_cons_succ]
        refine WH.take 7 (some 97) rfl rfl (by kernel_rfl) (by kernel_rfl) (by kernel_rfl) (fun _ _ _ h => h) (by rfl) (fun v hv => by have k0 := Since.cell hv x0; have k1 := Since.cell hv x1; have k2 := Since.cell hv x2; have k3 := Since.cell hv x3; have k4 := Since.cell hv x4; have k5 := Since.cell hv x5; have k6 := Since.cell hv x6; have k7 := Since.cell hv x7; have k8 := Since.cell hv x8; go_simp; first | done | with_reducible rfl | (rw [if_neg (by omega)])) HS0.out.below ?_; simp only [Act.put, List.setIfInBounds_toArray, List.set_cons_zero, List.set_cons_succ]
        refine WH.take 8 (some 98) rfl rfl (by kernel_rfl) (by kernel_rfl) (by kernel_rfl) (fun _ _ _ h => h) (by rfl) (fun v hv => by have k0 := Since.cell hv x0; have k1 := Since.cell hv x1; have k2 := Since.cell hv x2; have k3 := Since.cell hv x3; have k4 := Since.cell hv x4; have k5 := Since.cell hv x5; have k6 := Since.cell hv x6; have k7 := Since.cell hv x7; have k8 := Since.cell hv x8; go_simp; first | done | with_reducible rfl | (rw [if_neg (by omega)])) HS0.out.below ?_; simp only [Act.put, List.setIfInBounds_toArray, List.set_cons_zero, List.set_cons_succ]
        refine WH.take 9 (some 99) rfl rfl (by kernel_rfl) (by kernel_rfl) (by kernel_rfl) (fun _ _ _ h => h) (by rfl) (fun v hv => by have k0 := Since.cell hv x0; have k1 := Since.cell hv x1; have k2 := Since.cell hv x2; have k3 := Since.cell hv x3; have k4 := Since.cell hv x4; have k5 := Since.cell hv x5; have k6 := Since.cell hv x6; have k7 := Since.cell hv x7; have k8 := Since.cell hv x8; go_simp; first | done | with_reducible rfl | (rw [if_neg (by omega)])) HS0.out.below ?_; simp only [Act.put, List.setIfInBounds_toArray, List.set_cons_zero, List.set_cons_succ]
        refine WH.take 10 (some 100) rfl rfl (by kernel_rfl) (by kernel_rfl) (by kernel_rfl) (fun _ _ _ h => h) (by rfl) (fun v hv => by have k0 := Since.cell hv x0; have k1 := Since.cell hv x1; have k2 := Since.cell hv x2; have k3 := Since.cell hv x3; have k4 := Since.cell hv x4; have k5 := Since.cell hv x5; have k6 := Since.cell hv x6; have k7 := Since.cell hv x7; have k8 := Since.cell hv x8; go_simp; first | done | with_reducible rfl | (rw [if_neg (by omega)])) HS0.out.below ?_; simp only [Act.put, List.setIfInBounds_toArray, List.set_cons_zero, List.set_cons_succ]
        refine WH.one 5 (by kernel_rfl) rfl (by rfl) ?_
        go_wp2_with fail
        refine (HS0.out.post (fun F hT => tbput_any hT HOK.out HX.out.k x.thread 9 true) (congrArg (Value.int .i64) HSM.out.1) HSM.out.2.2.2.1).mono ?_
        rintro e w6 ⟨rfl, h6, q6⟩
        have H6 := Lib.hid h6
        have KI7 := Lib.hid (q6 _ _ KI6.out)
        clear h6 q6
        go_wp2_with fail
        refine ⟨H6.out.below, ?_⟩
        refine WH.one 11 (by kernel_rfl) rfl (by rfl) ?_
        go_wp2_with fail
        refine (H6.out.post (fun F hT => tbremove_any hT HOK.out HX.out.k x.thread) (congrArg (Value.int .i64) HSM.out.2.2.2.2.2) HSM.out.2.2.2.2.1).mono ?_
        rintro e w7 ⟨rfl, h7, q7⟩
        have H7 := Lib.hid h7
        have KI8 := Lib.hid (q7 _ _ KI7.out)
        clear h7 q7
        go_wp2_with fail
        refine ⟨H7.out.below, ?_⟩
        refine WH.take 12 (some 20) rfl rfl (by kernel_rfl) (by kernel_rfl) (by kernel_rfl) (fun _ _ _ h => h) (by rfl) (fun v hv => by have k0 := Since.cell hv x0; have k1 := Since.cell hv x1; have k2 := Since.cell hv x2; have k3 := Since.cell hv x3; have k4 := Since.cell hv x4; have k5 := Since.cell hv x5; have k6 := Since.cell hv x6; have k7 := Since.cell hv x7; have k8 := Since.cell hv x8; go_simp; first | done | with_reducible rfl | (rw [if_neg (by omega)])) H7.out.below ?_; simp only [Act.put, List.setIfInBounds_toArray, List.set_cons_zero, List.set_cons_succ]
        refine WH.take 13 (some 21) rfl rfl (by kernel_rfl) (by kernel_rfl) (by kernel_rfl) (fun _ _ _ h => h) (by rfl) (fun v hv => by have k0 := Since.cell hv x0; have k1 := Since.cell hv x1; have k2 := Since.cell hv x2; have k3 := Since.cell hv x3; have k4 := Since.cell hv x4; have k5 := Since.cell hv x5; have k6 := Since.cell hv x6; have k7 := Since.cell hv x7; have k8 := Since.cell hv x8; go_simp; first | done | with_reducible rfl | (rw [if_neg (by omega)])) H7.out.below ?_; simp only [Act.put, List.setIfInBounds_toArray, List.set_cons_zero, List.set_cons_succ]
        refine WH.done (by kernel_rfl) ?_
        go_wp2_with fail
        refine (awake20_any _).mono ?_
        rintro e w8 ⟨rfl, hb8⟩
        have H8 := Lib.hid (H7.out.step hb8).1
        have KI9 := Lib.hid ((H7.out.step hb8).2 _ _ KI8.out)
        clear hb8
        go_wp2_with fail
        refine (H8.out.all HOK.out).mono ?_
        rintro e w9 ⟨v9, rfl, hk9, h9, q9', -, -⟩
        obtain ⟨a9, c9, rfl⟩ := hk9.shape
        have H9 := Lib.hid h9
        have KI10 := Lib.hid (q9' _ _ KI9.out)
        have KA9 := Lib.hid hk9
        clear h9 q9' hk9
        have HSA := Lib.hid (sameKeys_any KA9.out KI10.out.1 (by have := HKL.out; omega) HKI.out)
        go_wp2_with fail
        refine HSA.out.mono ?_
        rintro e w10 ⟨rfl, hb10⟩
        have H10 := Lib.hid (H9.out.step hb10).1
        clear hb10
        go_wp2_with fail
        refine (H10.out.log HOK.out.sm HLG.out).mono ?_
        rintro e w11 ⟨a11, c11, rfl, h11, -, -⟩
        have H11 := Lib.hid h11
        clear h11
        go_wp2_with fail
        go_ret
        exact ⟨rfl, HB1.out.trans (Below.mono H11.out.below HB1.out.size)⟩
      · skip
        go_wp2_with fail
        refine (HT.out.all HOK.out).mono ?_
        rintro e w2 ⟨v2, rfl, hk2, -, -, -, h2⟩
        obtain ⟨a2, c2, rfl⟩ := hk2.shape
        have KI2 := Lib.hid (KeysIn.of_at hk2)
        have H2 := Lib.hid h2
        clear hk2 h2
        go_wp2_with fail
        refine (H2.out.log HOK.out.sm HLG.out).mono ?_
        rintro e w3 ⟨a3, c3, rfl, h3, q3, -⟩
        have H3 := Lib.hid h3
        have KI3 := Lib.hid (q3 _ _ KI2.out)
        clear h3 q3
        have y1 := H3.out.cell x1
        have y2 := H3.out.cell x2
        have y3 := H3.out.cell x3
        have y4 := H3.out.cell x4
        have y5 := H3.out.cell x5
        have y6 := H3.out.cell x6
        have y7 := H3.out.cell x7
        have y8 := H3.out.cell x8
        go_wp2_with fail
        refine (H3.out.post (fun F hT => tbfind_any hT HOK.out HX.out.k x.thread) HSM.out.2.2.1 HSM.out.2.1).mono ?_
        rintro e w4 ⟨rfl, h4, q4⟩
        have H4 := Lib.hid h4
        have KI4 := Lib.hid (q4 _ _ KI3.out)
        clear h4 q4 y1 y2 y3 y4 y5 y6 y7 y8
        have y1 := H4.out.cell x1
        have y2 := H4.out.cell x2
        have y3 := H4.out.cell x3
        have y4 := H4.out.cell x4
        have y5 := H4.out.cell x5
        have y6 := H4.out.cell x6
        have y7 := H4.out.cell x7
        have y8 := H4.out.cell x8
        go_wp2_with fail
        refine (H4.out.keys HOK.out x.thread x.at_ HRR.out HKR.out.1 HKR.out.2).mono ?_
        rintro e w5 ⟨v5, rfl, hk5, h5, q5⟩
        obtain ⟨a5, c5, rfl⟩ := hk5.shape
        have H5 := Lib.hid h5
        have KI5 := Lib.hid (q5 _ _ KI4.out)
        clear h5 q5 hk5 y1 y2 y3 y4 y5 y6 y7 y8
        go_wp2_with fail
        have HS0 : Hid (TOn w1 g bm _ _ t w5.drew) := Lib.hid (H5.out.step (Below.drew (Below.refl w5.heap.size w5))).1
        have KI6 := Lib.hid ((H5.out.step (Below.drew (Below.refl w5.heap.size w5))).2 _ _ KI5.out)
        refine WH.enter (Since w1) (by kernel_rfl) 14 rfl ?_
        refine WH.take 0 (some 90) rfl rfl (by kernel_rfl) (by kernel_rfl) (by kernel_rfl) (fun _ _ _ h => h) (by rfl) (fun v hv => by have k0 := Since.cell hv x0; have k1 := Since.cell hv x1; have k2 := Since.cell hv x2; have k3 := Since.cell hv x3; have k4 := Since.cell hv x4; have k5 := Since.cell hv x5; have k6 := Since.cell hv x6; have k7 := Since.cell hv x7; have k8 := Since.cell hv x8; go_simp; first | done | with_reducible rfl | (rw [if_neg (by omega)])) HS0.out.below ?_; simp only [Act.put, List.setIfInBounds_toArray, List.set_cons_zero, List.set_cons_succ]
        refine WH.take 1 (some 91) rfl rfl (by kernel_rfl) (by kernel_rfl) (by kernel_rfl) (fun _ _ _ h => h) (by rfl) (fun v hv => by have k0 := Since.cell hv x0; have k1 := Since.cell hv x1; have k2 := Since.cell hv x2; have k3 := Since.cell hv x3; have k4 := Since.cell hv x4; have k5 := Since.cell hv x5; have k6 := Since.cell hv x6; have k7 := Since.cell hv x7; have k8 := Since.cell hv x8; go_simp; first | done | with_reducible rfl | (rw [if_neg (by omega)])) HS0.out.below ?_; simp only [Act.put, List.setIfInBounds_toArray, List.set_cons_zero, List.set_cons_succ]
        refine WH.take 2 (some 92) rfl rfl (by kernel_rfl) (by kernel_rfl) (by kernel_rfl) (fun _ _ _ h => h) (by rfl) (fun v hv => by have k0 := Since.cell hv x0; have k1 := Since.cell hv x1; have k2 := Since.cell hv x2; have k3 := Since.cell hv x3; have k4 := Since.cell hv x4; have k5 := Since.cell hv x5; have k6 := Since.cell hv x6; have k7 := Since.cell hv x7; have k8 := Since.cell hv x8; go_simp; first | done | with_reducible rfl | (rw [if_neg (by omega)])) HS0.out.below ?_; simp only [Act.put, List.setIfInBounds_toArray, List.set_cons_zero, List.set_cons_succ]
        refine WH.take 3 (some 93) rfl rfl (by kernel_rfl) (by kernel_rfl) (by kernel_rfl) (fun _ _ _ h => h) (by rfl) (fun v hv => by have k0 := Since.cell hv x0; have k1 := Since.cell hv x1; have k2 := Since.cell hv x2; have k3 := Since.cell hv x3; have k4 := Since.cell hv x4; have k5 := Since.cell hv x5; have k6 := Since.cell hv x6; have k7 := Since.cell hv x7; have k8 := Since.cell hv x8; go_simp; first | done | with_reducible rfl | (rw [if_neg (by omega)])) HS0.out.below ?_; simp only [Act.put, List.setIfInBounds_toArray, List.set_cons_zero, List.set_cons_succ]
        refine WH.take 4 (some 94) rfl rfl (by kernel_rfl) (by kernel_rfl) (by kernel_rfl) (fun _ _ _ h => h) (by rfl) (fun v hv => by have k0 := Since.cell hv x0; have k1 := Since.cell hv x1; have k2 := Since.cell hv x2; have k3 := Since.cell hv x3; have k4 := Since.cell hv x4; have k5 := Since.cell hv x5; have k6 := Since.cell hv x6; have k7 := Since.cell hv x7; have k8 := Since.cell hv x8; go_simp; first | done | with_reducible rfl | (rw [if_neg (by omega)])) HS0.out.below ?_; simp only [Act.put, List.setIfInBounds_toArray, List.set_cons_zero, List.set_cons_succ]
        refine WH.take 6 (some 96) rfl rfl (by kernel_rfl) (by kernel_rfl) (by kernel_rfl) (fun _ _ _ h => h) (by rfl) (fun v hv => by have k0 := Since.cell hv x0; have k1 := Since.cell hv x1; have k2 := Since.cell hv x2; have k3 := Since.cell hv x3; have k4 := Since.cell hv x4; have k5 := Since.cell hv x5; have k6 := Since.cell hv x6; have k7 := Since.cell hv x7; have k8 := Since.cell hv x8; go_simp; first | done | with_reducible rfl | (rw [if_neg (by omega)])) HS0.out.below ?_; simp only [Act.put, List.setIfInBounds_toArray, List.set_cons_zero, List.set_cons_succ]
        refine WH.take 7 (some 97) rfl rfl (by kernel_rfl) (by kernel_rfl) (by kernel_rfl) (fun _ _ _ h => h) (by rfl) (fun v hv => by have k0 := Since.cell hv x0; have k1 := Since.cell hv x1; have k2 := Since.cell hv x2; have k3 := Since.cell hv x3; have k4 := Since.cell hv x4; have k5 := Since.cell hv x5; have k6 := Since.cell hv x6; have k7 := Since.cell hv x7; have k8 := Since.cell hv x8; go_simp; first | done | with_reducible rfl | (rw [if_neg (by omega)])) HS0.out.below ?_; simp only [Act.put, List.setIfInBounds_toArray, List.set_cons_zero, List.set_cons_succ]
        refine WH.take 8 (some 98) rfl rfl (by kernel_rfl) (by kernel_rfl) (by kernel_rfl) (fun _ _ _ h => h) (by rfl) (fun v hv => by have k0 := Since.cell hv x0; have k1 := Since.cell hv x1; have k2 := Since.cell hv x2; have k3 := Since.cell hv x3; have k4 := Since.cell hv x4; have k5 := Since.cell hv x5; have k6 := Since.cell hv x6; have k7 := Since.cell hv x7; have k8 := Since.cell hv x8; go_simp; first | done | with_reducible rfl | (rw [if_neg (by omega)])) HS0.out.below ?_; simp only [Act.put, List.setIfInBounds_toArray, List.set_cons_zero, List.set_cons_succ]
        refine WH.take 9 (some 99) rfl rfl (by kernel_rfl) (by kernel_rfl) (by kernel_rfl) (fun _ _ _ h => h) (by rfl) (fun v hv => by have k0 := Since.cell hv x0; have k1 := Since.cell hv x1; have k2 := Since.cell hv x2; have k3 := Since.cell hv x3; have k4 := Since.cell hv x4; have k5 := Since.cell hv x5; have k6 := Since.cell hv x6; have k7 := Since.cell hv x7; have k8 := Since.cell hv x8; go_simp; first | done | with_reducible rfl | (rw [if_neg (by omega)])) HS0.out.below ?_; simp only [Act.put, List.setIfInBounds_toArray, List.set_cons_zero, List.set_cons_succ]
        refine WH.take 10 (some 100) rfl rfl (by kernel_rfl) (by kernel_rfl) (by kernel_rfl) (fun _ _ _ h => h) (by rfl) (fun v hv => by have k0 := Since.cell hv x0; have k1 := Since.cell hv x1; have k2 := Since.cell hv x2; have k3 := Since.cell hv x3; have k4 := Since.cell hv x4; have k5 := Since.cell hv x5; have k6 := Since.cell hv x6; have k7 := Since.cell hv x7; have k8 := Since.cell hv x8; go_simp; first | done | with_reducible rfl | (rw [if_neg (by omega)])) HS0.out.below ?_; simp only [Act.put, List.setIfInBounds_toArray, List.set_cons_zero, List.set_cons_succ]
        refine WH.one 5 (by kernel_rfl) rfl (by rfl) ?_
        go_wp2_with fail
        refine (HS0.out.post (fun F hT => tbput_any hT HOK.out HX.out.k x.thread 9 true) (congrArg (Value.int .i64) HSM.out.1) HSM.out.2.2.2.1).mono ?_
        rintro e w6 ⟨rfl, h6, q6⟩
        have H6 := Lib.hid h6
        have KI7 := Lib.hid (q6 _ _ KI6.out)
        clear h6 q6
        go_wp2_with fail
        refine ⟨H6.out.below, ?_⟩
        refine WH.one 11 (by kernel_rfl) rfl (by rfl) ?_
        go_wp2_with fail
        refine (H6.out.post (fun F hT => tbremove_any hT HOK.out HX.out.k x.thread) (congrArg (Value.int .i64) HSM.out.2.2.2.2.2) HSM.out.2.2.2.2.1).mono ?_
        rintro e w7 ⟨rfl, h7, q7⟩
        have H7 := Lib.hid h7
        have KI8 := Lib.hid (q7 _ _ KI7.out)
        clear h7 q7
        go_wp2_with fail
        refine ⟨H7.out.below, ?_⟩
        refine WH.take 12 (some 20) rfl rfl (by kernel_rfl) (by kernel_rfl) (by kernel_rfl) (fun _ _ _ h => h) (by rfl) (fun v hv => by have k0 := Since.cell hv x0; have k1 := Since.cell hv x1; have k2 := Since.cell hv x2; have k3 := Since.cell hv x3; have k4 := Since.cell hv x4; have k5 := Since.cell hv x5; have k6 := Since.cell hv x6; have k7 := Since.cell hv x7; have k8 := Since.cell hv x8; go_simp; first | done | with_reducible rfl | (rw [if_neg (by omega)])) H7.out.below ?_; simp only [Act.put, List.setIfInBounds_toArray, List.set_cons_zero, List.set_cons_succ]
        refine WH.take 13 (some 21) rfl rfl (by kernel_rfl) (by kernel_rfl) (by kernel_rfl) (fun _ _ _ h => h) (by rfl) (fun v hv => by have k0 := Since.cell hv x0; have k1 := Since.cell hv x1; have k2 := Since.cell hv x2; have k3 := Since.cell hv x3; have k4 := Since.cell hv x4; have k5 := Since.cell hv x5; have k6 := Since.cell hv x6; have k7 := Since.cell hv x7; have k8 := Since.cell hv x8; go_simp; first | done | with_reducible rfl | (rw [if_neg (by omega)])) H7.out.below ?_; simp only [Act.put, List.setIfInBounds_toArray, List.set_cons_zero, List.set_cons_succ]
        refine WH.done (by kernel_rfl) ?_
        go_wp2_with fail
        refine (awake20_any _).mono ?_
        rintro e w8 ⟨rfl, hb8⟩
        have H8 := Lib.hid (H7.out.step hb8).1
        have KI9 := Lib.hid ((H7.out.step hb8).2 _ _ KI8.out)
        clear hb8
        go_wp2_with fail
        refine (H8.out.all HOK.out).mono ?_
        rintro e w9 ⟨v9, rfl, hk9, h9, q9', -, -⟩
        obtain ⟨a9, c9, rfl⟩ := hk9.shape
        have H9 := Lib.hid h9
        have KI10 := Lib.hid (q9' _ _ KI9.out)
        have KA9 := Lib.hid hk9
        clear h9 q9' hk9
        have HSA := Lib.hid (sameKeys_any KA9.out KI10.out.1 (by have := HKL.out; omega) HKI.out)
        go_wp2_with fail
        refine HSA.out.mono ?_
        rintro e w10 ⟨rfl, hb10⟩
        have H10 := Lib.hid (H9.out.step hb10).1
        clear hb10
        go_wp2_with fail
        refine (H10.out.log HOK.out.sm HLG.out).mono ?_
        rintro e w11 ⟨a11, c11, rfl, h11, -, -⟩
        have H11 := Lib.hid h11
        clear h11
        go_wp2_with fail
        go_ret
        exact ⟨rfl, HB1.out.trans (Below.mono H11.out.below HB1.out.size)⟩
theorem tableHeld_row (st : Int) (a : Option Addr) (len cap : Nat) (x : Dt) (w : World) (hst : (Lit.int .u8 st).wf = true) (hz : RdDts w a len) (hx : DtOk x) :
    Calls Try.prog 5 #[.int .u8 st, .slice a len cap, .agg (dtC x).toArray] w fun e w' => e = .returned (.bool true) ∧ Below w.heap.size w w' := by
  obtain ⟨n, rfl, hn⟩ := wfn_u8 hst
  exact tableHeld_walk n a len cap x w (by omega) hz hx
end Go.Proofs.Ytahgapkecabnjaa
/- What holds of a memory after j rounds (the same as in XMemS, for seats without layer 19's law). -/
namespace Go.Proofs.Ytahgapkecabnjaa
set_option linter.unusedSimpArgs false
set_option linter.unusedVariables false
open Go Go.RowKit

/-- After j rounds. -/
def PInv (j : Nat) (m : M) : Prop := m.W.length ≤ 8192 + j ∧ m.L.length ≤ 8192 ∧ m.Lg.length ≤ j ∧ m.held
theorem PInv.small {j : Nat} {m : M} (h : PInv j m) (hj : j ≤ 100) : m.small := ⟨by have := h.1; omega, by have := h.2.1; omega, by have := h.2.2.1; omega⟩
theorem pinv_new (a b : Int) : PInv 0 (newM a b) := by
  have := nearM_bd a
  have := nearM_bd b
  refine ⟨by simp [newM]; omega, by simp [newM]; omega, Nat.le_refl _, fun h hh => ?_⟩
  rw [List.eq_of_mem_replicate hh]; decide
theorem pinv_more {j : Nat} {m : M} (h : PInv j m) (x : Int) : PInv (j + 1) (m.more x) := ⟨by have := h.1; simp [M.more]; omega, h.2.1, Nat.le_succ_of_le h.2.2.1, h.2.2.2⟩
theorem pinv_note {j : Nat} {m : M} (h : PInv j m) (t k p : Int) : PInv (j + 1) (m.note t k p) := ⟨by have := h.1; simp [M.note]; omega, h.2.1, by have := h.2.2.1; simp [M.note]; omega, h.2.2.2⟩
theorem pinv_up {j : Nat} {m : M} (h : PInv j m) : PInv (j + 1) m := ⟨by have := h.1; omega, h.2.1, by have := h.2.2.1; omega, h.2.2.2⟩
theorem pinv_load {j : Nat} {m : M} (h : PInv j m) (t i : Int) : PInv (j + 1) (m.load t i) := by
  unfold M.load; split
  · exact pinv_note h _ _ _
  · exact pinv_up h
theorem pinv_touch {j : Nat} {m : M} (h : PInv j m) (t k p : Int) : PInv (j + 1) (m.touch t k p) := by
  unfold M.touch; split
  · exact pinv_note h _ _ _
  · exact pinv_up h
theorem pinv_swap {j : Nat} {m : M} (h : PInv j m) (t i o n : Int) : PInv (j + 1) (m.swap t i o n) := by
  unfold M.swap; split
  · split
    · have := pinv_note h t 4 (3 * i)
      exact ⟨by have := this.1; simpa [M.note] using this, this.2.1, this.2.2.1, this.2.2.2⟩
    · exact pinv_note h _ _ _
  · exact pinv_up h
theorem pinv_lock {j : Nat} {m : M} (h : PInv j m) (t i : Int) (ht : t ≤ 9223372036854775807) : PInv (j + 1) (m.lock t i) := by
  unfold M.lock; split
  · rename_i hok
    simp only [M.lockOk, Bool.and_eq_true, decide_eq_true_eq] at hok
    have := pinv_note h t 1 (3 * i + 1)
    refine ⟨this.1, by have := h.2.1; simpa using this, this.2.2.1, fun x hx => ?_⟩
    rcases List.mem_or_eq_of_mem_set hx with hx | rfl
    · exact h.2.2.2 x hx
    · exact ⟨by omega, ht⟩
  · exact pinv_up h
theorem pinv_unlock {j : Nat} {m : M} (h : PInv j m) (t i : Int) : PInv (j + 1) (m.unlock t i) := by
  unfold M.unlock; split
  · have := pinv_note h t 2 (3 * i + 1)
    refine ⟨this.1, by have := h.2.1; simpa using this, this.2.2.1, fun x hx => ?_⟩
    rcases List.mem_or_eq_of_mem_set hx with hx | rfl
    · exact h.2.2.2 x hx
    · decide
  · exact pinv_up h
theorem unlockE_bd (m : M) (t i : Int) : 0 ≤ m.unlockE t i ∧ m.unlockE t i ≤ 15 := by
  unfold M.unlockE; split
  · split <;> decide
  · decide
end Go.Proofs.Ytahgapkecabnjaa
/- Two tables side by side, the program's and the document's; what holds of them after j rounds. -/
namespace Go.Proofs.Ytahgapkecabnjaa
set_option linter.unusedSimpArgs false
set_option linter.unusedVariables false
open Go Go.RowKit Go.Maps Go.Shelf Go.Sort

/-- After j rounds. -/
def TInv (n j : Nat) (t : Tb) : Prop := t.n = n ∧ Rises (keysL t.fl) ∧ (∀ k ∈ keysL t.fl, k.In) ∧ t.fl.length ≤ j ∧ PInv j t.m
section
variable {n j : Nat} {t : Tb}
theorem TInv.ok (h : TInv n j t) (hn : n ∈ pows) (hj : j ≤ 100) : t.Ok := ⟨by rw [h.1]; exact hn, h.2.1, h.2.2.1, by have := h.2.2.2.1; omega, h.2.2.2.2.small hj⟩
theorem TInv.room (h : TInv n j t) (hj : j ≤ 100) : t.m.Lg.length + 1 < 1073741824 := by have := h.2.2.2.2.2.2.1; omega
theorem TInv.held (h : TInv n j t) : t.m.held := h.2.2.2.2.2.2.2
theorem TInv.few (h : TInv n j t) (hj : j ≤ 100) : (keysL t.fl).length ≤ 1000000 := by have := h.2.2.2.1; simp only [keysL, List.length_map]; omega
theorem TInv.up (h : TInv n j t) : TInv n (j + 1) t := ⟨h.1, h.2.1, h.2.2.1, by have := h.2.2.2.1; omega, pinv_up h.2.2.2.2⟩
theorem TInv.mem (h : TInv n j t) {m : M} (hm : PInv (j + 1) m) : TInv n (j + 1) { t with m := m } := ⟨h.1, h.2.1, h.2.2.1, by have := h.2.2.2.1; simp only; omega, hm⟩
theorem tinv_new (a b : Int) (n : Nat) : TInv n 0 ⟨newM a b, n, []⟩ := ⟨rfl, List.Pairwise.nil, (fun _ h => nomatch h), Nat.le_refl _, pinv_new a b⟩
theorem tinv_find (h : TInv n j t) (th : Int) (k : Ky) : TInv n (j + 1) (t.find th k) := by
  unfold Tb.find; split
  · exact h.mem (pinv_touch h.2.2.2.2 _ _ _)
  · exact h.up
theorem tinv_keys (h : TInv n j t) (th s : Int) : TInv n (j + 1) (t.keysT th s) := by
  unfold Tb.keysT; split
  · exact h.mem (pinv_touch h.2.2.2.2 _ _ _)
  · exact h.up
theorem tinv_put (h : TInv n j t) (th : Int) {k : Ky} (hk : k.In) (x : Int) (tu : Bool) : TInv n (j + 1) (t.put th k x tu) := by
  unfold Tb.put; split
  · exact ⟨h.1, rises_put h.2.1 k _, keysL_putL hk h.2.2.1, by have := length_putL t.fl k (x, tu) h.2.1; have := h.2.2.2.1; simp only; omega, pinv_touch h.2.2.2.2 _ _ _⟩
  · exact h.up
theorem length_delL {l : Kl (Int × Bool)} (k : Ky) : (delL l k).length ≤ l.length := by unfold delL; exact List.length_filter_le _ _
theorem tinv_remove (h : TInv n j t) (th : Int) (k : Ky) : TInv n (j + 1) (t.remove th k) := by
  unfold Tb.remove; split
  · exact ⟨h.1, rises_del h.2.1 k, keysL_delL h.2.2.1, by have := length_delL (l := t.fl) k; have := h.2.2.2.1; simp only; omega, pinv_touch h.2.2.2.2 _ _ _⟩
  · exact h.up
end

/-- Two tables made since w0, apart, and a block b besides. -/
def TTwo (w0 : World) (b g bm u rm : Nat) (t ρ : Tb) (w : World) : Prop := ∃ F G, Tab w g bm F t ∧ RTab w u rm G ρ ∧ Sep F G ∧ (∀ i, F i → w0.heap.size ≤ i) ∧ (∀ i, G i → w0.heap.size ≤ i) ∧ (b < w.heap.size ∧ ¬ F b ∧ ¬ G b) ∧ Below w0.heap.size w0 w
/-- .. with no block besides. -/
def TDuo (w0 : World) (g bm u rm : Nat) (t ρ : Tb) (w : World) : Prop := ∃ F G, Tab w g bm F t ∧ RTab w u rm G ρ ∧ Sep F G ∧ (∀ i, F i → w0.heap.size ≤ i) ∧ (∀ i, G i → w0.heap.size ≤ i) ∧ Below w0.heap.size w0 w
section
variable {w0 w w' : World} {b g bm u rm : Nat} {t ρ t2 : Tb} {f : FuncId} {args : Array Value}
theorem TTwo.duo (h : TTwo w0 b g bm u rm t ρ w) : TDuo w0 g bm u rm t ρ w := by
  obtain ⟨F, G, h1, h2, h3, h4, h5, _, h7⟩ := h
  exact ⟨F, G, h1, h2, h3, h4, h5, h7⟩
theorem TDuo.below (h : TDuo w0 g bm u rm t ρ w) : Below w0.heap.size w0 w := by
  obtain ⟨F, G, _, _, _, _, _, h7⟩ := h
  exact h7
theorem TDuo.step (h : TDuo w0 g bm u rm t ρ w) (k : Below w.heap.size w w') : TDuo w0 g bm u rm t ρ w' := by
  obtain ⟨F, G, h1, h2, h3, h4, h5, h7⟩ := h
  exact ⟨F, G, h1.below k, h2.below k, h3, h4, h5, h7.trans (k.mono h7.size)⟩
theorem TDuo.two (h : TDuo w0 g bm u rm t ρ w) (o : Obj) : TTwo w0 w.heap.size g bm u rm t ρ (w.alloc o) := by
  obtain ⟨F, G, h1, h2, h3, h4, h5, h7⟩ := h
  have k : Below w.heap.size w (w.alloc o) := (Below.refl _ w).alloc (Nat.le_refl _) o
  exact ⟨F, G, h1.below k, h2.below k, h3, h4, h5, ⟨by simp, fun hf => Nat.lt_irrefl _ (h1.foot_lt _ hf), fun hf => Nat.lt_irrefl _ (h2.foot_lt _ hf)⟩, h7.trans (k.mono h7.size)⟩
theorem TTwo.step (h : TTwo w0 b g bm u rm t ρ w) (k : Below w.heap.size w w') : TTwo w0 b g bm u rm t ρ w' ∧ w'.heap[b]? = w.heap[b]? := by
  obtain ⟨F, G, h1, h2, h3, h4, h5, ⟨b1, b2, b3⟩, h7⟩ := h
  exact ⟨⟨F, G, h1.below k, h2.below k, h3, h4, h5, ⟨Nat.lt_of_lt_of_le b1 k.size, b2, b3⟩, h7.trans (k.mono h7.size)⟩, k.block b b1⟩
theorem TTwo.drew (h : TTwo w0 b g bm u rm t ρ w) : TTwo w0 b g bm u rm t ρ w.drew := (h.step (Below.drew (Below.refl _ w))).1
theorem TTwo.left {v v' : Value} {t' : Tb} (h : TTwo w0 b g bm u rm t ρ w) (hc : ∀ F, Tab w g bm F t → Calls Try.prog f args w (TabPost w g bm F v t')) (hr : v = v') (ht2 : t' = t2) :
    Calls Try.prog f args w fun e w' => e = .returned v' ∧ TTwo w0 b g bm u rm t2 ρ w' ∧ w'.heap[b]? = w.heap[b]? := by
  subst hr; subst ht2
  obtain ⟨F, G, h1, h2, h3, h4, h5, ⟨b1, b2, b3⟩, h7⟩ := h
  refine (hc F h1).mono ?_
  rintro e w' ⟨rfl, F', hm', ht, hx⟩
  exact ⟨rfl, ⟨F', G, hm', h2.turn ht h3.symm, h3.ext hx h2.foot_lt, hx.base h7.size h4, h5, ⟨Nat.lt_of_lt_of_le b1 ht.size, fun hf => (hx b hf).elim b2 (fun h => by omega), b3⟩, h7.trans (ht.below h7.size h4)⟩, ht.block b b1 b2⟩
theorem TTwo.right {v v' : Value} {t' : Tb} (h : TTwo w0 b g bm u rm t ρ w) (hc : ∀ F, RTab w u rm F ρ → Calls Try.prog f args w (RTabPost w u rm F v t')) (hr : v = v') (ht2 : t' = t2) :
    Calls Try.prog f args w fun e w' => e = .returned v' ∧ TTwo w0 b g bm u rm t t2 w' ∧ w'.heap[b]? = w.heap[b]? := by
  subst hr; subst ht2
  obtain ⟨F, G, h1, h2, h3, h4, h5, ⟨b1, b2, b3⟩, h7⟩ := h
  refine (hc G h2).mono ?_
  rintro e w' ⟨rfl, G', hm', ht, hx⟩
  exact ⟨rfl, ⟨F, G', h1.turn ht h3, hm', (h3.symm.ext hx h1.foot_lt).symm, h4, hx.base h7.size h5, ⟨Nat.lt_of_lt_of_le b1 ht.size, b2, fun hf => (hx b hf).elim b3 (fun h => by omega)⟩, h7.trans (ht.below h7.size h5)⟩, ht.block b b1 b3⟩
end
/-- As TTwo, and the other's blocks lie under E. -/
def TTwoE (w0 : World) (E b g bm u rm : Nat) (t ρ : Tb) (w : World) : Prop := ∃ F G, Tab w g bm F t ∧ RTab w u rm G ρ ∧ Sep F G ∧ (∀ i, F i → w0.heap.size ≤ i) ∧ (∀ i, G i → w0.heap.size ≤ i) ∧ (b < w.heap.size ∧ ¬ F b ∧ ¬ G b) ∧ Below w0.heap.size w0 w ∧ ∀ i, G i → i < E
section
variable {w0 w w' : World} {b g bm u rm : Nat} {t ρ t2 : Tb} {f : FuncId} {args : Array Value}
theorem TTwo.keysL {r r' : Int} {l l' : List Ky} {t' : Tb} (h : TTwo w0 b g bm u rm t ρ w) (hc : ∀ F, Tab w g bm F t → Calls Try.prog f args w (KeysPost w g bm F r l t')) (hr : r = r') (hl : l = l') (ht2 : t' = t2) :
    Calls Try.prog f args w fun e w' => ∃ a c, e = .returned (.tuple #[.slice a l'.length c, .int .i64 r']) ∧ KeysAt w' w.heap.size (.slice a l'.length c) l' ∧ TTwoE w0 w.heap.size b g bm u rm t2 ρ w' ∧ w'.heap[b]? = w.heap[b]? := by
  subst ht2; subst hr; subst hl
  obtain ⟨F, G, h1, h2, h3, h4, h5, ⟨b1, b2, b3⟩, h7⟩ := h
  refine (hc F h1).mono ?_
  rintro e w' ⟨v, rfl, hk, F', hm', ht, hx⟩
  obtain ⟨a, c, rfl⟩ := hk.shape
  exact ⟨a, c, rfl, hk, ⟨F', G, hm', h2.turn ht h3.symm, h3.ext hx h2.foot_lt, hx.base h7.size h4, h5, ⟨Nat.lt_of_lt_of_le b1 ht.size, fun hf => (hx b hf).elim b2 (fun h => by omega), b3⟩, h7.trans (ht.below h7.size h4), h2.foot_lt⟩, ht.block b b1 b2⟩
theorem TTwoE.keysR {E : Nat} {r r' : Int} {l l' l0 : List Ky} {t' : Tb} {v0 : Value} (h : TTwoE w0 E b g bm u rm t ρ w) (h0 : KeysAt w E v0 l0) (hc : ∀ F, RTab w u rm F ρ → Calls Try.prog f args w (RKeysPost w u rm F r l t')) (hr : r = r') (hl : l = l') (ht2 : t' = t2) :
    Calls Try.prog f args w fun e w' => ∃ a c, e = .returned (.tuple #[.slice a l'.length c, .int .i64 r']) ∧ KeysAt w' w.heap.size (.slice a l'.length c) l' ∧ KeysAt w' E v0 l0 ∧ TTwo w0 b g bm u rm t t2 w' ∧ w'.heap[b]? = w.heap[b]? := by
  subst ht2; subst hr; subst hl
  obtain ⟨F, G, h1, h2, h3, h4, h5, ⟨b1, b2, b3⟩, h7, h8⟩ := h
  refine (hc G h2).mono ?_
  rintro e w' ⟨v, rfl, hk, G', hm', ht, hx⟩
  obtain ⟨a, c, rfl⟩ := hk.shape
  exact ⟨a, c, rfl, hk, h0.kept (fun i hi hl => ht.block i hl (fun hg => by have := h8 i hg; omega)), ⟨F, G', h1.turn ht h3, hm', (h3.symm.ext hx h1.foot_lt).symm, h4, hx.base h7.size h5, ⟨Nat.lt_of_lt_of_le b1 ht.size, b2, fun hf => (hx b hf).elim b3 (fun h => by omega)⟩, h7.trans (ht.below h7.size h5)⟩, ht.block b b1 b3⟩
theorem TDuo.allL (h : TDuo w0 g bm u rm t ρ w) (ok : t.Ok) :
    Calls Try.prog 10 #[.pointer (some ⟨g, 0, none⟩)] w fun e w' => ∃ a c, e = .returned (.slice a (keysL t.fl).length c) ∧ KeysAt w' w.heap.size (.slice a (keysL t.fl).length c) (keysL t.fl) ∧ TDuo w0 g bm u rm t ρ w' ∧ Below w.heap.size w w' := by
  obtain ⟨F, G, h1, -⟩ := id h
  refine (tball_any h1 ok).mono ?_
  rintro e w' ⟨v, rfl, hk, hb⟩
  obtain ⟨a, c, rfl⟩ := hk.shape
  exact ⟨a, c, rfl, hk, h.step hb, hb⟩
theorem TDuo.allR (h : TDuo w0 g bm u rm t ρ w) (ok : ρ.Ok) :
    Calls Try.prog 26 #[.pointer (some ⟨u, 0, none⟩)] w fun e w' => ∃ a c, e = .returned (.slice a (keysL ρ.fl).length c) ∧ KeysAt w' w.heap.size (.slice a (keysL ρ.fl).length c) (keysL ρ.fl) ∧ TDuo w0 g bm u rm t ρ w' ∧ Below w.heap.size w w' := by
  obtain ⟨F, G, _, h2, -⟩ := id h
  refine (rtall_any h2 ok).mono ?_
  rintro e w' ⟨v, rfl, hk, hb⟩
  obtain ⟨a, c, rfl⟩ := hk.shape
  exact ⟨a, c, rfl, hk, h.step hb, hb⟩
end
/-- Block b holds a thing to do. -/
def DBox (b : Nat) (x : Dt) (w : World) : Prop := w.heap[b]? = some (.cells (dtC x).toArray 30 (0, 0))
theorem DBox.cells {b : Nat} {x : Dt} {w : World} (h : DBox b x w) : w.cell? ⟨b, 0, none⟩ = some (.int .u8 x.kind) ∧ w.cell? ⟨b, 1, none⟩ = some (.int .i64 x.thread) ∧ w.cell? ⟨b, 2, none⟩ = some (.int .i64 x.at_) ∧ w.cell? ⟨b, 3, none⟩ = some (.int .u32 x.k.a0) ∧
    w.cell? ⟨b, 4, none⟩ = some (.int .u32 x.k.a1) ∧ w.cell? ⟨b, 5, none⟩ = some (.int .u16 x.k.p0) ∧ w.cell? ⟨b, 6, none⟩ = some (.int .u16 x.k.p1) ∧ w.cell? ⟨b, 7, none⟩ = some (.int .u8 x.k.pr) ∧ w.cell? ⟨b, 8, none⟩ = some (.bool x.tu) := by
  unfold DBox at h
  refine ⟨?_, ?_, ?_, ?_, ?_, ?_, ?_, ?_, ?_⟩ <;> simp [World.cell?, h, dtC]
/-- Two new tables, on two new memories. -/
theorem TDuo.new {w0 w1 w2 w3 w4 : World} {bm rm g u n : Nat} {m : M} {F1 G1 F G : Nat → Prop} (h1 : Mem w1 bm F1 m) (b1 : Below w0.heap.size w0 w1) (f1 : ∀ i, F1 i → w0.heap.size ≤ i)
    (h2 : RMem w2 rm G1 m) (b2 : Below w1.heap.size w1 w2) (f2 : ∀ i, G1 i → w1.heap.size ≤ i)
    (h3 : Tab w3 g bm F ⟨m, n, []⟩) (b3 : Below w2.heap.size w2 w3) (f3 : ∀ i, F i → F1 i ∨ w2.heap.size ≤ i)
    (h4 : RTab w4 u rm G ⟨m, n, []⟩) (b4 : Below w3.heap.size w3 w4) (f4 : ∀ i, G i → G1 i ∨ w3.heap.size ≤ i) : TDuo w0 g bm u rm ⟨m, n, []⟩ ⟨m, n, []⟩ w4 := by
  have l1 := b1.size
  have l2 := b2.size
  have l3 := b3.size
  refine ⟨F, G, h3.below b4, h4, fun i hi hg => ?_, fun i hi => (f3 i hi).elim (f1 i) (fun q => by omega), fun i hi => (f4 i hi).elim (fun q => by have := f2 i q; omega) (fun q => by omega), ((b1.trans (b2.mono l1)).trans (b3.mono (by omega))).trans (b4.mono (by omega))⟩
  rcases f3 i hi with q | q
  · have := IsMem.foot_lt h1 i q
    rcases f4 i hg with r | r
    · have := f2 i r; omega
    · omega
  · rcases f4 i hg with r | r
    · have := h2.foot_lt i r; omega
    · have := h3.foot_lt i hi; omega
theorem findR_shape (t : Tb) (th : Int) (k : Ky) : ∃ (a : Int) (b c : Bool) (e : Int), t.findR th k = .tuple #[.int .i64 a, .bool b, .bool c, .int .i64 e] := by
  unfold Tb.findR; split
  · exact ⟨_, _, _, _, rfl⟩
  · exact ⟨_, _, _, _, rfl⟩
theorem keysR_few {t : Tb} (th s : Int) : (t.keysR th s).length ≤ (keysL t.fl).length ∧ ∀ k ∈ t.keysR th s, k ∈ keysL t.fl := by
  unfold Tb.keysR; split
  · refine ⟨by simp only [keysL, List.length_map]; exact inS_le _ _ _, fun k hk => (keys_inS.1 hk).1⟩
  · exact ⟨Nat.zero_le _, fun k hk => nomatch hk⟩
/-- A cell holds a value. -/
def CellIs (a : Addr) (x : Value) (w : World) : Prop := w.cell? a = some x
theorem RTab.logs {w : World} {u rm : Nat} {G : Nat → Prop} {t : Tb} (h : RTab w u rm G t) : ∃ a c, w.cell? ⟨rm, 2, none⟩ = some (.slice a t.m.Lg.length c) ∧ RdFrom w 0 a (logC t.m.Lg) := by
  obtain ⟨Fm, fv, hw, -⟩ := h
  obtain ⟨vw, vl, vg, hat, -⟩ := hw.mem
  obtain ⟨ag, cg, evg, hcg⟩ := row_form hat.log
  subst evg
  obtain ⟨e0, e1, e2, _⟩ := hat.cells
  exact ⟨ag, cg, e2, fun k x hk => by
    obtain ⟨b, e, h1, _⟩ := hcg k x hk
    exact ⟨b, e, h1, Nat.zero_le _⟩⟩
end Go.Proofs.Ytahgapkecabnjaa
