/- The walk of TableHeld. Printed by gen_tabi.py. -/
import Derived.Test.YtahgapkecabnjaaC09
import Derived.Test.YtahgapkecabnjaaC07
namespace Go.Proofs.Ytahgapkecabnjaa
set_option linter.unusedSimpArgs false
set_option linter.unusedVariables false
open Go Go.RowKit Go.Maps Go.Shelf Go.Sort

theorem TOn.cell {w0 w : World} {g bm B E : Nat} {t : Tb} (h : TOn w0 g bm B E t w) {a : Addr} {v : Value} (hc : w0.cell? a = some v) : w.cell? a = some v := (h.below.cell (World.block_lt_of_cell? w0 _ hc)).trans hc
set_option maxHeartbeats 8000000 in
set_option maxRecDepth 100000 in
theorem tableHeld_walk (st : Int) (a : Option Addr) (len cap : Nat) (x : Dt) (w : World) (hst : 0 ≤ st ∧ st ≤ 255) (hz : RdDts w a len) (hx : DtOk x) :
    Calls Try.prog 5 #[.int .u8 st, .slice a len cap, .agg (dtC x).toArray] w fun e w' => e = .returned (.bool true) ∧ Below w.heap.size w w' := by
  obtain ⟨s, rfl⟩ : ∃ s : Nat, st = s := ⟨st.toNat, by omega⟩
  obtain ⟨n, hn, hn16, hnp⟩ := shift_pow s
  have HB1 : Hid (Below w.heap.size w (w.alloc (.cells (dtC x).toArray 30))) := Lib.hid ((Below.refl _ w).alloc (Nat.le_refl _) _)
  have x0 : (w.alloc (.cells (dtC x).toArray 30)).cell? ⟨w.heap.size, 0, none⟩ = some (.int .u8 x.kind) := by simp [dtC]
  have x1 : (w.alloc (.cells (dtC x).toArray 30)).cell? ⟨w.heap.size, 1, none⟩ = some (.int .i64 x.thread) := by simp [dtC]
  have x2 : (w.alloc (.cells (dtC x).toArray 30)).cell? ⟨w.heap.size, 2, none⟩ = some (.int .i64 x.at_) := by simp [dtC]
  have x3 : (w.alloc (.cells (dtC x).toArray 30)).cell? ⟨w.heap.size, 3, none⟩ = some (.int .u32 x.k.a0) := by simp [dtC]
  have x4 : (w.alloc (.cells (dtC x).toArray 30)).cell? ⟨w.heap.size, 4, none⟩ = some (.int .u32 x.k.a1) := by simp [dtC]
  have x5 : (w.alloc (.cells (dtC x).toArray 30)).cell? ⟨w.heap.size, 5, none⟩ = some (.int .u16 x.k.p0) := by simp [dtC]
  have x6 : (w.alloc (.cells (dtC x).toArray 30)).cell? ⟨w.heap.size, 6, none⟩ = some (.int .u16 x.k.p1) := by simp [dtC]
  have x7 : (w.alloc (.cells (dtC x).toArray 30)).cell? ⟨w.heap.size, 7, none⟩ = some (.int .u8 x.k.pr) := by simp [dtC]
  have x8 : (w.alloc (.cells (dtC x).toArray 30)).cell? ⟨w.heap.size, 8, none⟩ = some (.bool x.tu) := by simp [dtC]
  have hlen : len ≤ 9223372036854775807 := hz.1
  have HZ := Lib.hid hz
  have HX := Lib.hid hx
  have HN := Lib.hid hn
  clear hz hx
  go_enter Try.func5, Try.ntmps5
  go_wp2_with fail
  rw [shift_val hnp hn16]
  have x10 : w.heap.size < (w.alloc (.cells (dtC x).toArray 30)).heap.size := by simp
  clear hnp hst
  generalize w.alloc (.cells (dtC x).toArray 30) = w1 at *
  refine (On.new 0 16 w1 w1 (Below.refl _ _) (m := newM 0 16) rfl).mono ?_
  rintro e w2 ⟨bm, rfl, h⟩
  go_wp2_with fail
  refine (show Calls _ _ _ _ _ from TOn.new h hn).mono ?_
  rintro e w3 ⟨g, rfl, h3⟩
  have HT3 := Lib.hid h3
  have HF3 := Lib.hid (Free.new hn)
  generalize newM 0 16 = m0 at *
  clear h h3 x10
  go_wp2_with fail
  go_loopw [10] (fun i wr => ∃ (j : Nat) (t : Tb), j ≤ len ∧ j ≤ 40 ∧ i = .int .i64 (j : Nat) ∧ Free n j t ∧ TOn w1 g bm 0 0 t wr) (fun i _ => len - (intOf i).toNat)
  case atStart => exact ⟨0, _, Nat.zero_le _, Nat.zero_le _, rfl, HF3.out, HT3.out⟩
  case round =>
    clear HF3 HT3
    obtain ⟨j, t, hj, hj2, rfl, hF, hT⟩ := hrel
    have HF := Lib.hid hF
    have HT := Lib.hid hT
    by_cases hc : j < len ∧ j < 40
    · obtain ⟨hl1, hl2⟩ := hc
      obtain ⟨ad, d, rfl, hd, hok⟩ := HZ.out.2 j hl1
      have hd1 := hd.below HB1.out
      have z3 : w1.cell? ⟨(ad.add (j * 9)).block, (ad.add (j * 9)).off + 3, none⟩ = some (.int .u32 d.k.a0) := hd1 3 _ rfl
      have z4 : w1.cell? ⟨(ad.add (j * 9)).block, (ad.add (j * 9)).off + 4, none⟩ = some (.int .u32 d.k.a1) := hd1 4 _ rfl
      have z5 : w1.cell? ⟨(ad.add (j * 9)).block, (ad.add (j * 9)).off + 5, none⟩ = some (.int .u16 d.k.p0) := hd1 5 _ rfl
      have z6 : w1.cell? ⟨(ad.add (j * 9)).block, (ad.add (j * 9)).off + 6, none⟩ = some (.int .u16 d.k.p1) := hd1 6 _ rfl
      have z7 : w1.cell? ⟨(ad.add (j * 9)).block, (ad.add (j * 9)).off + 7, none⟩ = some (.int .u8 d.k.pr) := hd1 7 _ rfl
      have z8 : w1.cell? ⟨(ad.add (j * 9)).block, (ad.add (j * 9)).off + 8, none⟩ = some (.bool d.tu) := hd1 8 _ rfl
      have c3 := hT.cell z3
      have c4 := hT.cell z4
      have c5 := hT.cell z5
      have c6 := hT.cell z6
      have c7 := hT.cell z7
      have c8 := hT.cell z8
      obtain ⟨t1, t2, t3, e1, e2, e3, hm0, ok1, ok2, hF3⟩ := hF.round hn hn16 d.k hok.k (j : Int) d.tu
      have ok1 := ok1 (by omega)
      have ok2 := ok2 (by omega)
      have hof : t.of d.k = stripeF d.k n := by unfold Tb.of; rw [hF.n]
      rw [hof] at e1 e3
      have HST := Lib.hid (fun W => refStripe_any hok.k hn W)
      have HLK := Lib.hid (fun (W : World) (hT : TOn w1 g bm 0 0 t W) => hT.mem_post (fun Fm hm => lock_any bm Fm t.m 1 (stripeF d.k n : Nat) W hm (hF.ok hn (by omega)).sm) (show Value.bool (t.m.lockOk 1 (stripeF d.k n : Nat)) = _ from rfl) e1)
      have HPU := Lib.hid (fun (W : World) (hT : TOn w1 g bm 0 0 t1 W) => hT.post (fun F hT => tbput_any hT ok1 hok.k 1 (j : Int) d.tu) (congrArg (Value.int .i64) hm0) e2)
      have HUL := Lib.hid (fun (W : World) (hT : TOn w1 g bm 0 0 t2 W) => hT.mem_post (fun Fm hm => unlock_any bm Fm t2.m 1 (stripeF d.k n : Nat) W hm ok2.sm) (show Value.int .i64 (t2.m.unlockE 1 (stripeF d.k n : Nat)) = _ from rfl) e3)
      have HFN := Lib.hid hF3
      have HL1 := Lib.hid hl1
      clear hd hd1 hok hF hT e1 e2 e3 hm0 ok1 ok2 hF3 hof
      generalize stripeF d.k n = sf at *
      generalize t.m.lockOk 1 (sf : Nat) = lk at *
      generalize t2.m.unlockE 1 (sf : Nat) = ul at *
      go_wp2_with fail
      refine (HST.out _).mono ?_
      rintro e w4 ⟨rfl, hb4⟩
      have H4 := Lib.hid (HT.out.step hb4).1
      clear hb4 c3 c4 c5 c6 c7 c8
      go_wp2_with fail
      refine (HLK.out _ H4.out).mono ?_
      rintro e w5 ⟨rfl, h5, -⟩
      have H5 := Lib.hid h5
      clear h5
      go_wp2_with fail
      have HS0 : Hid (TOn w1 g bm 0 0 t1 w5.drew) := Lib.hid (H5.out.step (Below.drew (Below.refl w5.heap.size w5))).1
      refine WH.enter (Since w1) (by kernel_rfl) 13 rfl ?_
      refine WH.take 0 (some 49) rfl rfl (by kernel_rfl) (by kernel_rfl) (by kernel_rfl) (fun _ _ _ h => h) (by rfl) (fun v hv => by have k3 := Since.cell hv z3; have k4 := Since.cell hv z4; have k5 := Since.cell hv z5; have k6 := Since.cell hv z6; have k7 := Since.cell hv z7; have k8 := Since.cell hv z8; go_simp; first | done | with_reducible rfl | (rw [if_neg (by omega)])) HS0.out.below ?_; simp only [Act.put, List.setIfInBounds_toArray, List.set_cons_zero, List.set_cons_succ]
      refine WH.take 1 (some 50) rfl rfl (by kernel_rfl) (by kernel_rfl) (by kernel_rfl) (fun _ _ _ h => h) (by rfl) (fun v hv => by have k3 := Since.cell hv z3; have k4 := Since.cell hv z4; have k5 := Since.cell hv z5; have k6 := Since.cell hv z6; have k7 := Since.cell hv z7; have k8 := Since.cell hv z8; go_simp; first | done | with_reducible rfl | (rw [if_neg (by omega)])) HS0.out.below ?_; simp only [Act.put, List.setIfInBounds_toArray, List.set_cons_zero, List.set_cons_succ]
      refine WH.take 2 (some 51) rfl rfl (by kernel_rfl) (by kernel_rfl) (by kernel_rfl) (fun _ _ _ h => h) (by rfl) (fun v hv => by have k3 := Since.cell hv z3; have k4 := Since.cell hv z4; have k5 := Since.cell hv z5; have k6 := Since.cell hv z6; have k7 := Since.cell hv z7; have k8 := Since.cell hv z8; go_simp; first | done | with_reducible rfl | (rw [if_neg (by omega)])) HS0.out.below ?_; simp only [Act.put, List.setIfInBounds_toArray, List.set_cons_zero, List.set_cons_succ]
      refine WH.take 3 (some 52) rfl rfl (by kernel_rfl) (by kernel_rfl) (by kernel_rfl) (fun _ _ _ h => h) (by rfl) (fun v hv => exec_dtAt (.tmp 50) (.tmp 51) rfl rfl rfl HL1.out) HS0.out.below ?_; simp only [Act.put, List.setIfInBounds_toArray, List.set_cons_zero, List.set_cons_succ]
      refine WH.take 4 (some 53) rfl rfl (by kernel_rfl) (by kernel_rfl) (by kernel_rfl) (fun _ _ _ h => h) (by rfl) (fun v hv => by have k3 := Since.cell hv z3; have k4 := Since.cell hv z4; have k5 := Since.cell hv z5; have k6 := Since.cell hv z6; have k7 := Since.cell hv z7; have k8 := Since.cell hv z8; go_simp; first | done | with_reducible rfl | (rw [if_neg (by omega)])) HS0.out.below ?_; simp only [Act.put, List.setIfInBounds_toArray, List.set_cons_zero, List.set_cons_succ]
      refine WH.take 5 (some 54) rfl rfl (by kernel_rfl) (by kernel_rfl) (by kernel_rfl) (fun _ _ _ h => h) (by rfl) (fun v hv => by have k3 := Since.cell hv z3; have k4 := Since.cell hv z4; have k5 := Since.cell hv z5; have k6 := Since.cell hv z6; have k7 := Since.cell hv z7; have k8 := Since.cell hv z8; go_simp; first | done | with_reducible rfl | (rw [if_neg (by omega)])) HS0.out.below ?_; simp only [Act.put, List.setIfInBounds_toArray, List.set_cons_zero, List.set_cons_succ]
      refine WH.take 6 (some 55) rfl rfl (by kernel_rfl) (by kernel_rfl) (by kernel_rfl) (fun _ _ _ h => h) (by rfl) (fun v hv => by have k3 := Since.cell hv z3; have k4 := Since.cell hv z4; have k5 := Since.cell hv z5; have k6 := Since.cell hv z6; have k7 := Since.cell hv z7; have k8 := Since.cell hv z8; go_simp; first | done | with_reducible rfl | (rw [if_neg (by omega)])) HS0.out.below ?_; simp only [Act.put, List.setIfInBounds_toArray, List.set_cons_zero, List.set_cons_succ]
      refine WH.take 7 (some 56) rfl rfl (by kernel_rfl) (by kernel_rfl) (by kernel_rfl) (fun _ _ _ h => h) (by rfl) (fun v hv => by have k3 := Since.cell hv z3; have k4 := Since.cell hv z4; have k5 := Since.cell hv z5; have k6 := Since.cell hv z6; have k7 := Since.cell hv z7; have k8 := Since.cell hv z8; go_simp; first | done | with_reducible rfl | (rw [if_neg (by omega)])) HS0.out.below ?_; simp only [Act.put, List.setIfInBounds_toArray, List.set_cons_zero, List.set_cons_succ]
      refine WH.take 8 (some 57) rfl rfl (by kernel_rfl) (by kernel_rfl) (by kernel_rfl) (fun _ _ _ h => h) (by rfl) (fun v hv => by have k3 := Since.cell hv z3; have k4 := Since.cell hv z4; have k5 := Since.cell hv z5; have k6 := Since.cell hv z6; have k7 := Since.cell hv z7; have k8 := Since.cell hv z8; go_simp; first | done | with_reducible rfl | (rw [if_neg (by omega)])) HS0.out.below ?_; simp only [Act.put, List.setIfInBounds_toArray, List.set_cons_zero, List.set_cons_succ]
      refine WH.take 9 (some 58) rfl rfl (by kernel_rfl) (by kernel_rfl) (by kernel_rfl) (fun _ _ _ h => h) (by rfl) (fun v hv => exec_dtAt (.tmp 56) (.tmp 57) rfl rfl rfl HL1.out) HS0.out.below ?_; simp only [Act.put, List.setIfInBounds_toArray, List.set_cons_zero, List.set_cons_succ]
      refine WH.take 10 (some 59) rfl rfl (by kernel_rfl) (by kernel_rfl) (by kernel_rfl) (fun _ _ _ h => h) (by rfl) (fun v hv => by have k3 := Since.cell hv z3; have k4 := Since.cell hv z4; have k5 := Since.cell hv z5; have k6 := Since.cell hv z6; have k7 := Since.cell hv z7; have k8 := Since.cell hv z8; go_simp; first | done | with_reducible rfl | (rw [if_neg (by omega)])) HS0.out.below ?_; simp only [Act.put, List.setIfInBounds_toArray, List.set_cons_zero, List.set_cons_succ]
      refine WH.take 11 (some 60) rfl rfl (by kernel_rfl) (by kernel_rfl) (by kernel_rfl) (fun _ _ _ h => h) (by rfl) (fun v hv => by have k3 := Since.cell hv z3; have k4 := Since.cell hv z4; have k5 := Since.cell hv z5; have k6 := Since.cell hv z6; have k7 := Since.cell hv z7; have k8 := Since.cell hv z8; go_simp; first | done | with_reducible rfl | (rw [if_neg (by omega)])) HS0.out.below ?_; simp only [Act.put, List.setIfInBounds_toArray, List.set_cons_zero, List.set_cons_succ]
      refine WH.one 12 (by kernel_rfl) rfl (by rfl) ?_
      go_wp2_with fail
      refine (HPU.out _ HS0.out).mono ?_
      rintro e w6 ⟨rfl, h6, -⟩
      have H6 := Lib.hid h6
      clear h6
      go_wp2_with fail
      refine ⟨H6.out.below, ?_⟩
      refine WH.done (by kernel_rfl) ?_
      clear z3 z4 z5 z6 z7 z8 HS0
      go_wp2_with fail
      refine (HUL.out _ H6.out).mono ?_
      rintro e w7 ⟨rfl, h7, -⟩
      have H7 := Lib.hid h7
      clear h7
      go_wp2_with fail
      go_roundw
      case rel => exact ⟨j + 1, t3, by omega, by omega, by push_cast; rfl, HFN.out, H7.out⟩
      case measure => simp [intOf]; omega
    · have HSM : Hid (t.may x.thread (t.of x.k : Nat) = 13 ∧ t.find x.thread x.k = t ∧ t.findR x.thread x.k = .tuple #[.int .i64 0, .bool false, .bool false, .int .i64 13] ∧ t.put x.thread x.k 9 true = t ∧ t.remove x.thread x.k = t ∧ t.removeE x.thread x.k = 13) := Lib.hid ⟨hF.of_may hn _ _, hF.same hn x.thread x.k 9 true⟩
      have hmn := hF.may_ne x.thread x.at_
      have HOK := Lib.hid (hF.ok hn (by omega))
      have hkr : t.keysR x.thread x.at_ = [] ∧ t.keysT x.thread x.at_ = t := by unfold Tb.keysR Tb.keysT; exact ⟨if_neg hmn, if_neg hmn⟩
      have HKR := Lib.hid hkr
      obtain ⟨r, hr⟩ : ∃ r, t.may x.thread x.at_ = r := ⟨_, rfl⟩
      have HRR := Lib.hid hr
      have hr0 : (r == 0) = false := by rw [← hr]; simpa using hmn
      obtain ⟨lg, hlg⟩ : ∃ lg, t.m.Lg.length = lg := ⟨_, rfl⟩
      have HLG := Lib.hid hlg
      have hlb : lg ≤ 200 := by rw [← hlg]; have := hF.Lg; omega
      have hkl : (keysL t.fl).length ≤ 100 := by have := hF.few; simp only [keysL, List.length_map]; omega
      have HKL := Lib.hid hkl
      have HKI := Lib.hid hF.kin
      have q9 : (lg : Int) == lg := by simp
      clear hF hT hkr hr hmn hlg hkl
      by_cases hcl : j < len
      · have hc40 : ¬ j < 40 := fun h => hc ⟨hcl, h⟩
        go_wp2_with fail
        refine (HT.out.all HOK.out).mono ?_
        rintro e w2 ⟨v2, rfl, hk2, -, -, -, h2⟩
        obtain ⟨a2, c2, rfl⟩ := hk2.shape
        have KI2 := Lib.hid (KeysIn.of_at hk2)
        have H2 := Lib.hid h2
        clear hk2 h2
        go_wp2_with fail
        refine (H2.out.log HOK.out.sm HLG.out).mono ?_
        rintro e w3 ⟨a3, c3, rfl, h3, q3, -⟩
        have H3 := Lib.hid h3
        have KI3 := Lib.hid (q3 _ _ KI2.out)
        clear h3 q3
        have y1 := H3.out.cell x1
        have y2 := H3.out.cell x2
        have y3 := H3.out.cell x3
        have y4 := H3.out.cell x4
        have y5 := H3.out.cell x5
        have y6 := H3.out.cell x6
        have y7 := H3.out.cell x7
        have y8 := H3.out.cell x8
        go_wp2_with fail
        refine (H3.out.post (fun F hT => tbfind_any hT HOK.out HX.out.k x.thread) HSM.out.2.2.1 HSM.out.2.1).mono ?_
        rintro e w4 ⟨rfl, h4, q4⟩
        have H4 := Lib.hid h4
        have KI4 := Lib.hid (q4 _ _ KI3.out)
        clear h4 q4 y1 y2 y3 y4 y5 y6 y7 y8
        have y1 := H4.out.cell x1
        have y2 := H4.out.cell x2
        have y3 := H4.out.cell x3
        have y4 := H4.out.cell x4
        have y5 := H4.out.cell x5
        have y6 := H4.out.cell x6
        have y7 := H4.out.cell x7
        have y8 := H4.out.cell x8
        go_wp2_with fail
        refine (H4.out.keys HOK.out x.thread x.at_ HRR.out HKR.out.1 HKR.out.2).mono ?_
        rintro e w5 ⟨v5, rfl, hk5, h5, q5⟩
        obtain ⟨a5, c5, rfl⟩ := hk5.shape
        have H5 := Lib.hid h5
        have KI5 := Lib.hid (q5 _ _ KI4.out)
        clear h5 q5 hk5 y1 y2 y3 y4 y5 y6 y7 y8
        go_wp2_with fail
        have HS0 : Hid (TOn w1 g bm _ _ t w5.drew) := Lib.hid (H5.out.step (Below.drew (Below.refl w5.heap.size w5))).1
        have KI6 := Lib.hid ((H5.out.step (Below.drew (Below.refl w5.heap.size w5))).2 _ _ KI5.out)
        refine WH.enter (Since w1) (by kernel_rfl) 14 rfl ?_
        refine WH.take 0 (some 90) rfl rfl (by kernel_rfl) (by kernel_rfl) (by kernel_rfl) (fun _ _ _ h => h) (by rfl) (fun v hv => by have k0 := Since.cell hv x0; have k1 := Since.cell hv x1; have k2 := Since.cell hv x2; have k3 := Since.cell hv x3; have k4 := Since.cell hv x4; have k5 := Since.cell hv x5; have k6 := Since.cell hv x6; have k7 := Since.cell hv x7; have k8 := Since.cell hv x8; go_simp; first | done | with_reducible rfl | (rw [if_neg (by omega)])) HS0.out.below ?_; simp only [Act.put, List.setIfInBounds_toArray, List.set_cons_zero, List.set_cons_succ]
        refine WH.take 1 (some 91) rfl rfl (by kernel_rfl) (by kernel_rfl) (by kernel_rfl) (fun _ _ _ h => h) (by rfl) (fun v hv => by have k0 := Since.cell hv x0; have k1 := Since.cell hv x1; have k2 := Since.cell hv x2; have k3 := Since.cell hv x3; have k4 := Since.cell hv x4; have k5 := Since.cell hv x5; have k6 := Since.cell hv x6; have k7 := Since.cell hv x7; have k8 := Since.cell hv x8; go_simp; first | done | with_reducible rfl | (rw [if_neg (by omega)])) HS0.out.below ?_; simp only [Act.put, List.setIfInBounds_toArray, List.set_cons_zero, List.set_cons_succ]
        refine WH.take 2 (some 92) rfl rfl (by kernel_rfl) (by kernel_rfl) (by kernel_rfl) (fun _ _ _ h => h) (by rfl) (fun v hv => by have k0 := Since.cell hv x0; have k1 := Since.cell hv x1; have k2 := Since.cell hv x2; have k3 := Since.cell hv x3; have k4 := Since.cell hv x4; have k5 := Since.cell hv x5; have k6 := Since.cell hv x6; have k7 := Since.cell hv x7; have k8 := Since.cell hv x8; go_simp; first | done | with_reducible rfl | (rw [if_neg (by omega)])) HS0.out.below ?_; simp only [Act.put, List.setIfInBounds_toArray, List.set_cons_zero, List.set_cons_succ]
        refine WH.take 3 (some 93) rfl rfl (by kernel_rfl) (by kernel_rfl) (by kernel_rfl) (fun _ _ _ h => h) (by rfl) (fun v hv => by have k0 := Since.cell hv x0; have k1 := Since.cell hv x1; have k2 := Since.cell hv x2; have k3 := Since.cell hv x3; have k4 := Since.cell hv x4; have k5 := Since.cell hv x5; have k6 := Since.cell hv x6; have k7 := Since.cell hv x7; have k8 := Since.cell hv x8; go_simp; first | done | with_reducible rfl | (rw [if_neg (by omega)])) HS0.out.below ?_; simp only [Act.put, List.setIfInBounds_toArray, List.set_cons_zero, List.set_cons_succ]
        refine WH.take 4 (some 94) rfl rfl (by kernel_rfl) (by kernel_rfl) (by kernel_rfl) (fun _ _ _ h => h) (by rfl) (fun v hv => by have k0 := Since.cell hv x0; have k1 := Since.cell hv x1; have k2 := Since.cell hv x2; have k3 := Since.cell hv x3; have k4 := Since.cell hv x4; have k5 := Since.cell hv x5; have k6 := Since.cell hv x6; have k7 := Since.cell hv x7; have k8 := Since.cell hv x8; go_simp; first | done | with_reducible rfl | (rw [if_neg (by omega)])) HS0.out.below ?_; simp only [Act.put, List.setIfInBounds_toArray, List.set_cons_zero, List.set_cons_succ]
        refine WH.take 6 (some 96) rfl rfl (by kernel_rfl) (by kernel_rfl) (by kernel_rfl) (fun _ _ _ h => h) (by rfl) (fun v hv => by have k0 := Since.cell hv x0; have k1 := Since.cell hv x1; have k2 := Since.cell hv x2; have k3 := Since.cell hv x3; have k4 := Since.cell hv x4; have k5 := Since.cell hv x5; have k6 := Since.cell hv x6; have k7 := Since.cell hv x7; have k8 := Since.cell hv x8; go_simp; first | done | with_reducible rfl | (rw [if_neg (by omega)])) HS0.out.below ?_; simp only [Act.put, List.setIfInBounds_toArray, List.set_cons_zero, List.set_cons_succ]
        refine WH.take 7 (some 97) rfl rfl (by kernel_rfl) (by kernel_rfl) (by kernel_rfl) (fun _ _ _ h => h) (by rfl) (fun v hv => by have k0 := Since.cell hv x0; have k1 := Since.cell hv x1; have k2 := Since.cell hv x2; have k3 := Since.cell hv x3; have k4 := Since.cell hv x4; have k5 := Since.cell hv x5; have k6 := Since.cell hv x6; have k7 := Since.cell hv x7; have k8 := Since.cell hv x8; go_simp; first | done | with_reducible rfl | (rw [if_neg (by omega)])) HS0.out.below ?_; simp only [Act.put, List.setIfInBounds_toArray, List.set_cons_zero, List.set_cons_succ]
        refine WH.take 8 (some 98) rfl rfl (by kernel_rfl) (by kernel_rfl) (by kernel_rfl) (fun _ _ _ h => h) (by rfl) (fun v hv => by have k0 := Since.cell hv x0; have k1 := Since.cell hv x1; have k2 := Since.cell hv x2; have k3 := Since.cell hv x3; have k4 := Since.cell hv x4; have k5 := Since.cell hv x5; have k6 := Since.cell hv x6; have k7 := Since.cell hv x7; have k8 := Since.cell hv x8; go_simp; first | done | with_reducible rfl | (rw [if_neg (by omega)])) HS0.out.below ?_; simp only [Act.put, List.setIfInBounds_toArray, List.set_cons_zero, List.set_cons_succ]
        refine WH.take 9 (some 99) rfl rfl (by kernel_rfl) (by kernel_rfl) (by kernel_rfl) (fun _ _ _ h => h) (by rfl) (fun v hv => by have k0 := Since.cell hv x0; have k1 := Since.cell hv x1; have k2 := Since.cell hv x2; have k3 := Since.cell hv x3; have k4 := Since.cell hv x4; have k5 := Since.cell hv x5; have k6 := Since.cell hv x6; have k7 := Since.cell hv x7; have k8 := Since.cell hv x8; go_simp; first | done | with_reducible rfl | (rw [if_neg (by omega)])) HS0.out.below ?_; simp only [Act.put, List.setIfInBounds_toArray, List.set_cons_zero, List.set_cons_succ]
        refine WH.take 10 (some 100) rfl rfl (by kernel_rfl) (by kernel_rfl) (by kernel_rfl) (fun _ _ _ h => h) (by rfl) (fun v hv => by have k0 := Since.cell hv x0; have k1 := Since.cell hv x1; have k2 := Since.cell hv x2; have k3 := Since.cell hv x3; have k4 := Since.cell hv x4; have k5 := Since.cell hv x5; have k6 := Since.cell hv x6; have k7 := Since.cell hv x7; have k8 := Since.cell hv x8; go_simp; first | done | with_reducible rfl | (rw [if_neg (by omega)])) HS0.out.below ?_; simp only [Act.put, List.setIfInBounds_toArray, List.set_cons_zero, List.set_cons_succ]
        refine WH.one 5 (by kernel_rfl) rfl (by rfl) ?_
        go_wp2_with fail
        refine (HS0.out.post (fun F hT => tbput_any hT HOK.out HX.out.k x.thread 9 true) (congrArg (Value.int .i64) HSM.out.1) HSM.out.2.2.2.1).mono ?_
        rintro e w6 ⟨rfl, h6, q6⟩
        have H6 := Lib.hid h6
        have KI7 := Lib.hid (q6 _ _ KI6.out)
        clear h6 q6
        go_wp2_with fail
        refine ⟨H6.out.below, ?_⟩
        refine WH.one 11 (by kernel_rfl) rfl (by rfl) ?_
        go_wp2_with fail
        refine (H6.out.post (fun F hT => tbremove_any hT HOK.out HX.out.k x.thread) (congrArg (Value.int .i64) HSM.out.2.2.2.2.2) HSM.out.2.2.2.2.1).mono ?_
        rintro e w7 ⟨rfl, h7, q7⟩
        have H7 := Lib.hid h7
        have KI8 := Lib.hid (q7 _ _ KI7.out)
        clear h7 q7
        go_wp2_with fail
        refine ⟨H7.out.below, ?_⟩
        refine WH.take 12 (some 20) rfl rfl (by kernel_rfl) (by kernel_rfl) (by kernel_rfl) (fun _ _ _ h => h) (by rfl) (fun v hv => by have k0 := Since.cell hv x0; have k1 := Since.cell hv x1; have k2 := Since.cell hv x2; have k3 := Since.cell hv x3; have k4 := Since.cell hv x4; have k5 := Since.cell hv x5; have k6 := Since.cell hv x6; have k7 := Since.cell hv x7; have k8 := Since.cell hv x8; go_simp; first | done | with_reducible rfl | (rw [if_neg (by omega)])) H7.out.below ?_; simp only [Act.put, List.setIfInBounds_toArray, List.set_cons_zero, List.set_cons_succ]
        refine WH.take 13 (some 21) rfl rfl (by kernel_rfl) (by kernel_rfl) (by kernel_rfl) (fun _ _ _ h => h) (by rfl) (fun v hv => by have k0 := Since.cell hv x0; have k1 := Since.cell hv x1; have k2 := Since.cell hv x2; have k3 := Since.cell hv x3; have k4 := Since.cell hv x4; have k5 := Since.cell hv x5; have k6 := Since.cell hv x6; have k7 := Since.cell hv x7; have k8 := Since.cell hv x8; go_simp; first | done | with_reducible rfl | (rw [if_neg (by omega)])) H7.out.below ?_; simp only [Act.put, List.setIfInBounds_toArray, List.set_cons_zero, List.set_cons_succ]
        refine WH.done (by kernel_rfl) ?_
        go_wp2_with fail
        refine (awake20_any _).mono ?_
        rintro e w8 ⟨rfl, hb8⟩
        have H8 := Lib.hid (H7.out.step hb8).1
        have KI9 := Lib.hid ((H7.out.step hb8).2 _ _ KI8.out)
        clear hb8
        go_wp2_with fail
        refine (H8.out.all HOK.out).mono ?_
        rintro e w9 ⟨v9, rfl, hk9, h9, q9', -, -⟩
        obtain ⟨a9, c9, rfl⟩ := hk9.shape
        have H9 := Lib.hid h9
        have KI10 := Lib.hid (q9' _ _ KI9.out)
        have KA9 := Lib.hid hk9
        clear h9 q9' hk9
        have HSA := Lib.hid (sameKeys_any KA9.out KI10.out.1 (by have := HKL.out; omega) HKI.out)
        go_wp2_with fail
        refine HSA.out.mono ?_
        rintro e w10 ⟨rfl, hb10⟩
        have H10 := Lib.hid (H9.out.step hb10).1
        clear hb10
        go_wp2_with fail
        refine (H10.out.log HOK.out.sm HLG.out).mono ?_
        rintro e w11 ⟨a11, c11, rfl, h11, -, -⟩
        have H11 := Lib.hid h11
        clear h11
        go_wp2_with fail
        go_ret
        exact ⟨rfl, HB1.out.trans (Below.mono H11.out.below HB1.out.size)⟩
      · skip
        go_wp2_with fail
        refine (HT.out.all HOK.out).mono ?_
        rintro e w2 ⟨v2, rfl, hk2, -, -, -, h2⟩
        obtain ⟨a2, c2, rfl⟩ := hk2.shape
        have KI2 := Lib.hid (KeysIn.of_at hk2)
        have H2 := Lib.hid h2
        clear hk2 h2
        go_wp2_with fail
        refine (H2.out.log HOK.out.sm HLG.out).mono ?_
        rintro e w3 ⟨a3, c3, rfl, h3, q3, -⟩
        have H3 := Lib.hid h3
        have KI3 := Lib.hid (q3 _ _ KI2.out)
        clear h3 q3
        have y1 := H3.out.cell x1
        have y2 := H3.out.cell x2
        have y3 := H3.out.cell x3
        have y4 := H3.out.cell x4
        have y5 := H3.out.cell x5
        have y6 := H3.out.cell x6
        have y7 := H3.out.cell x7
        have y8 := H3.out.cell x8
        go_wp2_with fail
        refine (H3.out.post (fun F hT => tbfind_any hT HOK.out HX.out.k x.thread) HSM.out.2.2.1 HSM.out.2.1).mono ?_
        rintro e w4 ⟨rfl, h4, q4⟩
        have H4 := Lib.hid h4
        have KI4 := Lib.hid (q4 _ _ KI3.out)
        clear h4 q4 y1 y2 y3 y4 y5 y6 y7 y8
        have y1 := H4.out.cell x1
        have y2 := H4.out.cell x2
        have y3 := H4.out.cell x3
        have y4 := H4.out.cell x4
        have y5 := H4.out.cell x5
        have y6 := H4.out.cell x6
        have y7 := H4.out.cell x7
        have y8 := H4.out.cell x8
        go_wp2_with fail
        refine (H4.out.keys HOK.out x.thread x.at_ HRR.out HKR.out.1 HKR.out.2).mono ?_
        rintro e w5 ⟨v5, rfl, hk5, h5, q5⟩
        obtain ⟨a5, c5, rfl⟩ := hk5.shape
        have H5 := Lib.hid h5
        have KI5 := Lib.hid (q5 _ _ KI4.out)
        clear h5 q5 hk5 y1 y2 y3 y4 y5 y6 y7 y8
        go_wp2_with fail
        have HS0 : Hid (TOn w1 g bm _ _ t w5.drew) := Lib.hid (H5.out.step (Below.drew (Below.refl w5.heap.size w5))).1
        have KI6 := Lib.hid ((H5.out.step (Below.drew (Below.refl w5.heap.size w5))).2 _ _ KI5.out)
        refine WH.enter (Since w1) (by kernel_rfl) 14 rfl ?_
        refine WH.take 0 (some 90) rfl rfl (by kernel_rfl) (by kernel_rfl) (by kernel_rfl) (fun _ _ _ h => h) (by rfl) (fun v hv => by have k0 := Since.cell hv x0; have k1 := Since.cell hv x1; have k2 := Since.cell hv x2; have k3 := Since.cell hv x3; have k4 := Since.cell hv x4; have k5 := Since.cell hv x5; have k6 := Since.cell hv x6; have k7 := Since.cell hv x7; have k8 := Since.cell hv x8; go_simp; first | done | with_reducible rfl | (rw [if_neg (by omega)])) HS0.out.below ?_; simp only [Act.put, List.setIfInBounds_toArray, List.set_cons_zero, List.set_cons_succ]
        refine WH.take 1 (some 91) rfl rfl (by kernel_rfl) (by kernel_rfl) (by kernel_rfl) (fun _ _ _ h => h) (by rfl) (fun v hv => by have k0 := Since.cell hv x0; have k1 := Since.cell hv x1; have k2 := Since.cell hv x2; have k3 := Since.cell hv x3; have k4 := Since.cell hv x4; have k5 := Since.cell hv x5; have k6 := Since.cell hv x6; have k7 := Since.cell hv x7; have k8 := Since.cell hv x8; go_simp; first | done | with_reducible rfl | (rw [if_neg (by omega)])) HS0.out.below ?_; simp only [Act.put, List.setIfInBounds_toArray, List.set_cons_zero, List.set_cons_succ]
        refine WH.take 2 (some 92) rfl rfl (by kernel_rfl) (by kernel_rfl) (by kernel_rfl) (fun _ _ _ h => h) (by rfl) (fun v hv => by have k0 := Since.cell hv x0; have k1 := Since.cell hv x1; have k2 := Since.cell hv x2; have k3 := Since.cell hv x3; have k4 := Since.cell hv x4; have k5 := Since.cell hv x5; have k6 := Since.cell hv x6; have k7 := Since.cell hv x7; have k8 := Since.cell hv x8; go_simp; first | done | with_reducible rfl | (rw [if_neg (by omega)])) HS0.out.below ?_; simp only [Act.put, List.setIfInBounds_toArray, List.set_cons_zero, List.set_cons_succ]
        refine WH.take 3 (some 93) rfl rfl (by kernel_rfl) (by kernel_rfl) (by kernel_rfl) (fun _ _ _ h => h) (by rfl) (fun v hv => by have k0 := Since.cell hv x0; have k1 := Since.cell hv x1; have k2 := Since.cell hv x2; have k3 := Since.cell hv x3; have k4 := Since.cell hv x4; have k5 := Since.cell hv x5; have k6 := Since.cell hv x6; have k7 := Since.cell hv x7; have k8 := Since.cell hv x8; go_simp; first | done | with_reducible rfl | (rw [if_neg (by omega)])) HS0.out.below ?_; simp only [Act.put, List.setIfInBounds_toArray, List.set_cons_zero, List.set_cons_succ]
        refine WH.take 4 (some 94) rfl rfl (by kernel_rfl) (by kernel_rfl) (by kernel_rfl) (fun _ _ _ h => h) (by rfl) (fun v hv => by have k0 := Since.cell hv x0; have k1 := Since.cell hv x1; have k2 := Since.cell hv x2; have k3 := Since.cell hv x3; have k4 := Since.cell hv x4; have k5 := Since.cell hv x5; have k6 := Since.cell hv x6; have k7 := Since.cell hv x7; have k8 := Since.cell hv x8; go_simp; first | done | with_reducible rfl | (rw [if_neg (by omega)])) HS0.out.below ?_; simp only [Act.put, List.setIfInBounds_toArray, List.set_cons_zero, List.set_cons_succ]
        refine WH.take 6 (some 96) rfl rfl (by kernel_rfl) (by kernel_rfl) (by kernel_rfl) (fun _ _ _ h => h) (by rfl) (fun v hv => by have k0 := Since.cell hv x0; have k1 := Since.cell hv x1; have k2 := Since.cell hv x2; have k3 := Since.cell hv x3; have k4 := Since.cell hv x4; have k5 := Since.cell hv x5; have k6 := Since.cell hv x6; have k7 := Since.cell hv x7; have k8 := Since.cell hv x8; go_simp; first | done | with_reducible rfl | (rw [if_neg (by omega)])) HS0.out.below ?_; simp only [Act.put, List.setIfInBounds_toArray, List.set_cons_zero, List.set_cons_succ]
        refine WH.take 7 (some 97) rfl rfl (by kernel_rfl) (by kernel_rfl) (by kernel_rfl) (fun _ _ _ h => h) (by rfl) (fun v hv => by have k0 := Since.cell hv x0; have k1 := Since.cell hv x1; have k2 := Since.cell hv x2; have k3 := Since.cell hv x3; have k4 := Since.cell hv x4; have k5 := Since.cell hv x5; have k6 := Since.cell hv x6; have k7 := Since.cell hv x7; have k8 := Since.cell hv x8; go_simp; first | done | with_reducible rfl | (rw [if_neg (by omega)])) HS0.out.below ?_; simp only [Act.put, List.setIfInBounds_toArray, List.set_cons_zero, List.set_cons_succ]
        refine WH.take 8 (some 98) rfl rfl (by kernel_rfl) (by kernel_rfl) (by kernel_rfl) (fun _ _ _ h => h) (by rfl) (fun v hv => by have k0 := Since.cell hv x0; have k1 := Since.cell hv x1; have k2 := Since.cell hv x2; have k3 := Since.cell hv x3; have k4 := Since.cell hv x4; have k5 := Since.cell hv x5; have k6 := Since.cell hv x6; have k7 := Since.cell hv x7; have k8 := Since.cell hv x8; go_simp; first | done | with_reducible rfl | (rw [if_neg (by omega)])) HS0.out.below ?_; simp only [Act.put, List.setIfInBounds_toArray, List.set_cons_zero, List.set_cons_succ]
        refine WH.take 9 (some 99) rfl rfl (by kernel_rfl) (by kernel_rfl) (by kernel_rfl) (fun _ _ _ h => h) (by rfl) (fun v hv => by have k0 := Since.cell hv x0; have k1 := Since.cell hv x1; have k2 := Since.cell hv x2; have k3 := Since.cell hv x3; have k4 := Since.cell hv x4; have k5 := Since.cell hv x5; have k6 := Since.cell hv x6; have k7 := Since.cell hv x7; have k8 := Since.cell hv x8; go_simp; first | done | with_reducible rfl | (rw [if_neg (by omega)])) HS0.out.below ?_; simp only [Act.put, List.setIfInBounds_toArray, List.set_cons_zero, List.set_cons_succ]
        refine WH.take 10 (some 100) rfl rfl (by kernel_rfl) (by kernel_rfl) (by kernel_rfl) (fun _ _ _ h => h) (by rfl) (fun v hv => by have k0 := Since.cell hv x0; have k1 := Since.cell hv x1; have k2 := Since.cell hv x2; have k3 := Since.cell hv x3; have k4 := Since.cell hv x4; have k5 := Since.cell hv x5; have k6 := Since.cell hv x6; have k7 := Since.cell hv x7; have k8 := Since.cell hv x8; go_simp; first | done | with_reducible rfl | (rw [if_neg (by omega)])) HS0.out.below ?_; simp only [Act.put, List.setIfInBounds_toArray, List.set_cons_zero, List.set_cons_succ]
        refine WH.one 5 (by kernel_rfl) rfl (by rfl) ?_
        go_wp2_with fail
        refine (HS0.out.post (fun F hT => tbput_any hT HOK.out HX.out.k x.thread 9 true) (congrArg (Value.int .i64) HSM.out.1) HSM.out.2.2.2.1).mono ?_
        rintro e w6 ⟨rfl, h6, q6⟩
        have H6 := Lib.hid h6
        have KI7 := Lib.hid (q6 _ _ KI6.out)
        clear h6 q6
        go_wp2_with fail
        refine ⟨H6.out.below, ?_⟩
        refine WH.one 11 (by kernel_rfl) rfl (by rfl) ?_
        go_wp2_with fail
        refine (H6.out.post (fun F hT => tbremove_any hT HOK.out HX.out.k x.thread) (congrArg (Value.int .i64) HSM.out.2.2.2.2.2) HSM.out.2.2.2.2.1).mono ?_
        rintro e w7 ⟨rfl, h7, q7⟩
        have H7 := Lib.hid h7
        have KI8 := Lib.hid (q7 _ _ KI7.out)
        clear h7 q7
        go_wp2_with fail
        refine ⟨H7.out.below, ?_⟩
        refine WH.take 12 (some 20) rfl rfl (by kernel_rfl) (by kernel_rfl) (by kernel_rfl) (fun _ _ _ h => h) (by rfl) (fun v hv => by have k0 := Since.cell hv x0; have k1 := Since.cell hv x1; have k2 := Since.cell hv x2; have k3 := Since.cell hv x3; have k4 := Since.cell hv x4; have k5 := Since.cell hv x5; have k6 := Since.cell hv x6; have k7 := Since.cell hv x7; have k8 := Since.cell hv x8; go_simp; first | done | with_reducible rfl | (rw [if_neg (by omega)])) H7.out.below ?_; simp only [Act.put, List.setIfInBounds_toArray, List.set_cons_zero, List.set_cons_succ]
        refine WH.take 13 (some 21) rfl rfl (by kernel_rfl) (by kernel_rfl) (by kernel_rfl) (fun _ _ _ h => h) (by rfl) (fun v hv => by have k0 := Since.cell hv x0; have k1 := Since.cell hv x1; have k2 := Since.cell hv x2; have k3 := Since.cell hv x3; have k4 := Since.cell hv x4; have k5 := Since.cell hv x5; have k6 := Since.cell hv x6; have k7 := Since.cell hv x7; have k8 := Since.cell hv x8; go_simp; first | done | with_reducible rfl | (rw [if_neg (by omega)])) H7.out.below ?_; simp only [Act.put, List.setIfInBounds_toArray, List.set_cons_zero, List.set_cons_succ]
        refine WH.done (by kernel_rfl) ?_
        go_wp2_with fail
        refine (awake20_any _).mono ?_
        rintro e w8 ⟨rfl, hb8⟩
        have H8 := Lib.hid (H7.out.step hb8).1
        have KI9 := Lib.hid ((H7.out.step hb8).2 _ _ KI8.out)
        clear hb8
        go_wp2_with fail
        refine (H8.out.all HOK.out).mono ?_
        rintro e w9 ⟨v9, rfl, hk9, h9, q9', -, -⟩
        obtain ⟨a9, c9, rfl⟩ := hk9.shape
        have H9 := Lib.hid h9
        have KI10 := Lib.hid (q9' _ _ KI9.out)
        have KA9 := Lib.hid hk9
        clear h9 q9' hk9
        have HSA := Lib.hid (sameKeys_any KA9.out KI10.out.1 (by have := HKL.out; omega) HKI.out)
        go_wp2_with fail
        refine HSA.out.mono ?_
        rintro e w10 ⟨rfl, hb10⟩
        have H10 := Lib.hid (H9.out.step hb10).1
        clear hb10
        go_wp2_with fail
        refine (H10.out.log HOK.out.sm HLG.out).mono ?_
        rintro e w11 ⟨a11, c11, rfl, h11, -, -⟩
        have H11 := Lib.hid h11
        clear h11
        go_wp2_with fail
        go_ret
        exact ⟨rfl, HB1.out.trans (Below.mono H11.out.below HB1.out.size)⟩
theorem tableHeld_row (st : Int) (a : Option Addr) (len cap : Nat) (x : Dt) (w : World) (hst : (Lit.int .u8 st).wf = true) (hz : RdDts w a len) (hx : DtOk x) :
    Calls Try.prog 5 #[.int .u8 st, .slice a len cap, .agg (dtC x).toArray] w fun e w' => e = .returned (.bool true) ∧ Below w.heap.size w w' := by
  obtain ⟨n, rfl, hn⟩ := wfn_u8 hst
  exact tableHeld_walk n a len cap x w (by omega) hz hx
end Go.Proofs.Ytahgapkecabnjaa
/- Plain law: a table whose stripes are all held by thread 1. -/
namespace Go.Proofs.Ytahgapkecabnjaa
set_option linter.unusedSimpArgs false
set_option linter.unusedVariables false
open Go Go.RowKit

def lockL (y : Nat) : List Int := (List.range 16).map fun i => if i < y then 1 else -1
theorem lockL_len (y : Nat) : (lockL y).length = 16 := by simp [lockL]
theorem lockL_get {y s : Nat} (h : s < 16) : (lockL y).getD s 0 = if s < y then 1 else -1 := by
  unfold lockL
  rw [List.getD_eq_getElem?_getD, List.getElem?_map, List.getElem?_range h]; rfl
theorem lockL_set {y : Nat} (h : y < 16) : (lockL y).set y 1 = lockL (y + 1) := by
  apply List.ext_getElem?
  intro i
  by_cases e : y = i
  · subst e
    rw [List.getElem?_set_self (by rw [lockL_len]; exact h)]
    unfold lockL
    rw [List.getElem?_map, List.getElem?_range h]
    simp
  · rw [List.getElem?_set_ne e]
    unfold lockL
    rw [List.getElem?_map, List.getElem?_map]
    by_cases hi : i < 16
    · rw [List.getElem?_range hi]
      simp only [Option.map_some]
      by_cases h1 : i < y
      · rw [if_pos h1, if_pos (by omega)]
      · rw [if_neg h1, if_neg (by omega)]
    · rw [List.getElem?_eq_none (by simp; omega)]
      rfl
theorem newM_lockL : newM 0 16 = ⟨[], lockL 0, []⟩ := by rfl
theorem lock_step {Lg : List Acc} {y : Nat} (h : y < 16) : M.lock ⟨[], lockL y, Lg⟩ 1 (y : Nat) = ⟨[], lockL (y + 1), Lg ++ [⟨1, 1, 3 * (y : Int) + 1⟩]⟩ := by
  rw [lock_free (lockL_len y) h (by rw [lockL_get h, if_neg (by omega)]), lockL_set h]
/-- All n stripes are held by thread 1. -/
structure HeldT (n B C : Nat) (t : Tb) : Prop where
  nn : t.n = n
  rise : Rises (keysL t.fl)
  kin : ∀ k ∈ keysL t.fl, k.In
  few : t.fl.length ≤ C
  W : t.m.W = []
  len : t.m.L.length = 16
  L : ∀ s, s < n → t.m.L.getD s 0 = 1
  Lg : t.m.Lg.length ≤ B
theorem HeldT.ok {n B C : Nat} {t : Tb} (h : HeldT n B C t) (hn : n ∈ pows) (hB : B ≤ 10000) (hC : C ≤ 10000) : t.Ok :=
  ⟨by rw [h.nn]; exact hn, h.rise, h.kin, by have := h.few; omega, ⟨by rw [h.W]; decide, by rw [h.len]; decide, by have := h.Lg; omega⟩⟩
theorem HeldT.may {n B C : Nat} {t : Tb} (h : HeldT n B C t) (h16 : n ≤ 16) {s : Nat} (hs : s < n) : t.may 1 (s : Nat) = 0 := by
  obtain ⟨⟨W, L, Lg⟩, tn, fl⟩ := t
  have h0 : W = [] := h.W
  subst h0
  exact may_held h.len (by omega) (by have := h.nn; simp only at this; omega) (h.L s hs)
theorem HeldT.of_lt {n B C : Nat} {t : Tb} (h : HeldT n B C t) (hn : n ∈ pows) (k : Ky) : t.of k < n := by
  have := stripeF_lt k (pows_pos hn).1
  unfold Tb.of
  rw [h.nn]; exact this
theorem touch_note (m : M) (kd : Int) {p : Nat} (h : p ≤ 16) : m.touch 1 kd (p : Nat) = m.note 1 kd (3 * (p : Int) + 2) := by
  unfold M.touch
  rw [if_pos (by omega)]
theorem HeldT.next {n B C C' : Nat} {t : Tb} (h : HeldT n B C t) (kd p : Int) {fl : Kl (Int × Bool)} (hr : Rises (keysL fl)) (hk : ∀ k ∈ keysL fl, k.In) (hf : fl.length ≤ C') : HeldT n (B + 1) C' ⟨t.m.note 1 kd p, t.n, fl⟩ :=
  ⟨h.nn, hr, hk, hf, h.W, h.len, h.L, by show (t.m.Lg ++ [_]).length ≤ _; have := h.Lg; simp; omega⟩
theorem HeldT.put {n B C : Nat} {t : Tb} (h : HeldT n B C t) (hn : n ∈ pows) (h16 : n ≤ 16) {k : Ky} (hk : k.In) (x : Int) (tu : Bool) :
    ∃ t2, t.put 1 k x tu = t2 ∧ HeldT n (B + 1) (C + 1) t2 ∧ t2.fl = putL t.fl k (x, tu) ∧ t.may 1 (t.of k : Nat) = 0 := by
  have hlt := h.of_lt hn k
  have hm := h.may h16 hlt
  refine ⟨⟨t.m.note 1 6 (3 * ((t.of k : Nat) : Int) + 2), t.n, putL t.fl k (x, tu)⟩, ?_, h.next _ _ (rises_put h.rise k _) (keysL_putL hk h.kin) (Nat.le_trans (length_putL t.fl k (x, tu) h.rise) (by have := h.few; omega)), rfl, hm⟩
  unfold Tb.put
  rw [hm, if_pos rfl, touch_note _ _ (by omega)]
theorem HeldT.find {n B C : Nat} {t : Tb} (h : HeldT n B C t) (hn : n ∈ pows) (h16 : n ≤ 16) (k : Ky) :
    ∃ t2, t.find 1 k = t2 ∧ HeldT n (B + 1) C t2 ∧ t2.fl = t.fl ∧ t.findR 1 k = .tuple #[.int .i64 (entT t.fl k).1, .bool (entT t.fl k).2, .bool (hasL t.fl k), .int .i64 0] := by
  have hlt := h.of_lt hn k
  have hm := h.may h16 hlt
  refine ⟨⟨t.m.note 1 5 (3 * ((t.of k : Nat) : Int) + 2), t.n, t.fl⟩, ?_, h.next _ _ h.rise h.kin h.few, rfl, ?_⟩
  · unfold Tb.find
    rw [hm, if_pos rfl, touch_note _ _ (by omega)]
  · unfold Tb.findR
    rw [hm, if_pos rfl]
theorem keysL_delL {l : Kl (Int × Bool)} {k : Ky} (h : ∀ y ∈ keysL l, y.In) : ∀ y ∈ keysL (delL l k), y.In := fun y hy => by
  rw [keysL_del] at hy
  exact h y (List.mem_filter.1 hy).1
theorem HeldT.remove {n B C : Nat} {t : Tb} (h : HeldT n B C t) (hn : n ∈ pows) (h16 : n ≤ 16) (k : Ky) :
    ∃ t2, t.remove 1 k = t2 ∧ HeldT n (B + 1) C t2 ∧ t2.fl = delL t.fl k ∧ t.removeE 1 k = if hasL t.fl k = true then 0 else 15 := by
  have hlt := h.of_lt hn k
  have hm := h.may h16 hlt
  refine ⟨⟨t.m.note 1 6 (3 * ((t.of k : Nat) : Int) + 2), t.n, delL t.fl k⟩, ?_, h.next _ _ (rises_del h.rise k) (keysL_delL h.kin) (Nat.le_trans (List.length_filter_le _ _) h.few), rfl, ?_⟩
  · unfold Tb.remove
    rw [hm, if_pos rfl, touch_note _ _ (by omega)]
  · unfold Tb.removeE
    rw [hm, if_pos rfl]
theorem HeldT.keys {n B C : Nat} {t : Tb} (h : HeldT n B C t) (h16 : n ≤ 16) {s : Nat} (hs : s < n) :
    ∃ t2, t.keysT 1 (s : Nat) = t2 ∧ HeldT n (B + 1) C t2 ∧ t2.fl = t.fl ∧ t.keysR 1 (s : Nat) = keysL (inS n s t.fl) ∧ t.may 1 (s : Nat) = 0 := by
  have hm := h.may h16 hs
  refine ⟨⟨t.m.note 1 5 (3 * (s : Int) + 2), t.n, t.fl⟩, ?_, h.next _ _ h.rise h.kin h.few, rfl, ?_, hm⟩
  · unfold Tb.keysT
    rw [hm, if_pos rfl, touch_note _ _ (by omega)]
  · unfold Tb.keysR
    rw [hm, if_pos rfl, h.nn, Int.toNat_natCast]
/-- The number of flows in the first y stripes. -/
def sumS (n : Nat) (l : Kl (Int × Bool)) (y : Nat) : Nat := (l.filter fun p => decide (stripeF p.1 n < y)).length
theorem sumS_zero (n : Nat) (l : Kl (Int × Bool)) : sumS n l 0 = 0 := by
  unfold sumS
  rw [List.filter_eq_nil_iff.2 (fun p _ => by simp)]; rfl
theorem sumS_step (n : Nat) (l : Kl (Int × Bool)) (y : Nat) : sumS n l (y + 1) = sumS n l y + (inS n y l).length := by
  unfold sumS
  rw [← inS_count l n (y + 1), ← inS_count l n y, List.range_succ, List.map_append, List.sum_append]
  simp
theorem sumS_all {n : Nat} (hn : 0 < n) (l : Kl (Int × Bool)) : sumS n l n = l.length := by
  unfold sumS
  rw [List.filter_eq_self.2 (fun p _ => by rw [decide_eq_true_eq]; exact stripeF_lt p.1 hn)]
theorem sumS_le (n : Nat) (l : Kl (Int × Bool)) (y : Nat) : sumS n l y ≤ l.length := List.length_filter_le _ _
theorem had_more (l : Kl (Int × Bool)) (hr : Rises (keysL l)) (k : Ky) (x : Int × Bool) : hasL l k = decide ((putL l k x).length = l.length) := by
  unfold hasL
  cases h : getL l k with
  | none => rw [length_put_new h]; simp
  | some y => rw [length_put_old hr h]; simp
theorem del_put (l : Kl (Int × Bool)) (hr : Rises (keysL l)) (k : Ky) (x : Int × Bool) : (delL (putL l k x) k).length + 1 = (putL l k x).length := length_del (rises_put hr k x) (x := x) (by rw [getL_put, if_pos rfl])
theorem has_put (l : Kl (Int × Bool)) (k : Ky) (x : Int × Bool) : hasL (putL l k x) k = true ∧ entT (putL l k x) k = x := by
  unfold hasL entT
  rw [getL_put, if_pos rfl]
  exact ⟨rfl, rfl⟩
theorem has_del (l : Kl (Int × Bool)) (k : Ky) : hasL (delL l k) k = false := by
  unfold hasL
  rw [getL_del, if_pos rfl]; rfl
end Go.Proofs.Ytahgapkecabnjaa
