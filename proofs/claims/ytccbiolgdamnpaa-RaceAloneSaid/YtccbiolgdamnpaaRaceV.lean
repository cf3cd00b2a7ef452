/- The walk of RaceAlone. Printed by gen_racev.py. -/
import Derived.Test.YtccbiolgdamnpaaRaceU
import Derived.Test.YtccbiolgdamnpaaRaceS
namespace Go.Proofs.Ytccbiolgdamnpaa
set_option linter.unusedSimpArgs false
set_option linter.unusedVariables false
open Go Go.RowKit

theorem cells_at (w : World) (l : List Value) (t : TypeId) (n : Nat) (hn : n = w.heap.size) : ∀ j u, l[j]? = some u → (w.alloc (.cells l.toArray t)).cell? ((⟨n, 0, none⟩ : Addr).add j) = some u := by
  subst hn; exact cells_new w l t
theorem mod64 (z : Int) : ∃ t : Nat, (IntKind.u64.wrap z).tmod 64 = t ∧ t < 64 := by
  have h : 0 ≤ IntKind.u64.wrap z := by
    have : IntKind.u64.wrap z = z % 18446744073709551616 := rfl
    rw [this]; exact Int.emod_nonneg _ (by decide)
  obtain ⟨k, hk⟩ := Int.eq_ofNat_of_zero_le h
  refine ⟨k % 64, ?_, Nat.mod_lt _ (by decide)⟩
  rw [hk, Int.tmod_eq_emod_of_nonneg (by omega)]; omega

set_option maxHeartbeats 4000000 in
set_option maxRecDepth 100000 in
theorem raceAlone_walk (s : Option Addr) (len cap : Nat) (p : Int) (w : World) (hz : RdLog w s len cap) (hp : (Lit.int .u8 p).wf = true) :
    Calls Try.prog 5 #[.slice s len cap, .int .u8 p] w fun e w' => e = .returned (.bool true) ∧ Below w.heap.size w w' := by
  have HZ := Lib.hid hz
  clear hz
  obtain ⟨p0, p1⟩ := wf_u8 hp
  have wp : IntKind.i64.wrap p = p := IntWalk.i64_in _ (by omega)
  have hpw : (Lit.int .i64 p).wf = true := WalkArith.wf_i64 (by omega)
  have HPW := Lib.hid hpw
  have WP := Lib.hid wp
  clear hp hpw wp
  go_enter Try.func5, Try.ntmps5
  go_wp2_with fail
  refine (short_any s len cap w HZ.out.le HZ.out.cap HZ.out.some_).mono ?_
  rintro e w1 ⟨rfl, hw⟩
  rw [hw]
  clear hw w1
  obtain ⟨L, hl, h60, hL⟩ := HZ.out.short
  have HL := Lib.hid hL
  rw [hl]
  clear hL hl HZ
  obtain ⟨i0, hi, hz0, hz1, hz2⟩ := info_parts accInfo
  have HT0 := Lib.hid (Tn.start w)
  go_wp2_with fail
  go_loopw [6, 7, 8, 9] (fun v1 v2 v3 n wr => ∃ (j : Nat) (L1 L2 L3 : List Ac), n = .int .i64 j ∧ j ≤ L.length ∧ L1.length = j ∧ L2.length ≤ j ∧ L3.length ≤ 3 * j ∧ Hid (Of1 L1) ∧ Hid (Of2 L2) ∧ Hid (Of3 p L3) ∧ Hid (Tn w wr v1 v2 v3 L1 L2 L3)) (fun _ _ _ n _ => L.length - (intOf n).toNat)
  case atStart => exact ⟨0, [], [], [], rfl, by omega, rfl, by simp, by simp, Lib.hid of1_nil, Lib.hid of2_nil, Lib.hid (of3_nil p), HT0⟩
  case round =>
    clear HT0
    obtain ⟨j, L1, L2, L3, rfl, hj, hl1, hl2, hl3, hO1, hO2, hO3, hT⟩ := hrel
    by_cases hjl : j < L.length
    · obtain ⟨hok, ad, rfl, c0, c1, c2⟩ := (HL.out.below hT.out.below (Nat.le_refl _)).at_ j hjl
      generalize (ac L j) = x at *
      obtain ⟨th, kd, pl⟩ := x
      simp only at c0 c1 c2
      obtain ⟨t, ht, ht64⟩ := mod64 th
      have wt : IntKind.i64.wrap (t : Int) = t := IntWalk.i64_in _ (by omega)
      have hwk := hok.2.1
      have hwp := hok.2.2
      have hwt : (Lit.int .i64 (t : Int)).wf = true := WalkArith.wf_i64 (by omega)
      have hw7 : (Lit.int .i64 7).wf = true := by decide
      have hw1 : (Lit.int .i64 1).wf = true := by decide
      have hw2 : (Lit.int .i64 2).wf = true := by decide
      have HO1' := Lib.hid (of1_push hO1.out (x := ⟨7, kd, pl⟩) ⟨⟨hw7, hwk, hwp⟩, rfl⟩)
      have HO2' : Hid (kd ≠ 6 → Of2 (L2 ++ [⟨t, kd, pl⟩])) := Lib.hid (fun h6 => of2_push hO2.out ⟨⟨hwt, hwk, hwp⟩, ⟨by show (0 : Int) ≤ t; omega, by show (t : Int) < 64; omega⟩, h6⟩)
      have HO3' := Lib.hid (of3_push hO3.out (t := t) (k := kd) (q := pl) ⟨⟨hwt, hw1, HPW.out⟩, ⟨hwt, hwk, hwp⟩, ⟨hwt, hw2, HPW.out⟩⟩ ⟨by omega, by omega⟩)
      clear hok hwk hwp hwt hw7 hw1 hw2
      -- the box, with thread 7
      have hT1 := hT.out.alloc (.cells #[.int .i64 7, .int .i64 kd, .int .i64 pl] 32)
      have hB1 := Bx.new hT.out ⟨7, kd, pl⟩
      have HT1 := Lib.hid hT1
      have HB1 := Lib.hid hB1
      clear hT hT1 hB1 hO1
      go_wp2_with (at_builtin; refine Hid.out ?_)
      refine Lib.hid ?_
      refine wpList_append_own_at _ rfl _ _ 22 rfl 0 32 i0 (.agg #[.int .i64 0, .int .i64 0, .int .i64 0]) 3 24 Try.underlying22 hi hz0 hz1 hz2 rfl (by decide) _ L1.length (logC L1) rfl (HT1.out.r1.alloc _) ⟨_, 0, none⟩ 1 1 (logC [⟨7, kd, pl⟩]) rfl rfl (cells_at _ (logC [⟨7, kd, pl⟩]) _ _ (by simp)) (logC_one _) (by unfold maxLen; omega) (by omega) (Nat.zero_le _) ?_
      intro v1' w2 hown hgrow _ hloc
      obtain ⟨hT2, hB2⟩ := HT1.out.push HB1.out rfl hown hgrow hloc
      obtain ⟨d0, d1, d2, d3⟩ := hB2.cells
      have hT3 := hT2.set hB2 (.int .i64 t)
      have hB3 := hB2.set (t := 7) (k := kd) (q := pl) t
      obtain ⟨e0, e1, e2, _⟩ := hB3.cells
      have HT3 := Lib.hid hT3
      have HB3 := Lib.hid hB3
      clear hT2 hB2 hT3 hB3 HT1 HB1 hown hgrow hloc c0 c1 c2
      generalize hbx : wr.heap.size = bx at *
      have hwp' := WP.out
      by_cases h6 : kd = 6
      · subst h6
        go_wp2_with (at_builtin; refine Hid.out ?_)
        refine Lib.hid ?_
        refine wpList_append_own_at _ rfl _ _ 22 rfl 0 32 i0 (.agg #[.int .i64 0, .int .i64 0, .int .i64 0]) 3 24 Try.underlying22 hi hz0 hz1 hz2 rfl (by decide) _ L3.length (logC L3) rfl (HT3.out.rot.rot.r1.alloc _) ⟨_, 0, none⟩ 3 3 (logC [⟨t, 1, p⟩, ⟨t, 6, pl⟩, ⟨t, 2, p⟩]) rfl rfl (cells_at _ (logC [⟨t, 1, p⟩, ⟨t, 6, pl⟩, ⟨t, 2, p⟩]) _ _ (by simp)) (logC_one _) (by unfold maxLen; omega) (by omega) (Nat.zero_le _) ?_
        intro v3' w5 hown hgrow _ hloc
        obtain ⟨hT5, hB5⟩ := HT3.out.rot.rot.push HB3.out.rot.rot rfl hown hgrow hloc
        have HT5 := Lib.hid hT5.rot
        clear hT5 hB5 hown hgrow hloc HT3 HB3
        go_wp2_with fail
        go_roundw
        case rel => exact ⟨j + 1, _, _, _, by go_num, by omega, by simp [hl1], by omega, by simp; omega, HO1', hO2, HO3', HT5⟩
        case measure => simp [intOf]; omega
      · have n6 : (kd != 6) = true := bne_iff_ne.2 h6
        have q6 : (kd == 6) = false := beq_eq_false_iff_ne.2 h6
        have HO2n := Lib.hid (HO2'.out h6)
        go_wp2_with (at_builtin; refine Hid.out ?_)
        refine Lib.hid ?_
        refine wpList_append_own_at _ rfl _ _ 22 rfl 0 32 i0 (.agg #[.int .i64 0, .int .i64 0, .int .i64 0]) 3 24 Try.underlying22 hi hz0 hz1 hz2 rfl (by decide) _ L2.length (logC L2) rfl (HT3.out.rot.r1.alloc _) ⟨_, 0, none⟩ 1 1 (logC [⟨t, kd, pl⟩]) rfl rfl (cells_at _ (logC [⟨t, kd, pl⟩]) _ _ (by simp)) (logC_one _) (by unfold maxLen; omega) (by omega) (Nat.zero_le _) ?_
        intro v2' w4 hown hgrow _ hloc
        obtain ⟨hT4, hB4⟩ := HT3.out.rot.push HB3.out.rot rfl hown hgrow hloc
        obtain ⟨f0, f1, f2, _⟩ := hB4.cells
        have HT4 := Lib.hid hT4.rot
        have HB4 := Lib.hid hB4.rot
        clear hT4 hB4 HT3 HB3 hown hgrow hloc e0 e1 e2 d0 d1 d2 d3
        by_cases h5 : kd = 5
        · subst h5
          go_wp2_with (at_builtin; refine Hid.out ?_)
          refine Lib.hid ?_
          refine wpList_append_own_at _ rfl _ _ 22 rfl 0 32 i0 (.agg #[.int .i64 0, .int .i64 0, .int .i64 0]) 3 24 Try.underlying22 hi hz0 hz1 hz2 rfl (by decide) _ L3.length (logC L3) rfl (HT4.out.rot.rot.rot.r1.alloc _) ⟨_, 0, none⟩ 3 3 (logC [⟨t, 1, p⟩, ⟨t, 5, pl⟩, ⟨t, 2, p⟩]) rfl rfl (cells_at _ (logC [⟨t, 1, p⟩, ⟨t, 5, pl⟩, ⟨t, 2, p⟩]) _ _ (by simp)) (logC_one _) (by unfold maxLen; omega) (by omega) (Nat.zero_le _) ?_
          intro v3' w5 hown hgrow _ hloc
          obtain ⟨hT5, hB5⟩ := HT4.out.rot.rot.rot.push HB4.out.rot.rot.rot rfl hown hgrow hloc
          have HT5 := Lib.hid hT5.rot
          clear hT5 hB5 hown hgrow hloc HT4 HB4
          go_wp2_with fail
          go_roundw
          case rel => exact ⟨j + 1, _, _, _, by go_num, by omega, by simp [hl1], by simp; omega, by simp; omega, HO1', HO2n, HO3', HT5⟩
          case measure => simp [intOf]; omega
        · have q5 : (kd == 5) = false := beq_eq_false_iff_ne.2 h5
          have HT5 := Lib.hid HT4.out.rot
          go_wp2_with fail
          go_roundw
          case rel => exact ⟨j + 1, _, _, _, by go_num, by omega, by simp [hl1], by simp; omega, by omega, HO1', HO2n, hO3, HT5⟩
          case measure => simp [intOf]; omega
    · obtain rfl : j = L.length := by omega
      have HTE := Lib.hid hT.out
      clear hT
      obtain ⟨n1, m1, rfl, g1⟩ := log_of_row HTE.out.r1 (fun i hi => (hO1.out _ (ac_mem hi)).1)
      obtain ⟨n2, m2, rfl, g2⟩ := log_of_row HTE.out.r2 (fun i hi => (hO2.out _ (ac_mem hi)).1)
      obtain ⟨n3, m3, rfl, g3⟩ := log_of_row HTE.out.r3 (fun i hi => (hO3.out.ok _ (ac_mem hi)).1)
      have G1 := Lib.hid g1
      have G2 := Lib.hid g2
      have G3 := Lib.hid g3
      have HB0 := Lib.hid HTE.out.below
      clear g1 g2 g3 HTE
      go_wp2_with fail
      refine (find_is G1.out (by omega) (of1_find hO1.out) hl1).mono ?_
      rintro e w3 ⟨rfl, hb3⟩
      have HB3 := Lib.hid (HB0.out.trans (hb3.mono HB0.out.size))
      have G2' := Lib.hid (G2.out.below hb3 (Nat.le_refl _))
      have G3' := Lib.hid (G3.out.below hb3 (Nat.le_refl _))
      clear hb3 G1 G2 G3 HB0
      go_wp2_with fail
      refine (find_is G2'.out (by omega) (of2_find hO2.out) rfl).mono ?_
      rintro e w4 ⟨rfl, hb4⟩
      have HB4 := Lib.hid (HB3.out.trans (hb4.mono HB3.out.size))
      have G3 := Lib.hid (G3'.out.below hb4 (Nat.le_refl _))
      clear hb4 G2' G3' HB3
      go_wp2_with fail
      refine (find_is G3.out (by omega) (of3_find hO3.out) rfl).mono ?_
      rintro e w5 ⟨rfl, hb5⟩
      have HB5 := Lib.hid (HB4.out.trans (hb5.mono HB4.out.size))
      clear hb5 G3 HB4
      go_wp2_with fail
      refine (awake_any w5).mono ?_
      rintro e w6 ⟨rfl, hb6⟩
      have HB6 := Lib.hid (HB5.out.trans (hb6.mono HB5.out.size))
      clear hb6 HB5
      go_wp2_with fail
      go_ret
      exact ⟨rfl, HB6.out⟩
end Go.Proofs.Ytccbiolgdamnpaa
