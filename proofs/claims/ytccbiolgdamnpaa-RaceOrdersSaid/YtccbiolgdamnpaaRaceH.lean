/- Logs in memory; the walk of race.Find. -/
import Derived.Test.YtccbiolgdamnpaaRaceG
namespace Go.Proofs.Ytccbiolgdamnpaa
set_option linter.unusedSimpArgs false
set_option linter.unusedVariables false
open Go Go.RowKit

/-- An access, at an address. -/
def AcAt (w : World) (ad : Addr) (x : Ac) : Prop := w.cell? ad = some (.int .i64 x.th) ∧ w.cell? ⟨ad.block, ad.off + 1, none⟩ = some (.int .i64 x.kd) ∧ w.cell? ⟨ad.block, ad.off + 2, none⟩ = some (.int .i64 x.pl)
def AcOk (x : Ac) : Prop := (Lit.int .i64 x.th).wf = true ∧ (Lit.int .i64 x.kd).wf = true ∧ (Lit.int .i64 x.pl).wf = true
/-- A log, in the elements of a slice. -/
structure LogAt (w : World) (a : Option Addr) (L : List Ac) : Prop where
  at_ : ∀ j, j < L.length → AcOk (ac L j) ∧ ∃ ad, a = some ad ∧ AcAt w (ad.add (j * 3)) (ac L j)
theorem LogAt.below {w w' : World} {a : Option Addr} {L : List Ac} (h : LogAt w a L) {B : Nat} (k : Below B w w') (hB : w.heap.size ≤ B) : LogAt w' a L := by
  have f : ∀ {a v}, w.cell? a = some v → w'.cell? a = some v := fun hc => (k.cell (Nat.lt_of_lt_of_le (World.block_lt_of_cell? w _ hc) hB)).trans hc
  refine ⟨fun j hj => ?_⟩
  obtain ⟨h0, ad, rfl, h1, h2, h3⟩ := h.at_ j hj
  exact ⟨h0, ad, rfl, f h1, f h2, f h3⟩
theorem cnt_le (L : List Ac) (t : Nat) : ∀ n, cnt L t n ≤ n
  | 0 => Nat.le_refl _
  | n + 1 => by
    have := cnt_le L t n
    rw [cnt]; split <;> omega
theorem small_run {L : List Ac} (hk : Known L) {n m : Nat} (hn : n ≤ L.length) (hm : n ≤ m) : Small (runV L n) m := by
  have I := inv_run hk n hn
  have h := fun u => cnt_le L u n
  exact ⟨fun t u => Nat.le_trans (I.vle t u) (Nat.le_trans (h u) hm), fun p u => Nat.le_trans (I.lle p u) (Nat.le_trans (h u) hm), fun p u => Nat.le_trans (I.wle p u) (Nat.le_trans (h u) hm)⟩
theorem lateB_last {L : List Ac} {n : Nat} (hk : Known L) (hn : n < L.length) {k : Int} {m : Int → Nat → Option Nat} (h : LastOf L (n + 1) k m) : lateB ((runV L n).step (ac L n)) (ac L n).th.toNat (m (ac L n).pl) = true ↔ Late (runV L n) (ac L n) (m (ac L n).pl) := by
  rw [lateB_iff]
  have hV : ∀ u, ((runV L n).step (ac L n)).V (ac L n).th.toNat u = hearsV (runV L n) (ac L n) u := fun u => by
    show (if (ac L n).th.toNat = (ac L n).th.toNat then hearsV (runV L n) (ac L n) else (runV L n).V _) u = _
    rw [if_pos rfl]
  constructor
  · rintro ⟨u, c, _, h1, h2, h3⟩
    rw [hV] at h3
    exact ⟨u, c, h1, h2, h3⟩
  · rintro ⟨u, c, h1, h2, h3⟩
    rw [← hV] at h3
    obtain ⟨i, hi, rfl, _⟩ := (h _ _).2 c h2
    have := hk i (by omega)
    exact ⟨tid L i, c, by unfold tid; omega, h1, h2, h3⟩
theorem racesB_iff {L : List Ac} (hk : Known L) {n : Nat} (hn : n < L.length) : racesB (runV L n) (ac L n) = true ↔ RaceAt L n := by
  rw [← races_iff hk hn]
  have I := inv_run hk (n + 1) (by omega)
  have hw := lateB_last hk hn I.wr
  have hr := lateB_last hk hn I.rd
  have hw' : lateB ((runV L n).step (ac L n)) (ac L n).th.toNat (((runV L n).step (ac L n)).Wr (ac L n).pl) = true ↔ Late (runV L n) (ac L n) (((runV L n).step (ac L n)).Wr (ac L n).pl) := hw
  have hr' : lateB ((runV L n).step (ac L n)) (ac L n).th.toNat (((runV L n).step (ac L n)).Rd (ac L n).pl) = true ↔ Late (runV L n) (ac L n) (((runV L n).step (ac L n)).Rd (ac L n).pl) := hr
  unfold racesB Races
  rw [← hw', ← hr']
  by_cases h5 : (ac L n).kd = 5
  · rw [if_pos h5]
    constructor
    · exact fun h => .inl ⟨h5, h⟩
    · rintro (⟨_, h⟩ | ⟨h6, _⟩)
      · exact h
      · omega
  · rw [if_neg h5]
    by_cases h6 : (ac L n).kd = 6
    · rw [if_pos h6, Bool.or_eq_true]
      constructor
      · exact fun h => .inr ⟨h6, h⟩
      · rintro (⟨h, _⟩ | ⟨_, h⟩)
        · omega
        · exact h
    · rw [if_neg h6]
      constructor
      · intro h; cases h
      · rintro (⟨h, _⟩ | ⟨h, _⟩)
        · exact absurd h h5
        · exact absurd h h6
theorem knownB_iff {x : Ac} : knownB x = true ↔ 0 ≤ x.th ∧ x.th < 64 := by unfold knownB; simp
theorem ac_eta (x : Ac) : acV x = .agg #[.int .i64 x.th, .int .i64 x.kd, .int .i64 x.pl] := rfl

set_option maxHeartbeats 4000000 in
set_option maxRecDepth 100000 in
theorem find_any (a : Option Addr) (cap : Nat) (L : List Ac) (w : World) (hL : LogAt w a L) (hlen : L.length ≤ 200) :
    Calls Try.prog 7 #[.slice a L.length cap] w fun e w' => (∃ n k : Int, e = .returned (.tuple #[.int .i64 n, .int .i64 k]) ∧ FindIs L n k) ∧ Below w.heap.size w w' := by
  have HL := Lib.hid hL
  clear hL
  go_enter Try.func7, Try.ntmps7
  go_wp2_with fail
  go_loopw [11] (fun n wr => ∃ j : Nat, n = .int .i64 j ∧ j ≤ L.length ∧ Hid (∀ i, i < j → 0 ≤ (ac L i).th ∧ (ac L i).th < 64) ∧ Hid (Below w.heap.size w wr)) (fun n _ => L.length - (intOf n).toNat)
  case atStart => exact ⟨0, rfl, by omega, Lib.hid (fun i hi => absurd hi (Nat.not_lt_zero _)), Lib.hid (Below.refl _ _)⟩
  case round =>
    obtain ⟨j, rfl, hj, hkn, hB⟩ := hrel
    by_cases hl : j < L.length
    · obtain ⟨hok, ad, rfl, c0, c1, c2⟩ := (HL.out.below hB.out (Nat.le_refl _)).at_ j hl
      have ex : (⟨(ac L j).th, (ac L j).kd, (ac L j).pl⟩ : Ac) = ac L j := rfl
      have EX := Lib.hid ex
      have hB2 : Below w.heap.size w (wr.alloc (.cells #[.int .i64 (ac L j).th, .int .i64 (ac L j).kd, .int .i64 (ac L j).pl] 32)) := hB.out.alloc hB.out.size _
      have HB2 := Lib.hid hB2
      clear ex hB2 hok
      generalize hth : (ac L j).th = th at *
      generalize hkd : (ac L j).kd = kd at *
      generalize hpl : (ac L j).pl = pl at *
      go_wp2_with fail
      refine (known_any ⟨th, kd, pl⟩ _).mono ?_
      rintro e w3 ⟨rfl, hb3⟩
      have HB3 := Lib.hid (HB2.out.trans (hb3.mono HB2.out.size))
      clear hb3
      cases hkb : knownB ⟨th, kd, pl⟩ with
      | true =>
        go_wp2_with fail
        go_roundw
        case rel =>
          refine ⟨j + 1, by go_num, by omega, Lib.hid (fun i hi => ?_), HB3⟩
          rcases Nat.lt_or_eq_of_le (Nat.le_of_lt_succ hi) with h | rfl
          · exact hkn.out i h
          · rw [hth]; exact knownB_iff.1 hkb
        case measure => simp [intOf]; omega
      | false =>
        go_wp2_with fail
        go_ret2
        refine ⟨⟨0, 14, rfl, .inl ⟨fun hK => ?_, rfl, rfl⟩⟩, HB3.out⟩
        have := hK j hl
        rw [hth] at this
        rw [knownB_iff.2 this] at hkb
        cases hkb
    · obtain rfl : j = L.length := by omega
      have HK : Hid (Known L) := Lib.hid (fun i hi => hkn.out i hi)
      clear hkn
      go_wp2_with fail
      refine (start_any wr).mono ?_
      rintro e w3 ⟨B, rfl, hR, hb3, hBs⟩
      have HB3 := Lib.hid (hB.out.trans (hb3.mono hB.out.size))
      have HBS : Hid (∀ i, B.has i → w.heap.size ≤ i) := Lib.hid (fun i hi => Nat.le_trans hB.out.size (hBs i hi))
      have HR := Lib.hid hR
      clear hR hb3 hBs hB
      go_wp2_with fail
      go_loopw [22] (fun n wr => ∃ j : Nat, n = .int .i64 j ∧ j ≤ L.length ∧ Hid (∀ i, i < j → ¬ RaceAt L i) ∧ Hid (Rep wr B (runV L j)) ∧ Hid (Below w.heap.size w wr)) (fun n _ => L.length - (intOf n).toNat)
      case atStart => exact ⟨0, rfl, by omega, Lib.hid (fun i hi => absurd hi (Nat.not_lt_zero _)), HR, HB3⟩
      case round =>
        clear HR HB3
        obtain ⟨j, rfl, hj, hno, hR, hB⟩ := hrel
        by_cases hl : j < L.length
        · obtain ⟨hok, ad, rfl, c0, c1, c2⟩ := (HL.out.below hB.out (Nat.le_refl _)).at_ j hl
          have hp := hok.2.2
          have HS := Lib.hid (small_run HK.out (m := 900) (Nat.le_of_lt hl) (by omega))
          have HIF := Lib.hid (racesB_iff HK.out hl)
          have ht := HK.out j hl
          have hb2 : Below wr.heap.size wr (wr.alloc (.cells #[.int .i64 (ac L j).th, .int .i64 (ac L j).kd, .int .i64 (ac L j).pl] 32)) := (Below.refl _ _).alloc (Nat.le_refl _) _
          have HB2 := Lib.hid (hB.out.trans (hb2.mono hB.out.size))
          have HR2 := Lib.hid (hR.out.below hb2)
          have hst : (runV L j).step (ac L j) = runV L (j + 1) := rfl
          have HST := Lib.hid hst
          have hT := @races_any B (runV L j) (ac L j)
          clear hok hst hb2
          generalize hx : ac L j = x at *
          obtain ⟨th, kd, pl⟩ := x
          simp only at c0 c1 c2 hp ht
          obtain ⟨t, rfl⟩ := Int.eq_ofNat_of_zero_le ht.1
          have HX := Lib.hid hx
          have HT := Lib.hid hT
          clear hx hT
          go_wp2_with fail
          refine (HT.out t _ HR2.out rfl (by omega) hp HS.out).mono ?_
          rintro e w3 ⟨rfl, hR3, ht3⟩
          rw [HST.out] at hR3
          have HR3 := Lib.hid hR3
          have HB3 := Lib.hid (HB2.out.trans (ht3.below HB2.out.size HBS.out))
          clear hR3 ht3
          cases hrb : racesB (runV L j) ⟨t, kd, pl⟩ with
          | true =>
            go_wp2_with fail
            go_ret2
            exact ⟨⟨j, 17, rfl, .inr ⟨HK.out, .inl ⟨j, hl, HIF.out.1 hrb, hno.out, rfl, rfl⟩⟩⟩, HB3.out⟩
          | false =>
            go_wp2_with fail
            go_roundw
            case rel =>
              refine ⟨j + 1, by go_num, by omega, Lib.hid (fun i hi => ?_), HR3, HB3⟩
              rcases Nat.lt_or_eq_of_le (Nat.le_of_lt_succ hi) with h | rfl
              · exact hno.out i h
              · intro hra
                rw [HIF.out.2 hra] at hrb
                cases hrb
            case measure => simp [intOf]; omega
        · obtain rfl : j = L.length := by omega
          go_wp2_with fail
          go_ret2
          exact ⟨⟨-1, 0, rfl, .inr ⟨HK.out, .inr ⟨hno.out, rfl, rfl⟩⟩⟩, hB.out⟩
end Go.Proofs.Ytccbiolgdamnpaa
