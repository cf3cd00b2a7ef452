/- The walks of the two Numbers of layer 11, and of the law TextNumbers. -/
import Derived.Test.YtfiddoibnjildaaGreatDoorAddrE
import Derived.Test.YtfiddoibnjildaaGreatDoorTextP
namespace Go.Proofs.YtfiddoibnjildaaGreatDoor
set_option linter.unusedSimpArgs false
set_option linter.unusedVariables false
open Go Go.RowKit

/-- 2^62. -/
def big62 : Nat := 4611686018427387904
def numT (l : List UInt8) : Int := if isNum l big62 then valOf l else 0

set_option maxHeartbeats 1000000 in
set_option maxRecDepth 100000 in
theorem number_text (s : ByteArray) (w : World) (hs : s.size ≤ 140737488351232) (hT : Tabs w) :
    Calls Tryz.prog 65 #[.string s] w (NumPost (numT s.data.toList) (isNum s.data.toList big62) w) := by
  have HT := Lib.hid hT
  have HS := Lib.hid hs
  clear hT hs
  cases h : Lib.atoiAll s.data.toList with
  | ok v =>
    have hi : Hid (isNum s.data.toList big62 = decide (0 ≤ v ∧ v ≤ big62 ∧ Lib.itoa v = s.data.toList)) := Lib.hid (isNum_of_ok (by decide) h)
    have HA := Lib.hid h
    have hvo : Hid (isNum s.data.toList big62 = true → numT s.data.toList = v) := Lib.hid (fun hn => by
      have := (isNum_atoi (by decide) hn).1
      rw [h] at this
      injection this with this
      unfold numT; rw [if_pos hn, this])
    have hvn : Hid (isNum s.data.toList big62 = false → numT s.data.toList = 0) := Lib.hid (fun hn => by unfold numT; rw [hn]; rfl)
    clear h
    by_cases h0 : v < 0
    · have d0 : decide (v < 0) = true := by simpa using h0
      have hf : Hid (isNum s.data.toList big62 = false) := Lib.hid (by rw [hi.out]; exact decide_eq_false (fun h => by have := h.1; omega))
      clear h0
      go_enter Tryz.func65, Tryz.ntmps65
      go_wp2_with fail
      refine (atoi_good s v _ HS.out HA.out).mono ?_
      rintro e w1 ⟨rfl, h1⟩
      go_wp2_with fail
      go_ret2
      exact num_end (hvn.out hf.out) hf.out h1
    · have d0 : decide (v < 0) = false := by simpa using h0
      by_cases hm : v ≤ 4611686018427387904
      · have d1 : decide (4611686018427387904 < v) = false := by simpa using hm
        have HI := Lib.hid (fun W (hT : Tabs W) => itoa_any v W (by omega) (by omega) hT)
        cases hq : (Lib.itoa v == s.toList) with
        | true =>
          have hf : Hid (isNum s.data.toList big62 = true) := Lib.hid (by
            rw [ByteArray.toList_eq, beq_iff_eq] at hq
            rw [hi.out]; exact decide_eq_true ⟨by omega, by show v ≤ 4611686018427387904; exact hm, hq⟩)
          clear h0 hm
          go_enter Tryz.func65, Tryz.ntmps65
          go_wp2_with fail
          refine (atoi_good s v _ HS.out HA.out).mono ?_
          rintro e w1 ⟨rfl, h1⟩
          have HT1 := Lib.hid (HT.out.below h1)
          go_wp2_with fail
          refine (HI.out _ HT1.out).mono ?_
          rintro e w2 ⟨rfl, h2⟩
          go_wp2_with fail
          go_ret2
          exact num_end (hvo.out hf.out) hf.out (below_then h1 h2)
        | false =>
          have hf : Hid (isNum s.data.toList big62 = false) := Lib.hid (by
            rw [ByteArray.toList_eq, beq_eq_false_iff_ne] at hq
            rw [hi.out]; exact decide_eq_false (fun h => hq h.2.2))
          clear h0 hm
          go_enter Tryz.func65, Tryz.ntmps65
          go_wp2_with fail
          refine (atoi_good s v _ HS.out HA.out).mono ?_
          rintro e w1 ⟨rfl, h1⟩
          have HT1 := Lib.hid (HT.out.below h1)
          go_wp2_with fail
          refine (HI.out _ HT1.out).mono ?_
          rintro e w2 ⟨rfl, h2⟩
          go_wp2_with fail
          go_ret2
          exact num_end (hvn.out hf.out) hf.out (below_then h1 h2)
      · have d1 : decide (4611686018427387904 < v) = true := by simpa using hm
        have hf : Hid (isNum s.data.toList big62 = false) := Lib.hid (by rw [hi.out]; exact decide_eq_false (fun h => hm (by have := h.2.1; unfold big62 at this; omega)))
        clear h0 hm
        go_enter Tryz.func65, Tryz.ntmps65
        go_wp2_with fail
        refine (atoi_good s v _ HS.out HA.out).mono ?_
        rintro e w1 ⟨rfl, h1⟩
        go_wp2_with fail
        go_ret2
        exact num_end (hvn.out hf.out) hf.out h1
  | «syntax» | range =>
    all_goals
      have hi := isNum_of_bad (l := s.data.toList) (most := big62) (by decide) (fun v e => by rw [h] at e; cases e)
      have HI := Lib.hid hi
      have hn : Hid (numT s.data.toList = 0) := Lib.hid (by unfold numT; rw [hi]; rfl)
      have HB := Lib.hid (fun W (hT : Tabs W) => atoi_bad s W HS.out (fun v e => by rw [h] at e; cases e) hT)
      clear h hi
      generalize atoiV s.data.toList = v at *
      go_enter Tryz.func65, Tryz.ntmps65
      go_wp2_with fail
      refine (HB.out _ HT.out).mono ?_
      rintro e w1 ⟨N, rfl, h1⟩
      go_wp2_with fail
      go_ret2
      exact num_end hn.out HI.out h1

theorem isNum_bad {l : List UInt8} {c : UInt8} {m : Nat} (hc : c ∈ l) (h : ¬ digit c) : isNum l m = false := by
  unfold isNum
  rw [decide_eq_false]
  rintro ⟨e, _⟩
  exact h (dec_digits (valOf l) c (by rw [e]; exact hc))
theorem isNum_long {l : List UInt8} (h : 19 < l.length) : isNum l big62 = false := by
  unfold isNum
  rw [decide_eq_false]
  rintro ⟨e, h2⟩
  have := dec_len_le 19 (valOf l) (by unfold big62 at h2; omega) (by omega)
  rw [e] at this; omega

set_option maxHeartbeats 1000000 in
set_option maxRecDepth 100000 in
theorem refNumber_text (s : ByteArray) (w : World) (hs : s.size ≤ 140737488351232) :
    Calls Tryz.prog 29 #[.string s] w (NumPost (numT s.data.toList) (isNum s.data.toList big62) w) := by
  go_enter Tryz.func29, Tryz.ntmps29
  go_wp2_with fail
  go_loop [4, 5] (fun n i => ∃ (k : Nat) (x : Int), k ≤ s.size ∧ k ≤ 19 ∧ i = .int .i64 k ∧ n = .int .u64 x ∧ 0 ≤ x ∧ Hid (x = valOf (s.data.toList.take k)) ∧ Hid (∀ c ∈ s.data.toList.take k, digit c)) (fun _ i => s.size - (intOf i).toNat)
  case atStart => exact ⟨0, 0, Nat.zero_le _, Nat.zero_le _, rfl, rfl, by omega, Lib.hid rfl, Lib.hid (by simp)⟩
  case round =>
    obtain ⟨k, x, hk, hk9, rfl, rfl, hx0, hx, hd⟩ := hrel
    by_cases hlt : k < s.size
    · by_cases h18 : k ≤ 18
      · by_cases hdg : digit s[k]
        · have HD := Lib.hid (digits_take s k hlt hd.out hdg)
          have hts := take_val s k hlt
          have hg1 : 48 ≤ (s[k].toNat : Int) := by have := hdg.1; omega
          have hg2 : (s[k].toNat : Int) ≤ 57 := by have := hdg.2; omega
          have hv := val_lt _ HD.out
          have hpp : (10 : Nat) ^ (s.data.toList.take (k + 1)).length ≤ 10 ^ 19 := Nat.pow_le_pow_right (by omega) (by rw [List.length_take]; omega)
          have hxe := hx.out
          have hb2 : 10 * x + ((s[k].toNat : Int) - 48) ≤ 9999999999999999999 := by
            have e19 : (10 : Nat) ^ 19 = 10000000000000000000 := by decide
            have h1 := hdg.1
            omega
          have q1 : Hid (IntKind.u64.wrap (10 * x) = 10 * x) := Lib.hid (IntWalk.u64_in _ (by omega))
          have q2 : Hid (IntKind.u64.wrap (10 * x + ((s[k].toNat : Int) - 48)) = 10 * x + ((s[k].toNat : Int) - 48)) := Lib.hid (IntWalk.u64_in _ (by omega))
          have hnx : Hid (10 * x + ((s[k].toNat : Int) - 48) = valOf (s.data.toList.take (k + 1))) := Lib.hid (by have := hdg.1; omega)
          clear hdg hts hv hpp hxe hb2
          go_wp2
          go_round
          case rel => exact ⟨k + 1, _, by omega, by omega, by go_num, rfl, by rw [q1.out, q2.out]; omega, Lib.hid (by rw [q1.out, q2.out]; exact hnx.out), HD⟩
          case measure => simp [intOf]; omega
        · have HN := Lib.hid (isNum_bad (m := big62) (mem_take_at s k hlt) hdg)
          have HV : Hid (numT s.data.toList = 0) := Lib.hid (by unfold numT; rw [HN.out]; rfl)
          by_cases hg : (s[k].toNat : Int) < 48
          · clear hdg
            go_wp2
            go_ret2
            exact num_end HV.out HN.out (Below.refl _ _)
          · have hg2 : 57 < (s[k].toNat : Int) := by unfold digit at hdg; omega
            clear hdg
            go_wp2
            go_ret2
            exact num_end HV.out HN.out (Below.refl _ _)
      · have hl : 19 < s.data.toList.length := by simp; omega
        have HN := Lib.hid (isNum_long hl)
        have HV : Hid (numT s.data.toList = 0) := Lib.hid (by unfold numT; rw [HN.out]; rfl)
        clear hl
        have hk18 : 18 < k := by omega
        by_cases hg : (s[k].toNat : Int) < 48
        · go_wp2
          go_ret2
          exact num_end HV.out HN.out (Below.refl _ _)
        · by_cases hg2 : 57 < (s[k].toNat : Int)
          · go_wp2
            go_ret2
            exact num_end HV.out HN.out (Below.refl _ _)
          · go_wp2
            go_ret2
            exact num_end HV.out HN.out (Below.refl _ _)
    · have hke : k = s.size := by omega
      have hxe : x = valOf s.data.toList := by
        rw [hx.out]
        rw [List.take_of_length_le (by simp; omega)]
      have HXE := Lib.hid hxe
      have hbig : 4611686018427387904 < x → isNum s.data.toList big62 = false := fun h => by
        unfold isNum
        rw [decide_eq_false]
        rintro ⟨_, h2⟩
        unfold big62 at h2; omega
      have hsmall : x ≤ 4611686018427387904 → isNum s.data.toList big62 = (Lib.decDigits x.toNat == s.toList) := fun h => by
        unfold isNum
        rw [ByteArray.toList_eq, hxe, Int.toNat_natCast, Bool.eq_iff_iff, decide_eq_true_iff, beq_iff_eq]
        refine ⟨fun h2 => h2.1, fun h2 => ⟨h2, ?_⟩⟩
        unfold big62; omega
      have hemp : s.size = 0 → isNum s.data.toList big62 = false := fun h => by
        rw [Bool.eq_false_iff]
        intro h2
        obtain ⟨n, _, e⟩ := isNum_iff.1 h2
        have : s.data.toList = [] := List.eq_nil_of_length_eq_zero (by rw [Array.length_toList]; exact h)
        rw [this] at e
        exact dec_ne_nil n e.symm
      have hval : isNum s.data.toList big62 = true → numT s.data.toList = x := fun h => by unfold numT; rw [if_pos h, hxe]
      have hval0 : isNum s.data.toList big62 = false → numT s.data.toList = 0 := fun h => by unfold numT; rw [h]; rfl
      have HV := Lib.hid hval
      have HV0 := Lib.hid hval0
      have HE := Lib.hid hemp
      have HBG := Lib.hid hbig
      have HSM := Lib.hid hsmall
      clear hxe hbig hsmall hemp hval hval0
      by_cases h0 : s.size = 0
      · have e0 : ((s.size : Int) == 0) = true := by rw [h0]; rfl
        have HN := Lib.hid (HE.out h0)
        clear h0
        go_wp2
        go_ret2
        exact num_end (HV0.out HN.out) HN.out (Below.refl _ _)
      · have e0 : ((s.size : Int) == 0) = false := beq_eq_false_iff_ne.2 (by omega)
        clear h0
        by_cases h62 : 4611686018427387904 < x
        · have HN := Lib.hid (HBG.out h62)
          have d0 : decide (4611686018427387904 < x) = true := by simpa using h62
          clear h62
          go_wp2
          go_ret2
          exact num_end (HV0.out HN.out) HN.out (Below.refl _ _)
        · have HN := Lib.hid (HSM.out (by omega))
          have d0 : decide (4611686018427387904 < x) = false := by simpa using h62
          have HC := Lib.hid (fun v => num_any x v hx0 (by omega))
          have hxi : Hid (IntKind.i64.wrap x = x) := Lib.hid (IntWalk.i64_in _ (by omega))
          cases hq : (Lib.decDigits x.toNat == s.toList) with
          | true =>
            have HN' : Hid (isNum s.data.toList big62 = true) := Lib.hid (by rw [HN.out, hq])
            go_wp2_with fail
            refine (HC.out _).mono ?_
            rintro e w1 ⟨rfl, hb⟩
            go_wp2_with fail
            go_ret2
            exact num_end (HV.out HN'.out) HN'.out hb
          | false =>
            have HN' : Hid (isNum s.data.toList big62 = false) := Lib.hid (by rw [HN.out, hq])
            go_wp2_with fail
            refine (HC.out _).mono ?_
            rintro e w1 ⟨rfl, hb⟩
            go_wp2_with fail
            go_ret2
            exact num_end (HV0.out HN'.out) HN'.out hb

/-- The walk of the law TextNumbers needs the fixed fact; it stands in a later text. -/
theorem numT_bounds (l : List UInt8) : 0 ≤ numT l ∧ numT l ≤ 4611686018427387904 := by
  unfold numT
  split
  · rename_i h
    have := (isNum_atoi (by decide) h).2.1
    unfold big62 at this
    omega
  · omega
end Go.Proofs.YtfiddoibnjildaaGreatDoor
