/- The walks of the two Numbers of layer 11, and of the law TextNumbers. -/
import Derived.Test.YtfiddoibnjildaaDoorAddrE
import Derived.Test.YtfiddoibnjildaaDoorTextP
namespace Go.Proofs.YtfiddoibnjildaaDoor
set_option linter.unusedSimpArgs false
set_option linter.unusedVariables false
open Go Go.RowKit

/-- 2^62. -/
def big62 : Nat := 4611686018427387904
def numT (l : List UInt8) : Int := if isNum l big62 then valOf l else 0

set_option maxHeartbeats 1000000 in
set_option maxRecDepth 100000 in
theorem number_text (s : ByteArray) (w : World) (hs : s.size ≤ 140737488351232) (hT : Tabs w) :
    Calls Tryd.prog 65 #[.string s] w (NumPost (numT s.data.toList) (isNum s.data.toList big62) w) := by
  have HT := Lib.hid hT
  have HS := Lib.hid hs
  clear hT hs
  cases h : Lib.atoiAll s.data.toList with
  | ok v =>
    have hi : Hid (isNum s.data.toList big62 = decide (0 ≤ v ∧ v ≤ big62 ∧ Lib.itoa v = s.data.toList)) := Lib.hid (isNum_of_ok (by decide) h)
    have HA := Lib.hid h
    have hvo : Hid (isNum s.data.toList big62 = true → numT s.data.toList = v) := Lib.hid (fun hn => by
      have := (isNum_atoi (by decide) hn).1
      rw [h] at this
      injection this with this
      unfold numT; rw [if_pos hn, this])
    have hvn : Hid (isNum s.data.toList big62 = false → numT s.data.toList = 0) := Lib.hid (fun hn => by unfold numT; rw [hn]; rfl)
    clear h
    by_cases h0 : v < 0
    · have d0 : decide (v < 0) = true := by simpa using h0
      have hf : Hid (isNum s.data.toList big62 = false) := Lib.hid (by rw [hi.out]; exact decide_eq_false (fun h => by have := h.1; omega))
      clear h0
      go_enter Tryd.func65, Tryd.ntmps65
      go_wp2_with fail
      refine (atoi_good s v _ HS.out HA.out).mono ?_
      rintro e w1 ⟨rfl, h1⟩
      go_wp2_with fail
      go_ret2
      exact num_end (hvn.out hf.out) hf.out h1
    · have d0 : decide (v < 0) = false := by simpa using h0
      by_cases hm : v ≤ 4611686018427387904
      · have d1 : decide (4611686018427387904 < v) = false := by simpa using hm
        have HI := Lib.hid (fun W (hT : Tabs W) => itoa_any v W (by omega) (by omega) hT)
        cases hq : (Lib.itoa v == s.toList) with
        | true =>
          have hf : Hid (isNum s.data.toList big62 = true) := Lib.hid (by
            rw [ByteArray.toList_eq, beq_iff_eq] at hq
            rw [hi.out]; exact decide_eq_true ⟨by omega, by show v ≤ 4611686018427387904; exact hm, hq⟩)
          clear h0 hm
          go_enter Tryd.func65, Tryd.ntmps65
          go_wp2_with fail
          refine (atoi_good s v _ HS.out HA.out).mono ?_
          rintro e w1 ⟨rfl, h1⟩
          have HT1 := Lib.hid (HT.out.below h1)
          go_wp2_with fail
          refine (HI.out _ HT1.out).mono ?_
          rintro e w2 ⟨rfl, h2⟩
          go_wp2_with fail
          go_ret2
          exact num_end (hvo.out hf.out) hf.out (below_then h1 h2)
        | false =>
          have hf : Hid (isNum s.data.toList big62 = false) := Lib.hid (by
            rw [ByteArray.toList_eq, beq_eq_false_iff_ne] at hq
            rw [hi.out]; exact decide_eq_false (fun h => hq h.2.2))
          clear h0 hm
          go_enter Tryd.func65, Tryd.ntmps65
          go_wp2_with fail
          refine (atoi_good s v _ HS.out HA.out).mono ?_
          rintro e w1 ⟨rfl, h1⟩
          have HT1 := Lib.hid (HT.out.below h1)
          go_wp2_with fail
          refine (HI.out _ HT1.out).mono ?_
          rintro e w2 ⟨rfl, h2⟩
          go_wp2_with fail
          go_ret2
          exact num_end (hvn.out hf.out) hf.out (below_then h1 h2)
      · have d1 : decide (4611686018427387904 < v) = true := by simpa using hm
        have hf : Hid (isNum s.data.toList big62 = false) := Lib.hid (by rw [hi.out]; exact decide_eq_false (fun h => hm (by have := h.2.1; unfold big62 at this; omega)))
        clear h0 hm
        go_enter Tryd.func65, Tryd.ntmps65
        go_wp2_with fail
        refine (atoi_good s v _ HS.out HA.out).mono ?_
        rintro e w1 ⟨rfl, h1⟩
        go_wp2_with fail
        go_ret2
        exact num_end (hvn.out hf.out) hf.out h1
  | «syntax» | range =>
    all_goals
      have hi := isNum_of_bad (l := s.data.toList) (most := big62) (by decide) (fun v e => by rw [h] at e; cases e)
      have HI := Lib.hid hi
      have hn : Hid (numT s.data.toList = 0) := Lib.hid (by unfold numT; rw [hi]; rfl)
      have HB := Lib.hid (fun W (hT : Tabs W) => atoi_bad s W HS.out (fun v e => by rw [h] at e; cases e) hT)
      clear h hi
      generalize atoiV s.data.toList = v at *
      go_enter Tryd.func65, Tryd.ntmps65
      go_wp2_with fail
      refine (HB.out _ HT.out).mono ?_
      rintro e w1 ⟨N, rfl, h1⟩
      go_wp2_with fail
      go_ret2
      exact num_end hn.out HI.out h1

theorem isNum_bad {l : List UInt8} {c : UInt8} {m : Nat} (hc : c ∈ l) (h : ¬ digit c) : isNum l m = false := by
  unfold isNum
  rw [decide_eq_false]
  rintro ⟨e, _⟩
  exact h (dec_digits (valOf l) c (by rw [e]; exact hc))
theorem isNum_long {l : List UInt8} (h : 19 < l.length) : isNum l big62 = false := by
  unfold isNum
  rw [decide_eq_false]
  rintro ⟨e, h2⟩
  have := dec_len_le 19 (valOf l) (by unfold big62 at h2; omega) (by omega)
  rw [e] at this; omega

/-- The walk of the law TextNumbers needs the fixed fact; it stands in a later text. -/
theorem numT_bounds (l : List UInt8) : 0 ≤ numT l ∧ numT l ≤ 4611686018427387904 := by
  unfold numT
  split
  · rename_i h
    have := (isNum_atoi (by decide) h).2.1
    unfold big62 at this
    omega
  · omega
end Go.Proofs.YtfiddoibnjildaaDoor
