/- The walk of the reference's Print. -/
import Derived.Test.YtfiddoibnjildaaDoorRuleG
namespace Go.Proofs.YtfiddoibnjildaaDoor
set_option linter.unusedSimpArgs false
set_option linter.unusedVariables false
open Go Go.RowKit

set_option maxHeartbeats 4000000 in
set_option maxRecDepth 100000 in
theorem refPrints_any (s : Option Addr) (cap : Nat) (rs : List Rl) (w : World) (hL : RulesAt w s rs) (hmax : rs.length ≤ maxLen) :
    Calls Tryd.prog 6 #[.slice s rs.length cap] w fun e w' => e = .returned (.tuple #[str (printF rs).1, .int .i64 (printF rs).2]) ∧ Below w.heap.size w w' := by
  have hmax2 : rs.length ≤ 9223372036854775807 := Nat.le_trans hmax (by decide)
  by_cases h64 : 64 < rs.length
  · have HV : Hid (printF rs = ([], 14)) := Lib.hid (by unfold printF; rw [if_pos h64])
    go_enter Tryd.func6, Tryd.ntmps6
    go_wp2_with fail
    go_ret2
    exact ⟨by (rw [HV.out]) <;> rfl, Below.refl _ _⟩
  have hle : rs.length ≤ 64 := by omega
  have hin : ∀ r ∈ rs, r.In := fun r hr => by
    obtain ⟨i, hi, e⟩ := List.getElem_of_mem hr
    exact (hL i r (by rw [List.getElem?_eq_getElem hi, e])).1
  have HL := Lib.hid hL
  have HIN := Lib.hid hin
  clear hL hin
  go_enter Tryd.func6, Tryd.ntmps6
  go_wp2_with fail
  go_loopw [4, 5] (fun t n wr => ∃ (j : Nat) (l : List UInt8), t = str l ∧ n = .int .i64 j ∧ j ≤ rs.length ∧ l.length ≤ 4736 ∧ Hid (∀ i r, i < j → rs[i]? = some r → goodR r = true) ∧ Hid (l = printL (rs.take j)) ∧ Hid (Below w.heap.size w wr)) (fun _ n _ => rs.length - (intOf n).toNat)
  case atStart => exact ⟨0, [], rfl, rfl, by omega, by simp, Lib.hid (fun i r hi => absurd hi (Nat.not_lt_zero _)), Lib.hid rfl, Lib.hid (Below.refl _ _)⟩
  case round =>
    obtain ⟨j, l, rfl, rfl, hj, hll, hgood, hEL, hB⟩ := hrel
    by_cases hl : j < rs.length
    · obtain ⟨r, hrj⟩ : ∃ r, rs[j]? = some r := ⟨rs[j], List.getElem?_eq_getElem hl⟩
      obtain ⟨hr, ad, rfl, hR⟩ := HL.out.below hB.out j r hrj
      have HG := Lib.hid (fun W => refGood_any r W hr)
      have HLN := Lib.hid (fun W => refLine_any r W hr)
      have HRJ := Lib.hid hrj
      have hls := lineS_len hr
      have HPT := Lib.hid (print_take hrj)
      have HPL : Hid ((printL (rs.take (j + 1))).length ≤ 4736) := Lib.hid (by
        have := print_len (rs := rs.take (j + 1)) (fun x hx => HIN.out x (List.mem_of_mem_take hx))
        rw [List.length_take] at this
        omega)
      have HR := Lib.hid hR
      clear hrj hr
      generalize hle2 : lineS r = ls at *
      generalize hgr : goodR r = gr at *
      obtain ⟨acc, pr, sa, sb, da, db, sl, sh, dl, dh⟩ := r
      obtain ⟨c0, c1, c2, c3, c4, c5, c6, c7, c8, c9⟩ := hR
      simp only at c0 c1 c2 c3 c4 c5 c6 c7 c8 c9
      have HGR := Lib.hid hgr
      clear hgr hle2
      go_wp2_with fail
      clear c0 c1 c2 c3 c4 c5 c6 c7 c8 c9
      refine (HG.out _).mono ?_
      rintro e w2 ⟨rfl, h2⟩
      have HB2 := Lib.hid (below_then hB.out h2)
      cases gr with
      | false =>
        have HV : Hid (printF rs = ([], 1)) := Lib.hid (print_bad hle HRJ.out HGR.out)
        clear h2
        go_wp2_with fail
        go_ret2
        exact ⟨by (rw [HV.out]) <;> rfl, HB2.out⟩
      | true =>
        obtain ⟨c0, c1, c2, c3, c4, c5, c6, c7, c8, c9⟩ := HR.out.below h2
        simp only at c0 c1 c2 c3 c4 c5 c6 c7 c8 c9
        clear h2 HR
        go_wp2_with fail
        clear c0 c1 c2 c3 c4 c5 c6 c7 c8 c9
        refine (HLN.out _).mono ?_
        rintro e w3 ⟨rfl, h3⟩
        have HB3 := Lib.hid (below_then HB2.out h3)
        clear h3 HB2
        go_wp2_with fail
        go_roundw
        case rel =>
          refine ⟨j + 1, l ++ (ls ++ [10]), ?_, by go_num, by omega, ?_, Lib.hid (fun i r hi hri => ?_), Lib.hid (by rw [HPT.out, ← hEL.out]), HB3⟩
          · refine congrArg Value.string ?_
            apply ByteArray.ext
            simp
          · rw [hEL.out, ← HPT.out]; exact HPL.out
          · rcases Nat.lt_or_eq_of_le (Nat.le_of_lt_succ hi) with h | rfl
            · exact hgood.out i r h hri
            · rw [HRJ.out] at hri; injection hri with hri; rw [← hri]; exact HGR.out
        case measure => simp [intOf]; omega
    · obtain rfl : j = rs.length := by omega
      have HV : Hid (printF rs = (printL rs, 0)) := Lib.hid (print_all hle hgood.out)
      have HE : Hid (l = printL rs) := Lib.hid (by have := hEL.out; rwa [List.take_length] at this)
      clear hgood hEL
      go_wp2_with fail
      go_ret2
      exact ⟨by (rw [HV.out, ← HE.out]) <;> rfl, hB.out⟩
end Go.Proofs.YtfiddoibnjildaaDoor
