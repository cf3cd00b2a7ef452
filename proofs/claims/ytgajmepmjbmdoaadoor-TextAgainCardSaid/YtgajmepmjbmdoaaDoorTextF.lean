/- The walk of the law TextAgain. -/
import Derived.Test.YtgajmepmjbmdoaaDoorTextE
namespace Go.Proofs.YtgajmepmjbmdoaaDoor
set_option linter.unusedSimpArgs false
set_option linter.unusedVariables false
open Go Go.RowKit

theorem Rising.mono : ∀ {n k : Nat} {r : List Ln}, Rising n r → k ≤ n → Rising k r
  | _, _, [], _, _ => trivial
  | _, _, _ :: _, h, hk => ⟨Nat.le_trans hk h.1, h.2⟩
/-- What of a line's words is still to be put down, from word k on. -/
def jr (k : Nat) (ws : List (List UInt8)) : List UInt8 := if k = 0 then Lib.join ws [32] else Lib.joinTail [32] (ws.drop k)
theorem jr_step {k : Nat} {ws : List (List UInt8)} (h : k < ws.length) : jr k ws = (if k = 0 then [] else [32]) ++ (ws[k] ++ jr (k + 1) ws) := by
  unfold jr
  rw [if_neg (show ¬ k + 1 = 0 by omega)]
  by_cases h0 : k = 0
  · subst h0
    rw [if_pos rfl, if_pos rfl]
    cases ws with
    | nil => simp at h
    | cons x r => rw [Lib.join_cons]; rfl
  · rw [if_neg h0, if_neg h0, List.drop_eq_getElem_cons h]
    simp only [Lib.joinTail, List.map_cons, List.flatten_cons, List.append_assoc]
theorem jr_end {ws : List (List UInt8)} (h : ws ≠ []) : jr ws.length ws = [] := by
  unfold jr
  rw [if_neg (by intro e; exact h (List.length_eq_zero_iff.1 e)), List.drop_of_length_le (Nat.le_refl _)]; rfl
theorem cat_str (p : List UInt8) (s : ByteArray) : (⟨p.toArray⟩ : ByteArray) ++ s = ⟨(p ++ s.data.toList).toArray⟩ := str_cat (b := s.data.toList) rfl
theorem str_of (s : ByteArray) : str s.data.toList = .string s := rfl

set_option maxHeartbeats 8000000 in
set_option maxRecDepth 100000 in
theorem textAgain_walk (s : ByteArray) (w : World) (hs : s.size ≤ 140737488351232) (hT : TabsT w) :
    Calls Tryd.prog 9 #[.string s] w fun e w' => e = .returned (.bool true) ∧ Below w.heap.size w w' := by
  have HT := Lib.hid hT
  obtain ⟨⟨ls, a0, c⟩, hp⟩ : ∃ q, textF s.data.toList = q := ⟨_, rfl⟩
  have HN := Lib.hid (fun v (hT : TabsT v) => lines_val s ls a0 c v hs hT hp)
  have HSZ := Lib.hid (textF_size hp)
  by_cases hc : c = 0
  · have hfin : s.data.toList.length ≤ 4096 ∧ firstBad s.data.toList = none ∧ ls = linesOf s.data.toList ∧ a0 = 0 := by
      unfold textF at hp
      split at hp
      · cases hp; cases hc
      · rename_i hl
        cases hb : firstBad s.data.toList with
        | some i => rw [hb] at hp; cases hp; cases hc
        | none => rw [hb] at hp; cases hp; exact ⟨by omega, rfl, rfl, rfl⟩
    obtain ⟨hl, hb, els, rfl⟩ := hfin
    have hag := again_law hl hb
    have hbd := lines_bound hl hb
    have hri := lines_rising hb
    rw [← els] at hag hbd hri
    have HAG := Lib.hid hag
    have HBD := Lib.hid hbd
    have hls : ls.length ≤ 4097 := hbd.1
    have hsz : s.size ≤ 4096 := by simpa using hl
    have HRI := Lib.hid hri
    have hrl : (rej 1 ls).length ≤ 4096 := by have := hag.2; omega
    have hrs : (rej 1 ls).length ≤ s.size := by have := hag.2; simpa using this
    subst hc
    clear els hag hbd hri hl hb hp hs hT
    go_enter Tryd.func9, Tryd.ntmps9
    go_wp2_with fail
    refine (HN.out _ HT.out).mono ?_
    rintro e w1 ⟨v1, rfl, hl1, h1⟩
    have HT1 := Lib.hid (HT.out.below h1)
    have HB1 := Lib.hid h1
    have HL1 := Lib.hid hl1
    obtain ⟨x1, c1, rfl, hat⟩ := hl1.at
    have HAT := Lib.hid hat
    clear h1 hl1 hat
    go_wp2_with fail
    go_loop [6, 7, 8] (fun t at' i => ∃ (i' a : Nat) (p : List UInt8), i' ≤ ls.length ∧ a ≤ 4098 ∧ t = .string ⟨p.toArray⟩ ∧ at' = .int .i64 a ∧ i = .int .i64 i' ∧ Hid (rej 1 ls = p ++ rej a (ls.drop i')) ∧ Hid (Rising a (ls.drop i'))) (fun _ _ i => ls.length - (intOf i).toNat)
    case atStart => exact ⟨0, 1, [], Nat.zero_le _, by omega, rfl, rfl, rfl, Lib.hid (by rw [List.drop_zero]; rfl), Lib.hid (by rw [List.drop_zero]; exact HRI.out)⟩
    case round =>
      obtain ⟨i, a, p, hi, ha, rfl, rfl, rfl, hrj, hrs1⟩ := hrel
      by_cases hlt : i < ls.length
      · obtain ⟨b1, o1, y1, z1, rfl, q0, q1, HQ⟩ := HAT.out i hlt
        have hd : ls.drop i = ls[i] :: ls.drop (i + 1) := List.drop_eq_getElem_cons hlt
        have hbx := HBD.out.2 _ (List.getElem_mem hlt)
        have HK := Lib.hid HQ
        clear HQ
        have hR1 := hrs1.out
        have hJ1 := hrj.out
        rw [hd] at hR1 hJ1
        clear hd hrs1 hrj
        generalize ls[i] = ln at *
        obtain ⟨m, ws⟩ := ln
        simp only at q0 q1 HK hbx
        obtain ⟨ham, hwne, hwok, hR2⟩ := hR1
        have HR2 := Lib.hid (Rising.mono hR2 (Nat.le_succ m))
        have HJ := Lib.hid (show rej 1 ls = p ++ (List.replicate (m - a) 10 ++ (Lib.join ws [32] ++ rej m (ls.drop (i + 1)))) from hJ1)
        have HWN := Lib.hid hwne
        have HWO := Lib.hid hwok
        have HBX := Lib.hid hbx.2.2
        have hm : m ≤ 4098 := hbx.1
        have hwl : ws.length ≤ 4096 := hbx.2.1
        have hw0 : ((ws.length : Int) == 0) = false := by
          rw [beq_eq_false_iff_ne]; intro e; exact hwne (List.length_eq_zero_iff.1 (by omega))
        clear hbx hR2 hJ1 hwne hwok
        go_wp2_with fail
        go_loop [6, 7] (fun t at' => ∃ (b : Nat) (p2 : List UInt8), b ≤ m ∧ t = .string ⟨p2.toArray⟩ ∧ at' = .int .i64 b ∧ Hid (rej 1 ls = p2 ++ (List.replicate (m - b) 10 ++ (Lib.join ws [32] ++ rej m (ls.drop (i + 1)))))) (fun _ at' => m - (intOf at').toNat)
        case atStart => exact ⟨a, p, ham, rfl, rfl, HJ⟩
        case round =>
          obtain ⟨b, p2, hb, rfl, rfl, hj⟩ := hrel
          have hpl : p2.length ≤ 4096 := by have := congrArg List.length hj.out; rw [List.length_append] at this; omega
          by_cases hbm : b < m
          · go_wp2_with fail
            go_round
            case rel =>
              refine ⟨b + 1, p2 ++ [10], by omega, congrArg Value.string (str_cat (b := [10]) rfl), by go_num, Lib.hid ?_⟩
              rw [hj.out, show m - b = (m - (b + 1)) + 1 by omega, List.replicate_succ]; simp
            case measure => first | (simp [intOf]; omega) | (simp [intOf]; done)
          · obtain rfl : b = m := by omega
            have HJ2 : Hid (rej 1 ls = p2 ++ (jr 0 ws ++ rej b (ls.drop (i + 1)))) := Lib.hid (by rw [hj.out]; simp [jr])
            clear hj HJ
            go_wp2_with fail
            go_loop [6, 9] (fun t k => ∃ (k' : Nat) (p3 : List UInt8), k' ≤ ws.length ∧ t = .string ⟨p3.toArray⟩ ∧ k = .int .i64 k' ∧ Hid (rej 1 ls = p3 ++ (jr k' ws ++ rej b (ls.drop (i + 1))))) (fun _ k => ws.length - (intOf k).toNat)
            case atStart => exact ⟨0, p2, Nat.zero_le _, rfl, rfl, HJ2⟩
            case round =>
              obtain ⟨k, p3, hk, rfl, rfl, hj⟩ := hrel
              have hpl3 : p3.length ≤ 4096 := by have := congrArg List.length hj.out; rw [List.length_append] at this; omega
              by_cases hkl : k < ws.length
              · obtain ⟨d1, e1, rfl, r0⟩ := HK.out k hkl
                have hj2 := hj.out
                rw [jr_step hkl] at hj2
                have hok := HWO.out _ (List.getElem_mem hkl)
                have hsl := HBX.out _ (List.getElem_mem hkl)
                generalize ws[k] = sw at *
                obtain ⟨s2, rfl⟩ : ∃ s2 : ByteArray, sw = s2.data.toList := ⟨⟨sw.toArray⟩, rfl⟩
                rw [str_of] at r0
                have hs2 : s2.size ≤ 4096 := by simpa using hsl
                have HJ3 := Lib.hid hj2
                have HOK := Lib.hid hok
                clear hj2 hok hj hsl
                go_wp2_with fail
                go_loop [11] (fun j => ∃ j' : Nat, j' ≤ s2.size ∧ j = .int .i64 j') (fun j => s2.size - (intOf j).toNat)
                case atStart => exact ⟨0, Nat.zero_le _, rfl⟩
                case round =>
                  obtain ⟨j, hjs, rfl⟩ := hrel
                  by_cases hjl : j < s2.size
                  · obtain ⟨x1, x2, x3⟩ := HOK.out.2 s2[j] (by show s2.data[j] ∈ _; simp)
                    have g1 : 32 < (s2[j].toNat : Int) := by omega
                    have g2 : (s2[j].toNat : Int) ≤ 126 := by omega
                    have g3 : ((s2[j].toNat : Int) == 35) = false := byte_ne x3
                    clear x1 x2 x3
                    go_wp2_with fail
                    go_round
                    case rel => exact ⟨j + 1, by omega, by go_num⟩
                    case measure => first | (simp [intOf]; omega) | (simp [intOf]; done)
                  · obtain rfl : j = s2.size := by omega
                    by_cases hk0 : k = 0
                    · have hpl4 : p3.length + s2.size ≤ 4096 := by have := congrArg List.length HJ3.out; simp at this; omega
                      go_wp2_with fail
                      go_round
                      case rel =>
                        refine ⟨k + 1, p3 ++ s2.data.toList, by omega, congrArg Value.string (cat_str _ _), by go_num, Lib.hid ?_⟩
                        rw [HJ3.out, if_pos hk0]; simp
                      case measure => first | (simp [intOf]; omega) | (simp [intOf]; done)
                    · have hpl4 : p3.length + 1 + s2.size ≤ 4096 := by have := congrArg List.length HJ3.out; rw [if_neg hk0] at this; simp at this; omega
                      have hkp : 0 < k := by omega
                      go_wp2_with fail
                      go_round
                      case rel =>
                        refine ⟨k + 1, p3 ++ [32] ++ s2.data.toList, by omega, congrArg Value.string ((congrArg (· ++ s2) (str_cat (b := [32]) rfl)).trans (cat_str _ _)), by go_num, Lib.hid ?_⟩
                        rw [HJ3.out, if_neg hk0]; simp
                      case measure => first | (simp [intOf]; omega) | (simp [intOf]; done)
              · obtain rfl : k = ws.length := by omega
                have HE : Hid (rej 1 ls = p3 ++ rej b (ls.drop (i + 1))) := Lib.hid (by rw [hj.out, jr_end HWN.out, List.nil_append])
                clear hj
                go_wp2_with fail
                go_round
                case rel => exact ⟨i + 1, b, p3, by omega, hm, rfl, rfl, by go_num, HE, HR2⟩
                case measure => first | (simp [intOf]; omega) | (simp [intOf]; done)
      · obtain rfl : i = ls.length := by omega
        have hpe : rej 1 ls = p := by rw [hrj.out, List.drop_of_length_le (Nat.le_refl _)]; simp [rej]
        have hpl : p.length ≤ 4096 := by rw [← hpe]; exact hrl
        have hps : p.length ≤ s.size := by rw [← hpe]; exact hrs
        have HR := Lib.hid (fun v (hT : TabsT v) => lines_val ⟨p.toArray⟩ ls 0 0 v (by show p.toArray.size ≤ _; simp; omega) hT (by rw [← hpe]; exact HAG.out.1))
        clear hpe hrj hrs1
        go_wp2_with fail
        refine (HR.out _ HT1.out).mono ?_
        rintro e w2 ⟨v2, rfl, hl2, h2⟩
        have HT2 := Lib.hid (HT1.out.below h2)
        have HB2 := Lib.hid (below_then HB1.out h2)
        have HL2 := Lib.hid (HL1.out.below h2)
        have HM2 := Lib.hid hl2
        clear h2 hl2
        go_wp2_with fail
        refine (awake11_any _ HT2.out).mono ?_
        rintro e w3 ⟨rfl, h3⟩
        have HB3 := Lib.hid (below_then HB2.out h3)
        have HL3 := Lib.hid (HL2.out.below h3)
        have HM3 := Lib.hid (HM2.out.below h3)
        clear h3
        go_wp2_with fail
        refine (same_eq _ _ ls _ HL3.out HM3.out HSZ.out.1 HSZ.out.2).mono ?_
        rintro e w4 ⟨rfl, h4⟩
        have HB4 := Lib.hid (below_then HB3.out h4)
        clear h4
        go_wp2_with fail
        go_ret
        exact ⟨by first | rfl | (simp; done) | (simp; omega), HB4.out⟩
  · have hnil : ls = [] := by
      unfold textF at hp
      split at hp
      · cases hp; rfl
      · cases hb : firstBad s.data.toList with
        | some i => rw [hb] at hp; cases hp; rfl
        | none => rw [hb] at hp; cases hp; exact absurd rfl hc
    subst hnil
    have hcc : ((c : Int) == 0) = false := beq_eq_false_iff_ne.2 hc
    have hcn : ((c : Int) != 0) = true := bne_iff_ne.2 hc
    clear hp hs hT hc
    go_enter Tryd.func9, Tryd.ntmps9
    go_wp2_with fail
    refine (HN.out _ HT.out).mono ?_
    rintro e w1 ⟨v1, rfl, hl1, h1⟩
    have HT1 := Lib.hid (HT.out.below h1)
    have HB1 := Lib.hid h1
    obtain ⟨x1, c1, rfl, _⟩ := hl1
    clear h1
    go_wp2_with fail
    refine (awake11_any _ HT1.out).mono ?_
    rintro e w2 ⟨rfl, h2⟩
    have HB2 := Lib.hid (below_then HB1.out h2)
    clear h2
    go_wp2_with fail
    go_ret
    exact ⟨by first | rfl | (simp; done), HB2.out⟩
end Go.Proofs.YtgajmepmjbmdoaaDoor
