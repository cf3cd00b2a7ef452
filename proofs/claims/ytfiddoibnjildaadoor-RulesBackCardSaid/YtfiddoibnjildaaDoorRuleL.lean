/- Same over one list; the walk of RulesBack. Printed by gen_rulel.py. -/
import Derived.Test.YtfiddoibnjildaaDoorRuleK
namespace Go.Proofs.YtfiddoibnjildaaDoor
set_option linter.unusedSimpArgs false
set_option linter.unusedVariables false
open Go Go.RowKit

set_option maxHeartbeats 4000000 in
set_option maxRecDepth 100000 in
theorem same_rules (s1 s2 : Option Addr) (k1 k2 : Nat) (rs : List Rl) (w : World) (h1 : RulesAt w s1 rs) (h2 : RulesAt w s2 rs) (hmax : rs.length ≤ maxLen) :
    Calls Tryd.prog 11 #[.slice s1 rs.length k1, .slice s2 rs.length k2] w fun e w' => e = .returned (.bool true) ∧ Below w.heap.size w w' := by
  have hmax2 : rs.length ≤ 9223372036854775807 := Nat.le_trans hmax (by decide)
  have H1 := Lib.hid h1
  have H2 := Lib.hid h2
  clear h1 h2
  go_enter Tryd.func11, Tryd.ntmps11
  go_wp2_with fail
  go_loopw [5] (fun n wr => ∃ j : Nat, n = .int .i64 j ∧ j ≤ rs.length ∧ Hid (Below w.heap.size w wr)) (fun n _ => rs.length - (intOf n).toNat)
  case atStart => exact ⟨0, rfl, by omega, Lib.hid (Below.refl _ _)⟩
  case round =>
    obtain ⟨j, rfl, hj, hB⟩ := hrel
    by_cases hl : j < rs.length
    · obtain ⟨r, hrj⟩ : ∃ r, rs[j]? = some r := ⟨rs[j], List.getElem?_eq_getElem hl⟩
      obtain ⟨_, ad, rfl, c0, c1, c2, c3, c4, c5, c6, c7, c8, c9⟩ := H1.out.below hB.out j r hrj
      obtain ⟨_, ae, rfl, d0, d1, d2, d3, d4, d5, d6, d7, d8, d9⟩ := H2.out.below hB.out j r hrj
      obtain ⟨acc, pr, sa, sb, da, db, sl, sh, dl, dh⟩ := r
      simp only at c0 c1 c2 c3 c4 c5 c6 c7 c8 c9 d0 d1 d2 d3 d4 d5 d6 d7 d8 d9
      have hj0 : (0 : Int) ≤ (j : Int) := by omega
      have hjl : (j : Int) < (rs.length : Int) := by omega
      clear hrj
      go_wp2_with fail
      refine WQ.enter wr (Since.refl _) (by kernel_rfl) (by kernel_rfl) ?_
      refine WQ.val (by rfl) (fun v hv => by have k0 := hv.cell c0; have k1 := hv.cell c1; have k2 := hv.cell c2; have k3 := hv.cell c3; have k4 := hv.cell c4; have k5 := hv.cell c5; have k6 := hv.cell c6; have k7 := hv.cell c7; have k8 := hv.cell c8; have k9 := hv.cell c9; have k10 := hv.cell d0; have k11 := hv.cell d1; have k12 := hv.cell d2; have k13 := hv.cell d3; have k14 := hv.cell d4; have k15 := hv.cell d5; have k16 := hv.cell d6; have k17 := hv.cell d7; have k18 := hv.cell d8; have k19 := hv.cell d9; go_simp; first | done | with_reducible rfl | (rw [if_neg (by omega)])) ?_; simp only [Act.put, List.setIfInBounds_toArray, List.set_cons_zero, List.set_cons_succ]
      refine WQ.val (by rfl) (fun v hv => by have k0 := hv.cell c0; have k1 := hv.cell c1; have k2 := hv.cell c2; have k3 := hv.cell c3; have k4 := hv.cell c4; have k5 := hv.cell c5; have k6 := hv.cell c6; have k7 := hv.cell c7; have k8 := hv.cell c8; have k9 := hv.cell c9; have k10 := hv.cell d0; have k11 := hv.cell d1; have k12 := hv.cell d2; have k13 := hv.cell d3; have k14 := hv.cell d4; have k15 := hv.cell d5; have k16 := hv.cell d6; have k17 := hv.cell d7; have k18 := hv.cell d8; have k19 := hv.cell d9; go_simp; first | done | with_reducible rfl | (rw [if_neg (by omega)])) ?_; simp only [Act.put, List.setIfInBounds_toArray, List.set_cons_zero, List.set_cons_succ]
      refine WQ.val (by rfl) (fun v hv => by have k0 := hv.cell c0; have k1 := hv.cell c1; have k2 := hv.cell c2; have k3 := hv.cell c3; have k4 := hv.cell c4; have k5 := hv.cell c5; have k6 := hv.cell c6; have k7 := hv.cell c7; have k8 := hv.cell c8; have k9 := hv.cell c9; have k10 := hv.cell d0; have k11 := hv.cell d1; have k12 := hv.cell d2; have k13 := hv.cell d3; have k14 := hv.cell d4; have k15 := hv.cell d5; have k16 := hv.cell d6; have k17 := hv.cell d7; have k18 := hv.cell d8; have k19 := hv.cell d9; go_simp; first | done | with_reducible rfl | (rw [if_neg (by omega)])) ?_; simp only [Act.put, List.setIfInBounds_toArray, List.set_cons_zero, List.set_cons_succ]
      refine WQ.val (by rfl) (fun v hv => by have k0 := hv.cell c0; have k1 := hv.cell c1; have k2 := hv.cell c2; have k3 := hv.cell c3; have k4 := hv.cell c4; have k5 := hv.cell c5; have k6 := hv.cell c6; have k7 := hv.cell c7; have k8 := hv.cell c8; have k9 := hv.cell c9; have k10 := hv.cell d0; have k11 := hv.cell d1; have k12 := hv.cell d2; have k13 := hv.cell d3; have k14 := hv.cell d4; have k15 := hv.cell d5; have k16 := hv.cell d6; have k17 := hv.cell d7; have k18 := hv.cell d8; have k19 := hv.cell d9; go_simp; first | done | with_reducible rfl | (rw [if_neg (by omega)])) ?_; simp only [Act.put, List.setIfInBounds_toArray, List.set_cons_zero, List.set_cons_succ]
      refine WQ.val (by rfl) (fun v hv => by have k0 := hv.cell c0; have k1 := hv.cell c1; have k2 := hv.cell c2; have k3 := hv.cell c3; have k4 := hv.cell c4; have k5 := hv.cell c5; have k6 := hv.cell c6; have k7 := hv.cell c7; have k8 := hv.cell c8; have k9 := hv.cell c9; have k10 := hv.cell d0; have k11 := hv.cell d1; have k12 := hv.cell d2; have k13 := hv.cell d3; have k14 := hv.cell d4; have k15 := hv.cell d5; have k16 := hv.cell d6; have k17 := hv.cell d7; have k18 := hv.cell d8; have k19 := hv.cell d9; go_simp; first | done | with_reducible rfl | (rw [if_neg (by omega)])) ?_; simp only [Act.put, List.setIfInBounds_toArray, List.set_cons_zero, List.set_cons_succ]
      refine WQ.val (by rfl) (fun v hv => by have k0 := hv.cell c0; have k1 := hv.cell c1; have k2 := hv.cell c2; have k3 := hv.cell c3; have k4 := hv.cell c4; have k5 := hv.cell c5; have k6 := hv.cell c6; have k7 := hv.cell c7; have k8 := hv.cell c8; have k9 := hv.cell c9; have k10 := hv.cell d0; have k11 := hv.cell d1; have k12 := hv.cell d2; have k13 := hv.cell d3; have k14 := hv.cell d4; have k15 := hv.cell d5; have k16 := hv.cell d6; have k17 := hv.cell d7; have k18 := hv.cell d8; have k19 := hv.cell d9; go_simp; first | done | with_reducible rfl | (rw [if_neg (by omega)])) ?_; simp only [Act.put, List.setIfInBounds_toArray, List.set_cons_zero, List.set_cons_succ]
      refine WQ.val (by rfl) (fun v hv => by have k0 := hv.cell c0; have k1 := hv.cell c1; have k2 := hv.cell c2; have k3 := hv.cell c3; have k4 := hv.cell c4; have k5 := hv.cell c5; have k6 := hv.cell c6; have k7 := hv.cell c7; have k8 := hv.cell c8; have k9 := hv.cell c9; have k10 := hv.cell d0; have k11 := hv.cell d1; have k12 := hv.cell d2; have k13 := hv.cell d3; have k14 := hv.cell d4; have k15 := hv.cell d5; have k16 := hv.cell d6; have k17 := hv.cell d7; have k18 := hv.cell d8; have k19 := hv.cell d9; go_simp; first | done | with_reducible rfl | (rw [if_neg (by omega)])) ?_; simp only [Act.put, List.setIfInBounds_toArray, List.set_cons_zero, List.set_cons_succ]
      refine WQ.val (by rfl) (fun v hv => by have k0 := hv.cell c0; have k1 := hv.cell c1; have k2 := hv.cell c2; have k3 := hv.cell c3; have k4 := hv.cell c4; have k5 := hv.cell c5; have k6 := hv.cell c6; have k7 := hv.cell c7; have k8 := hv.cell c8; have k9 := hv.cell c9; have k10 := hv.cell d0; have k11 := hv.cell d1; have k12 := hv.cell d2; have k13 := hv.cell d3; have k14 := hv.cell d4; have k15 := hv.cell d5; have k16 := hv.cell d6; have k17 := hv.cell d7; have k18 := hv.cell d8; have k19 := hv.cell d9; go_simp; first | done | with_reducible rfl | (rw [if_neg (by omega)])) ?_; simp only [Act.put, List.setIfInBounds_toArray, List.set_cons_zero, List.set_cons_succ]
      refine WQ.val (by rfl) (fun v hv => by have k0 := hv.cell c0; have k1 := hv.cell c1; have k2 := hv.cell c2; have k3 := hv.cell c3; have k4 := hv.cell c4; have k5 := hv.cell c5; have k6 := hv.cell c6; have k7 := hv.cell c7; have k8 := hv.cell c8; have k9 := hv.cell c9; have k10 := hv.cell d0; have k11 := hv.cell d1; have k12 := hv.cell d2; have k13 := hv.cell d3; have k14 := hv.cell d4; have k15 := hv.cell d5; have k16 := hv.cell d6; have k17 := hv.cell d7; have k18 := hv.cell d8; have k19 := hv.cell d9; go_simp; first | done | with_reducible rfl | (rw [if_neg (by omega)])) ?_; simp only [Act.put, List.setIfInBounds_toArray, List.set_cons_zero, List.set_cons_succ]
      refine WQ.done ?_
      intro w5 hw5
      have HB5 := Lib.hid (below_then hB.out hw5)
      clear hw5 c0 c1 c2 c3 c4 c5 c6 c7 c8 c9 d0 d1 d2 d3 d4 d5 d6 d7 d8 d9
      go_wp2_with fail
      go_roundw
      case rel => exact ⟨j + 1, by go_num, by omega, HB5⟩
      case measure => simp [intOf]; omega
    · obtain rfl : j = rs.length := by omega
      go_wp2_with fail
      go_ret
      exact ⟨rfl, hB.out⟩
/-- Same, of lists that are known to be one. -/
theorem same_val {s1 s2 : Option Addr} {k1 k2 n1 n2 : Nat} {rs : List Rl} {w : World} (e1 : rs.length = n1) (e2 : rs.length = n2) (h1 : RulesAt w s1 rs) (h2 : RulesAt w s2 rs) (hmax : rs.length ≤ maxLen) :
    Calls Tryd.prog 11 #[.slice s1 n1 k1, .slice s2 n2 k2] w fun e w' => e = .returned (.bool true) ∧ Below w.heap.size w w' := by
  subst e1
  rw [← e2]
  exact same_rules s1 s2 k1 k2 rs w h1 h2 hmax
theorem rules_in {w : World} {a : Option Addr} {rs : List Rl} (h : RulesAt w a rs) : ∀ r ∈ rs, r.In := fun r hr => by
  obtain ⟨i, hi, e⟩ := List.getElem_of_mem hr
  exact (h i r (by rw [List.getElem?_eq_getElem hi, e])).1
theorem print_size {rs : List Rl} (hin : ∀ r ∈ rs, r.In) : (printF rs).1.length ≤ 4736 := by
  unfold printF
  split
  · simp
  · split
    · have := print_len hin
      simp only
      omega
    · simp
theorem comp_size {l : List UInt8} {rs : List Rl} {n : Nat} {e : Int} (h : compileF l = (rs, n, e)) : rs.length ≤ 64 := by
  by_cases he : e = 0
  · exact ((compile_out h).1 he).2
  · rw [(compile_out h).2 he]; simp

set_option maxHeartbeats 8000000 in
set_option maxRecDepth 100000 in
theorem rulesBack_walk (s : Option Addr) (len cap : Nat) (t : ByteArray) (w : World) (hz : RdRules w s len cap) (ht : t.size ≤ 140737488351232) (hT : TabsT w) :
    Calls Tryd.prog 4 #[.slice s len cap, .string t] w fun e w' => e = .returned (.bool true) ∧ Below w.heap.size w w' := by
  obtain ⟨rs, hl, hmax, hR⟩ := hz.few
  have hle := hz.le
  have hcap : cap ≤ 9223372036854775807 := Nat.le_trans hz.cap (by decide)
  have hcm := hz.cap
  have hsome := hz.some_
  have hin := rules_in hR
  have HT0 := Lib.hid hT
  have HR0 := Lib.hid hR
  clear hz hT hR
  have HP := Lib.hid (fun W (h : RulesAt W s rs) (hT : Tabs W) => rulesPrint_any s cap rs W h hmax hT)
  have hpb : ∀ p, printF rs = (p, 0) → compileF p = if 4096 < p.length then ([], 0, 2) else (rs, 0, 0) := fun p h => print_back hin h
  have hps := print_size hin
  generalize printF rs = pq at *
  obtain ⟨p, q⟩ := pq
  simp only at HP hps
  rw [← hl] at HP
  have hpb : q = 0 → compileF p = if 4096 < p.length then ([], 0, 2) else (rs, 0, 0) := fun h => hpb p (by rw [h])
  have HPB := Lib.hid hpb
  have HMAX := Lib.hid hmax
  have HLEN := Lib.hid hl
  obtain ⟨gs, an, ae, hca⟩ : ∃ x y z, compileF t.data.toList = (x, y, z) := ⟨_, _, _, rfl⟩
  have HC := Lib.hid (fun W (h : TabsT W) => compile_val (s := t) (w := W) ht h hca)
  have has := comp_size hca
  have HO := Lib.hid (compile_out hca)
  have HCP := Lib.hid (fun (h : ae = 0) => compile_print (show compileF t.data.toList = (gs, an, 0) by rw [hca, h]))
  clear hpb hmax hl hin ht hca
  have hp0 : (⟨p.toArray⟩ : ByteArray).size ≤ 140737488351232 := by show p.toArray.size ≤ _; simp; omega
  by_cases h80 : 80 < len
  · obtain ⟨ad, rfl⟩ := hsome (by omega)
    have hm : min len 80 = 80 := by omega
    rw [hm] at HP
    have HLEN' := Lib.hid (show rs.length = 80 by rw [← HLEN.out, hm])
    clear hm hsome HLEN
    go_enter Tryd.func4, Tryd.ntmps4
    go_wp2_with fail
    refine (HP.out _ HR0.out HT0.out.tabs).mono ?_
    rintro e w2 ⟨rfl, h2⟩
    have HB2 := Lib.hid h2
    have HR2 := Lib.hid (HR0.out.below h2)
    have HT2 := Lib.hid (HT0.out.below h2)
    clear h2 HP HR0 HT0
    by_cases hq : q = 0
    · subst hq
      have hcp := HPB.out rfl
      by_cases hlong : 4096 < p.length
      · have HC1 := Lib.hid (fun W (h : TabsT W) => compile_val (s := ⟨p.toArray⟩) (w := W) hp0 h (hcp.trans (if_pos hlong)))
        clear hcp HPB
        have hlb : (4096 : Int) < (p.length : Int) := by omega
        have hlc : ¬ p.length ≤ 4096 := by omega
        go_wp2_with fail
        refine (HC1.out _ HT2.out).mono ?_
        rintro e w3 ⟨v1, rfl, ⟨a1, k1, rfl, hr1⟩, h3⟩
        have HB3 := Lib.hid (below_then HB2.out h3)
        have HT3 := Lib.hid (HT2.out.below h3)
        clear h3 hr1 HC1
        go_wp2_with fail
        refine (HC.out _ HT3.out).mono ?_
        rintro e w11 ⟨va, rfl, ⟨aa, ka, rfl, hra⟩, h11⟩
        have HB11 := Lib.hid (below_then HB3.out h11)
        have HT11 := Lib.hid (HT3.out.below h11)
        have HRA := Lib.hid hra
        clear h11 hra
        by_cases hae : ae = 0
        · subst hae
          have HCP' := Lib.hid (HCP.out rfl)
          have hin2 := fun r hr => (((HO.out.1 rfl).1) r hr).1
          have HPR := Lib.hid (fun W (h : RulesAt W aa gs) (hT : Tabs W) => rulesPrint_any aa ka gs W h (Nat.le_trans has (by decide)) hT)
          rw [HCP'.out] at HPR
          have hpl := print_len hin2
          have HBK := Lib.hid (print_back hin2 HCP'.out)
          clear HCP HCP' HO hin2
          generalize printL gs = u at *
          simp only at HPR
          have hu0 : (⟨u.toArray⟩ : ByteArray).size ≤ 140737488351232 := by show u.toArray.size ≤ _; simp; omega
          have hul : u.length ≤ 4736 := by omega
          go_wp2_with fail
          refine (HPR.out _ HRA.out HT11.out.tabs).mono ?_
          rintro e w12 ⟨rfl, h12⟩
          have HB12 := Lib.hid (below_then HB11.out h12)
          have HT12 := Lib.hid (HT11.out.below h12)
          have HRA2 := Lib.hid (HRA.out.below h12)
          clear h12 HPR HRA
          by_cases hlong : 4096 < u.length
          · have HC2 := Lib.hid (fun W (h : TabsT W) => compile_val (s := ⟨u.toArray⟩) (w := W) hu0 h (HBK.out.trans (if_pos hlong)))
            clear HBK
            go_wp2_with fail
            refine (HC2.out _ HT12.out).mono ?_
            rintro e w13 ⟨vb, rfl, ⟨ab, kb, rfl, hrb⟩, h13⟩
            have HB13 := Lib.hid (below_then HB12.out h13)
            have HT13 := Lib.hid (HT12.out.below h13)
            clear h13 hrb HC2
            go_wp2_with fail
            refine (awake12_any _ HT13.out).mono ?_
            rintro e w14 ⟨rfl, h14⟩
            have HB14 := Lib.hid (below_then HB13.out h14)
            clear h14
            have hlb : (4096 : Int) < (u.length : Int) := by omega
            go_wp2_with fail
            go_ret
            exact ⟨rfl, HB14.out⟩
          · have HC2 := Lib.hid (fun W (h : TabsT W) => compile_val (s := ⟨u.toArray⟩) (w := W) hu0 h (HBK.out.trans (if_neg hlong)))
            clear HBK
            go_wp2_with fail
            refine (HC2.out _ HT12.out).mono ?_
            rintro e w13 ⟨vb, rfl, ⟨ab, kb, rfl, hrb⟩, h13⟩
            have HB13 := Lib.hid (below_then HB12.out h13)
            have HT13 := Lib.hid (HT12.out.below h13)
            have HRA3 := Lib.hid (HRA2.out.below h13)
            have HRB3 := Lib.hid hrb
            clear h13 hrb HC2
            go_wp2_with fail
            refine (awake12_any _ HT13.out).mono ?_
            rintro e w14 ⟨rfl, h14⟩
            have HB14 := Lib.hid (below_then HB13.out h14)
            have HRA4 := Lib.hid (HRA3.out.below h14)
            have HRB4 := Lib.hid (HRB3.out.below h14)
            clear h14
            go_wp2_with fail
            refine (same_val rfl rfl HRA4.out HRB4.out (Nat.le_trans has (by decide))).mono ?_
            rintro e w15 ⟨rfl, h15⟩
            have HB15 := Lib.hid (below_then HB14.out h15)
            clear h15
            go_wp2_with fail
            go_ret
            exact ⟨rfl, HB15.out⟩
        · have hnil : gs = [] := HO.out.2 hae
          subst hnil
          have eae : (ae == 0) = false := beq_eq_false_iff_ne.2 hae
          clear HO HCP hae
          go_wp2_with fail
          refine (awake12_any _ HT11.out).mono ?_
          rintro e w14 ⟨rfl, h14⟩
          have HB14 := Lib.hid (below_then HB11.out h14)
          clear h14
          go_wp2_with fail
          go_ret
          exact ⟨rfl, HB14.out⟩
      · have HC1 := Lib.hid (fun W (h : TabsT W) => compile_val (s := ⟨p.toArray⟩) (w := W) hp0 h (hcp.trans (if_neg hlong)))
        clear hcp HPB
        have hlc : p.length ≤ 4096 := by omega
        go_wp2_with fail
        refine (HC1.out _ HT2.out).mono ?_
        rintro e w3 ⟨v1, rfl, ⟨a1, k1, rfl, hr1⟩, h3⟩
        have HB3 := Lib.hid (below_then HB2.out h3)
        have HT3 := Lib.hid (HT2.out.below h3)
        have HR3 := Lib.hid (HR2.out.below h3)
        have HR1 := Lib.hid hr1
        clear h3 hr1 HC1
        go_wp2_with fail
        refine (same_val rfl HLEN'.out HR1.out HR3.out HMAX.out).mono ?_
        rintro e w4 ⟨rfl, h4⟩
        have HB4 := Lib.hid (below_then HB3.out h4)
        have HT4 := Lib.hid (HT3.out.below h4)
        clear h4
        go_wp2_with fail
        refine (HC.out _ HT4.out).mono ?_
        rintro e w11 ⟨va, rfl, ⟨aa, ka, rfl, hra⟩, h11⟩
        have HB11 := Lib.hid (below_then HB4.out h11)
        have HT11 := Lib.hid (HT4.out.below h11)
        have HRA := Lib.hid hra
        clear h11 hra
        by_cases hae : ae = 0
        · subst hae
          have HCP' := Lib.hid (HCP.out rfl)
          have hin2 := fun r hr => (((HO.out.1 rfl).1) r hr).1
          have HPR := Lib.hid (fun W (h : RulesAt W aa gs) (hT : Tabs W) => rulesPrint_any aa ka gs W h (Nat.le_trans has (by decide)) hT)
          rw [HCP'.out] at HPR
          have hpl := print_len hin2
          have HBK := Lib.hid (print_back hin2 HCP'.out)
          clear HCP HCP' HO hin2
          generalize printL gs = u at *
          simp only at HPR
          have hu0 : (⟨u.toArray⟩ : ByteArray).size ≤ 140737488351232 := by show u.toArray.size ≤ _; simp; omega
          have hul : u.length ≤ 4736 := by omega
          go_wp2_with fail
          refine (HPR.out _ HRA.out HT11.out.tabs).mono ?_
          rintro e w12 ⟨rfl, h12⟩
          have HB12 := Lib.hid (below_then HB11.out h12)
          have HT12 := Lib.hid (HT11.out.below h12)
          have HRA2 := Lib.hid (HRA.out.below h12)
          clear h12 HPR HRA
          by_cases hlong : 4096 < u.length
          · have HC2 := Lib.hid (fun W (h : TabsT W) => compile_val (s := ⟨u.toArray⟩) (w := W) hu0 h (HBK.out.trans (if_pos hlong)))
            clear HBK
            go_wp2_with fail
            refine (HC2.out _ HT12.out).mono ?_
            rintro e w13 ⟨vb, rfl, ⟨ab, kb, rfl, hrb⟩, h13⟩
            have HB13 := Lib.hid (below_then HB12.out h13)
            have HT13 := Lib.hid (HT12.out.below h13)
            clear h13 hrb HC2
            go_wp2_with fail
            refine (awake12_any _ HT13.out).mono ?_
            rintro e w14 ⟨rfl, h14⟩
            have HB14 := Lib.hid (below_then HB13.out h14)
            clear h14
            have hlb : (4096 : Int) < (u.length : Int) := by omega
            go_wp2_with fail
            go_ret
            exact ⟨rfl, HB14.out⟩
          · have HC2 := Lib.hid (fun W (h : TabsT W) => compile_val (s := ⟨u.toArray⟩) (w := W) hu0 h (HBK.out.trans (if_neg hlong)))
            clear HBK
            go_wp2_with fail
            refine (HC2.out _ HT12.out).mono ?_
            rintro e w13 ⟨vb, rfl, ⟨ab, kb, rfl, hrb⟩, h13⟩
            have HB13 := Lib.hid (below_then HB12.out h13)
            have HT13 := Lib.hid (HT12.out.below h13)
            have HRA3 := Lib.hid (HRA2.out.below h13)
            have HRB3 := Lib.hid hrb
            clear h13 hrb HC2
            go_wp2_with fail
            refine (awake12_any _ HT13.out).mono ?_
            rintro e w14 ⟨rfl, h14⟩
            have HB14 := Lib.hid (below_then HB13.out h14)
            have HRA4 := Lib.hid (HRA3.out.below h14)
            have HRB4 := Lib.hid (HRB3.out.below h14)
            clear h14
            go_wp2_with fail
            refine (same_val rfl rfl HRA4.out HRB4.out (Nat.le_trans has (by decide))).mono ?_
            rintro e w15 ⟨rfl, h15⟩
            have HB15 := Lib.hid (below_then HB14.out h15)
            clear h15
            go_wp2_with fail
            go_ret
            exact ⟨rfl, HB15.out⟩
        · have hnil : gs = [] := HO.out.2 hae
          subst hnil
          have eae : (ae == 0) = false := beq_eq_false_iff_ne.2 hae
          clear HO HCP hae
          go_wp2_with fail
          refine (awake12_any _ HT11.out).mono ?_
          rintro e w14 ⟨rfl, h14⟩
          have HB14 := Lib.hid (below_then HB11.out h14)
          clear h14
          go_wp2_with fail
          go_ret
          exact ⟨rfl, HB14.out⟩
    · have eq0 : (q == 0) = false := beq_eq_false_iff_ne.2 hq
      clear HPB hq
      go_wp2_with fail
      refine (HC.out _ HT2.out).mono ?_
      rintro e w11 ⟨va, rfl, ⟨aa, ka, rfl, hra⟩, h11⟩
      have HB11 := Lib.hid (below_then HB2.out h11)
      have HT11 := Lib.hid (HT2.out.below h11)
      have HRA := Lib.hid hra
      clear h11 hra
      by_cases hae : ae = 0
      · subst hae
        have HCP' := Lib.hid (HCP.out rfl)
        have hin2 := fun r hr => (((HO.out.1 rfl).1) r hr).1
        have HPR := Lib.hid (fun W (h : RulesAt W aa gs) (hT : Tabs W) => rulesPrint_any aa ka gs W h (Nat.le_trans has (by decide)) hT)
        rw [HCP'.out] at HPR
        have hpl := print_len hin2
        have HBK := Lib.hid (print_back hin2 HCP'.out)
        clear HCP HCP' HO hin2
        generalize printL gs = u at *
        simp only at HPR
        have hu0 : (⟨u.toArray⟩ : ByteArray).size ≤ 140737488351232 := by show u.toArray.size ≤ _; simp; omega
        have hul : u.length ≤ 4736 := by omega
        go_wp2_with fail
        refine (HPR.out _ HRA.out HT11.out.tabs).mono ?_
        rintro e w12 ⟨rfl, h12⟩
        have HB12 := Lib.hid (below_then HB11.out h12)
        have HT12 := Lib.hid (HT11.out.below h12)
        have HRA2 := Lib.hid (HRA.out.below h12)
        clear h12 HPR HRA
        by_cases hlong : 4096 < u.length
        · have HC2 := Lib.hid (fun W (h : TabsT W) => compile_val (s := ⟨u.toArray⟩) (w := W) hu0 h (HBK.out.trans (if_pos hlong)))
          clear HBK
          go_wp2_with fail
          refine (HC2.out _ HT12.out).mono ?_
          rintro e w13 ⟨vb, rfl, ⟨ab, kb, rfl, hrb⟩, h13⟩
          have HB13 := Lib.hid (below_then HB12.out h13)
          have HT13 := Lib.hid (HT12.out.below h13)
          clear h13 hrb HC2
          go_wp2_with fail
          refine (awake12_any _ HT13.out).mono ?_
          rintro e w14 ⟨rfl, h14⟩
          have HB14 := Lib.hid (below_then HB13.out h14)
          clear h14
          have hlb : (4096 : Int) < (u.length : Int) := by omega
          go_wp2_with fail
          go_ret
          exact ⟨rfl, HB14.out⟩
        · have HC2 := Lib.hid (fun W (h : TabsT W) => compile_val (s := ⟨u.toArray⟩) (w := W) hu0 h (HBK.out.trans (if_neg hlong)))
          clear HBK
          go_wp2_with fail
          refine (HC2.out _ HT12.out).mono ?_
          rintro e w13 ⟨vb, rfl, ⟨ab, kb, rfl, hrb⟩, h13⟩
          have HB13 := Lib.hid (below_then HB12.out h13)
          have HT13 := Lib.hid (HT12.out.below h13)
          have HRA3 := Lib.hid (HRA2.out.below h13)
          have HRB3 := Lib.hid hrb
          clear h13 hrb HC2
          go_wp2_with fail
          refine (awake12_any _ HT13.out).mono ?_
          rintro e w14 ⟨rfl, h14⟩
          have HB14 := Lib.hid (below_then HB13.out h14)
          have HRA4 := Lib.hid (HRA3.out.below h14)
          have HRB4 := Lib.hid (HRB3.out.below h14)
          clear h14
          go_wp2_with fail
          refine (same_val rfl rfl HRA4.out HRB4.out (Nat.le_trans has (by decide))).mono ?_
          rintro e w15 ⟨rfl, h15⟩
          have HB15 := Lib.hid (below_then HB14.out h15)
          clear h15
          go_wp2_with fail
          go_ret
          exact ⟨rfl, HB15.out⟩
      · have hnil : gs = [] := HO.out.2 hae
        subst hnil
        have eae : (ae == 0) = false := beq_eq_false_iff_ne.2 hae
        clear HO HCP hae
        go_wp2_with fail
        refine (awake12_any _ HT11.out).mono ?_
        rintro e w14 ⟨rfl, h14⟩
        have HB14 := Lib.hid (below_then HB11.out h14)
        clear h14
        go_wp2_with fail
        go_ret
        exact ⟨rfl, HB14.out⟩
  · have hm : min len 80 = len := by omega
    rw [hm] at HP
    have HLEN' := Lib.hid (show rs.length = len by rw [← HLEN.out, hm])
    clear hm hsome HLEN
    go_enter Tryd.func4, Tryd.ntmps4
    go_wp2_with fail
    refine (HP.out _ HR0.out HT0.out.tabs).mono ?_
    rintro e w2 ⟨rfl, h2⟩
    have HB2 := Lib.hid h2
    have HR2 := Lib.hid (HR0.out.below h2)
    have HT2 := Lib.hid (HT0.out.below h2)
    clear h2 HP HR0 HT0
    by_cases hq : q = 0
    · subst hq
      have hcp := HPB.out rfl
      by_cases hlong : 4096 < p.length
      · have HC1 := Lib.hid (fun W (h : TabsT W) => compile_val (s := ⟨p.toArray⟩) (w := W) hp0 h (hcp.trans (if_pos hlong)))
        clear hcp HPB
        have hlb : (4096 : Int) < (p.length : Int) := by omega
        have hlc : ¬ p.length ≤ 4096 := by omega
        go_wp2_with fail
        refine (HC1.out _ HT2.out).mono ?_
        rintro e w3 ⟨v1, rfl, ⟨a1, k1, rfl, hr1⟩, h3⟩
        have HB3 := Lib.hid (below_then HB2.out h3)
        have HT3 := Lib.hid (HT2.out.below h3)
        clear h3 hr1 HC1
        go_wp2_with fail
        refine (HC.out _ HT3.out).mono ?_
        rintro e w11 ⟨va, rfl, ⟨aa, ka, rfl, hra⟩, h11⟩
        have HB11 := Lib.hid (below_then HB3.out h11)
        have HT11 := Lib.hid (HT3.out.below h11)
        have HRA := Lib.hid hra
        clear h11 hra
        by_cases hae : ae = 0
        · subst hae
          have HCP' := Lib.hid (HCP.out rfl)
          have hin2 := fun r hr => (((HO.out.1 rfl).1) r hr).1
          have HPR := Lib.hid (fun W (h : RulesAt W aa gs) (hT : Tabs W) => rulesPrint_any aa ka gs W h (Nat.le_trans has (by decide)) hT)
          rw [HCP'.out] at HPR
          have hpl := print_len hin2
          have HBK := Lib.hid (print_back hin2 HCP'.out)
          clear HCP HCP' HO hin2
          generalize printL gs = u at *
          simp only at HPR
          have hu0 : (⟨u.toArray⟩ : ByteArray).size ≤ 140737488351232 := by show u.toArray.size ≤ _; simp; omega
          have hul : u.length ≤ 4736 := by omega
          go_wp2_with fail
          refine (HPR.out _ HRA.out HT11.out.tabs).mono ?_
          rintro e w12 ⟨rfl, h12⟩
          have HB12 := Lib.hid (below_then HB11.out h12)
          have HT12 := Lib.hid (HT11.out.below h12)
          have HRA2 := Lib.hid (HRA.out.below h12)
          clear h12 HPR HRA
          by_cases hlong : 4096 < u.length
          · have HC2 := Lib.hid (fun W (h : TabsT W) => compile_val (s := ⟨u.toArray⟩) (w := W) hu0 h (HBK.out.trans (if_pos hlong)))
            clear HBK
            go_wp2_with fail
            refine (HC2.out _ HT12.out).mono ?_
            rintro e w13 ⟨vb, rfl, ⟨ab, kb, rfl, hrb⟩, h13⟩
            have HB13 := Lib.hid (below_then HB12.out h13)
            have HT13 := Lib.hid (HT12.out.below h13)
            clear h13 hrb HC2
            go_wp2_with fail
            refine (awake12_any _ HT13.out).mono ?_
            rintro e w14 ⟨rfl, h14⟩
            have HB14 := Lib.hid (below_then HB13.out h14)
            clear h14
            have hlb : (4096 : Int) < (u.length : Int) := by omega
            go_wp2_with fail
            go_ret
            exact ⟨rfl, HB14.out⟩
          · have HC2 := Lib.hid (fun W (h : TabsT W) => compile_val (s := ⟨u.toArray⟩) (w := W) hu0 h (HBK.out.trans (if_neg hlong)))
            clear HBK
            go_wp2_with fail
            refine (HC2.out _ HT12.out).mono ?_
            rintro e w13 ⟨vb, rfl, ⟨ab, kb, rfl, hrb⟩, h13⟩
            have HB13 := Lib.hid (below_then HB12.out h13)
            have HT13 := Lib.hid (HT12.out.below h13)
            have HRA3 := Lib.hid (HRA2.out.below h13)
            have HRB3 := Lib.hid hrb
            clear h13 hrb HC2
            go_wp2_with fail
            refine (awake12_any _ HT13.out).mono ?_
            rintro e w14 ⟨rfl, h14⟩
            have HB14 := Lib.hid (below_then HB13.out h14)
            have HRA4 := Lib.hid (HRA3.out.below h14)
            have HRB4 := Lib.hid (HRB3.out.below h14)
            clear h14
            go_wp2_with fail
            refine (same_val rfl rfl HRA4.out HRB4.out (Nat.le_trans has (by decide))).mono ?_
            rintro e w15 ⟨rfl, h15⟩
            have HB15 := Lib.hid (below_then HB14.out h15)
            clear h15
            go_wp2_with fail
            go_ret
            exact ⟨rfl, HB15.out⟩
        · have hnil : gs = [] := HO.out.2 hae
          subst hnil
          have eae : (ae == 0) = false := beq_eq_false_iff_ne.2 hae
          clear HO HCP hae
          go_wp2_with fail
          refine (awake12_any _ HT11.out).mono ?_
          rintro e w14 ⟨rfl, h14⟩
          have HB14 := Lib.hid (below_then HB11.out h14)
          clear h14
          go_wp2_with fail
          go_ret
          exact ⟨rfl, HB14.out⟩
      · have HC1 := Lib.hid (fun W (h : TabsT W) => compile_val (s := ⟨p.toArray⟩) (w := W) hp0 h (hcp.trans (if_neg hlong)))
        clear hcp HPB
        have hlc : p.length ≤ 4096 := by omega
        go_wp2_with fail
        refine (HC1.out _ HT2.out).mono ?_
        rintro e w3 ⟨v1, rfl, ⟨a1, k1, rfl, hr1⟩, h3⟩
        have HB3 := Lib.hid (below_then HB2.out h3)
        have HT3 := Lib.hid (HT2.out.below h3)
        have HR3 := Lib.hid (HR2.out.below h3)
        have HR1 := Lib.hid hr1
        clear h3 hr1 HC1
        go_wp2_with fail
        refine (same_val rfl HLEN'.out HR1.out HR3.out HMAX.out).mono ?_
        rintro e w4 ⟨rfl, h4⟩
        have HB4 := Lib.hid (below_then HB3.out h4)
        have HT4 := Lib.hid (HT3.out.below h4)
        clear h4
        go_wp2_with fail
        refine (HC.out _ HT4.out).mono ?_
        rintro e w11 ⟨va, rfl, ⟨aa, ka, rfl, hra⟩, h11⟩
        have HB11 := Lib.hid (below_then HB4.out h11)
        have HT11 := Lib.hid (HT4.out.below h11)
        have HRA := Lib.hid hra
        clear h11 hra
        by_cases hae : ae = 0
        · subst hae
          have HCP' := Lib.hid (HCP.out rfl)
          have hin2 := fun r hr => (((HO.out.1 rfl).1) r hr).1
          have HPR := Lib.hid (fun W (h : RulesAt W aa gs) (hT : Tabs W) => rulesPrint_any aa ka gs W h (Nat.le_trans has (by decide)) hT)
          rw [HCP'.out] at HPR
          have hpl := print_len hin2
          have HBK := Lib.hid (print_back hin2 HCP'.out)
          clear HCP HCP' HO hin2
          generalize printL gs = u at *
          simp only at HPR
          have hu0 : (⟨u.toArray⟩ : ByteArray).size ≤ 140737488351232 := by show u.toArray.size ≤ _; simp; omega
          have hul : u.length ≤ 4736 := by omega
          go_wp2_with fail
          refine (HPR.out _ HRA.out HT11.out.tabs).mono ?_
          rintro e w12 ⟨rfl, h12⟩
          have HB12 := Lib.hid (below_then HB11.out h12)
          have HT12 := Lib.hid (HT11.out.below h12)
          have HRA2 := Lib.hid (HRA.out.below h12)
          clear h12 HPR HRA
          by_cases hlong : 4096 < u.length
          · have HC2 := Lib.hid (fun W (h : TabsT W) => compile_val (s := ⟨u.toArray⟩) (w := W) hu0 h (HBK.out.trans (if_pos hlong)))
            clear HBK
            go_wp2_with fail
            refine (HC2.out _ HT12.out).mono ?_
            rintro e w13 ⟨vb, rfl, ⟨ab, kb, rfl, hrb⟩, h13⟩
            have HB13 := Lib.hid (below_then HB12.out h13)
            have HT13 := Lib.hid (HT12.out.below h13)
            clear h13 hrb HC2
            go_wp2_with fail
            refine (awake12_any _ HT13.out).mono ?_
            rintro e w14 ⟨rfl, h14⟩
            have HB14 := Lib.hid (below_then HB13.out h14)
            clear h14
            have hlb : (4096 : Int) < (u.length : Int) := by omega
            go_wp2_with fail
            go_ret
            exact ⟨rfl, HB14.out⟩
          · have HC2 := Lib.hid (fun W (h : TabsT W) => compile_val (s := ⟨u.toArray⟩) (w := W) hu0 h (HBK.out.trans (if_neg hlong)))
            clear HBK
            go_wp2_with fail
            refine (HC2.out _ HT12.out).mono ?_
            rintro e w13 ⟨vb, rfl, ⟨ab, kb, rfl, hrb⟩, h13⟩
            have HB13 := Lib.hid (below_then HB12.out h13)
            have HT13 := Lib.hid (HT12.out.below h13)
            have HRA3 := Lib.hid (HRA2.out.below h13)
            have HRB3 := Lib.hid hrb
            clear h13 hrb HC2
            go_wp2_with fail
            refine (awake12_any _ HT13.out).mono ?_
            rintro e w14 ⟨rfl, h14⟩
            have HB14 := Lib.hid (below_then HB13.out h14)
            have HRA4 := Lib.hid (HRA3.out.below h14)
            have HRB4 := Lib.hid (HRB3.out.below h14)
            clear h14
            go_wp2_with fail
            refine (same_val rfl rfl HRA4.out HRB4.out (Nat.le_trans has (by decide))).mono ?_
            rintro e w15 ⟨rfl, h15⟩
            have HB15 := Lib.hid (below_then HB14.out h15)
            clear h15
            go_wp2_with fail
            go_ret
            exact ⟨rfl, HB15.out⟩
        · have hnil : gs = [] := HO.out.2 hae
          subst hnil
          have eae : (ae == 0) = false := beq_eq_false_iff_ne.2 hae
          clear HO HCP hae
          go_wp2_with fail
          refine (awake12_any _ HT11.out).mono ?_
          rintro e w14 ⟨rfl, h14⟩
          have HB14 := Lib.hid (below_then HB11.out h14)
          clear h14
          go_wp2_with fail
          go_ret
          exact ⟨rfl, HB14.out⟩
    · have eq0 : (q == 0) = false := beq_eq_false_iff_ne.2 hq
      clear HPB hq
      go_wp2_with fail
      refine (HC.out _ HT2.out).mono ?_
      rintro e w11 ⟨va, rfl, ⟨aa, ka, rfl, hra⟩, h11⟩
      have HB11 := Lib.hid (below_then HB2.out h11)
      have HT11 := Lib.hid (HT2.out.below h11)
      have HRA := Lib.hid hra
      clear h11 hra
      by_cases hae : ae = 0
      · subst hae
        have HCP' := Lib.hid (HCP.out rfl)
        have hin2 := fun r hr => (((HO.out.1 rfl).1) r hr).1
        have HPR := Lib.hid (fun W (h : RulesAt W aa gs) (hT : Tabs W) => rulesPrint_any aa ka gs W h (Nat.le_trans has (by decide)) hT)
        rw [HCP'.out] at HPR
        have hpl := print_len hin2
        have HBK := Lib.hid (print_back hin2 HCP'.out)
        clear HCP HCP' HO hin2
        generalize printL gs = u at *
        simp only at HPR
        have hu0 : (⟨u.toArray⟩ : ByteArray).size ≤ 140737488351232 := by show u.toArray.size ≤ _; simp; omega
        have hul : u.length ≤ 4736 := by omega
        go_wp2_with fail
        refine (HPR.out _ HRA.out HT11.out.tabs).mono ?_
        rintro e w12 ⟨rfl, h12⟩
        have HB12 := Lib.hid (below_then HB11.out h12)
        have HT12 := Lib.hid (HT11.out.below h12)
        have HRA2 := Lib.hid (HRA.out.below h12)
        clear h12 HPR HRA
        by_cases hlong : 4096 < u.length
        · have HC2 := Lib.hid (fun W (h : TabsT W) => compile_val (s := ⟨u.toArray⟩) (w := W) hu0 h (HBK.out.trans (if_pos hlong)))
          clear HBK
          go_wp2_with fail
          refine (HC2.out _ HT12.out).mono ?_
          rintro e w13 ⟨vb, rfl, ⟨ab, kb, rfl, hrb⟩, h13⟩
          have HB13 := Lib.hid (below_then HB12.out h13)
          have HT13 := Lib.hid (HT12.out.below h13)
          clear h13 hrb HC2
          go_wp2_with fail
          refine (awake12_any _ HT13.out).mono ?_
          rintro e w14 ⟨rfl, h14⟩
          have HB14 := Lib.hid (below_then HB13.out h14)
          clear h14
          have hlb : (4096 : Int) < (u.length : Int) := by omega
          go_wp2_with fail
          go_ret
          exact ⟨rfl, HB14.out⟩
        · have HC2 := Lib.hid (fun W (h : TabsT W) => compile_val (s := ⟨u.toArray⟩) (w := W) hu0 h (HBK.out.trans (if_neg hlong)))
          clear HBK
          go_wp2_with fail
          refine (HC2.out _ HT12.out).mono ?_
          rintro e w13 ⟨vb, rfl, ⟨ab, kb, rfl, hrb⟩, h13⟩
          have HB13 := Lib.hid (below_then HB12.out h13)
          have HT13 := Lib.hid (HT12.out.below h13)
          have HRA3 := Lib.hid (HRA2.out.below h13)
          have HRB3 := Lib.hid hrb
          clear h13 hrb HC2
          go_wp2_with fail
          refine (awake12_any _ HT13.out).mono ?_
          rintro e w14 ⟨rfl, h14⟩
          have HB14 := Lib.hid (below_then HB13.out h14)
          have HRA4 := Lib.hid (HRA3.out.below h14)
          have HRB4 := Lib.hid (HRB3.out.below h14)
          clear h14
          go_wp2_with fail
          refine (same_val rfl rfl HRA4.out HRB4.out (Nat.le_trans has (by decide))).mono ?_
          rintro e w15 ⟨rfl, h15⟩
          have HB15 := Lib.hid (below_then HB14.out h15)
          clear h15
          go_wp2_with fail
          go_ret
          exact ⟨rfl, HB15.out⟩
      · have hnil : gs = [] := HO.out.2 hae
        subst hnil
        have eae : (ae == 0) = false := beq_eq_false_iff_ne.2 hae
        clear HO HCP hae
        go_wp2_with fail
        refine (awake12_any _ HT11.out).mono ?_
        rintro e w14 ⟨rfl, h14⟩
        have HB14 := Lib.hid (below_then HB11.out h14)
        clear h14
        go_wp2_with fail
        go_ret
        exact ⟨rfl, HB14.out⟩
end Go.Proofs.YtfiddoibnjildaaDoor
