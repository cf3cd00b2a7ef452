/- Same over one list; the walk of RulesBack. Printed by gen_rulel.py. -/
import Derived.Test.YtfiddoibnjildaaGreatDoorRuleK
namespace Go.Proofs.YtfiddoibnjildaaGreatDoor
set_option linter.unusedSimpArgs false
set_option linter.unusedVariables false
open Go Go.RowKit

set_option maxHeartbeats 4000000 in
set_option maxRecDepth 100000 in
theorem same_rules (s1 s2 : Option Addr) (k1 k2 : Nat) (rs : List Rl) (w : World) (h1 : RulesAt w s1 rs) (h2 : RulesAt w s2 rs) (hmax : rs.length ≤ maxLen) :
    Calls Tryz.prog 7 #[.slice s1 rs.length k1, .slice s2 rs.length k2] w fun e w' => e = .returned (.bool true) ∧ Below w.heap.size w w' := by
  have hmax2 : rs.length ≤ 9223372036854775807 := Nat.le_trans hmax (by decide)
  have H1 := Lib.hid h1
  have H2 := Lib.hid h2
  clear h1 h2
  go_enter Tryz.func7, Tryz.ntmps7
  go_wp2_with fail
  go_loopw [5] (fun n wr => ∃ j : Nat, n = .int .i64 j ∧ j ≤ rs.length ∧ Hid (Below w.heap.size w wr)) (fun n _ => rs.length - (intOf n).toNat)
  case atStart => exact ⟨0, rfl, by omega, Lib.hid (Below.refl _ _)⟩
  case round =>
    obtain ⟨j, rfl, hj, hB⟩ := hrel
    by_cases hl : j < rs.length
    · obtain ⟨r, hrj⟩ : ∃ r, rs[j]? = some r := ⟨rs[j], List.getElem?_eq_getElem hl⟩
      obtain ⟨_, ad, rfl, c0, c1, c2, c3, c4, c5, c6, c7, c8, c9⟩ := H1.out.below hB.out j r hrj
      obtain ⟨_, ae, rfl, d0, d1, d2, d3, d4, d5, d6, d7, d8, d9⟩ := H2.out.below hB.out j r hrj
      obtain ⟨acc, pr, sa, sb, da, db, sl, sh, dl, dh⟩ := r
      simp only at c0 c1 c2 c3 c4 c5 c6 c7 c8 c9 d0 d1 d2 d3 d4 d5 d6 d7 d8 d9
      have hj0 : (0 : Int) ≤ (j : Int) := by omega
      have hjl : (j : Int) < (rs.length : Int) := by omega
      clear hrj
      go_wp2_with fail
      refine WQ.enter wr (Since.refl _) (by kernel_rfl) (by kernel_rfl) ?_
      refine WQ.val (by rfl) (fun v hv => by have k0 := hv.cell c0; have k1 := hv.cell c1; have k2 := hv.cell c2; have k3 := hv.cell c3; have k4 := hv.cell c4; have k5 := hv.cell c5; have k6 := hv.cell c6; have k7 := hv.cell c7; have k8 := hv.cell c8; have k9 := hv.cell c9; have k10 := hv.cell d0; have k11 := hv.cell d1; have k12 := hv.cell d2; have k13 := hv.cell d3; have k14 := hv.cell d4; have k15 := hv.cell d5; have k16 := hv.cell d6; have k17 := hv.cell d7; have k18 := hv.cell d8; have k19 := hv.cell d9; go_simp; first | done | with_reducible rfl | (rw [if_neg (by omega)])) ?_; simp only [Act.put, List.setIfInBounds_toArray, List.set_cons_zero, List.set_cons_succ]
      refine WQ.val (by rfl) (fun v hv => by have k0 := hv.cell c0; have k1 := hv.cell c1; have k2 := hv.cell c2; have k3 := hv.cell c3; have k4 := hv.cell c4; have k5 := hv.cell c5; have k6 := hv.cell c6; have k7 := hv.cell c7; have k8 := hv.cell c8; have k9 := hv.cell c9; have k10 := hv.cell d0; have k11 := hv.cell d1; have k12 := hv.cell d2; have k13 := hv.cell d3; have k14 := hv.cell d4; have k15 := hv.cell d5; have k16 := hv.cell d6; have k17 := hv.cell d7; have k18 := hv.cell d8; have k19 := hv.cell d9; go_simp; first | done | with_reducible rfl | (rw [if_neg (by omega)])) ?_; simp only [Act.put, List.setIfInBounds_toArray, List.set_cons_zero, List.set_cons_succ]
      refine WQ.val (by rfl) (fun v hv => by have k0 := hv.cell c0; have k1 := hv.cell c1; have k2 := hv.cell c2; have k3 := hv.cell c3; have k4 := hv.cell c4; have k5 := hv.cell c5; have k6 := hv.cell c6; have k7 := hv.cell c7; have k8 := hv.cell c8; have k9 := hv.cell c9; have k10 := hv.cell d0; have k11 := hv.cell d1; have k12 := hv.cell d2; have k13 := hv.cell d3; have k14 := hv.cell d4; have k15 := hv.cell d5; have k16 := hv.cell d6; have k17 := hv.cell d7; have k18 := hv.cell d8; have k19 := hv.cell d9; go_simp; first | done | with_reducible rfl | (rw [if_neg (by omega)])) ?_; simp only [Act.put, List.setIfInBounds_toArray, List.set_cons_zero, List.set_cons_succ]
      refine WQ.val (by rfl) (fun v hv => by have k0 := hv.cell c0; have k1 := hv.cell c1; have k2 := hv.cell c2; have k3 := hv.cell c3; have k4 := hv.cell c4; have k5 := hv.cell c5; have k6 := hv.cell c6; have k7 := hv.cell c7; have k8 := hv.cell c8; have k9 := hv.cell c9; have k10 := hv.cell d0; have k11 := hv.cell d1; have k12 := hv.cell d2; have k13 := hv.cell d3; have k14 := hv.cell d4; have k15 := hv.cell d5; have k16 := hv.cell d6; have k17 := hv.cell d7; have k18 := hv.cell d8; have k19 := hv.cell d9; go_simp; first | done | with_reducible rfl | (rw [if_neg (by omega)])) ?_; simp only [Act.put, List.setIfInBounds_toArray, List.set_cons_zero, List.set_cons_succ]
      refine WQ.val (by rfl) (fun v hv => by have k0 := hv.cell c0; have k1 := hv.cell c1; have k2 := hv.cell c2; have k3 := hv.cell c3; have k4 := hv.cell c4; have k5 := hv.cell c5; have k6 := hv.cell c6; have k7 := hv.cell c7; have k8 := hv.cell c8; have k9 := hv.cell c9; have k10 := hv.cell d0; have k11 := hv.cell d1; have k12 := hv.cell d2; have k13 := hv.cell d3; have k14 := hv.cell d4; have k15 := hv.cell d5; have k16 := hv.cell d6; have k17 := hv.cell d7; have k18 := hv.cell d8; have k19 := hv.cell d9; go_simp; first | done | with_reducible rfl | (rw [if_neg (by omega)])) ?_; simp only [Act.put, List.setIfInBounds_toArray, List.set_cons_zero, List.set_cons_succ]
      refine WQ.val (by rfl) (fun v hv => by have k0 := hv.cell c0; have k1 := hv.cell c1; have k2 := hv.cell c2; have k3 := hv.cell c3; have k4 := hv.cell c4; have k5 := hv.cell c5; have k6 := hv.cell c6; have k7 := hv.cell c7; have k8 := hv.cell c8; have k9 := hv.cell c9; have k10 := hv.cell d0; have k11 := hv.cell d1; have k12 := hv.cell d2; have k13 := hv.cell d3; have k14 := hv.cell d4; have k15 := hv.cell d5; have k16 := hv.cell d6; have k17 := hv.cell d7; have k18 := hv.cell d8; have k19 := hv.cell d9; go_simp; first | done | with_reducible rfl | (rw [if_neg (by omega)])) ?_; simp only [Act.put, List.setIfInBounds_toArray, List.set_cons_zero, List.set_cons_succ]
      refine WQ.val (by rfl) (fun v hv => by have k0 := hv.cell c0; have k1 := hv.cell c1; have k2 := hv.cell c2; have k3 := hv.cell c3; have k4 := hv.cell c4; have k5 := hv.cell c5; have k6 := hv.cell c6; have k7 := hv.cell c7; have k8 := hv.cell c8; have k9 := hv.cell c9; have k10 := hv.cell d0; have k11 := hv.cell d1; have k12 := hv.cell d2; have k13 := hv.cell d3; have k14 := hv.cell d4; have k15 := hv.cell d5; have k16 := hv.cell d6; have k17 := hv.cell d7; have k18 := hv.cell d8; have k19 := hv.cell d9; go_simp; first | done | with_reducible rfl | (rw [if_neg (by omega)])) ?_; simp only [Act.put, List.setIfInBounds_toArray, List.set_cons_zero, List.set_cons_succ]
      refine WQ.val (by rfl) (fun v hv => by have k0 := hv.cell c0; have k1 := hv.cell c1; have k2 := hv.cell c2; have k3 := hv.cell c3; have k4 := hv.cell c4; have k5 := hv.cell c5; have k6 := hv.cell c6; have k7 := hv.cell c7; have k8 := hv.cell c8; have k9 := hv.cell c9; have k10 := hv.cell d0; have k11 := hv.cell d1; have k12 := hv.cell d2; have k13 := hv.cell d3; have k14 := hv.cell d4; have k15 := hv.cell d5; have k16 := hv.cell d6; have k17 := hv.cell d7; have k18 := hv.cell d8; have k19 := hv.cell d9; go_simp; first | done | with_reducible rfl | (rw [if_neg (by omega)])) ?_; simp only [Act.put, List.setIfInBounds_toArray, List.set_cons_zero, List.set_cons_succ]
      refine WQ.val (by rfl) (fun v hv => by have k0 := hv.cell c0; have k1 := hv.cell c1; have k2 := hv.cell c2; have k3 := hv.cell c3; have k4 := hv.cell c4; have k5 := hv.cell c5; have k6 := hv.cell c6; have k7 := hv.cell c7; have k8 := hv.cell c8; have k9 := hv.cell c9; have k10 := hv.cell d0; have k11 := hv.cell d1; have k12 := hv.cell d2; have k13 := hv.cell d3; have k14 := hv.cell d4; have k15 := hv.cell d5; have k16 := hv.cell d6; have k17 := hv.cell d7; have k18 := hv.cell d8; have k19 := hv.cell d9; go_simp; first | done | with_reducible rfl | (rw [if_neg (by omega)])) ?_; simp only [Act.put, List.setIfInBounds_toArray, List.set_cons_zero, List.set_cons_succ]
      refine WQ.done ?_
      intro w5 hw5
      have HB5 := Lib.hid (below_then hB.out hw5)
      clear hw5 c0 c1 c2 c3 c4 c5 c6 c7 c8 c9 d0 d1 d2 d3 d4 d5 d6 d7 d8 d9
      go_wp2_with fail
      go_roundw
      case rel => exact ⟨j + 1, by go_num, by omega, HB5⟩
      case measure => simp [intOf]; omega
    · obtain rfl : j = rs.length := by omega
      go_wp2_with fail
      go_ret
      exact ⟨rfl, hB.out⟩
/-- Same, of lists that are known to be one. -/
theorem same_val {s1 s2 : Option Addr} {k1 k2 n1 n2 : Nat} {rs : List Rl} {w : World} (e1 : rs.length = n1) (e2 : rs.length = n2) (h1 : RulesAt w s1 rs) (h2 : RulesAt w s2 rs) (hmax : rs.length ≤ maxLen) :
    Calls Tryz.prog 7 #[.slice s1 n1 k1, .slice s2 n2 k2] w fun e w' => e = .returned (.bool true) ∧ Below w.heap.size w w' := by
  subst e1
  rw [← e2]
  exact same_rules s1 s2 k1 k2 rs w h1 h2 hmax
theorem rules_in {w : World} {a : Option Addr} {rs : List Rl} (h : RulesAt w a rs) : ∀ r ∈ rs, r.In := fun r hr => by
  obtain ⟨i, hi, e⟩ := List.getElem_of_mem hr
  exact (h i r (by rw [List.getElem?_eq_getElem hi, e])).1
theorem print_size {rs : List Rl} (hin : ∀ r ∈ rs, r.In) : (printF rs).1.length ≤ 4736 := by
  unfold printF
  split
  · simp
  · split
    · have := print_len hin
      simp only
      omega
    · simp
theorem comp_size {l : List UInt8} {rs : List Rl} {n : Nat} {e : Int} (h : compileF l = (rs, n, e)) : rs.length ≤ 64 := by
  by_cases he : e = 0
  · exact ((compile_out h).1 he).2
  · rw [(compile_out h).2 he]; simp

end Go.Proofs.YtfiddoibnjildaaGreatDoor
