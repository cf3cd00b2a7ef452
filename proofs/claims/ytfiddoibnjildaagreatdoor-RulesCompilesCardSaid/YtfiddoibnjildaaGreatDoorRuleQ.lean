/- The walk of RulesCompiles. -/
import Derived.Test.YtfiddoibnjildaaGreatDoorRuleO
import Derived.Test.YtfiddoibnjildaaGreatDoorRuleL
import Derived.Test.YtfiddoibnjildaaGreatDoorRuleJ
namespace Go.Proofs.YtfiddoibnjildaaGreatDoor
set_option linter.unusedSimpArgs false
set_option linter.unusedVariables false
open Go Go.RowKit

theorem refCompile_val {s : ByteArray} {w : World} {rs : List Rl} {n : Nat} {c : Int} (hs : s.size ≤ 140737488351232) (h : compileF s.data.toList = (rs, n, c)) :
    Calls Tryz.prog 5 #[.string s] w fun e w' => ∃ v, e = .returned (.tuple #[v, .int .i64 n, .int .i64 c]) ∧ Rules w' v rs ∧ Below w.heap.size w w' := by
  have := refCompile_any s w hs
  unfold CompPost at this
  rw [h] at this
  exact this
set_option maxHeartbeats 8000000 in
set_option maxRecDepth 100000 in
theorem rulesCompiles_walk (t : ByteArray) (w : World) (ht : t.size ≤ 140737488351232) (hT : TabsT w) :
    Calls Tryz.prog 3 #[.string t] w fun e w' => e = .returned (.bool true) ∧ Below w.heap.size w w' := by
  obtain ⟨gs, an, ae, hca⟩ : ∃ x y z, compileF t.data.toList = (x, y, z) := ⟨_, _, _, rfl⟩
  have HC := Lib.hid (compile_val (s := t) (w := w) ht hT hca)
  have HD := Lib.hid (fun W => refCompile_val (s := t) (w := W) ht hca)
  have has := comp_size hca
  have HT0 := Lib.hid hT
  clear hT hca ht
  go_enter Tryz.func3, Tryz.ntmps3
  go_wp2_with fail
  refine HC.out.mono ?_
  rintro e w1 ⟨va, rfl, ⟨aa, ka, rfl, hra⟩, h1⟩
  have HB1 := Lib.hid h1
  have HT1 := Lib.hid (HT0.out.below h1)
  have HRA := Lib.hid hra
  clear h1 hra HC
  go_wp2_with fail
  refine (HD.out _).mono ?_
  rintro e w2 ⟨vb, rfl, ⟨ab, kb, rfl, hrb⟩, h2⟩
  have HB2 := Lib.hid (below_then HB1.out h2)
  have HT2 := Lib.hid (HT1.out.below h2)
  have HRA2 := Lib.hid (HRA.out.below h2)
  have HRB2 := Lib.hid hrb
  clear h2 hrb HD
  go_wp2_with fail
  refine (awake12_any _ HT2.out).mono ?_
  rintro e w3 ⟨rfl, h3⟩
  have HB3 := Lib.hid (below_then HB2.out h3)
  have HRA3 := Lib.hid (HRA2.out.below h3)
  have HRB3 := Lib.hid (HRB2.out.below h3)
  clear h3
  go_wp2_with fail
  refine (same_val rfl rfl HRA3.out HRB3.out (Nat.le_trans has (by decide))).mono ?_
  rintro e w4 ⟨rfl, h4⟩
  have HB4 := Lib.hid (below_then HB3.out h4)
  clear h4
  go_wp2_with fail
  go_ret
  exact ⟨rfl, HB4.out⟩
end Go.Proofs.YtfiddoibnjildaaGreatDoor
