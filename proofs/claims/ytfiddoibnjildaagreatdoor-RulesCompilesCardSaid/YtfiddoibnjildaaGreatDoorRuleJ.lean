/- The fixed fact of the laws of rules. -/
import Derived.Test.YtfiddoibnjildaaGreatDoorRuleI
namespace Go.Proofs.YtfiddoibnjildaaGreatDoor
set_option linter.unusedSimpArgs false
set_option linter.unusedVariables false
open Go Go.RowKit

def rA : Rl := ⟨true, 6, 0, 0, 167772160, 8, 0, 65535, 80, 90⟩
def rB : Rl := ⟨false, 0, 0, 0, 0, 0, 7, 7, 0, 65535⟩
theorem d80 : Lib.decDigits 80 = [56, 48] := by simp [Lib.decDigits]
theorem d90 : Lib.decDigits 90 = [57, 48] := by simp [Lib.decDigits]
theorem aN0 : netL 0 0 = [97, 110, 121] := by decide
theorem aN1 : netL 167772160 8 = [49, 48, 46, 48, 46, 48, 46, 48, 47, 56] := by unfold netL; rw [awS]; rfl
theorem aS0 : spanL 0 65535 = [97, 110, 121] := rfl
theorem aS1 : spanL 80 90 = [56, 48, 45, 57, 48] := by unfold spanL; rw [if_neg (by decide), if_neg (by decide), d80, d90]; rfl
theorem aS2 : spanL 7 7 = [55] := by unfold spanL; rw [if_neg (by decide), if_pos rfl, d7]
theorem wA : wordsR rA = [[97, 99, 99, 101, 112, 116], [116, 99, 112], [97, 110, 121], [97, 110, 121], [49, 48, 46, 48, 46, 48, 46, 48, 47, 56], [56, 48, 45, 57, 48]] := by
  show [actL true, wordF 6, netL 0 0, spanL 0 65535, netL 167772160 8, spanL 80 90] = _
  rw [aN0, aN1, aS0, aS1]; rfl
theorem wB : wordsR rB = [[100, 114, 111, 112], [97, 110, 121], [97, 110, 121], [55], [97, 110, 121], [97, 110, 121]] := by
  show [actL false, wordF 0, netL 0 0, spanL 7 7, netL 0 0, spanL 0 65535] = _
  rw [aN0, aS0, aS2]; rfl
theorem inA : rA.In := ⟨by decide, by decide, by decide, by decide, by decide, by decide, by decide⟩
theorem inB : rB.In := ⟨by decide, by decide, by decide, by decide, by decide, by decide, by decide⟩
theorem gA : goodR rA = true := by decide
theorem gB : goodR rB = true := by decide
theorem ruleA : ruleOf [[97, 99, 99, 101, 112, 116], [116, 99, 112], [97, 110, 121], [97, 110, 121], [49, 48, 46, 48, 46, 48, 46, 48, 47, 56], [56, 48, 45, 57, 48]] = some rA := ruleOf_iff.2 ⟨inA, gA, wA⟩
theorem ruleB : ruleOf [[100, 114, 111, 112], [97, 110, 121], [97, 110, 121], [55], [97, 110, 121], [97, 110, 121]] = some rB := ruleOf_iff.2 ⟨inB, gB, wB⟩
set_option maxRecDepth 100000 in
theorem tx1 : textF [97, 99, 99, 101, 112, 116, 32, 116, 99, 112, 32, 97, 110, 121, 32, 97, 110, 121, 32, 49, 48, 46, 48, 46, 48, 46, 48, 47, 56, 32, 56, 48, 45, 57, 48, 10, 35, 32, 115, 111, 10, 100, 114, 111, 112, 32, 97, 110, 121, 32, 97, 110, 121, 32, 55, 32, 97, 110, 121, 32, 97, 110, 121] = ([(1, [[97, 99, 99, 101, 112, 116], [116, 99, 112], [97, 110, 121], [97, 110, 121], [49, 48, 46, 48, 46, 48, 46, 48, 47, 56], [56, 48, 45, 57, 48]]), (3, [[100, 114, 111, 112], [97, 110, 121], [97, 110, 121], [55], [97, 110, 121], [97, 110, 121]])], 0, 0) := by decide +kernel
set_option maxRecDepth 100000 in
theorem tx2 : textF [97, 99, 99, 101, 112, 116, 32, 116, 99, 112, 32, 97, 110, 121, 32, 97, 110, 121, 32, 49, 48, 46, 48, 46, 48, 46, 48, 47, 56, 32, 56, 48, 45, 57, 48, 10, 10, 100, 114, 111, 112, 32, 97, 110, 121, 32, 97, 110, 121, 32, 55, 32, 97, 110, 121] = ([(1, [[97, 99, 99, 101, 112, 116], [116, 99, 112], [97, 110, 121], [97, 110, 121], [49, 48, 46, 48, 46, 48, 46, 48, 47, 56], [56, 48, 45, 57, 48]]), (3, [[100, 114, 111, 112], [97, 110, 121], [97, 110, 121], [55], [97, 110, 121]])], 0, 0) := by decide +kernel
theorem cp1 : compileF [97, 99, 99, 101, 112, 116, 32, 116, 99, 112, 32, 97, 110, 121, 32, 97, 110, 121, 32, 49, 48, 46, 48, 46, 48, 46, 48, 47, 56, 32, 56, 48, 45, 57, 48, 10, 35, 32, 115, 111, 10, 100, 114, 111, 112, 32, 97, 110, 121, 32, 97, 110, 121, 32, 55, 32, 97, 110, 121, 32, 97, 110, 121] = ([rA, rB], 0, 0) := by
  unfold compileF
  rw [tx1]
  show compF [] _ = _
  unfold compF
  rw [if_neg (by decide), ruleA]
  show compF [rA] _ = _
  unfold compF
  rw [if_neg (by decide), ruleB]
  rfl
theorem cp2 : compileF [97, 99, 99, 101, 112, 116, 32, 116, 99, 112, 32, 97, 110, 121, 32, 97, 110, 121, 32, 49, 48, 46, 48, 46, 48, 46, 48, 47, 56, 32, 56, 48, 45, 57, 48, 10, 10, 100, 114, 111, 112, 32, 97, 110, 121, 32, 97, 110, 121, 32, 55, 32, 97, 110, 121] = ([], 3, 3) := by
  unfold compileF
  rw [tx2]
  show compF [] _ = _
  unfold compF
  rw [if_neg (by decide), ruleA]
  show compF [rA] _ = _
  unfold compF
  rw [if_neg (by decide), ruleOf_six (by decide)]
theorem pr1 : printF [rA, rB] = ([97, 99, 99, 101, 112, 116, 32, 116, 99, 112, 32, 97, 110, 121, 32, 97, 110, 121, 32, 49, 48, 46, 48, 46, 48, 46, 48, 47, 56, 32, 56, 48, 45, 57, 48, 10, 100, 114, 111, 112, 32, 97, 110, 121, 32, 97, 110, 121, 32, 55, 32, 97, 110, 121, 32, 97, 110, 121, 10], 0) := by
  unfold printF
  rw [if_neg (by decide), if_pos (by show (goodR rA && (goodR rB && true)) = true; rw [gA, gB]; rfl)]
  show (Lib.join (wordsR rA) [32] ++ [10] ++ (Lib.join (wordsR rB) [32] ++ [10] ++ []), (0 : Int)) = _
  rw [wA, wB]
  simp [Lib.join_cons, Lib.joinTail]
theorem compile_val {s : ByteArray} {w : World} {rs : List Rl} {n : Nat} {c : Int} (hs : s.size ≤ 140737488351232) (hT : TabsT w) (h : compileF s.data.toList = (rs, n, c)) :
    Calls Tryz.prog 4 #[.string s] w fun e w' => ∃ v, e = .returned (.tuple #[v, .int .i64 n, .int .i64 c]) ∧ Rules w' v rs ∧ Below w.heap.size w w' := by
  have := compile_any s w hs hT
  unfold CompPost at this
  rw [h] at this
  exact this
set_option maxHeartbeats 4000000 in
set_option maxRecDepth 100000 in
theorem awake12_any (w : World) (hT : TabsT w) :
    Calls Tryz.prog 6 #[] w fun e w' => e = .returned (.bool true) ∧ Below w.heap.size w w' := by
  have C1 := Lib.hid (fun W (h : TabsT W) => compile_val (s := ⟨#[97, 99, 99, 101, 112, 116, 32, 116, 99, 112, 32, 97, 110, 121, 32, 97, 110, 121, 32, 49, 48, 46, 48, 46, 48, 46, 48, 47, 56, 32, 56, 48, 45, 57, 48, 10, 35, 32, 115, 111, 10, 100, 114, 111, 112, 32, 97, 110, 121, 32, 97, 110, 121, 32, 55, 32, 97, 110, 121, 32, 97, 110, 121]⟩) (w := W) (by decide) h cp1)
  have C2 := Lib.hid (fun W (h : TabsT W) => compile_val (s := ⟨#[97, 99, 99, 101, 112, 116, 32, 116, 99, 112, 32, 97, 110, 121, 32, 97, 110, 121, 32, 49, 48, 46, 48, 46, 48, 46, 48, 47, 56, 32, 56, 48, 45, 57, 48, 10, 10, 100, 114, 111, 112, 32, 97, 110, 121, 32, 97, 110, 121, 32, 55, 32, 97, 110, 121]⟩) (w := W) (by decide) h cp2)
  have HT := Lib.hid hT
  clear hT
  go_enter Tryz.func6, Tryz.ntmps6
  go_wp2_with fail
  refine (C1.out _ HT.out).mono ?_
  rintro e w1 ⟨v1, rfl, ⟨a1, k1, rfl, hr1⟩, h1⟩
  have HB1 := Lib.hid h1
  have HR1 := Lib.hid hr1
  clear h1 hr1 C1
  go_wp2_with fail
  refine (C2.out _ (HT.out.below HB1.out)).mono ?_
  rintro e w2 ⟨v2, rfl, ⟨a2, k2, rfl, _⟩, h2⟩
  have HB2 := Lib.hid (below_then HB1.out h2)
  have HR2 := Lib.hid (HR1.out.below h2)
  clear h2 C2 HB1 HR1
  go_wp2_with fail
  have HPR := Lib.hid (fun W (h : RulesAt W a1 [rA, rB]) (hT : Tabs W) => rulesPrint_any a1 k1 [rA, rB] W h (by decide) hT)
  rw [pr1] at HPR
  refine (HPR.out _ HR2.out (HT.out.below HB2.out).tabs).mono ?_
  rintro e w3 ⟨rfl, h3⟩
  have HB3 := Lib.hid (below_then HB2.out h3)
  have HR3 := Lib.hid (HR2.out.below h3)
  clear h3 HB2 HR2 HPR
  obtain ⟨_, ad, rfl, c0, c1, c2, c3, c4, c5, c6, c7, c8, c9⟩ := HR3.out 0 rA rfl
  obtain ⟨_, ad', had, d0, d1, d2, d3, d4, d5, d6, d7, d8, d9⟩ := HR3.out 1 rB rfl
  obtain rfl := Option.some.inj had
  clear had HR3
  have ez : ad.add (0 * 10) = ad := by simp [Addr.add]
  rw [ez] at c0 c1 c2 c3 c4 c5 c6 c7 c8 c9
  have eo : ad.add (1 * 10) = ⟨ad.block, ad.off + 10, none⟩ := rfl
  rw [eo] at d0 d1 d2 d3 d4 d5 d6 d7 d8 d9
  clear ez eo
  simp only [rA] at c0 c1 c2 c3 c4 c5 c6 c7 c8 c9
  simp only [rB] at d0 d1 d2 d3 d4 d5 d6 d7 d8 d9
  have HGD := Lib.hid (fun W (h : Tabs W) => good_any rA W inA h)
  rw [gA] at HGD
  go_wp2_with fail
  refine (HGD.out _ (HT.out.below HB3.out).tabs).mono ?_
  rintro e w4 ⟨rfl, h4⟩
  have HB4 := Lib.hid (below_then HB3.out h4)
  clear h4
  go_wp2_with fail
  go_ret
  exact ⟨rfl, HB4.out⟩
end Go.Proofs.YtfiddoibnjildaaGreatDoor
