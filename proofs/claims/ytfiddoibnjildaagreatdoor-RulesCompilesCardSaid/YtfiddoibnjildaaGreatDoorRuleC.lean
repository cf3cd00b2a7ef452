/- The walk of rules.span. Printed by gen_rulec.py. -/
import Derived.Test.YtfiddoibnjildaaGreatDoorRuleB
namespace Go.Proofs.YtfiddoibnjildaaGreatDoor
set_option linter.unusedSimpArgs false
set_option linter.unusedVariables false
open Go Go.RowKit

theorem port_val {s : ByteArray} {w : World} {n : Nat} {q : Bool} (hn : numV s.data.toList % 65536 = n) (hq : portB s.data.toList = q) (hs : s.size ≤ 140737488351232) (hT : Tabs w) :
    Calls Tryz.prog 52 #[.string s] w fun e w' => e = .returned (.tuple #[.int .u16 n, .bool q]) ∧ Below w.heap.size w w' := by
  subst hn hq
  exact port_any s w hs hT
theorem WH.off {P : Program} {Q : Exit → Act → World → Prop} {ops : Array Oper} {S : World → Prop} (i : Nat) (d : Option Tmp) {oi : Oper} {fuel : Nat} {listed : Array Bool} {a : Act} {w : World} (hi : ops[i]? = some oi) (hd : oi.dst = d) (hs : Region.noSelect ops = true)
    (hf : Region.free .any ops listed i = true) (hr : (Region.ready .any ops listed).contains i = true) (hQ : ∀ c a w, Q (.panic c) (a.put oi.dst undef) w → Q (.panic c) a w) (hw : Region.wanted oi (yielded ops a.tmps) = false) (hS : S w)
    (h : WH P ops Q S fuel (listed.setIfInBounds i true) (a.put d undef) w) : WH P ops Q S (fuel + 1) listed a w := by
  subst hd
  exact ⟨wpAnyH_take hi hs hf hr hQ (.inr ⟨hw, rfl⟩) hS h.out⟩
/-- What span answers: the low end, the high end, whether there is one. -/
def spanP (l : List UInt8) : Nat × Nat × Bool :=
  if l = anyL then (0, 65535, true)
  else (numV (cutA l) % 65536, numV (cutB l) % 65536, portB (cutA l) && portB (cutB l) && decide (spanL (numV (cutA l) % 65536) (numV (cutB l) % 65536) = l) && decide (numV (cutA l) % 65536 ≤ numV (cutB l) % 65536))
theorem spanP_of (l : List UInt8) : spanOf l = if (spanP l).2.2 = true then some ((spanP l).1, (spanP l).2.1) else none := by
  unfold spanOf spanP
  by_cases hl : l = anyL
  · rw [if_pos hl, if_pos hl, if_pos rfl]
  · rw [if_neg hl, if_neg hl]
    simp only
    have e : ∀ x : List UInt8, portB x = true → numV x % 65536 = numV x := fun x hx => by
      unfold portB at hx; simp at hx; omega
    by_cases ha : portB (cutA l) = true
    · by_cases hb : portB (cutB l) = true
      · rw [e _ ha, e _ hb, ha, hb]
        simp
      · have : portB (cutB l) = false := by simpa using hb
        simp [this]
    · have : portB (cutA l) = false := by simpa using ha
      simp [this]
def SpanPost (q : Nat × Nat × Bool) (w : World) (e : Ending) (w' : World) : Prop := e = .returned (.tuple #[.agg #[.int .u16 q.1, .int .u16 q.2.1], .bool q.2.2]) ∧ Below w.heap.size w w'
/-- Two cells of a block that nobody has frozen. -/
def Own2 (w : World) (b : Nat) (x y : Value) : Prop := w.cell? ⟨b, 0, none⟩ = some x ∧ w.cell? ⟨b, 1, none⟩ = some y ∧ w.frozen? ⟨b, 0, none⟩ = false ∧ w.frozen? ⟨b, 1, none⟩ = false
theorem Own2.new (w : World) (x y : Value) (T : TypeId) : Own2 (w.alloc (.cells #[x, y] T)) w.heap.size x y := ⟨by simp, by simp, by simp, by simp⟩
theorem Own2.below {w w' : World} {b : Nat} {x y : Value} (h : Own2 w b x y) (k : Below w.heap.size w w') : Own2 w' b x y := by
  have hlt : b < w.heap.size := World.block_lt_of_cell? w _ h.1
  have e := k.block b hlt
  have hf : ∀ i, w'.frozen? ⟨b, i, none⟩ = w.frozen? ⟨b, i, none⟩ := fun i => by unfold World.frozen?; rw [e]
  exact ⟨(World.cell?_of_block (w := w) e).trans h.1, (World.cell?_of_block (w := w) e).trans h.2.1, (hf 0).trans h.2.2.1, (hf 1).trans h.2.2.2⟩
set_option maxHeartbeats 8000000 in
set_option maxRecDepth 100000 in
theorem span_any (s : ByteArray) (w : World) (hs : s.size ≤ 65536) (hT : Tabs w) :
    Calls Tryz.prog 28 #[.string s] w (SpanPost (spanP s.data.toList) w) := by
  have B0 : Below w.heap.size w (w.alloc (.cells #[.int .u16 0, .int .u16 0] 42)) := (Below.refl _ _).alloc (Nat.le_refl _) _
  have O0 := Own2.new w (.int .u16 0) (.int .u16 0) 42
  have HT := Lib.hid hT
  clear hT
  unfold SpanPost
  cases ha : (s.toList == [97, 110, 121]) with
  | true =>
    have hv : Hid (spanP s.data.toList = (0, 65535, true)) := Lib.hid (by
      rw [ByteArray.toList_eq, beq_iff_eq] at ha
      unfold spanP; rw [ha]; rfl)
    have HB := Lib.hid ((B0.setCell (p := ⟨w.heap.size, 0, none⟩) (Nat.le_refl _) (.int .u16 0)).setCell (p := ⟨w.heap.size, 1, none⟩) (Nat.le_refl _) (.int .u16 65535))
    have HB2 := Lib.hid ((Below.refl _ w).alloc (Nat.le_refl _) (.cells #[.int .u16 0, .int .u16 65535] 42))
    go_enter Tryz.func28, Tryz.ntmps28
    go_wp2_with fail
    exact bodyPost_ret (v := .tuple #[.agg #[.int .u16 0, .int .u16 65535], .bool true]) (by simp [results, Tryz.results28, go_sem, *]) rfl ⟨by (rw [hv.out]) <;> rfl, by first | exact HB.out | exact HB2.out⟩
  | false =>
    have hne : s.data.toList ≠ anyL := by
      intro e
      rw [ByteArray.toList_eq, beq_eq_false_iff_ne] at ha
      exact ha e
    have HCUT := Lib.hid (fun W (hT : Tabs W) => cut_any s 45 W hs hT)
    obtain ⟨hl1, hl2⟩ := cut_len s.data.toList 45
    have hca : cutA s.data.toList = (Lib.cut s.data.toList [45]).1 := rfl
    have hcb : cutB s.data.toList = if (Lib.cut s.data.toList [45]).2.2 then (Lib.cut s.data.toList [45]).2.1 else (Lib.cut s.data.toList [45]).1 := rfl
    have hsp : spanP s.data.toList = (numV (cutA s.data.toList) % 65536, numV (cutB s.data.toList) % 65536, portB (cutA s.data.toList) && portB (cutB s.data.toList) && decide (spanL (numV (cutA s.data.toList) % 65536) (numV (cutB s.data.toList) % 65536) = s.data.toList) && decide (numV (cutA s.data.toList) % 65536 ≤ numV (cutB s.data.toList) % 65536)) := if_neg hne
    have hsz : s.data.toList.length ≤ 65536 := by rw [Array.length_toList]; exact hs
    generalize hqa : cutA s.data.toList = pa at *
    generalize hqb : cutB s.data.toList = pb at *
    generalize (Lib.cut s.data.toList [45]).1 = p at *
    generalize (Lib.cut s.data.toList [45]).2.1 = r at *
    generalize (Lib.cut s.data.toList [45]).2.2 = b3 at *
    subst hca
    have hpl : pb.length ≤ 65536 := by rw [hcb]; split <;> omega
    have hA : numV pa % 65536 < 65536 := Nat.mod_lt _ (by decide)
    have hB : numV pb % 65536 < 65536 := Nat.mod_lt _ (by decide)
    obtain ⟨a, ea⟩ : ∃ a, numV pa % 65536 = a := ⟨_, rfl⟩
    obtain ⟨b, eb⟩ : ∃ b, numV pb % 65536 = b := ⟨_, rfl⟩
    obtain ⟨qa, eqa⟩ : ∃ q, portB pa = q := ⟨_, rfl⟩
    obtain ⟨qb, eqb⟩ : ∃ q, portB pb = q := ⟨_, rfl⟩
    have HPA := Lib.hid (fun W (hT : Tabs W) => port_val (s := ⟨pa.toArray⟩) (w := W) ea eqa (by show pa.toArray.size ≤ _; simp; omega) hT)
    have HPB := Lib.hid (fun W (hT : Tabs W) => port_val (s := ⟨pb.toArray⟩) (w := W) eb eqb (by show pb.toArray.size ≤ _; simp; omega) hT)
    rw [ea, eb, eqa, eqb] at hsp
    rw [ea] at hA
    rw [eb] at hB
    clear ea eb eqa eqb
    clear hne hl1 hl2 hqa hqb hpl hsz
    have HSP := Lib.hid hsp
    have HCB := Lib.hid hcb
    clear hsp hcb
    go_enter Tryz.func28, Tryz.ntmps28
    go_wp2_with fail
    refine (HCUT.out _ (HT.out.below B0)).mono ?_
    rintro e w1 ⟨rfl, h1⟩
    have HT1 := Lib.hid ((HT.out.below B0).below h1)
    have O1 := Lib.hid (O0.below h1)
    have HB1 := Lib.hid (below_then B0 h1)
    clear h1 O0 B0
    have hpb : b3 = true ∧ Hid (pb = r) ∨ b3 = false ∧ Hid (pb = pa) := by
      have := HCB.out
      cases b3
      · exact .inr ⟨rfl, Lib.hid this⟩
      · exact .inl ⟨rfl, Lib.hid this⟩
    clear HCB
    rcases hpb with ⟨rfl, hpb⟩ | ⟨rfl, hpb⟩
    · obtain rfl : pb = r := hpb.out
      go_wp2_with fail
      refine (HPA.out _ HT1.out).mono ?_
      rintro e w2 ⟨rfl, h2⟩
      have HT2 := Lib.hid (HT1.out.below h2)
      have O2 := Lib.hid (O1.out.below h2)
      have HB2 := Lib.hid (below_then HB1.out h2)
      clear h2 O1 HB1
      go_wp2_with fail
      refine (HPB.out _ HT2.out).mono ?_
      rintro e w3 ⟨rfl, h3⟩
      have HT3 := Lib.hid (HT2.out.below h3)
      have O3 := O2.out.below h3
      have HB3 := Lib.hid (below_then HB2.out h3)
      clear h3 O2 HB2
      have hbx : Below w3.heap.size w3 (w3.alloc (.cells #[.int .u16 a, .int .u16 b] 42)) := (Below.refl _ _).alloc (Nat.le_refl _) _
      have OR := Lib.hid (O3.below hbx)
      have HTb := Lib.hid (HT3.out.below hbx)
      have HBR := Lib.hid (below_then HB3.out hbx)
      obtain ⟨c0, c1, _, _⟩ := Own2.new w3 (.int .u16 a) (.int .u16 b) 42
      have hne : ¬ (w3.heap.size = w.heap.size) := by have h1 := World.block_lt_of_cell? w3 _ O3.1; have h2 : w.heap.size < w3.heap.size := h1; omega
      have OQ := Lib.hid O3
      clear hbx O3 HB3 HT3
      obtain ⟨o0, o1, o2, o3⟩ := OQ.out
      go_wp2_with fail
      clear o0 o1 o2 o3
      generalize hwr : w3.alloc (.cells #[.int .u16 a, .int .u16 b] 42) = wr at *
      have hS0 : Turn (fun i => i = w.heap.size) wr wr.drew := (Turn.refl _ _).drew
      cases qa with
      | false =>
        have HV : Hid (spanP s.data.toList = (a, b, false)) := HSP
        obtain ⟨g0, g1, g2, g3⟩ := OR.out
        refine WH.enter (Turn (fun i => i = w.heap.size) wr) (by kernel_rfl) 18 rfl ?_
        refine WH.take 0 (some 37) rfl rfl (by kernel_rfl) (by kernel_rfl) (by kernel_rfl) (fun _ _ _ h => h) (by rfl) (fun v hv => by have k0 := Turn.cell hv c0 hne; have k1 := Turn.cell hv c1 hne; go_simp; first | done | with_reducible rfl | (rw [if_neg (by omega)])) hS0 ?_; simp only [Act.put, List.setIfInBounds_toArray, List.set_cons_zero, List.set_cons_succ]
        refine WH.take 1 (some 38) rfl rfl (by kernel_rfl) (by kernel_rfl) (by kernel_rfl) (fun _ _ _ h => h) (by rfl) (fun v hv => by have k0 := Turn.cell hv c0 hne; have k1 := Turn.cell hv c1 hne; go_simp; first | done | with_reducible rfl | (rw [if_neg (by omega)])) hS0 ?_; simp only [Act.put, List.setIfInBounds_toArray, List.set_cons_zero, List.set_cons_succ]
        refine WH.take 2 (some 39) rfl rfl (by kernel_rfl) (by kernel_rfl) (by kernel_rfl) (fun _ _ _ h => h) (by rfl) (fun v hv => by have k0 := Turn.cell hv c0 hne; have k1 := Turn.cell hv c1 hne; go_simp; first | done | with_reducible rfl | (rw [if_neg (by omega)])) hS0 ?_; simp only [Act.put, List.setIfInBounds_toArray, List.set_cons_zero, List.set_cons_succ]
        refine WH.off 3 (some 40) rfl rfl (by kernel_rfl) (by kernel_rfl) (by kernel_rfl) (fun _ _ _ h => h) (by rfl) hS0 ?_; simp only [Act.put, List.setIfInBounds_toArray, List.set_cons_zero, List.set_cons_succ]
        refine WH.take 4 (some 41) rfl rfl (by kernel_rfl) (by kernel_rfl) (by kernel_rfl) (fun _ _ _ h => h) (by rfl) (fun v hv => by have k0 := Turn.cell hv c0 hne; have k1 := Turn.cell hv c1 hne; go_simp; first | done | with_reducible rfl | (rw [if_neg (by omega)])) hS0 ?_; simp only [Act.put, List.setIfInBounds_toArray, List.set_cons_zero, List.set_cons_succ]
        refine WH.take 5 (some 42) rfl rfl (by kernel_rfl) (by kernel_rfl) (by kernel_rfl) (fun _ _ _ h => h) (by rfl) (fun v hv => by have k0 := Turn.cell hv c0 hne; have k1 := Turn.cell hv c1 hne; go_simp; first | done | with_reducible rfl | (rw [if_neg (by omega)])) hS0 ?_; simp only [Act.put, List.setIfInBounds_toArray, List.set_cons_zero, List.set_cons_succ]
        refine WH.off 6 (some 43) rfl rfl (by kernel_rfl) (by kernel_rfl) (by kernel_rfl) (fun _ _ _ h => h) (by rfl) hS0 ?_; simp only [Act.put, List.setIfInBounds_toArray, List.set_cons_zero, List.set_cons_succ]
        refine WH.off 7 (some 44) rfl rfl (by kernel_rfl) (by kernel_rfl) (by kernel_rfl) (fun _ _ _ h => h) (by rfl) hS0 ?_; simp only [Act.put, List.setIfInBounds_toArray, List.set_cons_zero, List.set_cons_succ]
        refine WH.off 8 (some 45) rfl rfl (by kernel_rfl) (by kernel_rfl) (by kernel_rfl) (fun _ _ _ h => h) (by rfl) hS0 ?_; simp only [Act.put, List.setIfInBounds_toArray, List.set_cons_zero, List.set_cons_succ]
        refine WH.off 9 (some 46) rfl rfl (by kernel_rfl) (by kernel_rfl) (by kernel_rfl) (fun _ _ _ h => h) (by rfl) hS0 ?_; simp only [Act.put, List.setIfInBounds_toArray, List.set_cons_zero, List.set_cons_succ]
        refine WH.take 10 (some 47) rfl rfl (by kernel_rfl) (by kernel_rfl) (by kernel_rfl) (fun _ _ _ h => h) (by rfl) (fun v hv => by have k0 := Turn.cell hv c0 hne; have k1 := Turn.cell hv c1 hne; go_simp; first | done | with_reducible rfl | (rw [if_neg (by omega)])) hS0 ?_; simp only [Act.put, List.setIfInBounds_toArray, List.set_cons_zero, List.set_cons_succ]
        refine WH.take 11 (some 48) rfl rfl (by kernel_rfl) (by kernel_rfl) (by kernel_rfl) (fun _ _ _ h => h) (by rfl) (fun v hv => by have k0 := Turn.cell hv c0 hne; have k1 := Turn.cell hv c1 hne; go_simp; first | done | with_reducible rfl | (rw [if_neg (by omega)])) hS0 ?_; simp only [Act.put, List.setIfInBounds_toArray, List.set_cons_zero, List.set_cons_succ]
        refine WH.off 12 (some 49) rfl rfl (by kernel_rfl) (by kernel_rfl) (by kernel_rfl) (fun _ _ _ h => h) (by rfl) hS0 ?_; simp only [Act.put, List.setIfInBounds_toArray, List.set_cons_zero, List.set_cons_succ]
        refine WH.off 13 (some 50) rfl rfl (by kernel_rfl) (by kernel_rfl) (by kernel_rfl) (fun _ _ _ h => h) (by rfl) hS0 ?_; simp only [Act.put, List.setIfInBounds_toArray, List.set_cons_zero, List.set_cons_succ]
        refine WH.off 14 (some 51) rfl rfl (by kernel_rfl) (by kernel_rfl) (by kernel_rfl) (fun _ _ _ h => h) (by rfl) hS0 ?_; simp only [Act.put, List.setIfInBounds_toArray, List.set_cons_zero, List.set_cons_succ]
        refine WH.take 15 (some 52) rfl rfl (by kernel_rfl) (by kernel_rfl) (by kernel_rfl) (fun _ _ _ h => h) (by rfl) (fun v hv => by have k0 := Turn.cell hv c0 hne; have k1 := Turn.cell hv c1 hne; go_simp; first | done | with_reducible rfl | (rw [if_neg (by omega)])) hS0 ?_; simp only [Act.put, List.setIfInBounds_toArray, List.set_cons_zero, List.set_cons_succ]
        refine WH.one 16 (by kernel_rfl) rfl (by rfl) ?_
        have HS2 := Lib.hid ((hS0.setCell ⟨w.heap.size, 0, none⟩ (.int .u16 a) (.inl rfl)).setCell ⟨w.heap.size, 1, none⟩ (.int .u16 b) (.inl rfl))
        go_wp2_with fail
        refine ⟨HS2.out, ?_⟩
        refine WH.take 17 (some 3) rfl rfl (by kernel_rfl) (by kernel_rfl) (by kernel_rfl) (fun _ _ _ h => h) (by rfl) (fun v hv => by have k0 := Turn.cell hv c0 hne; have k1 := Turn.cell hv c1 hne; go_simp; first | done | with_reducible rfl | (rw [if_neg (by omega)])) HS2.out ?_; simp only [Act.put, List.setIfInBounds_toArray, List.set_cons_zero, List.set_cons_succ]
        refine WH.done (by kernel_rfl) ?_
        have HBE := Lib.hid (HBR.out.trans (HS2.out.below (B := w.heap.size) HBR.out.size (fun i h => by rw [h]; exact Nat.le_refl _)))
        clear HS2
        go_wp2_with fail
        exact bodyPost_ret (v := .tuple #[.agg #[.int .u16 a, .int .u16 b], .bool false]) (by simp [results, Tryz.results28, go_sem, *]) rfl ⟨by (rw [HV.out]) <;> rfl, HBE.out⟩
      | true =>
        cases qb with
        | false =>
          have HV : Hid (spanP s.data.toList = (a, b, false)) := HSP
          obtain ⟨g0, g1, g2, g3⟩ := OR.out
          refine WH.enter (Turn (fun i => i = w.heap.size) wr) (by kernel_rfl) 18 rfl ?_
          refine WH.take 0 (some 37) rfl rfl (by kernel_rfl) (by kernel_rfl) (by kernel_rfl) (fun _ _ _ h => h) (by rfl) (fun v hv => by have k0 := Turn.cell hv c0 hne; have k1 := Turn.cell hv c1 hne; go_simp; first | done | with_reducible rfl | (rw [if_neg (by omega)])) hS0 ?_; simp only [Act.put, List.setIfInBounds_toArray, List.set_cons_zero, List.set_cons_succ]
          refine WH.take 1 (some 38) rfl rfl (by kernel_rfl) (by kernel_rfl) (by kernel_rfl) (fun _ _ _ h => h) (by rfl) (fun v hv => by have k0 := Turn.cell hv c0 hne; have k1 := Turn.cell hv c1 hne; go_simp; first | done | with_reducible rfl | (rw [if_neg (by omega)])) hS0 ?_; simp only [Act.put, List.setIfInBounds_toArray, List.set_cons_zero, List.set_cons_succ]
          refine WH.take 2 (some 39) rfl rfl (by kernel_rfl) (by kernel_rfl) (by kernel_rfl) (fun _ _ _ h => h) (by rfl) (fun v hv => by have k0 := Turn.cell hv c0 hne; have k1 := Turn.cell hv c1 hne; go_simp; first | done | with_reducible rfl | (rw [if_neg (by omega)])) hS0 ?_; simp only [Act.put, List.setIfInBounds_toArray, List.set_cons_zero, List.set_cons_succ]
          refine WH.take 3 (some 40) rfl rfl (by kernel_rfl) (by kernel_rfl) (by kernel_rfl) (fun _ _ _ h => h) (by rfl) (fun v hv => by have k0 := Turn.cell hv c0 hne; have k1 := Turn.cell hv c1 hne; go_simp; first | done | with_reducible rfl | (rw [if_neg (by omega)])) hS0 ?_; simp only [Act.put, List.setIfInBounds_toArray, List.set_cons_zero, List.set_cons_succ]
          refine WH.take 4 (some 41) rfl rfl (by kernel_rfl) (by kernel_rfl) (by kernel_rfl) (fun _ _ _ h => h) (by rfl) (fun v hv => by have k0 := Turn.cell hv c0 hne; have k1 := Turn.cell hv c1 hne; go_simp; first | done | with_reducible rfl | (rw [if_neg (by omega)])) hS0 ?_; simp only [Act.put, List.setIfInBounds_toArray, List.set_cons_zero, List.set_cons_succ]
          refine WH.take 5 (some 42) rfl rfl (by kernel_rfl) (by kernel_rfl) (by kernel_rfl) (fun _ _ _ h => h) (by rfl) (fun v hv => by have k0 := Turn.cell hv c0 hne; have k1 := Turn.cell hv c1 hne; go_simp; first | done | with_reducible rfl | (rw [if_neg (by omega)])) hS0 ?_; simp only [Act.put, List.setIfInBounds_toArray, List.set_cons_zero, List.set_cons_succ]
          refine WH.off 6 (some 43) rfl rfl (by kernel_rfl) (by kernel_rfl) (by kernel_rfl) (fun _ _ _ h => h) (by rfl) hS0 ?_; simp only [Act.put, List.setIfInBounds_toArray, List.set_cons_zero, List.set_cons_succ]
          refine WH.off 7 (some 44) rfl rfl (by kernel_rfl) (by kernel_rfl) (by kernel_rfl) (fun _ _ _ h => h) (by rfl) hS0 ?_; simp only [Act.put, List.setIfInBounds_toArray, List.set_cons_zero, List.set_cons_succ]
          refine WH.off 8 (some 45) rfl rfl (by kernel_rfl) (by kernel_rfl) (by kernel_rfl) (fun _ _ _ h => h) (by rfl) hS0 ?_; simp only [Act.put, List.setIfInBounds_toArray, List.set_cons_zero, List.set_cons_succ]
          refine WH.off 9 (some 46) rfl rfl (by kernel_rfl) (by kernel_rfl) (by kernel_rfl) (fun _ _ _ h => h) (by rfl) hS0 ?_; simp only [Act.put, List.setIfInBounds_toArray, List.set_cons_zero, List.set_cons_succ]
          refine WH.take 10 (some 47) rfl rfl (by kernel_rfl) (by kernel_rfl) (by kernel_rfl) (fun _ _ _ h => h) (by rfl) (fun v hv => by have k0 := Turn.cell hv c0 hne; have k1 := Turn.cell hv c1 hne; go_simp; first | done | with_reducible rfl | (rw [if_neg (by omega)])) hS0 ?_; simp only [Act.put, List.setIfInBounds_toArray, List.set_cons_zero, List.set_cons_succ]
          refine WH.take 11 (some 48) rfl rfl (by kernel_rfl) (by kernel_rfl) (by kernel_rfl) (fun _ _ _ h => h) (by rfl) (fun v hv => by have k0 := Turn.cell hv c0 hne; have k1 := Turn.cell hv c1 hne; go_simp; first | done | with_reducible rfl | (rw [if_neg (by omega)])) hS0 ?_; simp only [Act.put, List.setIfInBounds_toArray, List.set_cons_zero, List.set_cons_succ]
          refine WH.off 12 (some 49) rfl rfl (by kernel_rfl) (by kernel_rfl) (by kernel_rfl) (fun _ _ _ h => h) (by rfl) hS0 ?_; simp only [Act.put, List.setIfInBounds_toArray, List.set_cons_zero, List.set_cons_succ]
          refine WH.off 13 (some 50) rfl rfl (by kernel_rfl) (by kernel_rfl) (by kernel_rfl) (fun _ _ _ h => h) (by rfl) hS0 ?_; simp only [Act.put, List.setIfInBounds_toArray, List.set_cons_zero, List.set_cons_succ]
          refine WH.off 14 (some 51) rfl rfl (by kernel_rfl) (by kernel_rfl) (by kernel_rfl) (fun _ _ _ h => h) (by rfl) hS0 ?_; simp only [Act.put, List.setIfInBounds_toArray, List.set_cons_zero, List.set_cons_succ]
          refine WH.take 15 (some 52) rfl rfl (by kernel_rfl) (by kernel_rfl) (by kernel_rfl) (fun _ _ _ h => h) (by rfl) (fun v hv => by have k0 := Turn.cell hv c0 hne; have k1 := Turn.cell hv c1 hne; go_simp; first | done | with_reducible rfl | (rw [if_neg (by omega)])) hS0 ?_; simp only [Act.put, List.setIfInBounds_toArray, List.set_cons_zero, List.set_cons_succ]
          refine WH.one 16 (by kernel_rfl) rfl (by rfl) ?_
          have HS2 := Lib.hid ((hS0.setCell ⟨w.heap.size, 0, none⟩ (.int .u16 a) (.inl rfl)).setCell ⟨w.heap.size, 1, none⟩ (.int .u16 b) (.inl rfl))
          go_wp2_with fail
          refine ⟨HS2.out, ?_⟩
          refine WH.take 17 (some 3) rfl rfl (by kernel_rfl) (by kernel_rfl) (by kernel_rfl) (fun _ _ _ h => h) (by rfl) (fun v hv => by have k0 := Turn.cell hv c0 hne; have k1 := Turn.cell hv c1 hne; go_simp; first | done | with_reducible rfl | (rw [if_neg (by omega)])) HS2.out ?_; simp only [Act.put, List.setIfInBounds_toArray, List.set_cons_zero, List.set_cons_succ]
          refine WH.done (by kernel_rfl) ?_
          have HBE := Lib.hid (HBR.out.trans (HS2.out.below (B := w.heap.size) HBR.out.size (fun i h => by rw [h]; exact Nat.le_refl _)))
          clear HS2
          go_wp2_with fail
          exact bodyPost_ret (v := .tuple #[.agg #[.int .u16 a, .int .u16 b], .bool false]) (by simp [results, Tryz.results28, go_sem, *]) rfl ⟨by (rw [HV.out]) <;> rfl, HBE.out⟩
        | true =>
          by_cases hq : spanL a b = s.data.toList
          · have HV : Hid (spanP s.data.toList = (a, b, decide (a ≤ b))) := Lib.hid (by rw [HSP.out, decide_eq_true hq]; rfl)
            have hqs : (spanL a b == s.toList) = true := by rw [ByteArray.toList_eq, beq_iff_eq]; exact hq
            clear hq HSP
            refine WH.enter (Turn (fun i => i = w.heap.size) wr) (by kernel_rfl) 18 rfl ?_
            refine WH.take 0 (some 37) rfl rfl (by kernel_rfl) (by kernel_rfl) (by kernel_rfl) (fun _ _ _ h => h) (by rfl) (fun v hv => by have k0 := Turn.cell hv c0 hne; have k1 := Turn.cell hv c1 hne; go_simp; first | done | with_reducible rfl | (rw [if_neg (by omega)])) hS0 ?_; simp only [Act.put, List.setIfInBounds_toArray, List.set_cons_zero, List.set_cons_succ]
            refine WH.take 1 (some 38) rfl rfl (by kernel_rfl) (by kernel_rfl) (by kernel_rfl) (fun _ _ _ h => h) (by rfl) (fun v hv => by have k0 := Turn.cell hv c0 hne; have k1 := Turn.cell hv c1 hne; go_simp; first | done | with_reducible rfl | (rw [if_neg (by omega)])) hS0 ?_; simp only [Act.put, List.setIfInBounds_toArray, List.set_cons_zero, List.set_cons_succ]
            refine WH.take 2 (some 39) rfl rfl (by kernel_rfl) (by kernel_rfl) (by kernel_rfl) (fun _ _ _ h => h) (by rfl) (fun v hv => by have k0 := Turn.cell hv c0 hne; have k1 := Turn.cell hv c1 hne; go_simp; first | done | with_reducible rfl | (rw [if_neg (by omega)])) hS0 ?_; simp only [Act.put, List.setIfInBounds_toArray, List.set_cons_zero, List.set_cons_succ]
            refine WH.take 3 (some 40) rfl rfl (by kernel_rfl) (by kernel_rfl) (by kernel_rfl) (fun _ _ _ h => h) (by rfl) (fun v hv => by have k0 := Turn.cell hv c0 hne; have k1 := Turn.cell hv c1 hne; go_simp; first | done | with_reducible rfl | (rw [if_neg (by omega)])) hS0 ?_; simp only [Act.put, List.setIfInBounds_toArray, List.set_cons_zero, List.set_cons_succ]
            refine WH.take 4 (some 41) rfl rfl (by kernel_rfl) (by kernel_rfl) (by kernel_rfl) (fun _ _ _ h => h) (by rfl) (fun v hv => by have k0 := Turn.cell hv c0 hne; have k1 := Turn.cell hv c1 hne; go_simp; first | done | with_reducible rfl | (rw [if_neg (by omega)])) hS0 ?_; simp only [Act.put, List.setIfInBounds_toArray, List.set_cons_zero, List.set_cons_succ]
            refine WH.take 5 (some 42) rfl rfl (by kernel_rfl) (by kernel_rfl) (by kernel_rfl) (fun _ _ _ h => h) (by rfl) (fun v hv => by have k0 := Turn.cell hv c0 hne; have k1 := Turn.cell hv c1 hne; go_simp; first | done | with_reducible rfl | (rw [if_neg (by omega)])) hS0 ?_; simp only [Act.put, List.setIfInBounds_toArray, List.set_cons_zero, List.set_cons_succ]
            refine WH.take 6 (some 43) rfl rfl (by kernel_rfl) (by kernel_rfl) (by kernel_rfl) (fun _ _ _ h => h) (by rfl) (fun v hv => by have k0 := Turn.cell hv c0 hne; have k1 := Turn.cell hv c1 hne; go_simp; first | done | with_reducible rfl | (rw [if_neg (by omega)])) hS0 ?_; simp only [Act.put, List.setIfInBounds_toArray, List.set_cons_zero, List.set_cons_succ]
            refine WH.take 8 (some 45) rfl rfl (by kernel_rfl) (by kernel_rfl) (by kernel_rfl) (fun _ _ _ h => h) (by rfl) (fun v hv => by have k0 := Turn.cell hv c0 hne; have k1 := Turn.cell hv c1 hne; go_simp; first | done | with_reducible rfl | (rw [if_neg (by omega)])) hS0 ?_; simp only [Act.put, List.setIfInBounds_toArray, List.set_cons_zero, List.set_cons_succ]
            refine WH.one 7 (by kernel_rfl) rfl (by rfl) ?_
            go_wp2_with fail
            refine (spanShow_any a b _ hA hB (HTb.out.below (Below.refl _ _).drew)).mono ?_
            rintro e w7 ⟨rfl, h7⟩
            have HS1 : Hid (Turn (fun i => i = w.heap.size) wr w7) := Lib.hid (hS0.trans (Turn.of_below (F := fun _ => False) h7) (fun i h => h.elim))
            have O7 := OR.out.below ((Below.refl _ wr).drew.trans (h7.mono (by show wr.heap.size ≤ wr.heap.size; exact Nat.le_refl _)))
            obtain ⟨g0, g1, g2, g3⟩ := O7
            go_wp2_with fail
            refine ⟨HS1.out, ?_⟩
            refine WH.take 9 (some 46) rfl rfl (by kernel_rfl) (by kernel_rfl) (by kernel_rfl) (fun _ _ _ h => h) (by rfl) (fun v hv => by have k0 := Turn.cell hv c0 hne; have k1 := Turn.cell hv c1 hne; go_simp; first | done | with_reducible rfl | (rw [if_neg (by omega)])) HS1.out ?_; simp only [Act.put, List.setIfInBounds_toArray, List.set_cons_zero, List.set_cons_succ]
            refine WH.take 10 (some 47) rfl rfl (by kernel_rfl) (by kernel_rfl) (by kernel_rfl) (fun _ _ _ h => h) (by rfl) (fun v hv => by have k0 := Turn.cell hv c0 hne; have k1 := Turn.cell hv c1 hne; go_simp; first | done | with_reducible rfl | (rw [if_neg (by omega)])) HS1.out ?_; simp only [Act.put, List.setIfInBounds_toArray, List.set_cons_zero, List.set_cons_succ]
            refine WH.take 11 (some 48) rfl rfl (by kernel_rfl) (by kernel_rfl) (by kernel_rfl) (fun _ _ _ h => h) (by rfl) (fun v hv => by have k0 := Turn.cell hv c0 hne; have k1 := Turn.cell hv c1 hne; go_simp; first | done | with_reducible rfl | (rw [if_neg (by omega)])) HS1.out ?_; simp only [Act.put, List.setIfInBounds_toArray, List.set_cons_zero, List.set_cons_succ]
            refine WH.take 12 (some 49) rfl rfl (by kernel_rfl) (by kernel_rfl) (by kernel_rfl) (fun _ _ _ h => h) (by rfl) (fun v hv => by have k0 := Turn.cell hv c0 hne; have k1 := Turn.cell hv c1 hne; go_simp; first | done | with_reducible rfl | (rw [if_neg (by omega)])) HS1.out ?_; simp only [Act.put, List.setIfInBounds_toArray, List.set_cons_zero, List.set_cons_succ]
            refine WH.take 13 (some 50) rfl rfl (by kernel_rfl) (by kernel_rfl) (by kernel_rfl) (fun _ _ _ h => h) (by rfl) (fun v hv => by have k0 := Turn.cell hv c0 hne; have k1 := Turn.cell hv c1 hne; go_simp; first | done | with_reducible rfl | (rw [if_neg (by omega)])) HS1.out ?_; simp only [Act.put, List.setIfInBounds_toArray, List.set_cons_zero, List.set_cons_succ]
            refine WH.take 14 (some 51) rfl rfl (by kernel_rfl) (by kernel_rfl) (by kernel_rfl) (fun _ _ _ h => h) (by rfl) (fun v hv => by have k0 := Turn.cell hv c0 hne; have k1 := Turn.cell hv c1 hne; go_simp; first | done | with_reducible rfl | (rw [if_neg (by omega)])) HS1.out ?_; simp only [Act.put, List.setIfInBounds_toArray, List.set_cons_zero, List.set_cons_succ]
            refine WH.take 15 (some 52) rfl rfl (by kernel_rfl) (by kernel_rfl) (by kernel_rfl) (fun _ _ _ h => h) (by rfl) (fun v hv => by have k0 := Turn.cell hv c0 hne; have k1 := Turn.cell hv c1 hne; go_simp; first | done | with_reducible rfl | (rw [if_neg (by omega)])) HS1.out ?_; simp only [Act.put, List.setIfInBounds_toArray, List.set_cons_zero, List.set_cons_succ]
            refine WH.one 16 (by kernel_rfl) rfl (by rfl) ?_
            have HS2 := Lib.hid ((HS1.out.setCell ⟨w.heap.size, 0, none⟩ (.int .u16 a) (.inl rfl)).setCell ⟨w.heap.size, 1, none⟩ (.int .u16 b) (.inl rfl))
            go_wp2_with fail
            refine ⟨HS2.out, ?_⟩
            refine WH.take 17 (some 3) rfl rfl (by kernel_rfl) (by kernel_rfl) (by kernel_rfl) (fun _ _ _ h => h) (by rfl) (fun v hv => by have k0 := Turn.cell hv c0 hne; have k1 := Turn.cell hv c1 hne; go_simp; first | done | with_reducible rfl | (rw [if_neg (by omega)])) HS2.out ?_; simp only [Act.put, List.setIfInBounds_toArray, List.set_cons_zero, List.set_cons_succ]
            refine WH.done (by kernel_rfl) ?_
            have HBE := Lib.hid (HBR.out.trans (HS2.out.below (B := w.heap.size) HBR.out.size (fun i h => by rw [h]; exact Nat.le_refl _)))
            clear HS2
            go_wp2_with fail
            exact bodyPost_ret (v := .tuple #[.agg #[.int .u16 a, .int .u16 b], .bool (decide (a ≤ b))]) (by simp [results, Tryz.results28, go_sem, *]) rfl ⟨by (rw [HV.out]) <;> rfl, HBE.out⟩
          · have HV : Hid (spanP s.data.toList = (a, b, false)) := Lib.hid (by rw [HSP.out, decide_eq_false hq]; rfl)
            have hqs : (spanL a b == s.toList) = false := by rw [ByteArray.toList_eq, beq_eq_false_iff_ne]; exact hq
            clear hq HSP
            refine WH.enter (Turn (fun i => i = w.heap.size) wr) (by kernel_rfl) 18 rfl ?_
            refine WH.take 0 (some 37) rfl rfl (by kernel_rfl) (by kernel_rfl) (by kernel_rfl) (fun _ _ _ h => h) (by rfl) (fun v hv => by have k0 := Turn.cell hv c0 hne; have k1 := Turn.cell hv c1 hne; go_simp; first | done | with_reducible rfl | (rw [if_neg (by omega)])) hS0 ?_; simp only [Act.put, List.setIfInBounds_toArray, List.set_cons_zero, List.set_cons_succ]
            refine WH.take 1 (some 38) rfl rfl (by kernel_rfl) (by kernel_rfl) (by kernel_rfl) (fun _ _ _ h => h) (by rfl) (fun v hv => by have k0 := Turn.cell hv c0 hne; have k1 := Turn.cell hv c1 hne; go_simp; first | done | with_reducible rfl | (rw [if_neg (by omega)])) hS0 ?_; simp only [Act.put, List.setIfInBounds_toArray, List.set_cons_zero, List.set_cons_succ]
            refine WH.take 2 (some 39) rfl rfl (by kernel_rfl) (by kernel_rfl) (by kernel_rfl) (fun _ _ _ h => h) (by rfl) (fun v hv => by have k0 := Turn.cell hv c0 hne; have k1 := Turn.cell hv c1 hne; go_simp; first | done | with_reducible rfl | (rw [if_neg (by omega)])) hS0 ?_; simp only [Act.put, List.setIfInBounds_toArray, List.set_cons_zero, List.set_cons_succ]
            refine WH.take 3 (some 40) rfl rfl (by kernel_rfl) (by kernel_rfl) (by kernel_rfl) (fun _ _ _ h => h) (by rfl) (fun v hv => by have k0 := Turn.cell hv c0 hne; have k1 := Turn.cell hv c1 hne; go_simp; first | done | with_reducible rfl | (rw [if_neg (by omega)])) hS0 ?_; simp only [Act.put, List.setIfInBounds_toArray, List.set_cons_zero, List.set_cons_succ]
            refine WH.take 4 (some 41) rfl rfl (by kernel_rfl) (by kernel_rfl) (by kernel_rfl) (fun _ _ _ h => h) (by rfl) (fun v hv => by have k0 := Turn.cell hv c0 hne; have k1 := Turn.cell hv c1 hne; go_simp; first | done | with_reducible rfl | (rw [if_neg (by omega)])) hS0 ?_; simp only [Act.put, List.setIfInBounds_toArray, List.set_cons_zero, List.set_cons_succ]
            refine WH.take 5 (some 42) rfl rfl (by kernel_rfl) (by kernel_rfl) (by kernel_rfl) (fun _ _ _ h => h) (by rfl) (fun v hv => by have k0 := Turn.cell hv c0 hne; have k1 := Turn.cell hv c1 hne; go_simp; first | done | with_reducible rfl | (rw [if_neg (by omega)])) hS0 ?_; simp only [Act.put, List.setIfInBounds_toArray, List.set_cons_zero, List.set_cons_succ]
            refine WH.take 6 (some 43) rfl rfl (by kernel_rfl) (by kernel_rfl) (by kernel_rfl) (fun _ _ _ h => h) (by rfl) (fun v hv => by have k0 := Turn.cell hv c0 hne; have k1 := Turn.cell hv c1 hne; go_simp; first | done | with_reducible rfl | (rw [if_neg (by omega)])) hS0 ?_; simp only [Act.put, List.setIfInBounds_toArray, List.set_cons_zero, List.set_cons_succ]
            refine WH.take 8 (some 45) rfl rfl (by kernel_rfl) (by kernel_rfl) (by kernel_rfl) (fun _ _ _ h => h) (by rfl) (fun v hv => by have k0 := Turn.cell hv c0 hne; have k1 := Turn.cell hv c1 hne; go_simp; first | done | with_reducible rfl | (rw [if_neg (by omega)])) hS0 ?_; simp only [Act.put, List.setIfInBounds_toArray, List.set_cons_zero, List.set_cons_succ]
            refine WH.one 7 (by kernel_rfl) rfl (by rfl) ?_
            go_wp2_with fail
            refine (spanShow_any a b _ hA hB (HTb.out.below (Below.refl _ _).drew)).mono ?_
            rintro e w7 ⟨rfl, h7⟩
            have HS1 : Hid (Turn (fun i => i = w.heap.size) wr w7) := Lib.hid (hS0.trans (Turn.of_below (F := fun _ => False) h7) (fun i h => h.elim))
            have O7 := OR.out.below ((Below.refl _ wr).drew.trans (h7.mono (by show wr.heap.size ≤ wr.heap.size; exact Nat.le_refl _)))
            obtain ⟨g0, g1, g2, g3⟩ := O7
            go_wp2_with fail
            refine ⟨HS1.out, ?_⟩
            refine WH.take 9 (some 46) rfl rfl (by kernel_rfl) (by kernel_rfl) (by kernel_rfl) (fun _ _ _ h => h) (by rfl) (fun v hv => by have k0 := Turn.cell hv c0 hne; have k1 := Turn.cell hv c1 hne; go_simp; first | done | with_reducible rfl | (rw [if_neg (by omega)])) HS1.out ?_; simp only [Act.put, List.setIfInBounds_toArray, List.set_cons_zero, List.set_cons_succ]
            refine WH.take 10 (some 47) rfl rfl (by kernel_rfl) (by kernel_rfl) (by kernel_rfl) (fun _ _ _ h => h) (by rfl) (fun v hv => by have k0 := Turn.cell hv c0 hne; have k1 := Turn.cell hv c1 hne; go_simp; first | done | with_reducible rfl | (rw [if_neg (by omega)])) HS1.out ?_; simp only [Act.put, List.setIfInBounds_toArray, List.set_cons_zero, List.set_cons_succ]
            refine WH.take 11 (some 48) rfl rfl (by kernel_rfl) (by kernel_rfl) (by kernel_rfl) (fun _ _ _ h => h) (by rfl) (fun v hv => by have k0 := Turn.cell hv c0 hne; have k1 := Turn.cell hv c1 hne; go_simp; first | done | with_reducible rfl | (rw [if_neg (by omega)])) HS1.out ?_; simp only [Act.put, List.setIfInBounds_toArray, List.set_cons_zero, List.set_cons_succ]
            refine WH.off 12 (some 49) rfl rfl (by kernel_rfl) (by kernel_rfl) (by kernel_rfl) (fun _ _ _ h => h) (by rfl) HS1.out ?_; simp only [Act.put, List.setIfInBounds_toArray, List.set_cons_zero, List.set_cons_succ]
            refine WH.off 13 (some 50) rfl rfl (by kernel_rfl) (by kernel_rfl) (by kernel_rfl) (fun _ _ _ h => h) (by rfl) HS1.out ?_; simp only [Act.put, List.setIfInBounds_toArray, List.set_cons_zero, List.set_cons_succ]
            refine WH.off 14 (some 51) rfl rfl (by kernel_rfl) (by kernel_rfl) (by kernel_rfl) (fun _ _ _ h => h) (by rfl) HS1.out ?_; simp only [Act.put, List.setIfInBounds_toArray, List.set_cons_zero, List.set_cons_succ]
            refine WH.take 15 (some 52) rfl rfl (by kernel_rfl) (by kernel_rfl) (by kernel_rfl) (fun _ _ _ h => h) (by rfl) (fun v hv => by have k0 := Turn.cell hv c0 hne; have k1 := Turn.cell hv c1 hne; go_simp; first | done | with_reducible rfl | (rw [if_neg (by omega)])) HS1.out ?_; simp only [Act.put, List.setIfInBounds_toArray, List.set_cons_zero, List.set_cons_succ]
            refine WH.one 16 (by kernel_rfl) rfl (by rfl) ?_
            have HS2 := Lib.hid ((HS1.out.setCell ⟨w.heap.size, 0, none⟩ (.int .u16 a) (.inl rfl)).setCell ⟨w.heap.size, 1, none⟩ (.int .u16 b) (.inl rfl))
            go_wp2_with fail
            refine ⟨HS2.out, ?_⟩
            refine WH.take 17 (some 3) rfl rfl (by kernel_rfl) (by kernel_rfl) (by kernel_rfl) (fun _ _ _ h => h) (by rfl) (fun v hv => by have k0 := Turn.cell hv c0 hne; have k1 := Turn.cell hv c1 hne; go_simp; first | done | with_reducible rfl | (rw [if_neg (by omega)])) HS2.out ?_; simp only [Act.put, List.setIfInBounds_toArray, List.set_cons_zero, List.set_cons_succ]
            refine WH.done (by kernel_rfl) ?_
            have HBE := Lib.hid (HBR.out.trans (HS2.out.below (B := w.heap.size) HBR.out.size (fun i h => by rw [h]; exact Nat.le_refl _)))
            clear HS2
            go_wp2_with fail
            exact bodyPost_ret (v := .tuple #[.agg #[.int .u16 a, .int .u16 b], .bool false]) (by simp [results, Tryz.results28, go_sem, *]) rfl ⟨by (rw [HV.out]) <;> rfl, HBE.out⟩
    · obtain rfl : pb = pa := hpb.out
      go_wp2_with fail
      refine (HPA.out _ HT1.out).mono ?_
      rintro e w2 ⟨rfl, h2⟩
      have HT2 := Lib.hid (HT1.out.below h2)
      have O2 := Lib.hid (O1.out.below h2)
      have HB2 := Lib.hid (below_then HB1.out h2)
      clear h2 O1 HB1
      go_wp2_with fail
      refine (HPB.out _ HT2.out).mono ?_
      rintro e w3 ⟨rfl, h3⟩
      have HT3 := Lib.hid (HT2.out.below h3)
      have O3 := O2.out.below h3
      have HB3 := Lib.hid (below_then HB2.out h3)
      clear h3 O2 HB2
      have hbx : Below w3.heap.size w3 (w3.alloc (.cells #[.int .u16 a, .int .u16 b] 42)) := (Below.refl _ _).alloc (Nat.le_refl _) _
      have OR := Lib.hid (O3.below hbx)
      have HTb := Lib.hid (HT3.out.below hbx)
      have HBR := Lib.hid (below_then HB3.out hbx)
      obtain ⟨c0, c1, _, _⟩ := Own2.new w3 (.int .u16 a) (.int .u16 b) 42
      have hne : ¬ (w3.heap.size = w.heap.size) := by have h1 := World.block_lt_of_cell? w3 _ O3.1; have h2 : w.heap.size < w3.heap.size := h1; omega
      have OQ := Lib.hid O3
      clear hbx O3 HB3 HT3
      obtain ⟨o0, o1, o2, o3⟩ := OQ.out
      go_wp2_with fail
      clear o0 o1 o2 o3
      generalize hwr : w3.alloc (.cells #[.int .u16 a, .int .u16 b] 42) = wr at *
      have hS0 : Turn (fun i => i = w.heap.size) wr wr.drew := (Turn.refl _ _).drew
      cases qa with
      | false =>
        have HV : Hid (spanP s.data.toList = (a, b, false)) := HSP
        obtain ⟨g0, g1, g2, g3⟩ := OR.out
        refine WH.enter (Turn (fun i => i = w.heap.size) wr) (by kernel_rfl) 18 rfl ?_
        refine WH.take 0 (some 37) rfl rfl (by kernel_rfl) (by kernel_rfl) (by kernel_rfl) (fun _ _ _ h => h) (by rfl) (fun v hv => by have k0 := Turn.cell hv c0 hne; have k1 := Turn.cell hv c1 hne; go_simp; first | done | with_reducible rfl | (rw [if_neg (by omega)])) hS0 ?_; simp only [Act.put, List.setIfInBounds_toArray, List.set_cons_zero, List.set_cons_succ]
        refine WH.take 1 (some 38) rfl rfl (by kernel_rfl) (by kernel_rfl) (by kernel_rfl) (fun _ _ _ h => h) (by rfl) (fun v hv => by have k0 := Turn.cell hv c0 hne; have k1 := Turn.cell hv c1 hne; go_simp; first | done | with_reducible rfl | (rw [if_neg (by omega)])) hS0 ?_; simp only [Act.put, List.setIfInBounds_toArray, List.set_cons_zero, List.set_cons_succ]
        refine WH.take 2 (some 39) rfl rfl (by kernel_rfl) (by kernel_rfl) (by kernel_rfl) (fun _ _ _ h => h) (by rfl) (fun v hv => by have k0 := Turn.cell hv c0 hne; have k1 := Turn.cell hv c1 hne; go_simp; first | done | with_reducible rfl | (rw [if_neg (by omega)])) hS0 ?_; simp only [Act.put, List.setIfInBounds_toArray, List.set_cons_zero, List.set_cons_succ]
        refine WH.off 3 (some 40) rfl rfl (by kernel_rfl) (by kernel_rfl) (by kernel_rfl) (fun _ _ _ h => h) (by rfl) hS0 ?_; simp only [Act.put, List.setIfInBounds_toArray, List.set_cons_zero, List.set_cons_succ]
        refine WH.take 4 (some 41) rfl rfl (by kernel_rfl) (by kernel_rfl) (by kernel_rfl) (fun _ _ _ h => h) (by rfl) (fun v hv => by have k0 := Turn.cell hv c0 hne; have k1 := Turn.cell hv c1 hne; go_simp; first | done | with_reducible rfl | (rw [if_neg (by omega)])) hS0 ?_; simp only [Act.put, List.setIfInBounds_toArray, List.set_cons_zero, List.set_cons_succ]
        refine WH.take 5 (some 42) rfl rfl (by kernel_rfl) (by kernel_rfl) (by kernel_rfl) (fun _ _ _ h => h) (by rfl) (fun v hv => by have k0 := Turn.cell hv c0 hne; have k1 := Turn.cell hv c1 hne; go_simp; first | done | with_reducible rfl | (rw [if_neg (by omega)])) hS0 ?_; simp only [Act.put, List.setIfInBounds_toArray, List.set_cons_zero, List.set_cons_succ]
        refine WH.off 6 (some 43) rfl rfl (by kernel_rfl) (by kernel_rfl) (by kernel_rfl) (fun _ _ _ h => h) (by rfl) hS0 ?_; simp only [Act.put, List.setIfInBounds_toArray, List.set_cons_zero, List.set_cons_succ]
        refine WH.off 7 (some 44) rfl rfl (by kernel_rfl) (by kernel_rfl) (by kernel_rfl) (fun _ _ _ h => h) (by rfl) hS0 ?_; simp only [Act.put, List.setIfInBounds_toArray, List.set_cons_zero, List.set_cons_succ]
        refine WH.off 8 (some 45) rfl rfl (by kernel_rfl) (by kernel_rfl) (by kernel_rfl) (fun _ _ _ h => h) (by rfl) hS0 ?_; simp only [Act.put, List.setIfInBounds_toArray, List.set_cons_zero, List.set_cons_succ]
        refine WH.off 9 (some 46) rfl rfl (by kernel_rfl) (by kernel_rfl) (by kernel_rfl) (fun _ _ _ h => h) (by rfl) hS0 ?_; simp only [Act.put, List.setIfInBounds_toArray, List.set_cons_zero, List.set_cons_succ]
        refine WH.take 10 (some 47) rfl rfl (by kernel_rfl) (by kernel_rfl) (by kernel_rfl) (fun _ _ _ h => h) (by rfl) (fun v hv => by have k0 := Turn.cell hv c0 hne; have k1 := Turn.cell hv c1 hne; go_simp; first | done | with_reducible rfl | (rw [if_neg (by omega)])) hS0 ?_; simp only [Act.put, List.setIfInBounds_toArray, List.set_cons_zero, List.set_cons_succ]
        refine WH.take 11 (some 48) rfl rfl (by kernel_rfl) (by kernel_rfl) (by kernel_rfl) (fun _ _ _ h => h) (by rfl) (fun v hv => by have k0 := Turn.cell hv c0 hne; have k1 := Turn.cell hv c1 hne; go_simp; first | done | with_reducible rfl | (rw [if_neg (by omega)])) hS0 ?_; simp only [Act.put, List.setIfInBounds_toArray, List.set_cons_zero, List.set_cons_succ]
        refine WH.off 12 (some 49) rfl rfl (by kernel_rfl) (by kernel_rfl) (by kernel_rfl) (fun _ _ _ h => h) (by rfl) hS0 ?_; simp only [Act.put, List.setIfInBounds_toArray, List.set_cons_zero, List.set_cons_succ]
        refine WH.off 13 (some 50) rfl rfl (by kernel_rfl) (by kernel_rfl) (by kernel_rfl) (fun _ _ _ h => h) (by rfl) hS0 ?_; simp only [Act.put, List.setIfInBounds_toArray, List.set_cons_zero, List.set_cons_succ]
        refine WH.off 14 (some 51) rfl rfl (by kernel_rfl) (by kernel_rfl) (by kernel_rfl) (fun _ _ _ h => h) (by rfl) hS0 ?_; simp only [Act.put, List.setIfInBounds_toArray, List.set_cons_zero, List.set_cons_succ]
        refine WH.take 15 (some 52) rfl rfl (by kernel_rfl) (by kernel_rfl) (by kernel_rfl) (fun _ _ _ h => h) (by rfl) (fun v hv => by have k0 := Turn.cell hv c0 hne; have k1 := Turn.cell hv c1 hne; go_simp; first | done | with_reducible rfl | (rw [if_neg (by omega)])) hS0 ?_; simp only [Act.put, List.setIfInBounds_toArray, List.set_cons_zero, List.set_cons_succ]
        refine WH.one 16 (by kernel_rfl) rfl (by rfl) ?_
        have HS2 := Lib.hid ((hS0.setCell ⟨w.heap.size, 0, none⟩ (.int .u16 a) (.inl rfl)).setCell ⟨w.heap.size, 1, none⟩ (.int .u16 b) (.inl rfl))
        go_wp2_with fail
        refine ⟨HS2.out, ?_⟩
        refine WH.take 17 (some 3) rfl rfl (by kernel_rfl) (by kernel_rfl) (by kernel_rfl) (fun _ _ _ h => h) (by rfl) (fun v hv => by have k0 := Turn.cell hv c0 hne; have k1 := Turn.cell hv c1 hne; go_simp; first | done | with_reducible rfl | (rw [if_neg (by omega)])) HS2.out ?_; simp only [Act.put, List.setIfInBounds_toArray, List.set_cons_zero, List.set_cons_succ]
        refine WH.done (by kernel_rfl) ?_
        have HBE := Lib.hid (HBR.out.trans (HS2.out.below (B := w.heap.size) HBR.out.size (fun i h => by rw [h]; exact Nat.le_refl _)))
        clear HS2
        go_wp2_with fail
        exact bodyPost_ret (v := .tuple #[.agg #[.int .u16 a, .int .u16 b], .bool false]) (by simp [results, Tryz.results28, go_sem, *]) rfl ⟨by (rw [HV.out]) <;> rfl, HBE.out⟩
      | true =>
        cases qb with
        | false =>
          have HV : Hid (spanP s.data.toList = (a, b, false)) := HSP
          obtain ⟨g0, g1, g2, g3⟩ := OR.out
          refine WH.enter (Turn (fun i => i = w.heap.size) wr) (by kernel_rfl) 18 rfl ?_
          refine WH.take 0 (some 37) rfl rfl (by kernel_rfl) (by kernel_rfl) (by kernel_rfl) (fun _ _ _ h => h) (by rfl) (fun v hv => by have k0 := Turn.cell hv c0 hne; have k1 := Turn.cell hv c1 hne; go_simp; first | done | with_reducible rfl | (rw [if_neg (by omega)])) hS0 ?_; simp only [Act.put, List.setIfInBounds_toArray, List.set_cons_zero, List.set_cons_succ]
          refine WH.take 1 (some 38) rfl rfl (by kernel_rfl) (by kernel_rfl) (by kernel_rfl) (fun _ _ _ h => h) (by rfl) (fun v hv => by have k0 := Turn.cell hv c0 hne; have k1 := Turn.cell hv c1 hne; go_simp; first | done | with_reducible rfl | (rw [if_neg (by omega)])) hS0 ?_; simp only [Act.put, List.setIfInBounds_toArray, List.set_cons_zero, List.set_cons_succ]
          refine WH.take 2 (some 39) rfl rfl (by kernel_rfl) (by kernel_rfl) (by kernel_rfl) (fun _ _ _ h => h) (by rfl) (fun v hv => by have k0 := Turn.cell hv c0 hne; have k1 := Turn.cell hv c1 hne; go_simp; first | done | with_reducible rfl | (rw [if_neg (by omega)])) hS0 ?_; simp only [Act.put, List.setIfInBounds_toArray, List.set_cons_zero, List.set_cons_succ]
          refine WH.take 3 (some 40) rfl rfl (by kernel_rfl) (by kernel_rfl) (by kernel_rfl) (fun _ _ _ h => h) (by rfl) (fun v hv => by have k0 := Turn.cell hv c0 hne; have k1 := Turn.cell hv c1 hne; go_simp; first | done | with_reducible rfl | (rw [if_neg (by omega)])) hS0 ?_; simp only [Act.put, List.setIfInBounds_toArray, List.set_cons_zero, List.set_cons_succ]
          refine WH.take 4 (some 41) rfl rfl (by kernel_rfl) (by kernel_rfl) (by kernel_rfl) (fun _ _ _ h => h) (by rfl) (fun v hv => by have k0 := Turn.cell hv c0 hne; have k1 := Turn.cell hv c1 hne; go_simp; first | done | with_reducible rfl | (rw [if_neg (by omega)])) hS0 ?_; simp only [Act.put, List.setIfInBounds_toArray, List.set_cons_zero, List.set_cons_succ]
          refine WH.take 5 (some 42) rfl rfl (by kernel_rfl) (by kernel_rfl) (by kernel_rfl) (fun _ _ _ h => h) (by rfl) (fun v hv => by have k0 := Turn.cell hv c0 hne; have k1 := Turn.cell hv c1 hne; go_simp; first | done | with_reducible rfl | (rw [if_neg (by omega)])) hS0 ?_; simp only [Act.put, List.setIfInBounds_toArray, List.set_cons_zero, List.set_cons_succ]
          refine WH.off 6 (some 43) rfl rfl (by kernel_rfl) (by kernel_rfl) (by kernel_rfl) (fun _ _ _ h => h) (by rfl) hS0 ?_; simp only [Act.put, List.setIfInBounds_toArray, List.set_cons_zero, List.set_cons_succ]
          refine WH.off 7 (some 44) rfl rfl (by kernel_rfl) (by kernel_rfl) (by kernel_rfl) (fun _ _ _ h => h) (by rfl) hS0 ?_; simp only [Act.put, List.setIfInBounds_toArray, List.set_cons_zero, List.set_cons_succ]
          refine WH.off 8 (some 45) rfl rfl (by kernel_rfl) (by kernel_rfl) (by kernel_rfl) (fun _ _ _ h => h) (by rfl) hS0 ?_; simp only [Act.put, List.setIfInBounds_toArray, List.set_cons_zero, List.set_cons_succ]
          refine WH.off 9 (some 46) rfl rfl (by kernel_rfl) (by kernel_rfl) (by kernel_rfl) (fun _ _ _ h => h) (by rfl) hS0 ?_; simp only [Act.put, List.setIfInBounds_toArray, List.set_cons_zero, List.set_cons_succ]
          refine WH.take 10 (some 47) rfl rfl (by kernel_rfl) (by kernel_rfl) (by kernel_rfl) (fun _ _ _ h => h) (by rfl) (fun v hv => by have k0 := Turn.cell hv c0 hne; have k1 := Turn.cell hv c1 hne; go_simp; first | done | with_reducible rfl | (rw [if_neg (by omega)])) hS0 ?_; simp only [Act.put, List.setIfInBounds_toArray, List.set_cons_zero, List.set_cons_succ]
          refine WH.take 11 (some 48) rfl rfl (by kernel_rfl) (by kernel_rfl) (by kernel_rfl) (fun _ _ _ h => h) (by rfl) (fun v hv => by have k0 := Turn.cell hv c0 hne; have k1 := Turn.cell hv c1 hne; go_simp; first | done | with_reducible rfl | (rw [if_neg (by omega)])) hS0 ?_; simp only [Act.put, List.setIfInBounds_toArray, List.set_cons_zero, List.set_cons_succ]
          refine WH.off 12 (some 49) rfl rfl (by kernel_rfl) (by kernel_rfl) (by kernel_rfl) (fun _ _ _ h => h) (by rfl) hS0 ?_; simp only [Act.put, List.setIfInBounds_toArray, List.set_cons_zero, List.set_cons_succ]
          refine WH.off 13 (some 50) rfl rfl (by kernel_rfl) (by kernel_rfl) (by kernel_rfl) (fun _ _ _ h => h) (by rfl) hS0 ?_; simp only [Act.put, List.setIfInBounds_toArray, List.set_cons_zero, List.set_cons_succ]
          refine WH.off 14 (some 51) rfl rfl (by kernel_rfl) (by kernel_rfl) (by kernel_rfl) (fun _ _ _ h => h) (by rfl) hS0 ?_; simp only [Act.put, List.setIfInBounds_toArray, List.set_cons_zero, List.set_cons_succ]
          refine WH.take 15 (some 52) rfl rfl (by kernel_rfl) (by kernel_rfl) (by kernel_rfl) (fun _ _ _ h => h) (by rfl) (fun v hv => by have k0 := Turn.cell hv c0 hne; have k1 := Turn.cell hv c1 hne; go_simp; first | done | with_reducible rfl | (rw [if_neg (by omega)])) hS0 ?_; simp only [Act.put, List.setIfInBounds_toArray, List.set_cons_zero, List.set_cons_succ]
          refine WH.one 16 (by kernel_rfl) rfl (by rfl) ?_
          have HS2 := Lib.hid ((hS0.setCell ⟨w.heap.size, 0, none⟩ (.int .u16 a) (.inl rfl)).setCell ⟨w.heap.size, 1, none⟩ (.int .u16 b) (.inl rfl))
          go_wp2_with fail
          refine ⟨HS2.out, ?_⟩
          refine WH.take 17 (some 3) rfl rfl (by kernel_rfl) (by kernel_rfl) (by kernel_rfl) (fun _ _ _ h => h) (by rfl) (fun v hv => by have k0 := Turn.cell hv c0 hne; have k1 := Turn.cell hv c1 hne; go_simp; first | done | with_reducible rfl | (rw [if_neg (by omega)])) HS2.out ?_; simp only [Act.put, List.setIfInBounds_toArray, List.set_cons_zero, List.set_cons_succ]
          refine WH.done (by kernel_rfl) ?_
          have HBE := Lib.hid (HBR.out.trans (HS2.out.below (B := w.heap.size) HBR.out.size (fun i h => by rw [h]; exact Nat.le_refl _)))
          clear HS2
          go_wp2_with fail
          exact bodyPost_ret (v := .tuple #[.agg #[.int .u16 a, .int .u16 b], .bool false]) (by simp [results, Tryz.results28, go_sem, *]) rfl ⟨by (rw [HV.out]) <;> rfl, HBE.out⟩
        | true =>
          by_cases hq : spanL a b = s.data.toList
          · have HV : Hid (spanP s.data.toList = (a, b, decide (a ≤ b))) := Lib.hid (by rw [HSP.out, decide_eq_true hq]; rfl)
            have hqs : (spanL a b == s.toList) = true := by rw [ByteArray.toList_eq, beq_iff_eq]; exact hq
            clear hq HSP
            refine WH.enter (Turn (fun i => i = w.heap.size) wr) (by kernel_rfl) 18 rfl ?_
            refine WH.take 0 (some 37) rfl rfl (by kernel_rfl) (by kernel_rfl) (by kernel_rfl) (fun _ _ _ h => h) (by rfl) (fun v hv => by have k0 := Turn.cell hv c0 hne; have k1 := Turn.cell hv c1 hne; go_simp; first | done | with_reducible rfl | (rw [if_neg (by omega)])) hS0 ?_; simp only [Act.put, List.setIfInBounds_toArray, List.set_cons_zero, List.set_cons_succ]
            refine WH.take 1 (some 38) rfl rfl (by kernel_rfl) (by kernel_rfl) (by kernel_rfl) (fun _ _ _ h => h) (by rfl) (fun v hv => by have k0 := Turn.cell hv c0 hne; have k1 := Turn.cell hv c1 hne; go_simp; first | done | with_reducible rfl | (rw [if_neg (by omega)])) hS0 ?_; simp only [Act.put, List.setIfInBounds_toArray, List.set_cons_zero, List.set_cons_succ]
            refine WH.take 2 (some 39) rfl rfl (by kernel_rfl) (by kernel_rfl) (by kernel_rfl) (fun _ _ _ h => h) (by rfl) (fun v hv => by have k0 := Turn.cell hv c0 hne; have k1 := Turn.cell hv c1 hne; go_simp; first | done | with_reducible rfl | (rw [if_neg (by omega)])) hS0 ?_; simp only [Act.put, List.setIfInBounds_toArray, List.set_cons_zero, List.set_cons_succ]
            refine WH.take 3 (some 40) rfl rfl (by kernel_rfl) (by kernel_rfl) (by kernel_rfl) (fun _ _ _ h => h) (by rfl) (fun v hv => by have k0 := Turn.cell hv c0 hne; have k1 := Turn.cell hv c1 hne; go_simp; first | done | with_reducible rfl | (rw [if_neg (by omega)])) hS0 ?_; simp only [Act.put, List.setIfInBounds_toArray, List.set_cons_zero, List.set_cons_succ]
            refine WH.take 4 (some 41) rfl rfl (by kernel_rfl) (by kernel_rfl) (by kernel_rfl) (fun _ _ _ h => h) (by rfl) (fun v hv => by have k0 := Turn.cell hv c0 hne; have k1 := Turn.cell hv c1 hne; go_simp; first | done | with_reducible rfl | (rw [if_neg (by omega)])) hS0 ?_; simp only [Act.put, List.setIfInBounds_toArray, List.set_cons_zero, List.set_cons_succ]
            refine WH.take 5 (some 42) rfl rfl (by kernel_rfl) (by kernel_rfl) (by kernel_rfl) (fun _ _ _ h => h) (by rfl) (fun v hv => by have k0 := Turn.cell hv c0 hne; have k1 := Turn.cell hv c1 hne; go_simp; first | done | with_reducible rfl | (rw [if_neg (by omega)])) hS0 ?_; simp only [Act.put, List.setIfInBounds_toArray, List.set_cons_zero, List.set_cons_succ]
            refine WH.take 6 (some 43) rfl rfl (by kernel_rfl) (by kernel_rfl) (by kernel_rfl) (fun _ _ _ h => h) (by rfl) (fun v hv => by have k0 := Turn.cell hv c0 hne; have k1 := Turn.cell hv c1 hne; go_simp; first | done | with_reducible rfl | (rw [if_neg (by omega)])) hS0 ?_; simp only [Act.put, List.setIfInBounds_toArray, List.set_cons_zero, List.set_cons_succ]
            refine WH.take 8 (some 45) rfl rfl (by kernel_rfl) (by kernel_rfl) (by kernel_rfl) (fun _ _ _ h => h) (by rfl) (fun v hv => by have k0 := Turn.cell hv c0 hne; have k1 := Turn.cell hv c1 hne; go_simp; first | done | with_reducible rfl | (rw [if_neg (by omega)])) hS0 ?_; simp only [Act.put, List.setIfInBounds_toArray, List.set_cons_zero, List.set_cons_succ]
            refine WH.one 7 (by kernel_rfl) rfl (by rfl) ?_
            go_wp2_with fail
            refine (spanShow_any a b _ hA hB (HTb.out.below (Below.refl _ _).drew)).mono ?_
            rintro e w7 ⟨rfl, h7⟩
            have HS1 : Hid (Turn (fun i => i = w.heap.size) wr w7) := Lib.hid (hS0.trans (Turn.of_below (F := fun _ => False) h7) (fun i h => h.elim))
            have O7 := OR.out.below ((Below.refl _ wr).drew.trans (h7.mono (by show wr.heap.size ≤ wr.heap.size; exact Nat.le_refl _)))
            obtain ⟨g0, g1, g2, g3⟩ := O7
            go_wp2_with fail
            refine ⟨HS1.out, ?_⟩
            refine WH.take 9 (some 46) rfl rfl (by kernel_rfl) (by kernel_rfl) (by kernel_rfl) (fun _ _ _ h => h) (by rfl) (fun v hv => by have k0 := Turn.cell hv c0 hne; have k1 := Turn.cell hv c1 hne; go_simp; first | done | with_reducible rfl | (rw [if_neg (by omega)])) HS1.out ?_; simp only [Act.put, List.setIfInBounds_toArray, List.set_cons_zero, List.set_cons_succ]
            refine WH.take 10 (some 47) rfl rfl (by kernel_rfl) (by kernel_rfl) (by kernel_rfl) (fun _ _ _ h => h) (by rfl) (fun v hv => by have k0 := Turn.cell hv c0 hne; have k1 := Turn.cell hv c1 hne; go_simp; first | done | with_reducible rfl | (rw [if_neg (by omega)])) HS1.out ?_; simp only [Act.put, List.setIfInBounds_toArray, List.set_cons_zero, List.set_cons_succ]
            refine WH.take 11 (some 48) rfl rfl (by kernel_rfl) (by kernel_rfl) (by kernel_rfl) (fun _ _ _ h => h) (by rfl) (fun v hv => by have k0 := Turn.cell hv c0 hne; have k1 := Turn.cell hv c1 hne; go_simp; first | done | with_reducible rfl | (rw [if_neg (by omega)])) HS1.out ?_; simp only [Act.put, List.setIfInBounds_toArray, List.set_cons_zero, List.set_cons_succ]
            refine WH.take 12 (some 49) rfl rfl (by kernel_rfl) (by kernel_rfl) (by kernel_rfl) (fun _ _ _ h => h) (by rfl) (fun v hv => by have k0 := Turn.cell hv c0 hne; have k1 := Turn.cell hv c1 hne; go_simp; first | done | with_reducible rfl | (rw [if_neg (by omega)])) HS1.out ?_; simp only [Act.put, List.setIfInBounds_toArray, List.set_cons_zero, List.set_cons_succ]
            refine WH.take 13 (some 50) rfl rfl (by kernel_rfl) (by kernel_rfl) (by kernel_rfl) (fun _ _ _ h => h) (by rfl) (fun v hv => by have k0 := Turn.cell hv c0 hne; have k1 := Turn.cell hv c1 hne; go_simp; first | done | with_reducible rfl | (rw [if_neg (by omega)])) HS1.out ?_; simp only [Act.put, List.setIfInBounds_toArray, List.set_cons_zero, List.set_cons_succ]
            refine WH.take 14 (some 51) rfl rfl (by kernel_rfl) (by kernel_rfl) (by kernel_rfl) (fun _ _ _ h => h) (by rfl) (fun v hv => by have k0 := Turn.cell hv c0 hne; have k1 := Turn.cell hv c1 hne; go_simp; first | done | with_reducible rfl | (rw [if_neg (by omega)])) HS1.out ?_; simp only [Act.put, List.setIfInBounds_toArray, List.set_cons_zero, List.set_cons_succ]
            refine WH.take 15 (some 52) rfl rfl (by kernel_rfl) (by kernel_rfl) (by kernel_rfl) (fun _ _ _ h => h) (by rfl) (fun v hv => by have k0 := Turn.cell hv c0 hne; have k1 := Turn.cell hv c1 hne; go_simp; first | done | with_reducible rfl | (rw [if_neg (by omega)])) HS1.out ?_; simp only [Act.put, List.setIfInBounds_toArray, List.set_cons_zero, List.set_cons_succ]
            refine WH.one 16 (by kernel_rfl) rfl (by rfl) ?_
            have HS2 := Lib.hid ((HS1.out.setCell ⟨w.heap.size, 0, none⟩ (.int .u16 a) (.inl rfl)).setCell ⟨w.heap.size, 1, none⟩ (.int .u16 b) (.inl rfl))
            go_wp2_with fail
            refine ⟨HS2.out, ?_⟩
            refine WH.take 17 (some 3) rfl rfl (by kernel_rfl) (by kernel_rfl) (by kernel_rfl) (fun _ _ _ h => h) (by rfl) (fun v hv => by have k0 := Turn.cell hv c0 hne; have k1 := Turn.cell hv c1 hne; go_simp; first | done | with_reducible rfl | (rw [if_neg (by omega)])) HS2.out ?_; simp only [Act.put, List.setIfInBounds_toArray, List.set_cons_zero, List.set_cons_succ]
            refine WH.done (by kernel_rfl) ?_
            have HBE := Lib.hid (HBR.out.trans (HS2.out.below (B := w.heap.size) HBR.out.size (fun i h => by rw [h]; exact Nat.le_refl _)))
            clear HS2
            go_wp2_with fail
            exact bodyPost_ret (v := .tuple #[.agg #[.int .u16 a, .int .u16 b], .bool (decide (a ≤ b))]) (by simp [results, Tryz.results28, go_sem, *]) rfl ⟨by (rw [HV.out]) <;> rfl, HBE.out⟩
          · have HV : Hid (spanP s.data.toList = (a, b, false)) := Lib.hid (by rw [HSP.out, decide_eq_false hq]; rfl)
            have hqs : (spanL a b == s.toList) = false := by rw [ByteArray.toList_eq, beq_eq_false_iff_ne]; exact hq
            clear hq HSP
            refine WH.enter (Turn (fun i => i = w.heap.size) wr) (by kernel_rfl) 18 rfl ?_
            refine WH.take 0 (some 37) rfl rfl (by kernel_rfl) (by kernel_rfl) (by kernel_rfl) (fun _ _ _ h => h) (by rfl) (fun v hv => by have k0 := Turn.cell hv c0 hne; have k1 := Turn.cell hv c1 hne; go_simp; first | done | with_reducible rfl | (rw [if_neg (by omega)])) hS0 ?_; simp only [Act.put, List.setIfInBounds_toArray, List.set_cons_zero, List.set_cons_succ]
            refine WH.take 1 (some 38) rfl rfl (by kernel_rfl) (by kernel_rfl) (by kernel_rfl) (fun _ _ _ h => h) (by rfl) (fun v hv => by have k0 := Turn.cell hv c0 hne; have k1 := Turn.cell hv c1 hne; go_simp; first | done | with_reducible rfl | (rw [if_neg (by omega)])) hS0 ?_; simp only [Act.put, List.setIfInBounds_toArray, List.set_cons_zero, List.set_cons_succ]
            refine WH.take 2 (some 39) rfl rfl (by kernel_rfl) (by kernel_rfl) (by kernel_rfl) (fun _ _ _ h => h) (by rfl) (fun v hv => by have k0 := Turn.cell hv c0 hne; have k1 := Turn.cell hv c1 hne; go_simp; first | done | with_reducible rfl | (rw [if_neg (by omega)])) hS0 ?_; simp only [Act.put, List.setIfInBounds_toArray, List.set_cons_zero, List.set_cons_succ]
            refine WH.take 3 (some 40) rfl rfl (by kernel_rfl) (by kernel_rfl) (by kernel_rfl) (fun _ _ _ h => h) (by rfl) (fun v hv => by have k0 := Turn.cell hv c0 hne; have k1 := Turn.cell hv c1 hne; go_simp; first | done | with_reducible rfl | (rw [if_neg (by omega)])) hS0 ?_; simp only [Act.put, List.setIfInBounds_toArray, List.set_cons_zero, List.set_cons_succ]
            refine WH.take 4 (some 41) rfl rfl (by kernel_rfl) (by kernel_rfl) (by kernel_rfl) (fun _ _ _ h => h) (by rfl) (fun v hv => by have k0 := Turn.cell hv c0 hne; have k1 := Turn.cell hv c1 hne; go_simp; first | done | with_reducible rfl | (rw [if_neg (by omega)])) hS0 ?_; simp only [Act.put, List.setIfInBounds_toArray, List.set_cons_zero, List.set_cons_succ]
            refine WH.take 5 (some 42) rfl rfl (by kernel_rfl) (by kernel_rfl) (by kernel_rfl) (fun _ _ _ h => h) (by rfl) (fun v hv => by have k0 := Turn.cell hv c0 hne; have k1 := Turn.cell hv c1 hne; go_simp; first | done | with_reducible rfl | (rw [if_neg (by omega)])) hS0 ?_; simp only [Act.put, List.setIfInBounds_toArray, List.set_cons_zero, List.set_cons_succ]
            refine WH.take 6 (some 43) rfl rfl (by kernel_rfl) (by kernel_rfl) (by kernel_rfl) (fun _ _ _ h => h) (by rfl) (fun v hv => by have k0 := Turn.cell hv c0 hne; have k1 := Turn.cell hv c1 hne; go_simp; first | done | with_reducible rfl | (rw [if_neg (by omega)])) hS0 ?_; simp only [Act.put, List.setIfInBounds_toArray, List.set_cons_zero, List.set_cons_succ]
            refine WH.take 8 (some 45) rfl rfl (by kernel_rfl) (by kernel_rfl) (by kernel_rfl) (fun _ _ _ h => h) (by rfl) (fun v hv => by have k0 := Turn.cell hv c0 hne; have k1 := Turn.cell hv c1 hne; go_simp; first | done | with_reducible rfl | (rw [if_neg (by omega)])) hS0 ?_; simp only [Act.put, List.setIfInBounds_toArray, List.set_cons_zero, List.set_cons_succ]
            refine WH.one 7 (by kernel_rfl) rfl (by rfl) ?_
            go_wp2_with fail
            refine (spanShow_any a b _ hA hB (HTb.out.below (Below.refl _ _).drew)).mono ?_
            rintro e w7 ⟨rfl, h7⟩
            have HS1 : Hid (Turn (fun i => i = w.heap.size) wr w7) := Lib.hid (hS0.trans (Turn.of_below (F := fun _ => False) h7) (fun i h => h.elim))
            have O7 := OR.out.below ((Below.refl _ wr).drew.trans (h7.mono (by show wr.heap.size ≤ wr.heap.size; exact Nat.le_refl _)))
            obtain ⟨g0, g1, g2, g3⟩ := O7
            go_wp2_with fail
            refine ⟨HS1.out, ?_⟩
            refine WH.take 9 (some 46) rfl rfl (by kernel_rfl) (by kernel_rfl) (by kernel_rfl) (fun _ _ _ h => h) (by rfl) (fun v hv => by have k0 := Turn.cell hv c0 hne; have k1 := Turn.cell hv c1 hne; go_simp; first | done | with_reducible rfl | (rw [if_neg (by omega)])) HS1.out ?_; simp only [Act.put, List.setIfInBounds_toArray, List.set_cons_zero, List.set_cons_succ]
            refine WH.take 10 (some 47) rfl rfl (by kernel_rfl) (by kernel_rfl) (by kernel_rfl) (fun _ _ _ h => h) (by rfl) (fun v hv => by have k0 := Turn.cell hv c0 hne; have k1 := Turn.cell hv c1 hne; go_simp; first | done | with_reducible rfl | (rw [if_neg (by omega)])) HS1.out ?_; simp only [Act.put, List.setIfInBounds_toArray, List.set_cons_zero, List.set_cons_succ]
            refine WH.take 11 (some 48) rfl rfl (by kernel_rfl) (by kernel_rfl) (by kernel_rfl) (fun _ _ _ h => h) (by rfl) (fun v hv => by have k0 := Turn.cell hv c0 hne; have k1 := Turn.cell hv c1 hne; go_simp; first | done | with_reducible rfl | (rw [if_neg (by omega)])) HS1.out ?_; simp only [Act.put, List.setIfInBounds_toArray, List.set_cons_zero, List.set_cons_succ]
            refine WH.off 12 (some 49) rfl rfl (by kernel_rfl) (by kernel_rfl) (by kernel_rfl) (fun _ _ _ h => h) (by rfl) HS1.out ?_; simp only [Act.put, List.setIfInBounds_toArray, List.set_cons_zero, List.set_cons_succ]
            refine WH.off 13 (some 50) rfl rfl (by kernel_rfl) (by kernel_rfl) (by kernel_rfl) (fun _ _ _ h => h) (by rfl) HS1.out ?_; simp only [Act.put, List.setIfInBounds_toArray, List.set_cons_zero, List.set_cons_succ]
            refine WH.off 14 (some 51) rfl rfl (by kernel_rfl) (by kernel_rfl) (by kernel_rfl) (fun _ _ _ h => h) (by rfl) HS1.out ?_; simp only [Act.put, List.setIfInBounds_toArray, List.set_cons_zero, List.set_cons_succ]
            refine WH.take 15 (some 52) rfl rfl (by kernel_rfl) (by kernel_rfl) (by kernel_rfl) (fun _ _ _ h => h) (by rfl) (fun v hv => by have k0 := Turn.cell hv c0 hne; have k1 := Turn.cell hv c1 hne; go_simp; first | done | with_reducible rfl | (rw [if_neg (by omega)])) HS1.out ?_; simp only [Act.put, List.setIfInBounds_toArray, List.set_cons_zero, List.set_cons_succ]
            refine WH.one 16 (by kernel_rfl) rfl (by rfl) ?_
            have HS2 := Lib.hid ((HS1.out.setCell ⟨w.heap.size, 0, none⟩ (.int .u16 a) (.inl rfl)).setCell ⟨w.heap.size, 1, none⟩ (.int .u16 b) (.inl rfl))
            go_wp2_with fail
            refine ⟨HS2.out, ?_⟩
            refine WH.take 17 (some 3) rfl rfl (by kernel_rfl) (by kernel_rfl) (by kernel_rfl) (fun _ _ _ h => h) (by rfl) (fun v hv => by have k0 := Turn.cell hv c0 hne; have k1 := Turn.cell hv c1 hne; go_simp; first | done | with_reducible rfl | (rw [if_neg (by omega)])) HS2.out ?_; simp only [Act.put, List.setIfInBounds_toArray, List.set_cons_zero, List.set_cons_succ]
            refine WH.done (by kernel_rfl) ?_
            have HBE := Lib.hid (HBR.out.trans (HS2.out.below (B := w.heap.size) HBR.out.size (fun i h => by rw [h]; exact Nat.le_refl _)))
            clear HS2
            go_wp2_with fail
            exact bodyPost_ret (v := .tuple #[.agg #[.int .u16 a, .int .u16 b], .bool false]) (by simp [results, Tryz.results28, go_sem, *]) rfl ⟨by (rw [HV.out]) <;> rfl, HBE.out⟩
end Go.Proofs.YtfiddoibnjildaaGreatDoor
