/- Walk of auto.New. Printed by gen_autol.py. -/
import Derived.Test.YtahgapkecabnjaaGreatDoorC16
import Derived.Test.YtahgapkecabnjaaGreatDoorC12
namespace Go.Proofs.YtahgapkecabnjaaGreatDoor
set_option linter.unusedSimpArgs false
set_option linter.unusedVariables false
open Go Go.RowKit Go.Shelf Go.Lib Go.Maps Go.MapKept
open Go.ChangeMaps (setBlock)

def newS (c : Cf) (rs : List Rl) : St := ⟨c, 0, [rs], [], fun _ => 0⟩
theorem checkF_zero {c : Cf} {rs : List Rl} (h : checkF c rs = 0) : powF c.st = true ∧ 1 ≤ c.cap ∧ c.cap ≤ 4095 ∧ fitsF rs = 0 := by
  unfold checkF at h
  split at h
  · rename_i hc; exact ⟨hc.1, hc.2.1, hc.2.2, h⟩
  · cases h
theorem newS_ok {c : Cf} {rs : List Rl} (h : checkF c rs = 0) : (newS c rs).Ok := by
  obtain ⟨_, h1, h2, h3⟩ := checkF_zero h
  refine ⟨by show (0 : Nat) < _; decide, (by show 1 = verW 0 + 1; decide), fun r hr => ?_, (by show cntW 0 = 0; decide), ⟨h1, h2⟩, (by show ((0 : Nat) : Int) ≤ c.cap; omega), List.Pairwise.nil, (fun p hp => nomatch hp), (fun i => (by decide : (0 : Nat) < 18446744073709551616))⟩
  have : r ∈ [rs] := hr
  rw [List.mem_singleton.1 this]
  exact fitsF_len h3
def NewPost (c : Cf) (rs : List Rl) (w : World) (e : Ending) (w' : World) : Prop := Below w.heap.size w w' ∧
  ((checkF c rs ≠ 0 ∧ e = .returned (.tuple #[.pointer none, .int .i64 (checkF c rs)])) ∨
   (checkF c rs = 0 ∧ ∃ ba F, e = .returned (.tuple #[.pointer (some ⟨ba, 0, none⟩), .int .i64 0]) ∧ (∀ i, F i → w.heap.size ≤ i ∧ i < w'.heap.size) ∧ AutoAt w' ba F (newS c rs)))
theorem exec_load_mid {P : Program} {o : Oper} {ev : Operand → Value} {w : World} (ty : TypeId) (x : Operand) (ho : o.op = .load ty x) (b off : Nat) (hx : ev x = .pointer (some ⟨b, off, none⟩)) (cs : List Value) (d : TypeDesc)
    (hc : w.rangeAt b off cs) (hu : P.underlying ty = some d) (hd : d.isRow = true) (hi : (P.info? ty).map (·.size) = some cs.length) : (execOp ev o).run P w = .ok (.value (.agg cs.toArray)) w := by
  unfold execOp
  simp only [ho, hx, Sem.run_bind, run_loadAt_mid w b off ty cs d hc hu hd hi, Result.andThen_ok, Sem.run_pure]
theorem oper_build_auto {o : Oper} {a : Act} {w : World} {K : Act → World → Prop} {Q : Exit → Act → World → Prop} (ho : o.op = .build 84 #[(0, .tmp 13), (2, .tmp 16), (3, .tmp 17)]) (c : Cf) (rs : List Rl) (ra : Option Addr) (mb : Nat)
    (h1 : a.eval (.tmp 13) = .agg (cfC c)) (h2 : a.eval (.tmp 16) = .slice ra 1 1) (h3 : a.eval (.tmp 17) = .map (some mb))
    (h : K (a.put o.dst (.agg (autoC (newS c rs) (.slice ra 1 1) mb))) w) : o.wp Tryz.prog a w K Q := by
  unfold Oper.wp execOp
  simp only [ho]
  have e : (Instr.build 84 #[(0, .agg (cfC c)), (2, .slice ra 1 1), (3, .map (some mb))]).run Tryz.prog w = .ok (.agg (autoC (newS c rs) (.slice ra 1 1) mb)) w := by kernel_rfl
  rw [show Array.map (fun x : Nat × Operand => (x.fst, a.eval x.snd)) #[(0, .tmp 13), (2, .tmp 16), (3, .tmp 17)] = #[(0, .agg (cfC c)), (2, .slice ra 1 1), (3, .map (some mb))] from by simp [h1, h2, h3]]
  simp only [Sem.run_bind, Sem.run_pure, e, Result.andThen_ok]
  exact h
/-- The firewall that is made. -/
theorem new_end {w : World} {c : Cf} {rs : List Rl} {rb mb : Nat} {v1 : Value} (hrb : w.heap[rb]? = some (.cells #[v1] 25 (0, 0))) (hm : IsMap w Tryz.prog 45 mb (fun _ => none)) (hrow : Row w 79 10 v1 rs.length (rowsC rs)) (hin : ∀ r ∈ rs, r.In) :
    AutoW (w.alloc (.cells (autoC (newS c rs) (.slice (some ⟨rb, 0, none⟩) 1 1) mb) 84)) w.heap.size (fun i => i = w.heap.size ∨ i = mb ∨ i = rb ∨ v1.ownBlock = some i) (newS c rs) (.slice (some ⟨rb, 0, none⟩) 1 1) mb (fun _ => none) [v1] := by
  have hb : Below w.heap.size w (w.alloc (.cells (autoC (newS c rs) (.slice (some ⟨rb, 0, none⟩) 1 1) mb) 84)) := (Below.refl _ w).alloc (Nat.le_refl _) _
  refine ⟨World.alloc_heap_new w _, ⟨rfl, .inr ⟨rb, 1, #[v1], rfl, Nat.zero_le _, (hb.block rb (Array.getElem?_eq_some_iff.1 hrb).1).trans hrb, Nat.le_refl 1, by decide, rfl, rfl⟩⟩, fun i r hi => ?_, ⟨hm.of_block (hb.block mb hm.lt), fun k => rfl, fun v x h => by cases h⟩, .inl rfl, .inr (.inl rfl), fun b e => by cases e; exact .inr (.inr (.inl rfl))⟩
  have hi : [rs][i]? = some r := hi
  have hz : i = 0 := by have := (List.getElem?_eq_some_iff.1 hi).1; simp at this; omega
  subst hz
  obtain rfl : rs = r := by simpa using hi
  exact ⟨v1, rfl, row_of_block hrow (fun b e => hb.block b (row_lt hrow e)), hin, fun b e => .inr (.inr (.inr e))⟩
theorem cfInfo (c : Cf) : (Tryz.prog.info? 24).map (·.size) = some (cfC c).toList.length := by kernel_rfl
set_option maxHeartbeats 4000000 in
set_option maxRecDepth 100000 in
theorem new_any (c : Cf) (a : Option Addr) (k : Nat) (rs : List Rl) (w : World) (hR : RulesAt w a rs) (hl : rs.length ≤ maxLen) (hT : Tabs w) :
    Calls Tryz.prog 8 #[.agg (cfC c), .slice a rs.length k] w (NewPost c rs w) := by
  have HB0 : Hid (Below w.heap.size w (w.alloc (.cells (cfC c) 24))) := Lib.hid ((Below.refl _ w).alloc (Nat.le_refl _) _)
  have HC := Lib.hid (check_any c a k rs _ (hR.below HB0.out) hl (hT.below HB0.out))
  have HRG : Hid ((w.alloc (.cells (cfC c) 24)).rangeAt w.heap.size 0 (cfC c).toList) := Lib.hid (fun j v hv => by rw [← hv]; simp)
  have hi := cfInfo c
  have HBC : Hid (∀ (rs : List Rl) (o : Oper) (a : Act) (w : World) (K : Act → World → Prop) (Q : Exit → Act → World → Prop), o.op = .build 84 #[(0, .tmp 13), (2, .tmp 16), (3, .tmp 17)] → ∀ (ra : Option Addr) (mb : Nat), a.eval (.tmp 13) = .agg (cfC c) → a.eval (.tmp 16) = .slice ra 1 1 → a.eval (.tmp 17) = .map (some mb) →
      K (a.put o.dst (.agg (autoC (newS c rs) (.slice ra 1 1) mb))) w → o.wp Tryz.prog a w K Q) := Lib.hid (fun rs o a w K Q ho ra mb h1 h2 h3 h => oper_build_auto ho c rs ra mb h1 h2 h3 h)
  by_cases hz : checkF c rs ≠ 0
  · have HV : Hid (∀ e w', e = .returned (.tuple #[.pointer none, .int .i64 (checkF c rs)]) → Below w.heap.size w w' → NewPost c rs w e w') := Lib.hid (fun e w' he hb => ⟨hb, .inl ⟨hz, he⟩⟩)
    clear hR hT HBC
    generalize checkF c rs = res at *
    generalize rs.length = m at *
    generalize cfC c = X at *
    go_enter Tryz.func8, Tryz.ntmps8
    go_wp2_with (first | (refine wpList_load_mid_w (by rfl) 24 (.tmp 2) rfl w.heap.size 0 rfl X.toList _ HRG.out Tryz.underlying24 rfl hi ?_; rw [Array.toArray_toList]))
    refine HC.out.mono ?_
    rintro e w2 ⟨rfl, h2⟩
    have HB2 := Lib.hid (below_then HB0.out h2)
    clear h2
    go_wp2_with fail
    go_ret2
    exact HV.out _ _ rfl HB2.out
  · have hz0 : checkF c rs = 0 := by omega
    have hlen : rs.length ≤ 64 := fitsF_len (checkF_zero hz0).2.2.2
    have HV : Hid (∀ ba F e w', e = .returned (.tuple #[.pointer (some ⟨ba, 0, none⟩), .int .i64 0]) → Below w.heap.size w w' → (∀ i, F i → w.heap.size ≤ i ∧ i < w'.heap.size) → AutoAt w' ba F (newS c rs) → NewPost c rs w e w') := Lib.hid (fun ba F e w' he hb hF hA => ⟨hb, .inr ⟨hz0, ba, F, he, hF, hA⟩⟩)
    rw [hz0] at HC
    have HCL := Lib.hid (fun W (hb : Below w.heap.size w W) => cloneRules_any a k rs W (hR.below hb) (by omega))
    have HIN := Lib.hid (rulesAt_in hR)
    have HNE := Lib.hid (fun w rb mb v1 => @new_end w c rs rb mb v1)
    clear hR hT hz hz0 hl
    generalize hrl : rs.length = m at *
    generalize hX : cfC c = X at *
    have HX := Lib.hid hX
    have HRL := Lib.hid hrl
    clear hX hrl
    go_enter Tryz.func8, Tryz.ntmps8
    go_wp2_with (first | (refine wpList_load_mid_w (by rfl) 24 (.tmp 2) rfl w.heap.size 0 rfl X.toList _ HRG.out Tryz.underlying24 rfl hi ?_; rw [Array.toArray_toList]))
    refine HC.out.mono ?_
    rintro e w2 ⟨rfl, h2⟩
    have HB2 := Lib.hid (below_then HB0.out h2)
    have HRG2 : Hid (w2.rangeAt w.heap.size 0 X.toList) := Lib.hid (Since.range h2 HRG.out)
    clear h2 HC HRG
    go_wp2_with fail
    have HS0 : Hid (Since w2 w2.drew) := Lib.hid ((Below.refl _ w2).trans ⟨rfl, rfl, rfl, Nat.le_refl _, fun _ _ => rfl⟩)
    have hmm := @run_makeMap Tryz.prog
    refine WH.enter (Since w2) (by kernel_rfl) 9 rfl ?_
    refine WH.take 0 (some 13) rfl rfl (by kernel_rfl) (by kernel_rfl) (by kernel_rfl) (fun _ _ _ h => h) (by rfl) (fun v hv => by rw [exec_load_mid 24 (.tmp 2) rfl w.heap.size 0 rfl X.toList _ (Since.range hv HRG2.out) Tryz.underlying24 rfl hi, Array.toArray_toList]) HS0.out ?_; simp only [Act.put, List.setIfInBounds_toArray, List.set_cons_zero, List.set_cons_succ]
    refine WH.take 1 (some 14) rfl rfl (by kernel_rfl) (by kernel_rfl) (by kernel_rfl) (fun _ _ _ h => h) (by rfl) (fun v hv => by go_simp; first | done | with_reducible rfl | (rw [if_neg (by omega)])) HS0.out ?_; simp only [Act.put, List.setIfInBounds_toArray, List.set_cons_zero, List.set_cons_succ]
    refine WH.two 2 4 (by kernel_rfl) rfl rfl (by rfl) (by rfl) ?_ ?_
    · go_wp2_with fail
      refine (HCL.out _ (below_then HB2.out HS0.out)).mono ?_
      rintro e w4 ⟨v1, rfl, hrow1, hb4⟩
      have HS4 : Hid (Since w2 w4) := Lib.hid (Since.step HS0.out hb4)
      have hrw1 := World.ownsRow.mono_base hrow1
      have hfr : Hid (∀ b, v1.ownBlock = some b → w.heap.size ≤ b) := Lib.hid (fun b e => Nat.le_trans (below_then HB2.out HS0.out).size (ownsRow_base hrow1 e))
      obtain ⟨va, vc, rfl, _⟩ := row_form hrw1
      have HRV1 := Lib.hid hrw1
      clear hb4 hrow1 hrw1
      go_wp2_with fail
      refine ⟨HS4.out, ?_⟩
      refine WH.two 3 4 (by kernel_rfl) rfl rfl (by rfl) (by rfl) ?_ ?_
      · go_wp2_with fail
        have HS5 : Hid (Since w2 (w4.alloc (.cells #[.slice va m vc] 25))) := Lib.hid (Below.alloc HS4.out (Below.size HS4.out) _)
        refine ⟨HS5.out, ?_⟩
        have HS6 : Hid (Since w2 ((w4.alloc (.cells #[.slice va m vc] 25)).alloc (.map #[] 0))) := Lib.hid (Below.alloc (Below.alloc HS4.out (Below.size HS4.out) _) (by have := Below.size HS4.out; simp; omega) _)
        refine WH.one 4 (by kernel_rfl) rfl (by rfl) ?_
        go_wp2_with fail
        refine ⟨HS6.out, ?_⟩
        have hq4 : (w4.alloc (.cells #[.slice va m vc] 25)).heap.size = w4.heap.size + 1 := by simp
        have HRB : Hid (((w4.alloc (.cells #[.slice va m vc] 25)).alloc (.map #[] 0)).heap[w4.heap.size]? = some (.cells #[.slice va m vc] 25 (0, 0))) := Lib.hid ((((Below.refl _ (w4.alloc (.cells #[.slice va m vc] 25))).alloc (Nat.le_refl _) _).block _ (by simp)).trans (World.alloc_heap_new w4 _))
        have HMP : Hid (IsMap ((w4.alloc (.cells #[.slice va m vc] 25)).alloc (.map #[] 0)) Tryz.prog 45 (w4.heap.size + 1) (fun _ => none)) := Lib.hid (by rw [← hq4]; exact IsMap.made _ _ _)
        have HRW : Hid (Row ((w4.alloc (.cells #[.slice va m vc] 25)).alloc (.map #[] 0)) 79 10 (.slice va m vc) m (rowsC rs)) := Lib.hid (row_of_block HRV1.out (fun b e => (((Below.refl _ w4).alloc (Nat.le_refl _) (.cells #[.slice va m vc] 25)).alloc (by simp) _).block b (row_lt HRV1.out e)))
        clear hq4
        have HS6 : Hid (Since w2 ((w4.alloc (.cells #[.slice va m vc] 25)).alloc (.map #[] 0))) := Lib.hid (Below.alloc (Below.alloc HS4.out (Below.size HS4.out) _) (by have := Below.size HS4.out; simp; omega) _)
        have HAW : Hid (AutoW (((w4.alloc (.cells #[.slice va m vc] 25)).alloc (.map #[] 0)).alloc (.cells (autoC (newS c rs) (.slice (some ⟨w4.heap.size, 0, none⟩) 1 1) (w4.heap.size + 1)) 84)) ((w4.alloc (.cells #[.slice va m vc] 25)).alloc (.map #[] 0)).heap.size (fun i => i = ((w4.alloc (.cells #[.slice va m vc] 25)).alloc (.map #[] 0)).heap.size ∨ i = (w4.heap.size + 1) ∨ i = w4.heap.size ∨ (Value.slice va m vc).ownBlock = some i) (newS c rs) (.slice (some ⟨w4.heap.size, 0, none⟩) 1 1) (w4.heap.size + 1) (fun _ => none) [.slice va m vc]) := Lib.hid (HNE.out _ _ _ _ HRB.out HMP.out HRW.out HIN.out)
        have HZ : Hid (w.heap.size ≤ w2.heap.size ∧ w2.heap.size ≤ w4.heap.size ∧ w4.heap.size ≤ ((w4.alloc (.cells #[.slice va m vc] 25)).alloc (.map #[] 0)).heap.size) := Lib.hid ⟨HB2.out.size, Below.size HS4.out, by first | (simp; done) | (simp; omega)⟩
        have HF6 : Hid (∀ i, (i = ((w4.alloc (.cells #[.slice va m vc] 25)).alloc (.map #[] 0)).heap.size ∨ i = (w4.heap.size + 1) ∨ i = w4.heap.size ∨ (Value.slice va m vc).ownBlock = some i) → w.heap.size ≤ i ∧ i < (((w4.alloc (.cells #[.slice va m vc] 25)).alloc (.map #[] 0)).alloc (.cells (autoC (newS c rs) (.slice (some ⟨w4.heap.size, 0, none⟩) 1 1) (w4.heap.size + 1)) 84)).heap.size) := Lib.hid (fun i hi => by
          obtain ⟨z1, z2, z3⟩ := HZ.out
          have z4 : (((w4.alloc (.cells #[.slice va m vc] 25)).alloc (.map #[] 0)).alloc (.cells (autoC (newS c rs) (.slice (some ⟨w4.heap.size, 0, none⟩) 1 1) (w4.heap.size + 1)) 84)).heap.size = ((w4.alloc (.cells #[.slice va m vc] 25)).alloc (.map #[] 0)).heap.size + 1 := by simp
          rw [z4]
          rcases hi with h | h | h | h
          · subst h; omega
          · subst h; have := HMP.out.lt; exact ⟨by first | omega | (simp; omega), by omega⟩
          · subst h; have := (Array.getElem?_eq_some_iff.1 HRB.out).1; exact ⟨by first | omega | (simp; omega), by omega⟩
          · exact ⟨hfr.out i h, by have := row_lt HRW.out h; omega⟩)
        have HS7 : Hid (Since w2 (((w4.alloc (.cells #[.slice va m vc] 25)).alloc (.map #[] 0)).alloc (.cells (autoC (newS c rs) (.slice (some ⟨w4.heap.size, 0, none⟩) 1 1) (w4.heap.size + 1)) 84))) := Lib.hid (Below.alloc HS6.out (Below.size HS6.out) _)
        refine WH.one 5 (by kernel_rfl) rfl (by rfl) ?_
        refine HBC.out rs _ _ _ _ _ rfl (some ⟨w4.heap.size, 0, none⟩) (w4.heap.size + 1) rfl rfl rfl ?_
        refine ⟨HS6.out, ?_⟩
        simp only [Act.put, List.setIfInBounds_toArray, List.set_cons_zero, List.set_cons_succ]
        generalize autoC (newS c rs) (.slice (some ⟨w4.heap.size, 0, none⟩) 1 1) (w4.heap.size + 1) = Y at *
        generalize hw6 : ((w4.alloc (.cells #[.slice va m vc] 25)).alloc (.map #[] 0)) = w6 at *
        clear HRB HMP HRW hw6 HRV1
        refine WH.one 6 (by kernel_rfl) rfl (by rfl) ?_
        go_wp2_with fail
        refine ⟨HS7.out, ?_⟩
        refine WH.take 7 (some 4) rfl rfl (by kernel_rfl) (by kernel_rfl) (by kernel_rfl) (fun _ _ _ h => h) (by rfl) (fun v hv => by go_simp; first | done | with_reducible rfl | (rw [if_neg (by omega)])) HS7.out ?_; simp only [Act.put, List.setIfInBounds_toArray, List.set_cons_zero, List.set_cons_succ]
        refine WH.take 8 (some 5) rfl rfl (by kernel_rfl) (by kernel_rfl) (by kernel_rfl) (fun _ _ _ h => h) (by rfl) (fun v hv => by go_simp; first | done | with_reducible rfl | (rw [if_neg (by omega)])) HS7.out ?_; simp only [Act.put, List.setIfInBounds_toArray, List.set_cons_zero, List.set_cons_succ]
        refine WH.done (by kernel_rfl) ?_
        generalize hw7 : w6.alloc (.cells Y 84) = w7 at *
        clear hw7
        go_wp2_with fail
        go_ret2
        exact HV.out _ _ _ _ rfl (below_then HB2.out HS7.out) HF6.out ⟨_, _, _, _, HAW.out⟩
      · go_wp2_with fail
        have HS5 : Hid (Since w2 (w4.alloc (.map #[] 0))) := Lib.hid (Below.alloc HS4.out (Below.size HS4.out) _)
        refine ⟨HS5.out, ?_⟩
        have HS6 : Hid (Since w2 ((w4.alloc (.map #[] 0)).alloc (.cells #[.slice va m vc] 25))) := Lib.hid (Below.alloc (Below.alloc HS4.out (Below.size HS4.out) _) (by have := Below.size HS4.out; simp; omega) _)
        refine WH.one 3 (by kernel_rfl) rfl (by rfl) ?_
        go_wp2_with fail
        refine ⟨HS6.out, ?_⟩
        have hq4 : (w4.alloc (.map #[] 0)).heap.size = w4.heap.size + 1 := by simp
        have HRB : Hid (((w4.alloc (.map #[] 0)).alloc (.cells #[.slice va m vc] 25)).heap[w4.heap.size + 1]? = some (.cells #[.slice va m vc] 25 (0, 0))) := Lib.hid (by rw [← hq4]; exact World.alloc_heap_new _ _)
        have HMP : Hid (IsMap ((w4.alloc (.map #[] 0)).alloc (.cells #[.slice va m vc] 25)) Tryz.prog 45 w4.heap.size (fun _ => none)) := Lib.hid ((IsMap.made w4 _ _).alloc _)
        have HRW : Hid (Row ((w4.alloc (.map #[] 0)).alloc (.cells #[.slice va m vc] 25)) 79 10 (.slice va m vc) m (rowsC rs)) := Lib.hid (row_of_block HRV1.out (fun b e => (((Below.refl _ w4).alloc (Nat.le_refl _) (.map #[] 0)).alloc (by simp) _).block b (row_lt HRV1.out e)))
        clear hq4
        have HS6 : Hid (Since w2 ((w4.alloc (.map #[] 0)).alloc (.cells #[.slice va m vc] 25))) := Lib.hid (Below.alloc (Below.alloc HS4.out (Below.size HS4.out) _) (by have := Below.size HS4.out; simp; omega) _)
        have HAW : Hid (AutoW (((w4.alloc (.map #[] 0)).alloc (.cells #[.slice va m vc] 25)).alloc (.cells (autoC (newS c rs) (.slice (some ⟨w4.heap.size + 1, 0, none⟩) 1 1) (w4.heap.size)) 84)) ((w4.alloc (.map #[] 0)).alloc (.cells #[.slice va m vc] 25)).heap.size (fun i => i = ((w4.alloc (.map #[] 0)).alloc (.cells #[.slice va m vc] 25)).heap.size ∨ i = (w4.heap.size) ∨ i = w4.heap.size + 1 ∨ (Value.slice va m vc).ownBlock = some i) (newS c rs) (.slice (some ⟨w4.heap.size + 1, 0, none⟩) 1 1) (w4.heap.size) (fun _ => none) [.slice va m vc]) := Lib.hid (HNE.out _ _ _ _ HRB.out HMP.out HRW.out HIN.out)
        have HZ : Hid (w.heap.size ≤ w2.heap.size ∧ w2.heap.size ≤ w4.heap.size ∧ w4.heap.size ≤ ((w4.alloc (.map #[] 0)).alloc (.cells #[.slice va m vc] 25)).heap.size) := Lib.hid ⟨HB2.out.size, Below.size HS4.out, by first | (simp; done) | (simp; omega)⟩
        have HF6 : Hid (∀ i, (i = ((w4.alloc (.map #[] 0)).alloc (.cells #[.slice va m vc] 25)).heap.size ∨ i = (w4.heap.size) ∨ i = w4.heap.size + 1 ∨ (Value.slice va m vc).ownBlock = some i) → w.heap.size ≤ i ∧ i < (((w4.alloc (.map #[] 0)).alloc (.cells #[.slice va m vc] 25)).alloc (.cells (autoC (newS c rs) (.slice (some ⟨w4.heap.size + 1, 0, none⟩) 1 1) (w4.heap.size)) 84)).heap.size) := Lib.hid (fun i hi => by
          obtain ⟨z1, z2, z3⟩ := HZ.out
          have z4 : (((w4.alloc (.map #[] 0)).alloc (.cells #[.slice va m vc] 25)).alloc (.cells (autoC (newS c rs) (.slice (some ⟨w4.heap.size + 1, 0, none⟩) 1 1) (w4.heap.size)) 84)).heap.size = ((w4.alloc (.map #[] 0)).alloc (.cells #[.slice va m vc] 25)).heap.size + 1 := by simp
          rw [z4]
          rcases hi with h | h | h | h
          · subst h; omega
          · subst h; have := HMP.out.lt; exact ⟨by first | omega | (simp; omega), by omega⟩
          · subst h; have := (Array.getElem?_eq_some_iff.1 HRB.out).1; exact ⟨by first | omega | (simp; omega), by omega⟩
          · exact ⟨hfr.out i h, by have := row_lt HRW.out h; omega⟩)
        have HS7 : Hid (Since w2 (((w4.alloc (.map #[] 0)).alloc (.cells #[.slice va m vc] 25)).alloc (.cells (autoC (newS c rs) (.slice (some ⟨w4.heap.size + 1, 0, none⟩) 1 1) (w4.heap.size)) 84))) := Lib.hid (Below.alloc HS6.out (Below.size HS6.out) _)
        refine WH.one 5 (by kernel_rfl) rfl (by rfl) ?_
        refine HBC.out rs _ _ _ _ _ rfl (some ⟨w4.heap.size + 1, 0, none⟩) (w4.heap.size) rfl rfl rfl ?_
        refine ⟨HS6.out, ?_⟩
        simp only [Act.put, List.setIfInBounds_toArray, List.set_cons_zero, List.set_cons_succ]
        generalize autoC (newS c rs) (.slice (some ⟨w4.heap.size + 1, 0, none⟩) 1 1) (w4.heap.size) = Y at *
        generalize hw6 : ((w4.alloc (.map #[] 0)).alloc (.cells #[.slice va m vc] 25)) = w6 at *
        clear HRB HMP HRW hw6 HRV1
        refine WH.one 6 (by kernel_rfl) rfl (by rfl) ?_
        go_wp2_with fail
        refine ⟨HS7.out, ?_⟩
        refine WH.take 7 (some 4) rfl rfl (by kernel_rfl) (by kernel_rfl) (by kernel_rfl) (fun _ _ _ h => h) (by rfl) (fun v hv => by go_simp; first | done | with_reducible rfl | (rw [if_neg (by omega)])) HS7.out ?_; simp only [Act.put, List.setIfInBounds_toArray, List.set_cons_zero, List.set_cons_succ]
        refine WH.take 8 (some 5) rfl rfl (by kernel_rfl) (by kernel_rfl) (by kernel_rfl) (fun _ _ _ h => h) (by rfl) (fun v hv => by go_simp; first | done | with_reducible rfl | (rw [if_neg (by omega)])) HS7.out ?_; simp only [Act.put, List.setIfInBounds_toArray, List.set_cons_zero, List.set_cons_succ]
        refine WH.done (by kernel_rfl) ?_
        generalize hw7 : w6.alloc (.cells Y 84) = w7 at *
        clear hw7
        go_wp2_with fail
        go_ret2
        exact HV.out _ _ _ _ rfl (below_then HB2.out HS7.out) HF6.out ⟨_, _, _, _, HAW.out⟩
    · go_wp2_with fail
      have HS3 : Hid (Since w2 (w2.drew.alloc (.map #[] 0))) := Lib.hid (Below.alloc HS0.out (Nat.le_refl _) _)
      have HM3 : Hid (IsMap (w2.drew.alloc (.map #[] 0)) Tryz.prog 45 w2.heap.size (fun _ => none)) := Lib.hid (IsMap.made w2.drew _ _)
      refine ⟨HS3.out, ?_⟩
      refine WH.one 2 (by kernel_rfl) rfl (by rfl) ?_
      go_wp2_with fail
      refine (HCL.out _ (below_then HB2.out HS3.out)).mono ?_
      rintro e w4 ⟨v1, rfl, hrow1, hb4⟩
      have HS4 : Hid (Since w2 w4) := Lib.hid (Since.step HS3.out hb4)
      have hrw1 := World.ownsRow.mono_base hrow1
      have hfr : Hid (∀ b, v1.ownBlock = some b → w.heap.size ≤ b) := Lib.hid (fun b e => Nat.le_trans (below_then HB2.out HS3.out).size (ownsRow_base hrow1 e))
      have HM4 : Hid (IsMap w4 Tryz.prog 45 w2.heap.size (fun _ => none)) := Lib.hid (HM3.out.of_block (hb4.block _ HM3.out.lt))
      obtain ⟨va, vc, rfl, _⟩ := row_form hrw1
      have HRV1 := Lib.hid hrw1
      clear hb4 hrow1 hrw1
      go_wp2_with fail
      refine ⟨HS4.out, ?_⟩
      have HS6 : Hid (Since w2 (w4.alloc (.cells #[.slice va m vc] 25))) := Lib.hid (Below.alloc HS4.out (Below.size HS4.out) _)
      refine WH.one 3 (by kernel_rfl) rfl (by rfl) ?_
      go_wp2_with fail
      refine ⟨HS6.out, ?_⟩
      have HRB : Hid ((w4.alloc (.cells #[.slice va m vc] 25)).heap[w4.heap.size]? = some (.cells #[.slice va m vc] 25 (0, 0))) := Lib.hid (World.alloc_heap_new w4 _)
      have HMP : Hid (IsMap (w4.alloc (.cells #[.slice va m vc] 25)) Tryz.prog 45 w2.heap.size (fun _ => none)) := Lib.hid (HM4.out.alloc _)
      have HRW : Hid (Row (w4.alloc (.cells #[.slice va m vc] 25)) 79 10 (.slice va m vc) m (rowsC rs)) := Lib.hid (row_of_block HRV1.out (fun b e => ((Below.refl _ w4).alloc (Nat.le_refl _) _).block b (row_lt HRV1.out e)))
      have HS6 : Hid (Since w2 (w4.alloc (.cells #[.slice va m vc] 25))) := Lib.hid (Below.alloc HS4.out (Below.size HS4.out) _)
      have HAW : Hid (AutoW ((w4.alloc (.cells #[.slice va m vc] 25)).alloc (.cells (autoC (newS c rs) (.slice (some ⟨w4.heap.size, 0, none⟩) 1 1) (w2.heap.size)) 84)) (w4.alloc (.cells #[.slice va m vc] 25)).heap.size (fun i => i = (w4.alloc (.cells #[.slice va m vc] 25)).heap.size ∨ i = (w2.heap.size) ∨ i = w4.heap.size ∨ (Value.slice va m vc).ownBlock = some i) (newS c rs) (.slice (some ⟨w4.heap.size, 0, none⟩) 1 1) (w2.heap.size) (fun _ => none) [.slice va m vc]) := Lib.hid (HNE.out _ _ _ _ HRB.out HMP.out HRW.out HIN.out)
      have HZ : Hid (w.heap.size ≤ w2.heap.size ∧ w2.heap.size ≤ w4.heap.size ∧ w4.heap.size ≤ (w4.alloc (.cells #[.slice va m vc] 25)).heap.size) := Lib.hid ⟨HB2.out.size, Below.size HS4.out, by first | (simp; done) | (simp; omega)⟩
      have HF6 : Hid (∀ i, (i = (w4.alloc (.cells #[.slice va m vc] 25)).heap.size ∨ i = (w2.heap.size) ∨ i = w4.heap.size ∨ (Value.slice va m vc).ownBlock = some i) → w.heap.size ≤ i ∧ i < ((w4.alloc (.cells #[.slice va m vc] 25)).alloc (.cells (autoC (newS c rs) (.slice (some ⟨w4.heap.size, 0, none⟩) 1 1) (w2.heap.size)) 84)).heap.size) := Lib.hid (fun i hi => by
        obtain ⟨z1, z2, z3⟩ := HZ.out
        have z4 : ((w4.alloc (.cells #[.slice va m vc] 25)).alloc (.cells (autoC (newS c rs) (.slice (some ⟨w4.heap.size, 0, none⟩) 1 1) (w2.heap.size)) 84)).heap.size = (w4.alloc (.cells #[.slice va m vc] 25)).heap.size + 1 := by simp
        rw [z4]
        rcases hi with h | h | h | h
        · subst h; omega
        · subst h; have := HMP.out.lt; exact ⟨by first | omega | (simp; omega), by omega⟩
        · subst h; have := (Array.getElem?_eq_some_iff.1 HRB.out).1; exact ⟨by first | omega | (simp; omega), by omega⟩
        · exact ⟨hfr.out i h, by have := row_lt HRW.out h; omega⟩)
      have HS7 : Hid (Since w2 ((w4.alloc (.cells #[.slice va m vc] 25)).alloc (.cells (autoC (newS c rs) (.slice (some ⟨w4.heap.size, 0, none⟩) 1 1) (w2.heap.size)) 84))) := Lib.hid (Below.alloc HS6.out (Below.size HS6.out) _)
      refine WH.one 5 (by kernel_rfl) rfl (by rfl) ?_
      refine HBC.out rs _ _ _ _ _ rfl (some ⟨w4.heap.size, 0, none⟩) (w2.heap.size) rfl rfl rfl ?_
      refine ⟨HS6.out, ?_⟩
      simp only [Act.put, List.setIfInBounds_toArray, List.set_cons_zero, List.set_cons_succ]
      generalize autoC (newS c rs) (.slice (some ⟨w4.heap.size, 0, none⟩) 1 1) (w2.heap.size) = Y at *
      generalize hw6 : (w4.alloc (.cells #[.slice va m vc] 25)) = w6 at *
      clear HRB HMP HRW hw6 HRV1
      refine WH.one 6 (by kernel_rfl) rfl (by rfl) ?_
      go_wp2_with fail
      refine ⟨HS7.out, ?_⟩
      refine WH.take 7 (some 4) rfl rfl (by kernel_rfl) (by kernel_rfl) (by kernel_rfl) (fun _ _ _ h => h) (by rfl) (fun v hv => by go_simp; first | done | with_reducible rfl | (rw [if_neg (by omega)])) HS7.out ?_; simp only [Act.put, List.setIfInBounds_toArray, List.set_cons_zero, List.set_cons_succ]
      refine WH.take 8 (some 5) rfl rfl (by kernel_rfl) (by kernel_rfl) (by kernel_rfl) (fun _ _ _ h => h) (by rfl) (fun v hv => by go_simp; first | done | with_reducible rfl | (rw [if_neg (by omega)])) HS7.out ?_; simp only [Act.put, List.setIfInBounds_toArray, List.set_cons_zero, List.set_cons_succ]
      refine WH.done (by kernel_rfl) ?_
      generalize hw7 : w6.alloc (.cells Y 84) = w7 at *
      clear hw7
      go_wp2_with fail
      go_ret2
      exact HV.out _ _ _ _ rfl (below_then HB2.out HS7.out) HF6.out ⟨_, _, _, _, HAW.out⟩
end Go.Proofs.YtahgapkecabnjaaGreatDoor
/- The engine's methods at no firewall. Printed by gen_autom.py. -/
namespace Go.Proofs.YtahgapkecabnjaaGreatDoor
set_option linter.unusedSimpArgs false
set_option linter.unusedVariables false
open Go Go.RowKit Go.Shelf Go.Lib Go.Maps Go.MapKept

set_option maxHeartbeats 2000000 in
set_option maxRecDepth 100000 in
theorem tick_nil (n : Int) (w : World) :
    Calls Tryz.prog 24 #[.pointer none, .int .i64 n] w fun e w' => (∃ v, e = .returned v) ∧ Below w.heap.size w w' := by
  go_enter Tryz.func24, Tryz.ntmps24
  go_wp2_with fail
  go_end0
  exact ⟨⟨_, rfl⟩, Below.refl _ _⟩
set_option maxHeartbeats 2000000 in
set_option maxRecDepth 100000 in
theorem count_nil (n : Int) (w : World) :
    Calls Tryz.prog 27 #[.pointer none, .int .i64 n] w fun e w' => (∃ v, e = .returned v) ∧ Below w.heap.size w w' := by
  go_enter Tryz.func27, Tryz.ntmps27
  go_wp2_with fail
  refine (known_any none n w).mono ?_
  rintro e w2 ⟨rfl, h2⟩
  have HB := Lib.hid h2
  clear h2
  simp only [Option.isSome_none, Bool.false_and]
  go_wp2_with fail
  go_end0
  exact ⟨⟨_, rfl⟩, HB.out⟩
set_option maxHeartbeats 2000000 in
set_option maxRecDepth 100000 in
theorem swap_nil (v : Value) (w : World) :
    Calls Tryz.prog 23 #[.pointer none, v] w fun e w' => e = .returned (.tuple #[.int .i64 0, .int .i64 1]) ∧ Below w.heap.size w w' := by
  go_enter Tryz.func23, Tryz.ntmps23
  go_wp2_with fail
  go_ret2
  exact ⟨rfl, Below.refl _ _⟩
set_option maxHeartbeats 2000000 in
set_option maxRecDepth 100000 in
theorem act_nil (p : Pk) (w : World) :
    Calls Tryz.prog 21 #[.pointer none, .agg (pkC p)] w fun e w' => e = .returned (.int .i64 0) ∧ Below w.heap.size w w' := by
  have HB0 : Hid (Below w.heap.size w (w.alloc (.cells (pkC p) 41))) := Lib.hid ((Below.refl _ w).alloc (Nat.le_refl _) _)
  go_enter Tryz.func21, Tryz.ntmps21
  go_wp2_with fail
  go_ret
  exact ⟨rfl, HB0.out⟩
set_option maxHeartbeats 2000000 in
set_option maxRecDepth 100000 in
theorem delete_nil (k : Ky) (w : World) :
    Calls Tryz.prog 19 #[.pointer none, kyV k] w fun e w' => e = .returned (.bool false) ∧ Below w.heap.size w w' := by
  have HB0 : Hid (Below w.heap.size w (w.alloc (.cells (kyC k) 45))) := Lib.hid ((Below.refl _ w).alloc (Nat.le_refl _) _)
  go_enter Tryz.func19, Tryz.ntmps19
  go_wp2_with fail
  go_ret
  exact ⟨rfl, HB0.out⟩
set_option maxHeartbeats 2000000 in
set_option maxRecDepth 100000 in
theorem drop_nil (k : Ky) (w : World) :
    Calls Tryz.prog 25 #[.pointer none, kyV k] w fun e w' => e = .returned (.bool false) ∧ Below w.heap.size w w' := by
  have HB0 : Hid (Below w.heap.size w (w.alloc (.cells (kyC k) 45))) := Lib.hid ((Below.refl _ w).alloc (Nat.le_refl _) _)
  go_enter Tryz.func25, Tryz.ntmps25
  go_wp2_with fail
  go_ret
  exact ⟨rfl, HB0.out⟩
set_option maxHeartbeats 2000000 in
set_option maxRecDepth 100000 in
theorem stat_nil (n : Int) (w : World) :
    Calls Tryz.prog 16 #[.pointer none, .int .i64 n] w fun e w' => e = .returned (.int .u64 0) ∧ Below w.heap.size w w' := by
  go_enter Tryz.func16, Tryz.ntmps16
  go_wp2_with fail
  refine (known_any none n w).mono ?_
  rintro e w2 ⟨rfl, h2⟩
  have HB := Lib.hid h2
  clear h2
  simp only [Option.isSome_none, Bool.false_and]
  go_wp2_with fail
  go_ret
  exact ⟨rfl, HB.out⟩
set_option maxHeartbeats 2000000 in
set_option maxRecDepth 100000 in
theorem keys_nil  (w : World) :
    Calls Tryz.prog 20 #[.pointer none] w fun e w' => e = .returned (.slice none 0 0) ∧ Below w.heap.size w w' := by
  go_enter Tryz.func20, Tryz.ntmps20
  go_wp2_with fail
  go_ret
  exact ⟨rfl, Below.refl _ _⟩
set_option maxHeartbeats 2000000 in
set_option maxRecDepth 100000 in
theorem gate_nil  (w : World) :
    Calls Tryz.prog 22 #[.pointer none] w fun e w' => e = .returned (.agg #[.int .i64 0, .int .i64 0, .int .i64 0]) ∧ Below w.heap.size w w' := by
  have HB0 : Hid (Below w.heap.size w (w.alloc (.cells #[.int .i64 0, .int .i64 0, .int .i64 0] 64))) := Lib.hid ((Below.refl _ w).alloc (Nat.le_refl _) _)
  go_enter Tryz.func22, Tryz.ntmps22
  go_wp2_with fail
  exact bodyPost_ret (v := .agg #[.int .i64 0, .int .i64 0, .int .i64 0]) (by simp [results, Tryz.results22, go_sem]) rfl ⟨rfl, HB0.out⟩
set_option maxHeartbeats 2000000 in
set_option maxRecDepth 100000 in
theorem look_nil (k : Ky) (w : World) :
    Calls Tryz.prog 15 #[.pointer none, kyV k] w fun e w' => e = .returned (.tuple #[.agg #[.int .i64 0, .int .i64 0, .int .i64 0], .bool false]) ∧ Below w.heap.size w w' := by
  have HB0 : Hid (Below w.heap.size w ((w.alloc (.cells (kyC k) 45)).alloc (.cells #[.int .i64 0, .int .i64 0, .int .i64 0] 50))) := Lib.hid (((Below.refl _ w).alloc (Nat.le_refl _) _).alloc (by simp) _)
  go_enter Tryz.func15, Tryz.ntmps15
  go_wp2_with fail
  exact bodyPost_ret (v := .tuple #[.agg #[.int .i64 0, .int .i64 0, .int .i64 0], .bool false]) (by simp [results, Tryz.results15, go_sem]) rfl ⟨rfl, HB0.out⟩
end Go.Proofs.YtahgapkecabnjaaGreatDoor
/- The fixed fact of layer 18. Printed by gen_auton.py. -/
namespace Go.Proofs.YtahgapkecabnjaaGreatDoor
set_option linter.unusedSimpArgs false
set_option linter.unusedVariables false
open Go Go.RowKit Go.Shelf Go.Lib Go.Maps Go.MapKept

set_option maxHeartbeats 2000000 in
set_option maxRecDepth 100000 in
theorem turn_tcp (p : Pk) (w : World) (h : p.proto = 6) :
    Calls Tryz.prog 30 #[.agg (pkC p)] w fun e w' => e = .returned (.agg (pkC { p with src := p.dst, dst := p.src, sport := p.dport, dport := p.sport })) ∧ Below w.heap.size w w' := by
  obtain ⟨proto, src, dst, sport, dport, flags, kind⟩ := p
  unfold pkC
  dsimp only at *
  subst h
  have HB : Hid (Below w.heap.size w ((w.alloc (.cells #[.int .u8 6, .int .u32 dst, .int .u32 src, .int .u16 dport, .int .u16 sport, .int .u8 flags, .int .u8 kind] 41)).alloc (.cells #[.int .u8 6, .int .u32 dst, .int .u32 src, .int .u16 dport, .int .u16 sport, .int .u8 flags, .int .u8 kind] 41))) := Lib.hid (((Below.refl _ w).alloc (Nat.le_refl _) _).alloc (by simp) _)
  go_enter Tryz.func30, Tryz.ntmps30
  go_wp2_with fail
  exact bodyPost_ret (v := .agg #[.int .u8 6, .int .u32 dst, .int .u32 src, .int .u16 dport, .int .u16 sport, .int .u8 flags, .int .u8 kind]) (by simp [results, Tryz.results30, go_sem]) rfl ⟨rfl, HB.out⟩
theorem act_val {w : World} {ba : Nat} {F : Nat → Prop} {s s' : St} {p : Pk} {v : Int} (hp : PkIn p) (h : AutoAt w ba F s) (hs : s.Ok) (hF : ∀ i, F i → i < w.heap.size) (h1 : (actS s p).1 = s') (h2 : (actS s p).2 = v) :
    Calls Tryz.prog 21 #[.pointer (some ⟨ba, 0, none⟩), .agg (pkC p)] w fun e w' => e = .returned (.int .i64 v) ∧ AutoAt w' ba F s' ∧ Turn F w w' := by
  subst h1 h2; exact act_any hp h hs hF
def xwC : Cf := ⟨1, 1, fun i => if i = 1 then 5 else if i = 2 then 5 else 0⟩
def xwR : Rl := ⟨true, 0, 0, 0, 0, 0, 0, 65535, 0, 65535⟩
def xwP : Pk := ⟨6, 1, 2, 3, 4, 2, 0⟩
def xwQ : Pk := ⟨6, 2, 1, 4, 3, 18, 0⟩
def xwU : Pk := ⟨17, 0, 0, 0, 0, 0, 0⟩
theorem xwP_in : PkIn xwP := by constructor <;> decide
theorem xwQ_in : PkIn xwQ := by constructor <;> decide
theorem xwU_in : PkIn xwU := by constructor <;> decide
theorem xwR_in : xwR.In := by constructor <;> decide
def xw0 : St := newS xwC [xwR]
def xw1 : St := (actS xw0 xwQ).1
def xw2 : St := (actS xw1 xwP).1
def xw3 : St := (actS xw2 xwQ).1
def xw4 : St := (actS xw3 xwU).1
def xw5 : St := tickS xw4 5
def xw6 : St := (actS xw5 xwQ).1
theorem xw_chk : checkF xwC [xwR] = 0 := by decide +kernel
theorem xwv1 : (actS xw0 xwQ).2 = 4 := by decide +kernel
theorem xwv2 : (actS xw1 xwP).2 = 1 := by decide +kernel
theorem xwv3 : (actS xw2 xwQ).2 = 1 := by decide +kernel
theorem xwv4 : (actS xw3 xwU).2 = 5 := by decide +kernel
theorem xwv6 : (actS xw5 xwQ).2 = 4 := by decide +kernel
theorem xwk : (countF xw6 3).flows = [] := by decide +kernel
theorem xwg : verW (countF xw6 3).g = 0 ∧ cntW (countF xw6 3).g = 0 ∧ clkW (countF xw6 3).g = 5 := by decide +kernel
theorem xws : statF (countF xw6 3) 3 = 1 := by decide +kernel
theorem xok0 : xw0.Ok := newS_ok xw_chk
theorem xok1 : xw1.Ok := actS_ok xok0 xwQ_in
theorem xok2 : xw2.Ok := actS_ok xok1 xwP_in
theorem xok3 : xw3.Ok := actS_ok xok2 xwQ_in
theorem xok4 : xw4.Ok := actS_ok xok3 xwU_in
theorem xok5 : xw5.Ok := tickS_ok xok4 5
theorem xok6 : xw6.Ok := actS_ok xok5 xwQ_in
theorem countF_parts (s : St) (n : Int) : (countF s n).g = s.g ∧ (countF s n).flows = s.flows ∧ (countF s n).rules = s.rules ∧ (countF s n).c = s.c := by
  unfold countF
  split <;> exact ⟨rfl, rfl, rfl, rfl⟩
theorem countF_ok {s : St} (h : s.Ok) (n : Int) : (countF s n).Ok := by
  obtain ⟨h1, h2, h3, h4⟩ := countF_parts s n
  refine ⟨by rw [h1]; exact h.g, by rw [h3, h1]; exact h.ver, by rw [h3]; exact h.lim, by rw [h1, h2]; exact h.cnt, by rw [h4]; exact h.cap, by rw [h2, h4]; exact h.le, by rw [h2]; exact h.rise, by rw [h2]; exact h.kin, fun i => ?_⟩
  unfold countF
  split
  · show U64 (if i = n.toNat then (if s.told i = 18446744073709551615 then s.told i else s.told i + 1) else s.told i)
    have := h.told i
    unfold U64 at *
    split
    · split <;> omega
    · exact this
  · exact h.told i
theorem rules_one (w : World) (r : Rl) (hr : r.In) (T : TypeId) : RulesAt (w.alloc (.cells (ruleC r).toArray T)) (some ⟨w.heap.size, 0, none⟩) [r] := fun j x hj => by
  have hz : j = 0 := by have := (List.getElem?_eq_some_iff.1 hj).1; simp at this; omega
  subst hz
  obtain rfl : r = x := by simpa using hj
  refine ⟨hr, _, rfl, ?_⟩
  unfold RuleAt Addr.add
  refine ⟨?_, ?_, ?_, ?_, ?_, ?_, ?_, ?_, ?_, ?_⟩ <;> simp [ruleC]
theorem plain_some (b o : Nat) : Plain (some ⟨b, o, none⟩) := fun ad h => by cases h; exact ⟨b, o, rfl⟩
set_option maxHeartbeats 8000000 in
set_option maxRecDepth 100000 in
theorem awake18_any (w : World) (hT : Tabs w) :
    Calls Tryz.prog 11 #[] w fun e w' => e = .returned (.bool true) ∧ Below w.heap.size w w' := by
  have HB1 : Hid (Below w.heap.size w ((w.alloc (.cells #[.int .u16 0, .int .u16 65535] 77)).alloc (.cells (ruleC xwR).toArray 79))) := Lib.hid (((Below.refl _ w).alloc (Nat.le_refl _) _).alloc (by simp) _)
  have hz1 : (w.alloc (.cells #[.int .u16 0, .int .u16 65535] 77)).heap.size = w.heap.size + 1 := by simp
  have HR : Hid (RulesAt ((w.alloc (.cells #[.int .u16 0, .int .u16 65535] 77)).alloc (.cells (ruleC xwR).toArray 79)) (some ⟨w.heap.size + 1, 0, none⟩) [xwR]) := Lib.hid (by rw [← hz1]; exact rules_one _ xwR xwR_in _)
  have HT := Lib.hid (hT.below HB1.out)
  clear hT hz1
  have HNW := Lib.hid (new_any xwC (some ⟨w.heap.size + 1, 0, none⟩) 1 [xwR] ((w.alloc (.cells #[.int .u16 0, .int .u16 65535] 77)).alloc (.cells (ruleC xwR).toArray 79)) HR.out (by decide) HT.out)
  go_enter Tryz.func11, Tryz.ntmps11
  go_wp2_with fail
  refine HNW.out.mono ?_
  rintro e w2 ⟨hb, hcase⟩
  rcases hcase with ⟨hne, _⟩ | ⟨_, ba, F, rfl, hF, hA⟩
  · exact absurd xw_chk hne
  have HB2 : Hid (Below w.heap.size w w2) := Lib.hid (below_then HB1.out hb)
  have HA := Lib.hid hA
  have HF := Lib.hid hF
  have HTU : Hid (∀ W, Calls Tryz.prog 30 #[.agg #[.int .u8 6, .int .u32 1, .int .u32 2, .int .u16 3, .int .u16 4, .int .u8 2, .int .u8 0]] W fun e w' => e = .returned (.agg #[.int .u8 6, .int .u32 2, .int .u32 1, .int .u16 4, .int .u16 3, .int .u8 2, .int .u8 0]) ∧ Below W.heap.size W w') := Lib.hid (fun W => turn_tcp xwP W rfl)
  clear hb hA hF HNW HR HT
  go_wp2_with fail
  refine (HTU.out _).mono ?_
  rintro e w3 ⟨rfl, h3⟩
  have HB3 := Lib.hid (below_then HB2.out (((Below.refl _ w2).alloc (Nat.le_refl _) _).trans (h3.mono (by simp))))
  have hz3 : w2.heap.size < w3.heap.size := by have := h3.size; simp at this; omega
  have hbp : w3.heap[w2.heap.size]? = some (.cells #[.int .u8 6, .int .u32 1, .int .u32 2, .int .u16 3, .int .u16 4, .int .u8 2, .int .u8 0] 41 (0, 0)) := (h3.block _ (by simp)).trans (World.alloc_heap_new w2 _)
  have HA3 := Lib.hid ((HA.out.below ((Below.refl _ w2).alloc (Nat.le_refl _) _)).below h3)
  have HBP := Lib.hid hbp
  clear h3 hbp HA
  go_wp2_with fail
  have HB4 : Hid (Below w3.heap.size w3 (w3.alloc (.cells #[.int .u8 6, .int .u32 2, .int .u32 1, .int .u16 4, .int .u16 3, .int .u8 18, .int .u8 0] 41))) := Lib.hid ((Below.refl _ w3).alloc (Nat.le_refl _) _)
  have hbq : (w3.alloc (.cells #[.int .u8 6, .int .u32 2, .int .u32 1, .int .u16 4, .int .u16 3, .int .u8 18, .int .u8 0] 41)).heap[w3.heap.size]? = some (.cells #[.int .u8 6, .int .u32 2, .int .u32 1, .int .u16 4, .int .u16 3, .int .u8 18, .int .u8 0] 41 (0, 0)) := World.alloc_heap_new w3 _
  have hbp := (HB4.out.block _ hz3).trans HBP.out
  have HA4 := Lib.hid (HA3.out.below HB4.out)
  have HW4 := Lib.hid (below_then HB3.out HB4.out)
  have hz4 : w3.heap.size < (w3.alloc (.cells #[.int .u8 6, .int .u32 2, .int .u32 1, .int .u16 4, .int .u16 3, .int .u8 18, .int .u8 0] 41)).heap.size := by simp
  generalize (w3.alloc (.cells #[.int .u8 6, .int .u32 2, .int .u32 1, .int .u16 4, .int .u16 3, .int .u8 18, .int .u8 0] 41)) = w4 at *
  have p0 : w4.cell? ⟨w2.heap.size, 0, none⟩ = some (.int .u8 6) := by simp [World.cell?, hbp]
  have p1 : w4.cell? ⟨w2.heap.size, 1, none⟩ = some (.int .u32 1) := by simp [World.cell?, hbp]
  have p2 : w4.cell? ⟨w2.heap.size, 2, none⟩ = some (.int .u32 2) := by simp [World.cell?, hbp]
  have p3 : w4.cell? ⟨w2.heap.size, 3, none⟩ = some (.int .u16 3) := by simp [World.cell?, hbp]
  have p4 : w4.cell? ⟨w2.heap.size, 4, none⟩ = some (.int .u16 4) := by simp [World.cell?, hbp]
  have p5 : w4.cell? ⟨w2.heap.size, 5, none⟩ = some (.int .u8 2) := by simp [World.cell?, hbp]
  have p6 : w4.cell? ⟨w2.heap.size, 6, none⟩ = some (.int .u8 0) := by simp [World.cell?, hbp]
  have q0 : w4.cell? ⟨w3.heap.size, 0, none⟩ = some (.int .u8 6) := by simp [World.cell?, hbq]
  have q1 : w4.cell? ⟨w3.heap.size, 1, none⟩ = some (.int .u32 2) := by simp [World.cell?, hbq]
  have q2 : w4.cell? ⟨w3.heap.size, 2, none⟩ = some (.int .u32 1) := by simp [World.cell?, hbq]
  have q3 : w4.cell? ⟨w3.heap.size, 3, none⟩ = some (.int .u16 4) := by simp [World.cell?, hbq]
  have q4 : w4.cell? ⟨w3.heap.size, 4, none⟩ = some (.int .u16 3) := by simp [World.cell?, hbq]
  have q5 : w4.cell? ⟨w3.heap.size, 5, none⟩ = some (.int .u8 18) := by simp [World.cell?, hbq]
  have q6 : w4.cell? ⟨w3.heap.size, 6, none⟩ = some (.int .u8 0) := by simp [World.cell?, hbq]
  have hn2 : ¬ F w2.heap.size := fun h => absurd (HF.out _ h).2 (by omega)
  have hn3 : ¬ F w3.heap.size := fun h => by have := (HF.out _ h).2; omega
  have HFS : Hid (∀ W : World, w4.heap.size ≤ W.heap.size → ∀ i, F i → i < W.heap.size) := Lib.hid (fun W hW i h => by have := (HF.out i h).2; omega)
  have HS4 : Hid (Turn F w4 w4.drew) := Lib.hid (Turn.refl F w4).drew
  have HA5 : Hid (AutoAt w4.drew ba F xw0) := Lib.hid (HA4.out.of_turn (G := fun _ => False) (Turn.refl _ w4).drew (fun _ _ h => h))
  clear hbp hbq HA4
  refine WH.enter (Turn F w4) (by kernel_rfl) 12 rfl ?_
  refine WH.take 0 (some 28) rfl rfl (by kernel_rfl) (by kernel_rfl) (by kernel_rfl) (fun _ _ _ h => h) (by rfl) (fun v hv => by have k0 := Turn.cell hv p0 hn2; have j0 := Turn.cell hv q0 hn3; have k1 := Turn.cell hv p1 hn2; have j1 := Turn.cell hv q1 hn3; have k2 := Turn.cell hv p2 hn2; have j2 := Turn.cell hv q2 hn3; have k3 := Turn.cell hv p3 hn2; have j3 := Turn.cell hv q3 hn3; have k4 := Turn.cell hv p4 hn2; have j4 := Turn.cell hv q4 hn3; have k5 := Turn.cell hv p5 hn2; have j5 := Turn.cell hv q5 hn3; have k6 := Turn.cell hv p6 hn2; have j6 := Turn.cell hv q6 hn3; go_simp; first | done | with_reducible rfl | (rw [if_neg (by omega)])) HS4.out ?_; simp only [Act.put, List.setIfInBounds_toArray, List.set_cons_zero, List.set_cons_succ]
  refine WH.take 1 (some 29) rfl rfl (by kernel_rfl) (by kernel_rfl) (by kernel_rfl) (fun _ _ _ h => h) (by rfl) (fun v hv => by have k0 := Turn.cell hv p0 hn2; have j0 := Turn.cell hv q0 hn3; have k1 := Turn.cell hv p1 hn2; have j1 := Turn.cell hv q1 hn3; have k2 := Turn.cell hv p2 hn2; have j2 := Turn.cell hv q2 hn3; have k3 := Turn.cell hv p3 hn2; have j3 := Turn.cell hv q3 hn3; have k4 := Turn.cell hv p4 hn2; have j4 := Turn.cell hv q4 hn3; have k5 := Turn.cell hv p5 hn2; have j5 := Turn.cell hv q5 hn3; have k6 := Turn.cell hv p6 hn2; have j6 := Turn.cell hv q6 hn3; go_simp; first | done | with_reducible rfl | (rw [if_neg (by omega)])) HS4.out ?_; simp only [Act.put, List.setIfInBounds_toArray, List.set_cons_zero, List.set_cons_succ]
  refine WH.take 3 (some 31) rfl rfl (by kernel_rfl) (by kernel_rfl) (by kernel_rfl) (fun _ _ _ h => h) (by rfl) (fun v hv => by have k0 := Turn.cell hv p0 hn2; have j0 := Turn.cell hv q0 hn3; have k1 := Turn.cell hv p1 hn2; have j1 := Turn.cell hv q1 hn3; have k2 := Turn.cell hv p2 hn2; have j2 := Turn.cell hv q2 hn3; have k3 := Turn.cell hv p3 hn2; have j3 := Turn.cell hv q3 hn3; have k4 := Turn.cell hv p4 hn2; have j4 := Turn.cell hv q4 hn3; have k5 := Turn.cell hv p5 hn2; have j5 := Turn.cell hv q5 hn3; have k6 := Turn.cell hv p6 hn2; have j6 := Turn.cell hv q6 hn3; go_simp; first | done | with_reducible rfl | (rw [if_neg (by omega)])) HS4.out ?_; simp only [Act.put, List.setIfInBounds_toArray, List.set_cons_zero, List.set_cons_succ]
  refine WH.take 4 (some 32) rfl rfl (by kernel_rfl) (by kernel_rfl) (by kernel_rfl) (fun _ _ _ h => h) (by rfl) (fun v hv => by have k0 := Turn.cell hv p0 hn2; have j0 := Turn.cell hv q0 hn3; have k1 := Turn.cell hv p1 hn2; have j1 := Turn.cell hv q1 hn3; have k2 := Turn.cell hv p2 hn2; have j2 := Turn.cell hv q2 hn3; have k3 := Turn.cell hv p3 hn2; have j3 := Turn.cell hv q3 hn3; have k4 := Turn.cell hv p4 hn2; have j4 := Turn.cell hv q4 hn3; have k5 := Turn.cell hv p5 hn2; have j5 := Turn.cell hv q5 hn3; have k6 := Turn.cell hv p6 hn2; have j6 := Turn.cell hv q6 hn3; go_simp; first | done | with_reducible rfl | (rw [if_neg (by omega)])) HS4.out ?_; simp only [Act.put, List.setIfInBounds_toArray, List.set_cons_zero, List.set_cons_succ]
  refine WH.take 6 (some 34) rfl rfl (by kernel_rfl) (by kernel_rfl) (by kernel_rfl) (fun _ _ _ h => h) (by rfl) (fun v hv => by have k0 := Turn.cell hv p0 hn2; have j0 := Turn.cell hv q0 hn3; have k1 := Turn.cell hv p1 hn2; have j1 := Turn.cell hv q1 hn3; have k2 := Turn.cell hv p2 hn2; have j2 := Turn.cell hv q2 hn3; have k3 := Turn.cell hv p3 hn2; have j3 := Turn.cell hv q3 hn3; have k4 := Turn.cell hv p4 hn2; have j4 := Turn.cell hv q4 hn3; have k5 := Turn.cell hv p5 hn2; have j5 := Turn.cell hv q5 hn3; have k6 := Turn.cell hv p6 hn2; have j6 := Turn.cell hv q6 hn3; go_simp; first | done | with_reducible rfl | (rw [if_neg (by omega)])) HS4.out ?_; simp only [Act.put, List.setIfInBounds_toArray, List.set_cons_zero, List.set_cons_succ]
  refine WH.take 7 (some 35) rfl rfl (by kernel_rfl) (by kernel_rfl) (by kernel_rfl) (fun _ _ _ h => h) (by rfl) (fun v hv => by have k0 := Turn.cell hv p0 hn2; have j0 := Turn.cell hv q0 hn3; have k1 := Turn.cell hv p1 hn2; have j1 := Turn.cell hv q1 hn3; have k2 := Turn.cell hv p2 hn2; have j2 := Turn.cell hv q2 hn3; have k3 := Turn.cell hv p3 hn2; have j3 := Turn.cell hv q3 hn3; have k4 := Turn.cell hv p4 hn2; have j4 := Turn.cell hv q4 hn3; have k5 := Turn.cell hv p5 hn2; have j5 := Turn.cell hv q5 hn3; have k6 := Turn.cell hv p6 hn2; have j6 := Turn.cell hv q6 hn3; go_simp; first | done | with_reducible rfl | (rw [if_neg (by omega)])) HS4.out ?_; simp only [Act.put, List.setIfInBounds_toArray, List.set_cons_zero, List.set_cons_succ]
  refine WH.one 2 (by kernel_rfl) rfl (by rfl) ?_
  go_wp2_with fail
  refine (act_val xwQ_in HA5.out xok0 (HFS.out _ HS4.out.size) (show (actS xw0 xwQ).1 = xw1 from rfl) xwv1).mono ?_
  rintro e w5 ⟨rfl, hA, hT⟩
  have HA6 := Lib.hid hA
  have HS5 : Hid (Turn F w4 w5) := Lib.hid (HS4.out.trans hT (fun i h => .inl h))
  clear hA hT
  go_wp2_with fail
  refine ⟨HS5.out, ?_⟩
  refine WH.one 5 (by kernel_rfl) rfl (by rfl) ?_
  go_wp2_with fail
  refine (act_val xwP_in HA6.out xok1 (HFS.out _ HS5.out.size) (show (actS xw1 xwP).1 = xw2 from rfl) xwv2).mono ?_
  rintro e w6 ⟨rfl, hA, hT⟩
  have HA7 := Lib.hid hA
  have HS6 : Hid (Turn F w4 w6) := Lib.hid (HS5.out.trans hT (fun i h => .inl h))
  clear hA hT
  go_wp2_with fail
  refine ⟨HS6.out, ?_⟩
  refine WH.one 8 (by kernel_rfl) rfl (by rfl) ?_
  go_wp2_with fail
  refine (act_val xwQ_in HA7.out xok2 (HFS.out _ HS6.out.size) (show (actS xw2 xwQ).1 = xw3 from rfl) xwv3).mono ?_
  rintro e w7 ⟨rfl, hA, hT⟩
  have HA8 := Lib.hid hA
  have HS7 : Hid (Turn F w4 w7) := Lib.hid (HS6.out.trans hT (fun i h => .inl h))
  clear hA hT
  go_wp2_with fail
  refine ⟨HS7.out, ?_⟩
  refine WH.take 9 (some 6) rfl rfl (by kernel_rfl) (by kernel_rfl) (by kernel_rfl) (fun _ _ _ h => h) (by rfl) (fun v hv => by have k0 := Turn.cell hv p0 hn2; have j0 := Turn.cell hv q0 hn3; have k1 := Turn.cell hv p1 hn2; have j1 := Turn.cell hv q1 hn3; have k2 := Turn.cell hv p2 hn2; have j2 := Turn.cell hv q2 hn3; have k3 := Turn.cell hv p3 hn2; have j3 := Turn.cell hv q3 hn3; have k4 := Turn.cell hv p4 hn2; have j4 := Turn.cell hv q4 hn3; have k5 := Turn.cell hv p5 hn2; have j5 := Turn.cell hv q5 hn3; have k6 := Turn.cell hv p6 hn2; have j6 := Turn.cell hv q6 hn3; go_simp; first | done | with_reducible rfl | (rw [if_neg (by omega)])) HS7.out ?_; simp only [Act.put, List.setIfInBounds_toArray, List.set_cons_zero, List.set_cons_succ]
  refine WH.take 10 (some 7) rfl rfl (by kernel_rfl) (by kernel_rfl) (by kernel_rfl) (fun _ _ _ h => h) (by rfl) (fun v hv => by have k0 := Turn.cell hv p0 hn2; have j0 := Turn.cell hv q0 hn3; have k1 := Turn.cell hv p1 hn2; have j1 := Turn.cell hv q1 hn3; have k2 := Turn.cell hv p2 hn2; have j2 := Turn.cell hv q2 hn3; have k3 := Turn.cell hv p3 hn2; have j3 := Turn.cell hv q3 hn3; have k4 := Turn.cell hv p4 hn2; have j4 := Turn.cell hv q4 hn3; have k5 := Turn.cell hv p5 hn2; have j5 := Turn.cell hv q5 hn3; have k6 := Turn.cell hv p6 hn2; have j6 := Turn.cell hv q6 hn3; go_simp; first | done | with_reducible rfl | (rw [if_neg (by omega)])) HS7.out ?_; simp only [Act.put, List.setIfInBounds_toArray, List.set_cons_zero, List.set_cons_succ]
  refine WH.take 11 (some 8) rfl rfl (by kernel_rfl) (by kernel_rfl) (by kernel_rfl) (fun _ _ _ h => h) (by rfl) (fun v hv => by have k0 := Turn.cell hv p0 hn2; have j0 := Turn.cell hv q0 hn3; have k1 := Turn.cell hv p1 hn2; have j1 := Turn.cell hv q1 hn3; have k2 := Turn.cell hv p2 hn2; have j2 := Turn.cell hv q2 hn3; have k3 := Turn.cell hv p3 hn2; have j3 := Turn.cell hv q3 hn3; have k4 := Turn.cell hv p4 hn2; have j4 := Turn.cell hv q4 hn3; have k5 := Turn.cell hv p5 hn2; have j5 := Turn.cell hv q5 hn3; have k6 := Turn.cell hv p6 hn2; have j6 := Turn.cell hv q6 hn3; go_simp; first | done | with_reducible rfl | (rw [if_neg (by omega)])) HS7.out ?_; simp only [Act.put, List.setIfInBounds_toArray, List.set_cons_zero, List.set_cons_succ]
  refine WH.done (by kernel_rfl) ?_
  go_wp2_with fail
  refine (act_val xwU_in HA8.out xok3 (HFS.out _ HS7.out.size) (show (actS xw3 xwU).1 = xw4 from rfl) xwv4).mono ?_
  rintro e w8 ⟨rfl, hA, hT⟩
  have HA9 := Lib.hid hA
  have HS8 : Hid (Turn F w4 w8) := Lib.hid (HS7.out.trans hT (fun i h => .inl h))
  clear hA hT
  go_wp2_with fail
  refine (tick_any 5 HA9.out xok4.g).mono ?_
  rintro e w9 ⟨⟨v9, rfl⟩, hA, hT⟩
  have HA10 : Hid (AutoAt w9 ba F xw5) := Lib.hid hA
  have HS9 : Hid (Turn F w4 w9) := Lib.hid (HS8.out.trans hT (fun i h => .inl h))
  clear hA hT
  have r0 := Turn.cell HS9.out q0 hn3
  have r1 := Turn.cell HS9.out q1 hn3
  have r2 := Turn.cell HS9.out q2 hn3
  have r3 := Turn.cell HS9.out q3 hn3
  have r4 := Turn.cell HS9.out q4 hn3
  have r5 := Turn.cell HS9.out q5 hn3
  have r6 := Turn.cell HS9.out q6 hn3
  clear p0 p1 p2 p3 p4 p5 p6 q0 q1 q2 q3 q4 q5 q6
  go_wp2_with fail
  refine (act_val xwQ_in HA10.out xok5 (HFS.out _ HS9.out.size) (show (actS xw5 xwQ).1 = xw6 from rfl) xwv6).mono ?_
  rintro e w10 ⟨rfl, hA, hT⟩
  have HA11 := Lib.hid hA
  have HS10 : Hid (Turn F w4 w10) := Lib.hid (HS9.out.trans hT (fun i h => .inl h))
  clear hA hT r0 r1 r2 r3 r4 r5 r6
  go_wp2_with fail
  refine (count_any 3 HA11.out xok6.told).mono ?_
  rintro e w11 ⟨⟨v11, rfl⟩, hA, hT⟩
  have HA12 := Lib.hid hA
  have HS11 : Hid (Turn F w4 w11) := Lib.hid (HS10.out.trans hT (fun i h => .inl h))
  clear hA hT
  have HST : Hid (Calls Tryz.prog 16 #[.pointer (some ⟨ba, 0, none⟩), .int .i64 3] w11 fun e w' => e = .returned (.int .u64 1) ∧ Below w11.heap.size w11 w') := Lib.hid ((stat_any 3 HA12.out).mono fun e w' h => by rw [xws] at h; exact h)
  have HKY : Hid (∀ W, AutoAt W ba F (countF xw6 3) → Calls Tryz.prog 20 #[.pointer (some ⟨ba, 0, none⟩)] W fun e w' => (∃ a c, e = .returned (.slice a 0 c)) ∧ Below W.heap.size W w') := Lib.hid (fun W h => (h.keys (by rw [xwk]; decide) (countF_ok xok6 3).rise).mono fun e w' ⟨v, h1, ⟨a, c, h2, _⟩, h3⟩ => ⟨⟨a, c, by rw [h1, h2, xwk]; rfl⟩, h3⟩)
  have HGT : Hid (∀ W, AutoAt W ba F (countF xw6 3) → Calls Tryz.prog 22 #[.pointer (some ⟨ba, 0, none⟩)] W fun e w' => e = .returned (.agg #[.int .i64 0, .int .i64 0, .int .i64 5]) ∧ Below W.heap.size W w') := Lib.hid (fun W h => (gateOf_any h (countF_ok xok6 3).g).mono fun e w' ⟨h1, h2⟩ => ⟨by rw [h1]; unfold gateV; rw [xwg.1, xwg.2.1, xwg.2.2]; rfl, h2⟩)
  go_wp2_with fail
  refine HST.out.mono ?_
  rintro e w12 ⟨rfl, h12⟩
  have HA13 := Lib.hid (HA12.out.below h12)
  have HS12 : Hid (Turn F w4 w12) := Lib.hid (HS11.out.trans (Turn.of_below (F := fun _ => False) h12) (fun i h => h.elim))
  clear h12 HST
  go_wp2_with fail
  refine (HKY.out _ HA13.out).mono ?_
  rintro e w13 ⟨⟨ka, kc, rfl⟩, h13⟩
  have HA14 := Lib.hid (HA13.out.below h13)
  have HS13 : Hid (Turn F w4 w13) := Lib.hid (HS12.out.trans (Turn.of_below (F := fun _ => False) h13) (fun i h => h.elim))
  clear h13 HKY
  go_wp2_with fail
  refine (HGT.out _ HA14.out).mono ?_
  rintro e w14 ⟨rfl, h14⟩
  have HS14 : Hid (Turn F w4 w14) := Lib.hid (HS13.out.trans (Turn.of_below (F := fun _ => False) h14) (fun i h => h.elim))
  clear h14 HGT
  go_wp2_with fail
  go_ret
  exact ⟨rfl, HW4.out.trans (HS14.out.below HW4.out.size (fun i h => Nat.le_trans HB1.out.size (HF.out i h).1))⟩
end Go.Proofs.YtahgapkecabnjaaGreatDoor
/- Plain laws on firewalls: AutoCounts, AutoStays, AutoOnce. -/
namespace Go.Proofs.YtahgapkecabnjaaGreatDoor
set_option linter.unusedSimpArgs false
set_option linter.unusedVariables false
open Go Go.RowKit Go.Shelf Go.Lib

variable {α : Type}
theorem overS_delete (s : St) (k : Ky) : overS (deleteS s k) k = false := by
  unfold deleteS
  split
  · unfold overS goneS
    rw [getL_del, if_pos rfl]
  · rename_i h; exact Bool.eq_false_iff.2 h
theorem delete_twice (s : St) (k : Ky) : deleteS (deleteS s k) k = deleteS s k := by
  show (if overS (deleteS s k) k = true then _ else _) = _
  rw [overS_delete]; rfl
theorem actS_twice (s : St) (p : Pk) : actS (deleteS s (keyF p).1) p = actK (deleteS s (keyF p).1) p (keyF p).1 (keyF p).2 := by
  unfold actS; rw [delete_twice]
theorem hasL_put (l : Kl α) (k : Ky) (x : α) : hasL (putL l k x) k = true := by
  unfold hasL; rw [getL_put, if_pos rfl]; rfl
theorem room_false {s : St} (h : s.Ok) (hr : roomW s.g s.c.cap = false) : (s.flows.length : Int) = s.c.cap := by
  unfold roomW at hr
  rw [decide_eq_false_iff_not, h.cnt] at hr
  have := h.le; have := h.cap; omega
/-- The law of AutoCounts behind the delete. -/
theorem counts_law {s : St} (h : s.Ok) {p : Pk} (hp : PkIn p) {k : Ky} {t : Bool} (hk : k.In) :
    ((actK s p k t).2 = 5 → (s.flows.length : Int) = s.c.cap ∧ (actK s p k t).1.flows.length = s.flows.length) ∧ 1 ≤ (actK s p k t).2 ∧ (actK s p k t).2 ≠ 2 ∧ (actK s p k t).2 ≤ 5 ∧
    ((actK s p k t).2 = 1 → hasL (actK s p k t).1.flows k = true) ∧ ((actK s p k t).2 ≠ 1 → (actK s p k t).1.flows.length = s.flows.length) := by
  unfold actK
  split
  · rename_i e he
    have hl := fun x => length_put_old h.rise he x
    unfold onS
    split
    · refine ⟨fun h => ?_, ?_, ?_, ?_, fun _ => hasL_put _ _ _, fun h => absurd rfl h⟩ <;> simp at * 
    · refine ⟨fun h => ?_, ?_, ?_, ?_, fun h => ?_, fun _ => hl _⟩ <;> simp at *
  · rename_i hn
    unfold beginS
    split
    · refine ⟨fun h => ?_, ?_, ?_, ?_, fun h => ?_, fun _ => rfl⟩ <;> simp at *
    · split
      · refine ⟨fun h => ?_, ?_, ?_, ?_, fun h => ?_, fun _ => rfl⟩ <;> simp at *
      · split
        · rename_i hr
          refine ⟨fun _ => ⟨room_false h hr, rfl⟩, ?_, ?_, ?_, fun h => ?_, fun _ => rfl⟩ <;> simp at *
        · refine ⟨fun h => ?_, ?_, ?_, ?_, fun _ => hasL_put _ _ _, fun h => absurd rfl h⟩ <;> simp at *
/-- The law of AutoStays: with a flow of its own, a packet asks for no rule. -/
theorem swapS_flows (s : St) (rs : List Rl) : (swapS s rs).flows = s.flows ∧ (swapS s rs).c = s.c := by
  unfold swapS
  split <;> exact ⟨rfl, rfl⟩
theorem swapS_clk {s : St} (h : s.Ok) (rs : List Rl) : clkW (swapS s rs).g = clkW s.g := by
  unfold swapS
  split
  · rename_i hc; exact (swap_parts h.g hc.2).2.2.1
  · rfl
theorem overS_swap {s : St} (h : s.Ok) (rs : List Rl) (k : Ky) : overS (swapS s rs) k = overS s k := by
  unfold overS
  rw [(swapS_flows s rs).1, swapS_clk h rs]
theorem stays_law {s : St} (h : s.Ok) (rs : List Rl) (p : Pk) {k : Ky} {t : Bool} (hs : hasL s.flows k = true) :
    (actK (swapS s rs) p k t).2 = (actK s p k t).2 ∧ getL (actK (swapS s rs) p k t).1.flows k = getL (actK s p k t).1.flows k ∧ hasL (actK s p k t).1.flows k = true := by
  obtain ⟨e, he⟩ := hasL_some hs
  unfold actK
  rw [(swapS_flows s rs).1, he]
  unfold onS
  simp only [(swapS_flows s rs).2, swapS_clk h rs]
  split
  · exact ⟨rfl, by show getL (putL (swapS s rs).flows k _) k = getL (putL s.flows k _) k; rw [(swapS_flows s rs).1], hasL_put _ _ _⟩
  · exact ⟨rfl, by show getL (putL (swapS s rs).flows k _) k = getL (putL s.flows k _) k; rw [(swapS_flows s rs).1], hasL_put _ _ _⟩
/-- AutoOnce: the first of the flows goes. -/
theorem delL_head {p : Ky × α} {l : Kl α} (h : Rises (keysL (p :: l))) : delL (p :: l) p.1 = l := by
  have h1 := List.pairwise_cons.1 h
  unfold delL
  rw [List.filter_cons, if_neg (by simp)]
  rw [List.filter_eq_self]
  intro q hq
  have := ltK_ne (h1.1 q.1 (List.mem_map.2 ⟨q, hq, rfl⟩))
  simp; exact fun e => this e.symm
theorem getL_head (p : Ky × α) (l : Kl α) : getL (p :: l) p.1 = some p.2 := by rw [getL_cons, if_pos rfl]
theorem over_told {w : Nat} (h1 : 1 ≤ stW w) (h9 : stW w ≤ 9) (c : Nat) : overW w (c : Nat) = (decide ((untW w : Int) ≤ c) || decide (seqW w = 1048575)) := by
  unfold overW
  rw [← Bool.decide_or, decide_eq_decide]
  omega
/-- Of the flows one is left behind less. -/
def restS (s : St) (i : Nat) : St := { s with flows := s.flows.drop i, g := (verW s.g * 4096 + (s.flows.length - i)) * 1099511627776 + clkW s.g }
theorem restS_zero {s : St} (h : s.Ok) : restS s 0 = s := by
  unfold restS
  have h1 := (gate_parts h.g).1
  rw [h.cnt] at h1
  rw [List.drop_zero, Nat.sub_zero, ← h1]
theorem restS_gate {s : St} (h : s.Ok) {i : Nat} (hi : i ≤ s.flows.length) : verW (restS s i).g = verW s.g ∧ cntW (restS s i).g = s.flows.length - i ∧ clkW (restS s i).g = clkW s.g ∧ U64 (restS s i).g := by
  obtain ⟨_, h2, h3, h4⟩ := gate_parts h.g
  exact pack_parts h2 (by have := h.small; omega) h4
theorem restS_ok {s : St} (h : s.Ok) {i : Nat} (hi : i ≤ s.flows.length) : (restS s i).Ok := by
  obtain ⟨h1, h2, h3, h4⟩ := restS_gate h hi
  refine ⟨h4, by rw [h1]; exact h.ver, h.lim, by rw [h2]; show _ = (s.flows.drop i).length; rw [List.length_drop], h.cap, ?_, ?_, fun p hp => h.kin p (List.mem_of_mem_drop hp), h.told⟩
  · show ((s.flows.drop i).length : Int) ≤ s.c.cap
    rw [List.length_drop]; have := h.le; omega
  · show Rises (keysL (s.flows.drop i))
    unfold keysL
    rw [List.map_drop]
    exact h.rise.sublist (List.drop_sublist _ _)
theorem restS_next {s : St} (h : s.Ok) {i : Nat} {p : Ky × (Nat × Bool)} (hp : s.flows[i]? = some p) : getL (restS s i).flows p.1 = some p.2 ∧ goneS (restS s i) p.1 = restS s (i + 1) := by
  have hi : i < s.flows.length := (List.getElem?_eq_some_iff.1 hp).1
  have hd : s.flows.drop i = p :: s.flows.drop (i + 1) := by
    rw [List.drop_eq_getElem_cons hi, (List.getElem?_eq_some_iff.1 hp).2]
  have hr := (restS_ok h (Nat.le_of_lt hi)).rise
  have hk := (restS_ok h (Nat.le_of_lt hi))
  have e1 : (restS s i).flows = p :: s.flows.drop (i + 1) := hd
  have hl : leaveOk (restS s i).g = true := by
    unfold leaveOk; rw [(restS_gate h (Nat.le_of_lt hi)).2.1, decide_eq_true_iff]; omega
  refine ⟨by rw [e1, getL_head], ?_⟩
  unfold goneS
  rw [e1] at hr
  rw [e1, delL_head hr]
  have hg : leaveW (restS s i).g = (restS s (i + 1)).g := by
    rw [← leave_ref (restS_gate h (Nat.le_of_lt hi)).2.2.2 hl, (restS_gate h (Nat.le_of_lt hi)).1, (restS_gate h (Nat.le_of_lt hi)).2.1, (restS_gate h (Nat.le_of_lt hi)).2.2.1]
    unfold packG restS
    simp only
    rw [Nat.sub_sub]
  rw [hg]
  rfl
theorem overS_gone (s : St) (k : Ky) : overS (goneS s k) k = false := by
  unfold overS goneS
  rw [getL_del, if_pos rfl]
theorem hasL_gone (s : St) (k : Ky) : hasL (goneS s k).flows k = false := by
  unfold hasL goneS
  rw [getL_del, if_pos rfl]; rfl
end Go.Proofs.YtahgapkecabnjaaGreatDoor
