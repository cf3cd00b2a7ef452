/- The reference's Count and New. Printed by gen_refe.py. -/
import Derived.Test.YtahgapkecabnjaaGreatDoorC24
namespace Go.Proofs.YtahgapkecabnjaaGreatDoor
set_option linter.unusedSimpArgs false
set_option linter.unusedVariables false
open Go Go.RowKit Go.Shelf Go.Lib Go.Maps Go.MapKept

theorem rtold_cell {w : World} {ra : Nat} {F : Nat → Prop} {s : St} {rv fv : Value} {vs : List Value} (h : RefW w ra F s rv fv vs) {m : Nat} (hm : m ≤ 5) : w.cell? ⟨ra, 21 + m, none⟩ = some (.int .u64 (s.told m : Nat)) := by
  refine h.cell ?_
  have : m = 0 ∨ m = 1 ∨ m = 2 ∨ m = 3 ∨ m = 4 ∨ m = 5 := by omega
  rcases this with h | h | h | h | h | h <;> subst h <;> rfl
theorem rtold_put (s : St) (rv fv : Value) (m z : Nat) (hm : m ≤ 5) : (refC s rv fv).setIfInBounds (21 + m) (.int .u64 (z : Nat)) = refC { s with told := fun i => if i = m then z else s.told i } rv fv := by
  have : m = 0 ∨ m = 1 ∨ m = 2 ∨ m = 3 ∨ m = 4 ∨ m = 5 := by omega
  rcases this with h | h | h | h | h | h <;> subst h <;> rfl
set_option maxHeartbeats 4000000 in
set_option maxRecDepth 100000 in
theorem rcount_any {w : World} {ra : Nat} {F : Nat → Prop} {s : St} (n : Int) (h : RefAt w ra F s) (ht : ∀ i, U64 (s.told i)) :
    Calls Tryz.prog 36 #[.pointer (some ⟨ra, 0, none⟩), .int .i64 n] w fun e w' => (∃ v, e = .returned v) ∧ RefAt w' ra F (countF s n) ∧ Turn F w w' := by
  obtain ⟨rv, fv, vs, h⟩ := h
  have HA := Lib.hid h
  clear h
  by_cases hk : knownF n = true
  · have hb : 1 ≤ n ∧ n ≤ 5 := by unfold knownF at hk; simpa using hk
    obtain ⟨m, rfl⟩ := Int.eq_ofNat_of_zero_le (show 0 ≤ n by omega)
    have c0 := rtold_cell HA.out (m := m) (by omega)
    have f0 := HA.out.free (21 + m)
    have hu := ht m
    obtain ⟨hb1, hb2⟩ := hb
    have hm6 : (m : Int) < 6 := by omega
    have hm0 : (0 : Int) ≤ m := by omega
    by_cases hmax : s.told m = 18446744073709551615
    · have HZ : Hid (countF s (m : Int) = s) := Lib.hid (by
        unfold countF
        rw [if_pos hk]
        have : (fun i => if i = (m : Int).toNat then (if s.told i = 18446744073709551615 then s.told i else s.told i + 1) else s.told i) = s.told := by
          funext i
          by_cases hi : i = m
          · subst hi; simp [hmax]
          · simp [hi]
        rw [this])
      rw [hmax] at c0
      have hwr : IntKind.u64.wrap (18446744073709551615 + 1) = 0 := by rw [IntKind.wrap_u64]; decide
      clear hk ht hu hmax
      go_enter Tryz.func36, Tryz.ntmps36
      go_wp2_with fail
      go_end0
      exact ⟨⟨_, rfl⟩, by rw [HZ.out]; exact ⟨rv, fv, vs, HA.out⟩, Turn.refl _ _⟩
    · have HZ : Hid (countF s (m : Int) = { s with told := fun i => if i = m then s.told m + 1 else s.told i }) := Lib.hid (by
        unfold countF
        rw [if_pos hk]
        congr 1
        funext i
        by_cases hi : i = m
        · subst hi; simp [hmax]
        · simp [hi])
      generalize ht0 : s.told m = tm at *
      have hwr : IntKind.u64.wrap ((tm : Int) + 1) = (tm : Int) + 1 := by
        rw [IntKind.wrap_u64]
        unfold U64 at hu
        omega
      have hne : ((tm : Int) + 1 == 0) = false := by simp; omega
      have HP : Hid (∀ W, RefW W ra F s rv fv vs → RefW (W.setCell ⟨ra, 21 + m, none⟩ (.int .u64 ((tm : Int) + 1))) ra F { s with told := fun i => if i = m then tm + 1 else s.told i } rv fv vs) := Lib.hid (fun W hW => by
        have := hW.put _ _ _ (rtold_put s rv fv m (tm + 1) (by omega)) rfl rfl
        exact this)
      clear hk ht hu hmax ht0
      go_enter Tryz.func36, Tryz.ntmps36
      go_wp2_with fail
      refine WQ.last (Drew w) ⟨1, rfl⟩ 10 6 (by rfl) (by kernel_rfl) (by kernel_rfl) ?_; simp only [List.take_succ_cons, List.take_zero]
      refine WQ.val (by rfl) (fun v hv => by have k0 := hv.cell c0; go_simp; first | done | with_reducible rfl | (rw [if_neg (by omega)])) ?_; simp only [Act.put, List.setIfInBounds_toArray, List.set_cons_zero, List.set_cons_succ]
      refine WQ.val (by rfl) (fun v hv => by have k0 := hv.cell c0; go_simp; first | done | with_reducible rfl | (rw [if_neg (by omega)])) ?_; simp only [Act.put, List.setIfInBounds_toArray, List.set_cons_zero, List.set_cons_succ]
      refine WQ.val (by rfl) (fun v hv => by have k0 := hv.cell c0; go_simp; first | done | with_reducible rfl | (rw [if_neg (by omega)])) ?_; simp only [Act.put, List.setIfInBounds_toArray, List.set_cons_zero, List.set_cons_succ]
      refine WQ.val (by rfl) (fun v hv => by have k0 := hv.cell c0; go_simp; first | done | with_reducible rfl | (rw [if_neg (by omega)])) ?_; simp only [Act.put, List.setIfInBounds_toArray, List.set_cons_zero, List.set_cons_succ]
      refine WQ.val (by rfl) (fun v hv => by have k0 := hv.cell c0; go_simp; first | done | with_reducible rfl | (rw [if_neg (by omega)])) ?_; simp only [Act.put, List.setIfInBounds_toArray, List.set_cons_zero, List.set_cons_succ]
      refine WQ.val (by rfl) (fun v hv => by have k0 := hv.cell c0; go_simp; first | done | with_reducible rfl | (rw [if_neg (by omega)])) ?_; simp only [Act.put, List.setIfInBounds_toArray, List.set_cons_zero, List.set_cons_succ]
      refine WQ.val (by rfl) (fun v hv => by have k0 := hv.cell c0; go_simp; first | done | with_reducible rfl | (rw [if_neg (by omega)])) ?_; simp only [Act.put, List.setIfInBounds_toArray, List.set_cons_zero, List.set_cons_succ]
      refine WQ.val (by rfl) (fun v hv => by have k0 := hv.cell c0; go_simp; first | done | with_reducible rfl | (rw [if_neg (by omega)])) ?_; simp only [Act.put, List.setIfInBounds_toArray, List.set_cons_zero, List.set_cons_succ]
      refine WQ.val (by rfl) (fun v hv => by have k0 := hv.cell c0; go_simp; first | done | with_reducible rfl | (rw [if_neg (by omega)])) ?_; simp only [Act.put, List.setIfInBounds_toArray, List.set_cons_zero, List.set_cons_succ]
      refine WQ.val (by rfl) (fun v hv => by have k0 := hv.cell c0; go_simp; first | done | with_reducible rfl | (rw [if_neg (by omega)])) ?_; simp only [Act.put, List.setIfInBounds_toArray, List.set_cons_zero, List.set_cons_succ]
      refine WQ.done ?_
      intro w5 hw5
      refine wpOp_one rfl (by rfl) ?_
      intro K' hK'
      obtain ⟨n5, rfl⟩ := hw5
      have k0 : (w.drewN n5).cell? ⟨ra, 21 + m, none⟩ = some (.int .u64 (tm : Nat)) := c0
      have g0 : (w.drewN n5).frozen? ⟨ra, 21 + m, none⟩ = false := f0
      have HA5 := Lib.hid (HP.out _ (HA.out.drewN n5))
      have HT5 : Hid (Turn F w ((w.drewN n5).setCell ⟨ra, 21 + m, none⟩ (.int .u64 ((tm : Int) + 1)))) := Lib.hid (((Turn.refl F w).drewN n5).setCell _ _ (.inl HA.out.fra))
      clear c0 f0
      go_wp2_with fail
      go_end0
      exact ⟨⟨_, rfl⟩, by rw [HZ.out]; exact ⟨rv, fv, vs, HA5.out⟩, HT5.out⟩
  · have hv : Hid (countF s n = s) := Lib.hid (by unfold countF; rw [if_neg hk])
    have hb : ¬ (1 ≤ n ∧ n ≤ 5) := fun h => hk (by unfold knownF; simp [h.1, h.2])
    clear hk
    by_cases h1 : 1 ≤ n
    · have h5 : ¬ n ≤ 5 := fun h => hb ⟨h1, h⟩
      clear hb
      go_enter Tryz.func36, Tryz.ntmps36
      go_wp2_with fail
      go_end0
      exact ⟨⟨_, rfl⟩, by rw [hv.out]; exact ⟨rv, fv, vs, HA.out⟩, Turn.refl _ _⟩
    · clear hb
      go_enter Tryz.func36, Tryz.ntmps36
      go_wp2_with fail
      go_end0
      exact ⟨⟨_, rfl⟩, by rw [hv.out]; exact ⟨rv, fv, vs, HA.out⟩, Turn.refl _ _⟩
theorem oper_build_ref {o : Oper} {a : Act} {w : World} {K : Act → World → Prop} {Q : Exit → Act → World → Prop} (ho : o.op = .build 88 #[(0, .tmp 13), (2, .tmp 17)]) (c : Cf) (rs : List Rl) (ra : Option Addr)
    (h1 : a.eval (.tmp 13) = .agg (cfC c)) (h2 : a.eval (.tmp 17) = .slice ra 1 1)
    (h : K (a.put o.dst (.agg (refC (newS c rs) (.slice ra 1 1) (.slice none 0 0)))) w) : o.wp Tryz.prog a w K Q := by
  unfold Oper.wp execOp
  simp only [ho]
  have e : (Instr.build 88 #[(0, .agg (cfC c)), (2, .slice ra 1 1)]).run Tryz.prog w = .ok (.agg (refC (newS c rs) (.slice ra 1 1) (.slice none 0 0))) w := by kernel_rfl
  rw [show Array.map (fun x : Nat × Operand => (x.fst, a.eval x.snd)) #[(0, .tmp 13), (2, .tmp 17)] = #[(0, .agg (cfC c)), (2, .slice ra 1 1)] from by simp [h1, h2]]
  simp only [Sem.run_bind, Sem.run_pure, e, Result.andThen_ok]
  exact h
/-- The reference that is made. -/
theorem rnew_end {w : World} {c : Cf} {rs : List Rl} {rb : Nat} {v1 : Value} (hrb : w.heap[rb]? = some (.cells #[v1] 25 (0, 0))) (hrow : Row w 79 10 v1 rs.length (rowsC rs)) (hin : ∀ r ∈ rs, r.In) :
    RefW (w.alloc (.cells (refC (newS c rs) (.slice (some ⟨rb, 0, none⟩) 1 1) (.slice none 0 0)) 88)) w.heap.size (fun i => i = w.heap.size ∨ i = rb ∨ v1.ownBlock = some i) (newS c rs) (.slice (some ⟨rb, 0, none⟩) 1 1) (.slice none 0 0) [v1] := by
  have hb : Below w.heap.size w (w.alloc (.cells (refC (newS c rs) (.slice (some ⟨rb, 0, none⟩) 1 1) (.slice none 0 0)) 88)) := (Below.refl _ w).alloc (Nat.le_refl _) _
  refine ⟨World.alloc_heap_new w _, ⟨rfl, .inr ⟨rb, 1, #[v1], rfl, Nat.zero_le _, (hb.block rb (Array.getElem?_eq_some_iff.1 hrb).1).trans hrb, Nat.le_refl 1, by decide, rfl, rfl⟩⟩, fun i r hi => ?_, row_nil _ _ _, .inl rfl, fun b e => by cases e; exact .inr (.inl rfl), fun b e => by cases e⟩
  have hi : [rs][i]? = some r := hi
  have hz : i = 0 := by have := (List.getElem?_eq_some_iff.1 hi).1; simp at this; omega
  subst hz
  obtain rfl : rs = r := by simpa using hi
  exact ⟨v1, rfl, row_of_block hrow (fun b e => hb.block b (row_lt hrow e)), hin, fun b e => .inr (.inr e)⟩
def RNewPost (c : Cf) (rs : List Rl) (w : World) (e : Ending) (w' : World) : Prop := Below w.heap.size w w' ∧
  ((checkF c rs ≠ 0 ∧ e = .returned (.tuple #[.pointer none, .int .i64 (checkF c rs)])) ∨
   (checkF c rs = 0 ∧ ∃ ra F, e = .returned (.tuple #[.pointer (some ⟨ra, 0, none⟩), .int .i64 0]) ∧ (∀ i, F i → w.heap.size ≤ i ∧ i < w'.heap.size) ∧ RefAt w' ra F (newS c rs)))
set_option maxHeartbeats 4000000 in
set_option maxRecDepth 100000 in
theorem rnew_any (c : Cf) (a : Option Addr) (k : Nat) (rs : List Rl) (w : World) (hR : RulesAt w a rs) (hk : rs.length ≤ k) (hkm : k ≤ maxLen) (hN : a = none → k = 0) :
    Calls Tryz.prog 10 #[.agg (cfC c), .slice a rs.length k] w (RNewPost c rs w) := by
  have HB0 : Hid (Below w.heap.size w (w.alloc (.cells (cfC c) 24))) := Lib.hid ((Below.refl _ w).alloc (Nat.le_refl _) _)
  have HC := Lib.hid (refCheck_any c a k rs _ (hR.below HB0.out) (Nat.le_trans hk hkm))
  have HRG : Hid ((w.alloc (.cells (cfC c) 24)).rangeAt w.heap.size 0 (cfC c).toList) := Lib.hid (fun j v hv => by rw [← hv]; simp)
  have hi := cfInfo c
  have HBC : Hid (∀ (rs : List Rl) (o : Oper) (a : Act) (w : World) (K : Act → World → Prop) (Q : Exit → Act → World → Prop), o.op = .build 88 #[(0, .tmp 13), (2, .tmp 17)] → ∀ (ra : Option Addr), a.eval (.tmp 13) = .agg (cfC c) → a.eval (.tmp 17) = .slice ra 1 1 →
      K (a.put o.dst (.agg (refC (newS c rs) (.slice ra 1 1) (.slice none 0 0)))) w → o.wp Tryz.prog a w K Q) := Lib.hid (fun rs o a w K Q ho ra h1 h2 h => oper_build_ref ho c rs ra h1 h2 h)
  by_cases hz : checkF c rs ≠ 0
  · have HV : Hid (∀ e w', e = .returned (.tuple #[.pointer none, .int .i64 (checkF c rs)]) → Below w.heap.size w w' → RNewPost c rs w e w') := Lib.hid (fun e w' he hb => ⟨hb, .inl ⟨hz, he⟩⟩)
    clear hR HBC hN hk hkm
    generalize checkF c rs = res at *
    generalize rs.length = m at *
    generalize cfC c = X at *
    go_enter Tryz.func10, Tryz.ntmps10
    go_wp2_with (first | (refine wpList_load_mid_w (by rfl) 24 (.tmp 2) rfl w.heap.size 0 rfl X.toList _ HRG.out Tryz.underlying24 rfl hi ?_; rw [Array.toArray_toList]))
    refine HC.out.mono ?_
    rintro e w2 ⟨rfl, h2⟩
    have HB2 := Lib.hid (below_then HB0.out h2)
    clear h2
    go_wp2_with fail
    go_ret2
    exact HV.out _ _ rfl HB2.out
  · have hz0 : checkF c rs = 0 := by omega
    have hlen : rs.length ≤ 64 := fitsF_len (checkF_zero hz0).2.2.2
    have HV : Hid (∀ ba F e w', e = .returned (.tuple #[.pointer (some ⟨ba, 0, none⟩), .int .i64 0]) → Below w.heap.size w w' → (∀ i, F i → w.heap.size ≤ i ∧ i < w'.heap.size) → RefAt w' ba F (newS c rs) → RNewPost c rs w e w') := Lib.hid (fun ba F e w' he hb hF hA => ⟨hb, .inr ⟨hz0, ba, F, he, hF, hA⟩⟩)
    rw [hz0] at HC
    have HIN := Lib.hid (rulesAt_in hR)
    have HNE := Lib.hid (fun w rb v1 => @rnew_end w c rs rb v1)
    have HRR := Lib.hid (rowsC_add' hR)
    have HNN : Hid (a = none → rs.length = 0 ∧ k = 0) := Lib.hid (fun h => ⟨by have := hN h; omega, hN h⟩)
    have HRC := Lib.hid (rowsC_len rs)
    clear hR hz hz0 hk hkm hN
    generalize hrl : rs.length = m at *
    generalize hX : cfC c = X at *
    have HX := Lib.hid hX
    have HRL := Lib.hid hrl
    clear hX hrl
    go_enter Tryz.func10, Tryz.ntmps10
    go_wp2_with (first | (refine wpList_load_mid_w (by rfl) 24 (.tmp 2) rfl w.heap.size 0 rfl X.toList _ HRG.out Tryz.underlying24 rfl hi ?_; rw [Array.toArray_toList]))
    refine HC.out.mono ?_
    rintro e w2 ⟨rfl, h2⟩
    have HB2 := Lib.hid (below_then HB0.out h2)
    have HRG2 : Hid (w2.rangeAt w.heap.size 0 X.toList) := Lib.hid (Since.range h2 HRG.out)
    clear h2 HC HRG
    go_wp2_with fail
    have HS0 : Hid (Since w2 w2.drew) := Lib.hid ((Below.refl _ w2).trans ⟨rfl, rfl, rfl, Nat.le_refl _, fun _ _ => rfl⟩)
    refine WG.enter (Since w2) 100 (by kernel_rfl) 9 rfl ?_
    refine WG.take 0 (some 13) rfl rfl (by kernel_rfl) (by kernel_rfl) (by kernel_rfl) (by kernel_rfl) (fun _ _ _ h => h) (by rfl) (fun v hv => by rw [exec_load_mid 24 (.tmp 2) rfl w.heap.size 0 rfl X.toList _ (Since.range hv HRG2.out) Tryz.underlying24 rfl hi, Array.toArray_toList]) HS0.out ?_; simp only [Act.put, List.setIfInBounds_toArray, List.set_cons_zero, List.set_cons_succ]
    refine WG.take 2 (some 15) rfl rfl (by kernel_rfl) (by kernel_rfl) (by kernel_rfl) (by kernel_rfl) (fun _ _ _ h => h) (by rfl) (fun v hv => by go_simp; first | done | with_reducible rfl | (rw [if_neg (by omega)])) HS0.out ?_; simp only [Act.put, List.setIfInBounds_toArray, List.set_cons_zero, List.set_cons_succ]
    have HS1 : Hid (Since w2 (w2.drew.alloc (.cells #[] 79))) := Lib.hid (Below.alloc HS0.out (Nat.le_refl _) _)
    refine WG.one 1 (by kernel_rfl) rfl (by rfl) ?_
    go_wp2_with fail
    refine ⟨HS1.out, ?_⟩
    obtain ⟨i0, hi0, hz0, hz1, hz2⟩ := info_parts ruleInfo
    refine WG.one 3 (by kernel_rfl) rfl (by rfl) ?_
    refine oper_append_any _ _ 25 rfl w2.heap.size 79 i0 _ 10 48 Tryz.underlying25 hi0 hz0 hz1 hz2 rfl (by decide) (.slice (some ⟨w2.heap.size, 0, none⟩) 0 0) 0 [] rfl (World.ownsRow_made w2.drew #[] 0 (Nat.le_refl _) (Nat.zero_le _) rfl) a m k (rowsC rs) rfl HRC.out (fun ad e j u hj => HS1.out.cell (HB2.out.cell (World.block_lt_of_cell? w _ (HRR.out ad e j u hj)) |>.trans (HRR.out ad e j u hj))) HNN.out (rowsC_cell rs) (by unfold maxLen; omega) (by omega) (Below.size HS1.out) ?_
    intro v1 w4 hown hgrow
    rw [Nat.zero_add, List.nil_append] at hown
    have HS4 : Hid (Since w2 w4) := Lib.hid (Below.grown HS1.out hgrow (by have := Below.size HS1.out; exact this) (by intro b hb; simp [Value.ownBlock] at hb; omega))
    refine ⟨fun _ => HS4.out, ?_⟩
    simp only [Act.put, List.setIfInBounds_toArray, List.set_cons_zero, List.set_cons_succ]
    have hfr : Hid (∀ b, v1.ownBlock = some b → w2.heap.size ≤ b) := Lib.hid (fun b e => ownsRow_base hown e)
    have hrw1 := World.ownsRow.mono_base hown
    obtain ⟨va, vc, rfl, _⟩ := row_form hrw1
    have HRV1 := Lib.hid hrw1
    clear hown hgrow hrw1
    have HB5 : Hid (Below w4.heap.size w4 (w4.alloc (.cells #[.slice va m vc] 25))) := Lib.hid ((Below.refl _ w4).alloc (Nat.le_refl _) _)
    have HS6 := Lib.hid (Since.step HS4.out HB5.out)
    refine WG.one 4 (by kernel_rfl) rfl (by rfl) ?_
    go_wp2_with fail
    refine ⟨HS6.out, ?_⟩
    have HRB : Hid ((w4.alloc (.cells #[.slice va m vc] 25)).heap[w4.heap.size]? = some (.cells #[.slice va m vc] 25 (0, 0))) := Lib.hid (World.alloc_heap_new w4 _)
    have HRW : Hid (Row (w4.alloc (.cells #[.slice va m vc] 25)) 79 10 (.slice va m vc) m (rowsC rs)) := Lib.hid (row_of_block HRV1.out (fun b e => HB5.out.block b (row_lt HRV1.out e)))
    have HAW := Lib.hid (HNE.out _ _ _ HRB.out HRW.out HIN.out)
    have HZ : Hid (w.heap.size ≤ w2.heap.size ∧ w2.heap.size ≤ w4.heap.size ∧ w4.heap.size < (w4.alloc (.cells #[.slice va m vc] 25)).heap.size) := Lib.hid ⟨HB2.out.size, Below.size HS4.out, by simp⟩
    refine WG.one 5 (by kernel_rfl) rfl (by rfl) ?_
    refine HBC.out rs _ _ _ _ _ rfl (some ⟨w4.heap.size, 0, none⟩) rfl rfl ?_
    refine ⟨fun _ => HS6.out, ?_⟩
    simp only [Act.put, List.setIfInBounds_toArray, List.set_cons_zero, List.set_cons_succ]
    generalize hw6 : w4.alloc (.cells #[.slice va m vc] 25) = w6 at *
    generalize refC (newS c rs) (.slice (some ⟨w4.heap.size, 0, none⟩) 1 1) (.slice none 0 0) = Y at *
    have HF6 : Hid (∀ i, (i = w6.heap.size ∨ i = w4.heap.size ∨ (Value.slice va m vc).ownBlock = some i) → w.heap.size ≤ i ∧ i < (w6.alloc (.cells Y 88)).heap.size) := Lib.hid (fun i hi => by
      obtain ⟨z1, z2, z3⟩ := HZ.out
      have z4 : (w6.alloc (.cells Y 88)).heap.size = w6.heap.size + 1 := by simp
      rw [z4]
      rcases hi with h | h | h
      · subst h; omega
      · subst h; omega
      · have h1 := hfr.out i h
        have h2 := row_lt HRW.out h
        omega)
    have HS7 : Hid (Since w2 (w6.alloc (.cells Y 88))) := Lib.hid (Below.alloc HS6.out (Below.size HS6.out) _)
    clear HRB HRW hw6 HRV1 HB5
    refine WG.one 6 (by kernel_rfl) rfl (by rfl) ?_
    go_wp2_with fail
    refine ⟨HS7.out, ?_⟩
    refine WG.take 7 (some 4) rfl rfl (by kernel_rfl) (by kernel_rfl) (by kernel_rfl) (by kernel_rfl) (fun _ _ _ h => h) (by rfl) (fun v hv => by go_simp; first | done | with_reducible rfl | (rw [if_neg (by omega)])) HS7.out ?_; simp only [Act.put, List.setIfInBounds_toArray, List.set_cons_zero, List.set_cons_succ]
    refine WG.take 8 (some 5) rfl rfl (by kernel_rfl) (by kernel_rfl) (by kernel_rfl) (by kernel_rfl) (fun _ _ _ h => h) (by rfl) (fun v hv => by go_simp; first | done | with_reducible rfl | (rw [if_neg (by omega)])) HS7.out ?_; simp only [Act.put, List.setIfInBounds_toArray, List.set_cons_zero, List.set_cons_succ]
    refine WG.done (by kernel_rfl) ?_
    generalize hw7 : w6.alloc (.cells Y 88) = w7 at *
    clear hw7
    go_wp2_with fail
    go_ret2
    exact HV.out _ _ _ _ rfl (below_then HB2.out HS7.out) HF6.out ⟨_, _, _, HAW.out⟩
end Go.Proofs.YtahgapkecabnjaaGreatDoor
