/- The reference's Drop and Delete. Printed by gen_refc.py. -/
import Derived.Test.YtahgapkecabnjaaGreatDoorC23
namespace Go.Proofs.YtahgapkecabnjaaGreatDoor
set_option linter.unusedSimpArgs false
set_option linter.unusedVariables false
open Go Go.RowKit Go.Shelf Go.Lib Go.Maps Go.MapKept

theorem flowInfo : (Tryz.prog.info? 96).map (fun i => (i.zero, i.size, i.bytes)) = some (some (.agg #[.int .u32 0, .int .u32 0, .int .u16 0, .int .u16 0, .int .u8 0, .int .u64 0, .bool false]), 7, 32) := by kernel_rfl
theorem flowsC_one (l : Kl (Nat × Bool)) : ∀ u ∈ flowsC l, u.oneCell' = true := fun u hu => by
  obtain ⟨p, hp, h⟩ := List.mem_flatMap.1 hu
  simp [flowC] at h
  rcases h with h | h | h | h | h | h | h <;> subst h <;> rfl
theorem flowsC_append (l m : Kl (Nat × Bool)) : flowsC (l ++ m) = flowsC l ++ flowsC m := by simp [flowsC]
section
variable {w w' : World} {ra : Nat} {F : Nat → Prop} {s : St} {rv fv : Value} {vs : List Value}
theorem RefW.apart (h : RefW w ra F s rv fv vs) : (∀ b, rv.ownBlock = some b → b ≠ ra) ∧ (∀ b, fv.ownBlock = some b → b ≠ ra) ∧ ∀ (i : Nat) (rs : List Rl) (v : Value), s.rules[i]? = some rs → Row w 79 10 v rs.length (rowsC rs) → ∀ b, v.ownBlock = some b → b ≠ ra := by
  refine ⟨fun b e e2 => ?_, fun b e e2 => ?_, fun i rs v _ hv b e e2 => ?_⟩
  all_goals subst e2
  · obtain ⟨cur, hc⟩ := row_type h.row e
    rw [h.box] at hc
    injection hc with hc
    injection hc with _ hc
    exact absurd hc (by decide)
  · obtain ⟨cur, hc⟩ := row_type h.frow e
    rw [h.box] at hc
    injection hc with hc
    injection hc with _ hc
    exact absurd hc (by decide)
  · obtain ⟨cur, hc⟩ := row_type hv e
    rw [h.box] at hc
    injection hc with hc
    injection hc with _ hc
    exact absurd hc (by decide)
/-- A cell of the box is stored anew. -/
theorem RefW.put (h : RefW w ra F s rv fv vs) (o : Nat) (x : Value) (s' : St) (hc : (refC s rv fv).setIfInBounds o x = refC s' rv fv) (hr : s'.rules = s.rules) (hf : s'.flows = s.flows) : RefW (w.setCell ⟨ra, o, none⟩ x) ra F s' rv fv vs := by
  have hne : ∀ i, i ≠ ra → (w.setCell ⟨ra, o, none⟩ x).heap[i]? = w.heap[i]? := fun i hi => Below.heap_setCell _ _ _ i hi
  obtain ⟨h1, h2, h3⟩ := h.apart
  refine ⟨by rw [← hc]; exact heap_set _ h.box, by rw [hr]; exact row_of_block h.row (fun b e => hne b (h1 b e)), fun i rs hi => ?_, by rw [hf]; exact row_of_block h.frow (fun b e => hne b (h2 b e)), h.fra, h.frv, h.ffv⟩
  rw [hr] at hi
  obtain ⟨v, e, hv⟩ := h.inner i rs hi
  exact ⟨v, e, hv.keep (fun b eb => hne b (h3 i rs v hi hv.row b eb)) (fun _ h => h)⟩
theorem RefW.setg (h : RefW w ra F s rv fv vs) (g' : Nat) : RefW (w.setCell ⟨ra, 18, none⟩ (.int .u64 (g' : Nat))) ra F { s with g := g' } rv fv vs := h.put _ _ _ rfl rfl rfl
/-- The flows are others, in a block of their own. -/
theorem RefW.reflow (h : RefW w ra F s rv fv vs) (hb : Below w.heap.size w w') {v2 : Value} {fl : Kl (Nat × Bool)} (hrow : Row w' 96 7 v2 fl.length (flowsC fl)) :
    RefW (w'.setCell ⟨ra, 20, none⟩ v2) ra (fun i => F i ∨ v2.ownBlock = some i) { s with flows := fl } rv v2 vs := by
  have h' := h.below hb
  have hne : ∀ i, i ≠ ra → (w'.setCell ⟨ra, 20, none⟩ v2).heap[i]? = w'.heap[i]? := fun i hi => Below.heap_setCell _ _ _ i hi
  obtain ⟨h1, h2, h3⟩ := h'.apart
  refine ⟨heap_set v2 h'.box, row_of_block h'.row (fun b e => hne b (h1 b e)), fun i rs hi => ?_, row_of_block hrow (fun b e => hne b (fun e2 => ?_)), .inl h'.fra, fun b e => .inl (h'.frv b e), fun b e => .inr e⟩
  · obtain ⟨v, e, hv⟩ := h'.inner i rs hi
    exact ⟨v, e, hv.keep (fun b eb => hne b (h3 i rs v hi hv.row b eb)) (fun _ h => .inl h)⟩
  · subst e2
    obtain ⟨cur, hc⟩ := row_type hrow e
    rw [h'.box] at hc
    injection hc with hc
    injection hc with _ hc
    exact absurd hc (by decide)
theorem RefW.fcap (h : RefW w ra F s rv fv vs) {a : Option Addr} {n c : Nat} (e : fv = .slice a n c) : n = s.flows.length ∧ n ≤ c ∧ c ≤ maxLen := by
  rcases h.frow.2 with ⟨e1, e2⟩ | ⟨g, cap, cur, e1, h2, h3, h4, h5, h6⟩
  · rw [e] at e1
    cases e1
    exact ⟨e2.symm, Nat.zero_le _, Nat.zero_le _⟩
  · rw [e] at e1
    cases e1
    exact ⟨rfl, h4, h5⟩
end
/-- What a call leaves of the reference's firewall. -/
def RPost (w : World) (ra : Nat) (F : Nat → Prop) (s' : St) (w' : World) : Prop := ∃ F', RefAt w' ra F' s' ∧ Turn F w w' ∧ ∀ i, F' i → F i ∨ w.heap.size ≤ i ∧ i < w'.heap.size
theorem RPost.same {w w' : World} {ra : Nat} {F : Nat → Prop} {s : St} (h : RefAt w' ra F s) (t : Below w.heap.size w w') : RPost w ra F s w' := ⟨F, h, Turn.of_below t, fun i h => .inl h⟩
theorem flows_read {w : World} {ra : Nat} {F : Nat → Prop} {s : St} {rv fv : Value} {vs : List Value} (h : RefW w ra F s rv fv vs) {g c : Nat} (e : fv = .slice (some ⟨g, 0, none⟩) s.flows.length c) {j : Nat} {u : Value} (hj : (flowsC s.flows)[j]? = some u) : w.cell? ⟨g, j, none⟩ = some u := by
  obtain ⟨a, c', hv, hx⟩ := row_form h.frow
  rw [e] at hv
  cases hv
  obtain ⟨g', e', c1, _⟩ := hx j u hj
  cases e'
  exact c1
theorem add_plain (g o j : Nat) : (⟨g, o, none⟩ : Addr).add j = ⟨g, o + j, none⟩ := by
  unfold Addr.add
  split <;> simp_all
theorem drop_flows (l : Kl (Nat × Bool)) (n j : Nat) (hn : n ≤ l.length) : (flowsC (l.drop n))[j]? = (flowsC l)[n * 7 + j]? := by
  have e : flowsC l = flowsC (l.take n) ++ flowsC (l.drop n) := by rw [← flowsC_append, List.take_append_drop]
  have hl : (flowsC (l.take n)).length = n * 7 := by rw [flowsC_len, List.length_take]; congr 1; omega
  rw [e, List.getElem?_append_right (by rw [hl]; omega), hl, Nat.add_sub_cancel_left]
theorem take_flows (l : Kl (Nat × Bool)) (n j : Nat) {u : Value} (h : (flowsC (l.take n))[j]? = some u) : (flowsC l)[j]? = some u := by
  have e : flowsC l = flowsC (l.take n) ++ flowsC (l.drop n) := by rw [← flowsC_append, List.take_append_drop]
  rw [e, List.getElem?_append_left (List.getElem?_eq_some_iff.1 h).1]
  exact h
set_option maxHeartbeats 8000000 in
set_option maxRecDepth 100000 in
theorem rdrop_any {w : World} {ra : Nat} {F : Nat → Prop} {s : St} {k : Ky} (hk : k.In) (h : RefAt w ra F s) (hs : s.Ok) :
    Calls Tryz.prog 35 #[.pointer (some ⟨ra, 0, none⟩), kyV k] w fun e w' => e = .returned (.bool (hasL s.flows k)) ∧ RPost w ra F (dropS s k) w' := by
  have HB0 : Hid (Below w.heap.size w (w.alloc (.cells (kyC k) 45))) := Lib.hid ((Below.refl _ w).alloc (Nat.le_refl _) _)
  have HR := Lib.hid (h.below HB0.out)
  have c1 : (w.alloc (.cells (kyC k) 45)).cell? ⟨w.heap.size, 0, none⟩ = some (.int .u32 k.a0) := by simp [kyC]
  have c2 : (w.alloc (.cells (kyC k) 45)).cell? ⟨w.heap.size, 1, none⟩ = some (.int .u32 k.a1) := by simp [kyC]
  have c3 : (w.alloc (.cells (kyC k) 45)).cell? ⟨w.heap.size, 2, none⟩ = some (.int .u16 k.p0) := by simp [kyC]
  have c4 : (w.alloc (.cells (kyC k) 45)).cell? ⟨w.heap.size, 3, none⟩ = some (.int .u16 k.p1) := by simp [kyC]
  have c5 : (w.alloc (.cells (kyC k) 45)).cell? ⟨w.heap.size, 4, none⟩ = some (.int .u8 k.pr) := by simp [kyC]
  have HFI := Lib.hid (fun W (h : RefAt W ra F s) => find_any hk h hs)
  rcases idxI_cases s k with ⟨hi, hg⟩ | ⟨n, e, hi, hp, hg⟩
  · have HO : Hid (hasL s.flows k = false) := Lib.hid (by unfold hasL; rw [hg]; rfl)
    have HD : Hid (dropS s k = s) := Lib.hid (by unfold dropS; rw [HO.out]; rfl)
    rw [hi] at HFI
    have HH := Lib.hid h
    clear h hs hk hi hg
    go_enter Tryz.func35, Tryz.ntmps35
    go_wp2_with fail
    generalize w.alloc (.cells (kyC k) 45) = w1 at *
    refine (HFI.out _ HR.out).mono ?_
    rintro e w2 ⟨rfl, h2⟩
    have HB2 := Lib.hid (below_then HB0.out h2)
    clear h2 c1 c2 c3 c4 c5
    go_wp2_with fail
    go_ret
    exact ⟨by (rw [HO.out]) <;> rfl, by rw [HD.out]; exact .same (HH.out.below HB2.out) HB2.out⟩
  · have HO : Hid (hasL s.flows k = true) := Lib.hid (by unfold hasL; rw [hg]; rfl)
    have HD : Hid (dropS s k = { s with flows := s.flows.take n ++ s.flows.drop (n + 1), g := leaveW s.g }) := Lib.hid (by
      unfold dropS
      rw [HO.out, if_pos rfl]
      unfold goneS
      rw [delL_at hs.rise hp])
    have hn := (List.getElem?_eq_some_iff.1 hp).1
    have HLV := Lib.hid (fun W => rgleave_any s.g W hs.g)
    have hsm := hs.small
    have HTL : Hid ((s.flows.take n).length = n) := Lib.hid (by rw [List.length_take]; omega)
    have HDL : Hid ((s.flows.drop (n + 1)).length = s.flows.length - (n + 1)) := Lib.hid List.length_drop
    rw [hi] at HFI
    have HSM := Lib.hid hsm
    clear h hs hk hi hg hp
    generalize hasL s.flows k = res at *
    go_enter Tryz.func35, Tryz.ntmps35
    go_wp2_with fail
    generalize w.alloc (.cells (kyC k) 45) = w1 at *
    refine (HFI.out _ HR.out).mono ?_
    rintro e2 w2 ⟨rfl, h2⟩
    have HB2 := Lib.hid (below_then HB0.out h2)
    obtain ⟨rv, fv, vs, hR⟩ := HR.out.below h2
    obtain ⟨a, c, hfv, hfl⟩ := hR.flows
    obtain ⟨g, rfl, -, -⟩ := hfl n _ (List.getElem?_eq_getElem hn)
    obtain ⟨-, hc1, hc2⟩ := hR.fcap hfv
    have d0 : w2.cell? ⟨ra, 20, none⟩ = some fv := hR.cell rfl
    rw [hfv] at d0
    have HFV := Lib.hid hfv
    have HRW := Lib.hid hR
    have hni : (0 : Int) ≤ n := by omega
    have hnl : (n : Int) < (s.flows.length : Int) := by omega
    have hnc : n ≤ c := by omega
    have hn1w : IntKind.i64.wrap ((n : Int) + 1) = (n : Int) + 1 := IntWalk.i64_in _ (by omega)
    unfold maxLen at hc2
    clear h2 c1 c2 c3 c4 c5 hR hfv hfl hsm
    generalize hfl2 : s.flows.length = m at *
    have HM := Lib.hid hfl2
    clear hfl2
    have hm4 := HSM.out
    go_wp2_with fail
    have HS0 : Hid (Since w2 w2.drew) := Lib.hid ((Below.refl _ w2).trans ⟨rfl, rfl, rfl, Nat.le_refl _, fun _ _ => rfl⟩)
    refine WG.enter (Since w2) 19 (by kernel_rfl) 20 rfl ?_
    refine WG.take 0 (some 11) rfl rfl (by kernel_rfl) (by kernel_rfl) (by kernel_rfl) (by kernel_rfl) (fun _ _ _ h => h) (by rfl) (fun v hv => by go_simp; first | done | with_reducible rfl | (rw [if_neg (by omega)])) HS0.out ?_; simp only [Act.put, List.setIfInBounds_toArray, List.set_cons_zero, List.set_cons_succ]
    refine WG.take 2 (some 13) rfl rfl (by kernel_rfl) (by kernel_rfl) (by kernel_rfl) (by kernel_rfl) (fun _ _ _ h => h) (by rfl) (fun v hv => by go_simp; first | done | with_reducible rfl | (rw [if_neg (by omega)])) HS0.out ?_; simp only [Act.put, List.setIfInBounds_toArray, List.set_cons_zero, List.set_cons_succ]
    refine WG.take 3 (some 14) rfl rfl (by kernel_rfl) (by kernel_rfl) (by kernel_rfl) (by kernel_rfl) (fun _ _ _ h => h) (by rfl) (fun v hv => by go_simp; first | done | with_reducible rfl | (rw [if_neg (by omega)])) HS0.out ?_; simp only [Act.put, List.setIfInBounds_toArray, List.set_cons_zero, List.set_cons_succ]
    refine WG.take 4 (some 15) rfl rfl (by kernel_rfl) (by kernel_rfl) (by kernel_rfl) (by kernel_rfl) (fun _ _ _ h => h) (by rfl) (fun v hv => by go_simp; first | done | with_reducible rfl | (rw [if_neg (by omega)])) HS0.out ?_; simp only [Act.put, List.setIfInBounds_toArray, List.set_cons_zero, List.set_cons_succ]
    refine WG.take 5 (some 16) rfl rfl (by kernel_rfl) (by kernel_rfl) (by kernel_rfl) (by kernel_rfl) (fun _ _ _ h => h) (by rfl) (fun v hv => by have k0 := hv.cell d0; go_simp; first | done | with_reducible rfl | (rw [if_neg (by omega)])) HS0.out ?_; simp only [Act.put, List.setIfInBounds_toArray, List.set_cons_zero, List.set_cons_succ]
    refine WG.take 6 (some 17) rfl rfl (by kernel_rfl) (by kernel_rfl) (by kernel_rfl) (by kernel_rfl) (fun _ _ _ h => h) (by rfl) (fun v hv => by go_simp; first | done | with_reducible rfl | (rw [if_neg (by omega)])) HS0.out ?_; simp only [Act.put, List.setIfInBounds_toArray, List.set_cons_zero, List.set_cons_succ]
    refine WG.take 7 (some 18) rfl rfl (by kernel_rfl) (by kernel_rfl) (by kernel_rfl) (by kernel_rfl) (fun _ _ _ h => h) (by rfl) (fun v hv => by go_simp; first | done | with_reducible rfl | (rw [if_neg (by omega)])) HS0.out ?_; simp only [Act.put, List.setIfInBounds_toArray, List.set_cons_zero, List.set_cons_succ]
    refine WG.take 9 (some 20) rfl rfl (by kernel_rfl) (by kernel_rfl) (by kernel_rfl) (by kernel_rfl) (fun _ _ _ h => h) (by rfl) (fun v hv => by go_simp; first | done | with_reducible rfl | (rw [if_neg (by omega)])) HS0.out ?_; simp only [Act.put, List.setIfInBounds_toArray, List.set_cons_zero, List.set_cons_succ]
    refine WG.take 10 (some 21) rfl rfl (by kernel_rfl) (by kernel_rfl) (by kernel_rfl) (by kernel_rfl) (fun _ _ _ h => h) (by rfl) (fun v hv => by go_simp; first | done | with_reducible rfl | (rw [if_neg (by omega)])) HS0.out ?_; simp only [Act.put, List.setIfInBounds_toArray, List.set_cons_zero, List.set_cons_succ]
    refine WG.take 11 (some 22) rfl rfl (by kernel_rfl) (by kernel_rfl) (by kernel_rfl) (by kernel_rfl) (fun _ _ _ h => h) (by rfl) (fun v hv => by go_simp; first | done | with_reducible rfl | (rw [if_neg (by omega)])) HS0.out ?_; simp only [Act.put, List.setIfInBounds_toArray, List.set_cons_zero, List.set_cons_succ]
    refine WG.take 12 (some 23) rfl rfl (by kernel_rfl) (by kernel_rfl) (by kernel_rfl) (by kernel_rfl) (fun _ _ _ h => h) (by rfl) (fun v hv => by have k0 := hv.cell d0; go_simp; first | done | with_reducible rfl | (rw [if_neg (by omega)])) HS0.out ?_; simp only [Act.put, List.setIfInBounds_toArray, List.set_cons_zero, List.set_cons_succ]
    refine WG.take 13 (some 24) rfl rfl (by kernel_rfl) (by kernel_rfl) (by kernel_rfl) (by kernel_rfl) (fun _ _ _ h => h) (by rfl) (fun v hv => by go_simp; first | done | with_reducible rfl | (rw [if_neg (by omega)])) HS0.out ?_; simp only [Act.put, List.setIfInBounds_toArray, List.set_cons_zero, List.set_cons_succ]
    refine WG.take 14 (some 25) rfl rfl (by kernel_rfl) (by kernel_rfl) (by kernel_rfl) (by kernel_rfl) (fun _ _ _ h => h) (by rfl) (fun v hv => by go_simp; first | done | with_reducible rfl | (rw [if_neg (by omega)])) HS0.out ?_; simp only [Act.put, List.setIfInBounds_toArray, List.set_cons_zero, List.set_cons_succ]
    obtain ⟨sl, hsl, hslc⟩ : ∃ sl : Addr, (if c = n + 1 then some (⟨g, 0, none⟩ : Addr) else some ⟨g, (n + 1) * 7, none⟩) = some sl ∧ ∀ W, Since w2 W → ∀ j u, (flowsC (s.flows.drop (n + 1)))[j]? = some u → W.cell? (sl.add j) = some u := by
      by_cases hcn : c = n + 1
      · refine ⟨⟨g, 0, none⟩, if_pos hcn, fun W _ j u hj => ?_⟩
        have hl := (List.getElem?_eq_some_iff.1 hj).1
        rw [flowsC_len, HDL.out] at hl
        omega
      · refine ⟨⟨g, (n + 1) * 7, none⟩, if_neg hcn, fun W hW j u hj => ?_⟩
        rw [add_plain]
        rw [drop_flows _ _ _ (by have := HM.out; omega)] at hj
        exact hW.cell (flows_read HRW.out (by rw [HM.out]; exact HFV.out) hj)
    have HSL := Lib.hid hslc
    have HSE := Lib.hid hsl
    clear hslc hsl
    refine WG.take 15 (some 26) (v := .slice (if c = n + 1 then some (⟨g, 0, none⟩ : Addr) else some ⟨g, (n + 1) * 7, none⟩) (m - (n + 1)) (c - (n + 1))) rfl rfl (by kernel_rfl) (by kernel_rfl) (by kernel_rfl) (by kernel_rfl) (fun _ _ _ h => h) (by rfl) (fun v hv => by go_simp; first | done | (intro h; have := h (by omega); omega) | (rw [if_pos ⟨by omega, by omega⟩])) HS0.out ?_; simp only [Act.put, List.setIfInBounds_toArray, List.set_cons_zero, List.set_cons_succ]
    rw [HSE.out]
    have HS1 : Hid (Since w2 (w2.drew.alloc (.cells #[] 96))) := Lib.hid (Below.alloc HS0.out (Nat.le_refl _) _)
    refine WG.one 1 (by kernel_rfl) rfl (by rfl) ?_
    go_wp2_with fail
    refine ⟨HS1.out, ?_⟩
    obtain ⟨i0, hi, hz0, hz1, hz2⟩ := info_parts flowInfo
    refine WG.one 8 (by kernel_rfl) rfl (by rfl) ?_
    refine oper_append _ _ 86 rfl w2.heap.size 96 i0 _ 7 32 Tryz.underlying86 hi hz0 hz1 hz2 rfl (by decide) (.slice (some ⟨w2.heap.size, 0, none⟩) 0 0) 0 [] rfl (World.ownsRow_made w2.drew #[] 0 (Nat.le_refl _) (Nat.zero_le _) rfl) ⟨g, 0, none⟩ n c (flowsC (s.flows.take n)) rfl (by rw [flowsC_len, HTL.out]) (fun j u hj => by rw [add_plain, Nat.zero_add]; exact HS1.out.cell (flows_read HRW.out (by rw [HM.out]; exact HFV.out) (take_flows _ _ _ hj))) (flowsC_one _) (by unfold maxLen; omega) (by omega) (Below.size HS1.out) ?_
    intro v1 w4 hown hgrow _ hloc
    rw [Nat.zero_add, List.nil_append] at hown
    have HS4 : Hid (Since w2 w4) := Lib.hid (Below.grown HS1.out hgrow (by have := Below.size HS1.out; exact this) (by intro b hb; simp [Value.ownBlock] at hb; omega))
    refine ⟨fun _ => HS4.out, ?_⟩
    simp only [Act.put, List.setIfInBounds_toArray, List.set_cons_zero, List.set_cons_succ]
    have hrw1 := World.ownsRow.mono_base hown
    obtain ⟨va, vc, rfl, _⟩ := row_form hrw1
    clear hrw1 hgrow hloc
    refine WG.one 16 (by kernel_rfl) rfl (by rfl) ?_
    refine oper_append _ _ 86 rfl w2.heap.size 96 i0 _ 7 32 Tryz.underlying86 hi hz0 hz1 hz2 rfl (by decide) _ n (flowsC (s.flows.take n)) rfl hown sl (m - (n + 1)) (c - (n + 1)) (flowsC (s.flows.drop (n + 1))) rfl (by rw [flowsC_len, HDL.out]) (HSL.out w4 HS4.out) (flowsC_one _) (by unfold maxLen; omega) (by omega) (Below.size HS4.out) ?_
    intro v2 w5 hown2 hgrow2 _ hloc2
    have hvb : ∀ b, (Value.slice va n vc).ownBlock = some b → w2.heap.size ≤ b := fun b hb => ownsRow_base hown hb
    have HS5 : Hid (Since w2 w5) := Lib.hid (Below.grown HS4.out hgrow2 (Below.size HS4.out) (fun b hb => hvb b hb))
    refine ⟨fun _ => HS5.out, ?_⟩
    simp only [Act.put, List.setIfInBounds_toArray, List.set_cons_zero, List.set_cons_succ]
    have HV2B : Hid (∀ b, v2.ownBlock = some b → w2.heap.size ≤ b ∧ b < w5.heap.size) := Lib.hid (fun b hb => ⟨ownsRow_base hown2 hb, row_lt (World.ownsRow.mono_base hown2) hb⟩)
    obtain ⟨q, hq⟩ : ∃ q, n + (m - (n + 1)) = q := ⟨_, rfl⟩
    obtain ⟨f2, hf2⟩ : ∃ f2, s.flows.take n ++ s.flows.drop (n + 1) = f2 := ⟨_, rfl⟩
    have hql : f2.length = q := by rw [← hf2, ← hq, List.length_append, HTL.out, HDL.out]
    have hrow : Row w5 96 7 v2 f2.length (flowsC f2) := by
      rw [hql, ← hf2, flowsC_append, ← hq]
      exact World.ownsRow.mono_base hown2
    have HR6 := Lib.hid (HRW.out.reflow HS5.out hrow)
    have hR5 := HRW.out.below HS5.out
    have k0 : w5.cell? ⟨ra, 20, none⟩ = some fv := hR5.cell rfl
    have k1 := hR5.free 20
    rw [hql] at hrow
    obtain ⟨vb, vd, rfl, _⟩ := row_form hrow
    have HF2 := Lib.hid hf2
    clear hql hq hf2
    have HT6 : Hid (Turn F w (w5.setCell ⟨ra, 20, none⟩ (.slice vb q vd))) := Lib.hid ((Turn.of_below (F := F) (below_then HB2.out HS5.out)).setCell _ _ (.inl HRW.out.fra))
    clear hown hown2 hgrow2 hloc2 hvb hrow hR5
    refine WG.one 17 (by kernel_rfl) rfl (by rfl) ?_
    go_wp2_with fail
    refine ⟨HS5.out, ?_⟩
    refine WG.one 18 (by kernel_rfl) rfl (by rfl) ?_
    go_wp2_with fail
    refine ⟨HS5.out, ?_⟩
    refine WG.one 19 (by kernel_rfl) rfl (by rfl) ?_
    go_wp2_with fail
    refine WG.done (by kernel_rfl) ?_
    have HZ5 : Hid (w5.heap.size = (w5.setCell ⟨ra, 20, none⟩ (.slice vb q vd)).heap.size) := Lib.hid (by simp [World.setCell])
    generalize hw6 : w5.setCell ⟨ra, 20, none⟩ (.slice vb q vd) = w6 at *
    have d1 : w6.cell? ⟨ra, 18, none⟩ = some (.int .u64 (s.g : Nat)) := HR6.out.cell rfl
    clear hw6 k0 k1 d0
    go_wp2_with fail
    refine (HLV.out _).mono ?_
    rintro e3 w7 ⟨rfl, h7⟩
    have hR7 := HR6.out.below h7
    have k0 : w7.cell? ⟨ra, 18, none⟩ = some (.int .u64 (s.g : Nat)) := hR7.cell rfl
    have k1 := hR7.free 18
    have HR8 := Lib.hid (hR7.setg (leaveW s.g))
    have HT8 : Hid (Turn F w (w7.setCell ⟨ra, 18, none⟩ (.int .u64 (leaveW s.g : Nat)))) := Lib.hid ((HT6.out.trans (Turn.of_below (F := fun _ => False) h7) (fun i h => h.elim)).setCell _ _ (.inl HRW.out.fra))
    have HZ8 : Hid (w6.heap.size ≤ (w7.setCell ⟨ra, 18, none⟩ (.int .u64 (leaveW s.g : Nat))).heap.size) := Lib.hid (by simp [World.setCell]; exact h7.size)
    clear h7 hR7 d1
    go_wp2_with fail
    go_ret
    refine ⟨by (rw [HO.out]) <;> rfl, fun i => F i ∨ (Value.slice vb q vd).ownBlock = some i, ?_, HT8.out, ?_⟩
    · rw [HD.out, HF2.out]
      exact ⟨_, _, _, HR8.out⟩
    · intro i hi
      rcases hi with hi | hi
      · exact .inl hi
      · have h1 := HV2B.out i hi
        have h2 := HB2.out.size
        have h3 := HZ5.out
        have h4 := HZ8.out
        exact .inr ⟨by omega, by omega⟩
set_option maxHeartbeats 4000000 in
set_option maxRecDepth 100000 in
theorem rdelete_any {w : World} {ra : Nat} {F : Nat → Prop} {s : St} {k : Ky} (hk : k.In) (h : RefAt w ra F s) (hs : s.Ok) (hF : ∀ i, F i → i < w.heap.size) :
    Calls Tryz.prog 34 #[.pointer (some ⟨ra, 0, none⟩), kyV k] w fun e w' => e = .returned (.bool (overS s k)) ∧ RPost w ra F (deleteS s k) w' := by
  have HB0 : Hid (Below w.heap.size w (w.alloc (.cells (kyC k) 45))) := Lib.hid ((Below.refl _ w).alloc (Nat.le_refl _) _)
  have HR := Lib.hid (h.below HB0.out)
  have c1 : (w.alloc (.cells (kyC k) 45)).cell? ⟨w.heap.size, 0, none⟩ = some (.int .u32 k.a0) := by simp [kyC]
  have c2 : (w.alloc (.cells (kyC k) 45)).cell? ⟨w.heap.size, 1, none⟩ = some (.int .u32 k.a1) := by simp [kyC]
  have c3 : (w.alloc (.cells (kyC k) 45)).cell? ⟨w.heap.size, 2, none⟩ = some (.int .u16 k.p0) := by simp [kyC]
  have c4 : (w.alloc (.cells (kyC k) 45)).cell? ⟨w.heap.size, 3, none⟩ = some (.int .u16 k.p1) := by simp [kyC]
  have c5 : (w.alloc (.cells (kyC k) 45)).cell? ⟨w.heap.size, 4, none⟩ = some (.int .u8 k.pr) := by simp [kyC]
  have HOV := Lib.hid (fun W (h : RefAt W ra F s) => rover_any hk h hs)
  have HDR := Lib.hid (fun W (h : RefAt W ra F s) => rdrop_any hk h hs)
  have HV : Hid (deleteS s k = if overS s k = true then dropS s k else s) := Lib.hid (by
    unfold deleteS
    split
    · rename_i ho
      obtain ⟨e, he, _⟩ := overS_some ho
      unfold dropS hasL
      rw [he]; rfl
    · rfl)
  have HHS : Hid (overS s k = true → hasL s.flows k = true) := Lib.hid (fun ho => by
    obtain ⟨e, he, _⟩ := overS_some ho
    unfold hasL
    rw [he]; rfl)
  have HH := Lib.hid h
  clear h hs hk hF
  generalize overS s k = ov at *
  generalize hasL s.flows k = hs at *
  go_enter Tryz.func34, Tryz.ntmps34
  go_wp2_with fail
  generalize w.alloc (.cells (kyC k) 45) = w1 at *
  refine (HOV.out _ HR.out).mono ?_
  rintro e w2 ⟨rfl, h2⟩
  have HB2 := Lib.hid (below_then HB0.out h2)
  have HR2 := Lib.hid (HR.out.below h2)
  replace c1 := Since.cell h2 c1
  replace c2 := Since.cell h2 c2
  replace c3 := Since.cell h2 c3
  replace c4 := Since.cell h2 c4
  replace c5 := Since.cell h2 c5
  clear h2
  cases ov with
  | false =>
    go_wp2_with fail
    go_ret
    exact ⟨rfl, by rw [HV.out]; exact .same (HH.out.below HB2.out) HB2.out⟩
  | true =>
    obtain rfl : hs = true := HHS.out rfl
    go_wp2_with fail
    refine (HDR.out _ HR2.out).mono ?_
    rintro e w3 ⟨rfl, F', hA, hT, hx⟩
    have HP : Hid (RPost w ra F (dropS s k) w3) := Lib.hid ⟨F', hA, (Turn.of_below HB2.out).trans hT (fun i h => .inl h), fun i hi => (hx i hi).imp id (fun h => ⟨Nat.le_trans HB2.out.size h.1, h.2⟩)⟩
    clear hA hT hx
    go_wp2_with fail
    go_ret
    exact ⟨rfl, by rw [HV.out]; exact HP.out⟩
end Go.Proofs.YtahgapkecabnjaaGreatDoor
/- The reference's Swap and Count. Printed by gen_refd.py. -/
namespace Go.Proofs.YtahgapkecabnjaaGreatDoor
set_option linter.unusedSimpArgs false
set_option linter.unusedVariables false
open Go Go.RowKit Go.Shelf Go.Lib Go.Maps Go.MapKept

/-- append of what came in, nil or not. -/
theorem oper_append_any {P : Program} {o : Oper} {a : Act} {w : World} {K : Act → World → Prop} {Q : Exit → Act → World → Prop} (s x : Operand) (t : TypeId)
    (ho : o.op = .call { callee := .builtin .append, args := #[s, x], argTypes := #[t, t] })
    (base : Nat) (e : TypeId) (i : TypeInfo) (z : Value) (size bytes : Nat) (ht : P.underlying t = some (.slice e)) (hi : P.info? e = some i) (hz : i.zero = some z)
    (hsize : i.size = size) (hby : i.bytes = bytes) (hzs : z.cells.size = size) (hsz : 0 < size)
    (v : Value) (n : Nat) (xs : List Value) (hs : a.eval s = v) (hown : w.ownsRow base e size v n xs)
    (A : Option Addr) (m c : Nat) (news : List Value) (hx : a.eval x = .slice A m c) (hl : news.length = m * size) (hnews : ∀ ad, A = some ad → ∀ j u, news[j]? = some u → w.cell? (ad.add j) = some u) (hnil : A = none → m = 0 ∧ c = 0) (h1 : ∀ u ∈ news, u.oneCell' = true)
    (h63 : n + m ≤ maxLen) (hbytes : (n + m) * bytes ≤ 140737488355328) (hbase : base ≤ w.heap.size)
    (h : ∀ v' w', w'.ownsRow base e size v' (n + m) (xs ++ news) → w.grownBy w' v.ownBlock → K (a.put o.dst v') w') :
    o.wp P a w K Q := by
  cases A with
  | some ad => exact oper_append s x t ho base e i z size bytes ht hi hz hsize hby hzs hsz v n xs hs hown ad m c news hx hl (hnews ad rfl) h1 h63 hbytes hbase (fun v' w' h2 h3 _ _ => h v' w' h2 h3)
  | none =>
    obtain ⟨rfl, rfl⟩ := hnil rfl
    have hn0 : news = [] := List.eq_nil_of_length_eq_zero (by rw [hl]; omega)
    subst hn0
    have hr : (Builtin.append_ #[t, t] o.type #[v, .slice none 0 0]).run P w = .ok v w := by
      rcases hown.2 with ⟨rfl, rfl⟩ | ⟨g, cap, cur, rfl, _, _, hnc, _⟩
      · simp [Builtin.append_, run_underlying ht, sizeOf, typeInfo, hi, Builtin.lenOf, Builtin.firstCells]
      · simp [Builtin.append_, run_underlying ht, sizeOf, typeInfo, hi, Builtin.lenOf, Builtin.firstCells, hnc, storeCells]
    unfold Oper.wp execOp
    simp only [ho, resolve, invoke, builtin, Sem.run_bind, Sem.run_pure, Result.andThen_ok, List.map_toArray, List.map_cons, List.map_nil, hs, hx, hr]
    exact h v w (by simpa using hown) (World.grownBy.refl w _)
/-- One list of rules more. -/
theorem RefW.grow {w2 w3 : World} {ra : Nat} {F : Nat → Prop} {s : St} {rv fv rv' v1 : Value} {vs : List Value} {rs : List Rl} (h : RefW w2 ra F s rv fv vs) (hrow : Row w3 25 1 rv' (s.rules.length + 1) (vs ++ [v1])) (hg : w2.grownBy w3 rv.ownBlock)
    (hv1 : Row w2 79 10 v1 rs.length (rowsC rs)) (hr : ∀ r ∈ rs, r.In) :
    RefW (w3.setCell ⟨ra, 19, none⟩ rv') ra (fun i => F i ∨ rv'.ownBlock = some i ∨ v1.ownBlock = some i) { s with rules := s.rules ++ [rs] } rv' fv (vs ++ [v1]) ∧ w3.heap[ra]? = some (.cells (refC s rv fv) 88 (0, 0)) := by
  have hne : ∀ i, i ≠ ra → (w3.setCell ⟨ra, 19, none⟩ rv').heap[i]? = w3.heap[i]? := fun i hi => Below.heap_setCell _ _ _ i hi
  have h3 : ∀ i, i < w2.heap.size → rv.ownBlock ≠ some i → w3.heap[i]? = w2.heap[i]? := fun i hi hn => hg.block i hi (fun e => hn e.symm)
  obtain ⟨a1, a2, a3⟩ := h.apart
  have hba : rv.ownBlock ≠ some ra := fun e => a1 ra e rfl
  have hbox := (h3 ra (Array.getElem?_eq_some_iff.1 h.box).1 hba).trans h.box
  have other : ∀ {v : Value} {e : TypeId} {size n : Nat} {xs : List Value}, Row w2 e size v n xs → e ≠ 25 → e ≠ 88 → ∀ b, v.ownBlock = some b → (w3.setCell ⟨ra, 19, none⟩ rv').heap[b]? = w2.heap[b]? := fun {v e size n xs} hv n1 n2 b eb => by
    obtain ⟨cur, hc⟩ := row_type hv eb
    rw [hne b (fun e2 => by
      subst e2
      rw [h.box] at hc
      injection hc with hc
      injection hc with _ hc
      exact n2 hc.symm)]
    refine h3 b (row_lt hv eb) (fun e2 => ?_)
    obtain ⟨cur2, hc2⟩ := row_type h.row e2
    rw [hc] at hc2
    injection hc2 with hc2
    injection hc2 with _ hc2
    exact n1 hc2
  refine ⟨⟨heap_set rv' hbox, ?_, fun i r hi => ?_, row_of_block h.frow (other h.frow (by decide) (by decide)), .inl h.fra, fun b e => .inr (.inl e), fun b e => .inl (h.ffv b e)⟩, hbox⟩
  · show Row _ _ _ _ (s.rules ++ [rs]).length _
    rw [List.length_append]
    refine row_of_block hrow (fun b e => hne b (fun e2 => ?_))
    subst e2
    obtain ⟨cur, hc⟩ := row_type hrow e
    rw [hbox] at hc
    injection hc with hc
    injection hc with _ hc
    exact absurd hc (by decide)
  · have hi : (s.rules ++ [rs])[i]? = some r := hi
    have hvl : vs.length = s.rules.length := by have := h.row.1; omega
    by_cases hlt : i < s.rules.length
    · rw [List.getElem?_append_left hlt] at hi
      obtain ⟨v, e, hv⟩ := h.inner i r hi
      exact ⟨v, by rw [List.getElem?_append_left (by omega)]; exact e, hv.keep (other hv.row (by decide) (by decide)) (fun _ h => .inl h)⟩
    · rw [List.getElem?_append_right (by omega)] at hi
      have hz : i - s.rules.length = 0 := by
        have := (List.getElem?_eq_some_iff.1 hi).1
        simp at this; omega
      rw [hz] at hi
      obtain rfl : rs = r := by simpa using hi
      exact ⟨v1, by rw [List.getElem?_append_right (by omega), hvl, hz]; rfl, row_of_block hv1 (other hv1 (by decide) (by decide)), hr, fun b e => .inr (.inr e)⟩
theorem rowsC_add' {w : World} {a : Option Addr} {rs : List Rl} (h : RulesAt w a rs) : ∀ ad, a = some ad → ∀ j u, (rowsC rs)[j]? = some u → w.cell? (ad.add j) = some u := fun ad e => by
  subst e
  exact rowsC_add h
set_option maxHeartbeats 8000000 in
set_option maxRecDepth 100000 in
theorem rswap_any {w0 w : World} {ra : Nat} {F : Nat → Prop} {s : St} (a : Option Addr) (k : Nat) (rs : List Rl) (hR0 : RulesAt w0 a rs) (hb0 : Below w0.heap.size w0 w) (hF0 : ∀ i, F i → w0.heap.size ≤ i) (hk : rs.length ≤ k) (hkm : k ≤ maxLen) (hN : a = none → k = 0) (h : RefAt w ra F s) (hs : s.Ok) :
    Calls Tryz.prog 33 #[.pointer (some ⟨ra, 0, none⟩), .slice a rs.length k] w fun e w' => e = .returned (.tuple #[.int .i64 (swapA s rs).1, .int .i64 (swapA s rs).2]) ∧ RPost w ra F (swapS s rs) w' := by
  have hR : RulesAt w a rs := fun j r hj => by
    obtain ⟨h1, ad, h2, h3⟩ := hR0 j r hj
    have f : ∀ {a v}, w0.cell? a = some v → w.cell? a = some v := fun hc => (hb0.cell (World.block_lt_of_cell? w0 _ hc)).trans hc
    obtain ⟨c0, c1, c2, c3, c4, c5, c6, c7, c8, c9⟩ := h3
    exact ⟨h1, ad, h2, f c0, f c1, f c2, f c3, f c4, f c5, f c6, f c7, f c8, f c9⟩
  have HFI := Lib.hid (refFits_any a k rs w hR (Nat.le_trans hk hkm))
  have HB00 := Lib.hid hb0
  have HF00 := Lib.hid hF0
  have HH := Lib.hid h
  have HGS := Lib.hid (fun W => rgswap_any s.g W hs.g)
  by_cases hf : fitsF rs = 0
  · have hlen := fitsF_len hf
    rw [hf] at HFI
    have hrin := Lib.hid (rulesAt_in hR)
    have hvs := hs.vers
    have HVR := Lib.hid hs.ver
    by_cases hsw : swapOk s.g = true
    · have hsp := swap_parts hs.g hsw
      have HA := Lib.hid (show swapA s rs = ((s.rules.length : Int), 0) by unfold swapA; rw [if_neg (by rw [hf]; decide), if_pos hsw])
      have HS := Lib.hid (show swapS s rs = { s with g := swapW s.g, rules := s.rules ++ [rs] } by unfold swapS; rw [if_pos ⟨hf, hsw⟩]; rfl)
      have HUN := Lib.hid (fun W => rgunpack_any (swapW s.g) _ _ _ W hsp.2.2.2 rfl rfl rfl)
      have hv1 : verW (swapW s.g) = s.rules.length := by rw [hsp.1, ← hs.ver]
      rw [hv1] at HUN
      have f0 := field_gate0 (s.rules.length : Nat) (cntW (swapW s.g) : Nat) (clkW (swapW s.g) : Nat)
      have HRR := Lib.hid (rowsC_add' hR0)
      rw [hsw] at HGS
      have HNN : Hid (a = none → rs.length = 0 ∧ k = 0) := Lib.hid (fun h => ⟨by have := hN h; omega, hN h⟩)
      clear hR h hf hsw hs hsp hv1 hN hR0 hb0 hF0
      generalize swapW s.g = sg at *
      generalize cntW sg = gc at *
      generalize clkW sg = gk at *
      generalize hrl : rs.length = m at *
      have HRL := Lib.hid hrl
      clear hrl
      go_enter Tryz.func33, Tryz.ntmps33
      go_wp2_with fail
      refine HFI.out.mono ?_
      rintro e w2 ⟨rfl, h2⟩
      have HB2 := Lib.hid h2
      obtain ⟨rv, fv, vs, hA2⟩ := HH.out.below h2
      have g0 : w2.cell? ⟨ra, 18, none⟩ = some (.int .u64 (s.g : Nat)) := hA2.cell rfl
      have HA2 := Lib.hid hA2
      clear hA2 h2
      go_wp2_with fail
      refine (HGS.out _).mono ?_
      rintro e w3 ⟨rfl, h3⟩
      have HB3 := Lib.hid (below_then HB2.out h3)
      have HA3 := Lib.hid (HA2.out.below h3)
      have g0 : w3.cell? ⟨ra, 18, none⟩ = some (.int .u64 (s.g : Nat)) := HA3.out.cell rfl
      have g1 := HA3.out.free 18
      have HA4 := Lib.hid (HA3.out.setg sg)
      have HT4 : Hid (Turn F w (w3.setCell ⟨ra, 18, none⟩ (.int .u64 (sg : Nat)))) := Lib.hid ((Turn.of_below (F := F) HB3.out).setCell _ _ (.inl HA3.out.fra))
      clear h3 HGS HFI HA2 HB2
      go_wp2_with fail
      have HR4 : Hid (∀ ad, a = some ad → ∀ j u, (rowsC rs)[j]? = some u → (w3.setCell ⟨ra, 18, none⟩ (.int .u64 (sg : Nat))).cell? (ad.add j) = some u) := Lib.hid (fun ad e j u hj => ((HB00.out.trans (HT4.out.below HB00.out.size HF00.out)).cell (World.block_lt_of_cell? w0 _ (HRR.out ad e j u hj))).trans (HRR.out ad e j u hj))
      generalize w3.setCell ⟨ra, 18, none⟩ (.int .u64 (sg : Nat)) = w4 at *
      obtain ⟨va, vc, hrv, _⟩ := row_form HA4.out.row
      have hrv : rv = .slice va s.rules.length vc := hrv
      have HRV := Lib.hid hrv
      clear hrv
      have r0 : w4.cell? ⟨ra, 19, none⟩ = some (.slice va s.rules.length vc) := by
        have : w4.cell? ⟨ra, 19, none⟩ = some rv := HA4.out.cell rfl
        rw [HRV.out] at this; exact this
      have HZ4 : Hid (w.heap.size ≤ w4.heap.size) := Lib.hid HT4.out.size
      have HS0 : Hid (Since w4 w4.drew) := Lib.hid ((Below.refl _ w4).trans ⟨rfl, rfl, rfl, Nat.le_refl _, fun _ _ => rfl⟩)
      have HC0 : Hid ((fun v : World => v.cell? ⟨ra, 19, none⟩ = some (.slice va s.rules.length vc)) w4.drew) := Lib.hid r0
      refine WG.enter (fun v : World => v.cell? ⟨ra, 19, none⟩ = some (.slice va s.rules.length vc)) 12 (by kernel_rfl) 13 rfl ?_
      refine WG.take 0 (some 28) rfl rfl (by kernel_rfl) (by kernel_rfl) (by kernel_rfl) (by kernel_rfl) (fun _ _ _ h => h) (by rfl) (fun v hv => by go_simp; first | done | with_reducible rfl | (rw [if_neg (by omega)])) HC0.out ?_; simp only [Act.put, List.setIfInBounds_toArray, List.set_cons_zero, List.set_cons_succ]
      refine WG.take 1 (some 29) rfl rfl (by kernel_rfl) (by kernel_rfl) (by kernel_rfl) (by kernel_rfl) (fun _ _ _ h => h) (by rfl) (fun v hv => by go_simp; first | done | with_reducible rfl | (rw [if_neg (by omega)])) HC0.out ?_; simp only [Act.put, List.setIfInBounds_toArray, List.set_cons_zero, List.set_cons_succ]
      refine WG.take 2 (some 30) rfl rfl (by kernel_rfl) (by kernel_rfl) (by kernel_rfl) (by kernel_rfl) (fun _ _ _ h => h) (by rfl) (fun v hv => by go_simp; first | done | with_reducible rfl | (rw [if_neg (by omega)])) HC0.out ?_; simp only [Act.put, List.setIfInBounds_toArray, List.set_cons_zero, List.set_cons_succ]
      refine WG.take 3 (some 31) rfl rfl (by kernel_rfl) (by kernel_rfl) (by kernel_rfl) (by kernel_rfl) (fun _ _ _ h => h) (by rfl) (fun v hv => by go_simp; first | done | with_reducible rfl | (rw [if_neg (by omega)])) HC0.out ?_; simp only [Act.put, List.setIfInBounds_toArray, List.set_cons_zero, List.set_cons_succ]
      refine WG.take 4 (some 32) rfl rfl (by kernel_rfl) (by kernel_rfl) (by kernel_rfl) (by kernel_rfl) (fun _ _ _ h => h) (by rfl) (fun v hv => by have k0 := hv; go_simp; first | done | with_reducible rfl) HC0.out ?_; simp only [Act.put, List.setIfInBounds_toArray, List.set_cons_zero, List.set_cons_succ]
      refine WG.take 6 (some 34) rfl rfl (by kernel_rfl) (by kernel_rfl) (by kernel_rfl) (by kernel_rfl) (fun _ _ _ h => h) (by rfl) (fun v hv => by go_simp; first | done | with_reducible rfl | (rw [if_neg (by omega)])) HC0.out ?_; simp only [Act.put, List.setIfInBounds_toArray, List.set_cons_zero, List.set_cons_succ]
      have HS1 : Hid (Since w4 (w4.drew.alloc (.cells #[] 79))) := Lib.hid (Below.alloc HS0.out (Nat.le_refl _) _)
      refine WG.one 5 (by kernel_rfl) rfl (by rfl) ?_
      go_wp2_with fail
      refine ⟨HS1.out.cell r0, ?_⟩
      obtain ⟨i0, hi, hz0, hz1, hz2⟩ := info_parts ruleInfo
      obtain ⟨j0, hj, hj0, hj1, hj2⟩ := info_parts rulesInfo
      have HRD := Lib.hid (fun W (hb : Since w4 W) => show ∀ ad, a = some ad → ∀ j u, (rowsC rs)[j]? = some u → W.cell? (ad.add j) = some u from fun ad e j u hj => hb.cell (HR4.out ad e j u hj))
      refine WG.one 7 (by kernel_rfl) rfl (by rfl) ?_
      refine oper_append_any _ _ 25 rfl w4.heap.size 79 i0 _ 10 48 Tryz.underlying25 hi hz0 hz1 hz2 rfl (by decide) (.slice (some ⟨w4.heap.size, 0, none⟩) 0 0) 0 [] rfl (World.ownsRow_made w4.drew #[] 0 (Nat.le_refl _) (Nat.zero_le _) rfl) a m k (rowsC rs) rfl (by rw [rowsC_len, HRL.out]) (HRD.out _ HS1.out) HNN.out (rowsC_cell rs) (by unfold maxLen; omega) (by omega) (Below.size HS1.out) ?_
      intro v1 w5 hown hgrow
      rw [Nat.zero_add, List.nil_append] at hown
      have HS5 : Hid (Since w4 w5) := Lib.hid (Below.grown HS1.out hgrow (by have := Below.size HS1.out; exact this) (by intro b hb; simp [Value.ownBlock] at hb; omega))
      refine ⟨fun _ => HS5.out.cell r0, ?_⟩
      simp only [Act.put, List.setIfInBounds_toArray, List.set_cons_zero, List.set_cons_succ]
      have hfr : Hid (∀ b, v1.ownBlock = some b → w4.heap.size ≤ b) := Lib.hid (fun b e => ownsRow_base hown e)
      have hrw1 := World.ownsRow.mono_base hown
      have HRV1 := Lib.hid hrw1
      obtain ⟨ua, uc, rfl, _⟩ := row_form hrw1
      clear hown hgrow hrw1
      have HB6 : Hid (Below w5.heap.size w5 (w5.alloc (.cells #[.slice ua m uc] 25))) := Lib.hid ((Below.refl _ w5).alloc (Nat.le_refl _) _)
      have HS6 := Lib.hid (Since.step HS5.out HB6.out)
      refine WG.one 8 (by kernel_rfl) rfl (by rfl) ?_
      go_wp2_with fail
      refine ⟨HS6.out.cell r0, ?_⟩
      have HA6 := Lib.hid (HA4.out.below HS6.out)
      have HR6 : Hid (Row (w5.alloc (.cells #[.slice ua m uc] 25)) 79 10 (.slice ua m uc) m (rowsC rs)) := Lib.hid (row_of_block HRV1.out (fun b e => HB6.out.block b (row_lt HRV1.out e)))
      refine WG.one 9 (by kernel_rfl) rfl (by rfl) ?_
      refine oper_append _ _ 80 rfl 0 25 j0 (.slice none 0 0) 1 24 Tryz.underlying80 hj hj0 hj1 hj2 rfl (by decide) rv s.rules.length vs (by rw [HRV.out]; rfl) HA6.out.row ⟨w5.heap.size, 0, none⟩ 1 1 [.slice ua m uc] rfl rfl (cells_new w5 [.slice ua m uc] _) (by intro u hu; simp at hu; subst hu; rfl) (by unfold maxLen; omega) (by omega) (Nat.zero_le _) ?_
      intro rv' w6 hown hgrow _ hloc
      obtain ⟨HW, hbx⟩ := HA6.out.grow hown hgrow (by rw [HRL.out]; exact HR6.out) hrin.out
      have HA7 := Lib.hid HW
      have hown' := hown
      obtain ⟨rb, rc', rfl, _⟩ := row_form hown'
      have HLOC := Lib.hid hloc
      have k0 : w6.cell? ⟨ra, 19, none⟩ = some rv := by simp [World.cell?, hbx, refC]
      have k0' : w6.cell? ⟨ra, 19, none⟩ = some (.slice va s.rules.length vc) := by rw [k0, HRV.out]
      have k1 : w6.frozen? ⟨ra, 19, none⟩ = false := by simp [World.frozen?, hbx]
      have HT8 : Hid (Turn F w (w6.setCell ⟨ra, 19, none⟩ (.slice rb (s.rules.length + 1) rc'))) := Lib.hid (((HT4.out.trans (Turn.of_below (F := F) HS6.out) (fun i h => .inl h)).grown hgrow (fun b e => .inl (HA6.out.frv b e))).setCell _ _ (.inl HA6.out.fra))
      have hsz : (w6.setCell ⟨ra, 19, none⟩ (.slice rb (s.rules.length + 1) rc')).heap.size = w6.heap.size := by simp [World.setCell]
      have HX : Hid (∀ i, (F i ∨ (Value.slice rb (s.rules.length + 1) rc').ownBlock = some i ∨ (Value.slice ua m uc).ownBlock = some i) → F i ∨ w.heap.size ≤ i ∧ i < (w6.setCell ⟨ra, 19, none⟩ (.slice rb (s.rules.length + 1) rc')).heap.size) := Lib.hid (fun i hi => by
        rw [hsz]
        have z4 := HZ4.out
        have z6 := Below.size HS6.out
        have zg := hgrow.size
        rcases hi with hi | hi | hi
        · exact .inl hi
        · rcases HLOC.out with e | e
          · rw [e] at hi; exact .inl (HA6.out.frv i hi)
          · have hl := row_lt hown hi
            rw [e] at hi
            cases hi
            exact .inr ⟨by omega, by omega⟩
        · have h1 := hfr.out i hi
          have h2 := row_lt HR6.out hi
          exact .inr ⟨by omega, by omega⟩)
      refine ⟨fun _ => k0', ?_⟩
      simp only [Act.put, List.setIfInBounds_toArray, List.set_cons_zero, List.set_cons_succ]
      clear hown hown' hgrow hloc hbx hsz HW
      refine WG.one 10 (by kernel_rfl) rfl (by rfl) ?_
      go_wp2_with fail
      refine WG.one 11 (by kernel_rfl) rfl (by rfl) ?_
      go_wp2_with fail
      refine WG.one 12 (by kernel_rfl) rfl (by rfl) ?_
      go_wp2_with fail
      refine WG.done (by kernel_rfl) ?_
      generalize w6.setCell ⟨ra, 19, none⟩ (.slice rb (s.rules.length + 1) rc') = w7 at *
      clear k0 k0' k1 r0
      go_wp2_with fail
      refine (HUN.out _).mono ?_
      rintro e w8 ⟨rfl, h8⟩
      have HB8 := Lib.hid h8
      clear h8
      go_wp2_with fail
      go_ret2
      refine ⟨by rw [HA.out] <;> rfl, _, ?_, HT8.out.trans (Turn.of_below (F := F) HB8.out) (fun i h => .inl h), fun i hi => (HX.out i hi).imp id (fun h => ⟨h.1, Nat.lt_of_lt_of_le h.2 HB8.out.size⟩)⟩
      rw [HS.out]
      exact ⟨_, _, _, HA7.out.below HB8.out⟩
    · have hsw : swapOk s.g = false := by simpa using hsw
      have HA := Lib.hid (show swapA s rs = (0, 2) by unfold swapA; rw [if_neg (by rw [hf]; decide), if_neg (by rw [hsw]; decide)])
      have HS := Lib.hid (show swapS s rs = s by unfold swapS; rw [if_neg]; rw [hsw]; rintro ⟨_, h⟩; cases h)
      rw [hsw] at HGS
      clear hR h hf hsw hs hN hR0 hb0 hF0
      generalize swapW s.g = sg at *
      generalize hrl : rs.length = m at *
      go_enter Tryz.func33, Tryz.ntmps33
      go_wp2_with fail
      refine HFI.out.mono ?_
      rintro e w2 ⟨rfl, h2⟩
      have HB2 := Lib.hid h2
      obtain ⟨rv, fv, vs, hA2⟩ := HH.out.below h2
      have g0 : w2.cell? ⟨ra, 18, none⟩ = some (.int .u64 (s.g : Nat)) := hA2.cell rfl
      clear hA2 h2
      go_wp2_with fail
      refine (HGS.out _).mono ?_
      rintro e w3 ⟨rfl, h3⟩
      have HB3 := Lib.hid (below_then HB2.out h3)
      clear h3 g0 HGS HFI HB2
      go_wp2_with fail
      go_ret2
      exact ⟨by rw [HA.out] <;> rfl, by rw [HS.out]; exact .same (HH.out.below HB3.out) HB3.out⟩
  · have HA := Lib.hid (show swapA s rs = (0, fitsF rs) by unfold swapA; rw [if_pos hf])
    have HS := Lib.hid (show swapS s rs = s by unfold swapS; rw [if_neg]; rintro ⟨h, _⟩; exact hf h)
    clear hR h hs hN hR0 hb0 hF0
    generalize fitsF rs = fr at *
    generalize hrl : rs.length = m at *
    go_enter Tryz.func33, Tryz.ntmps33
    go_wp2_with fail
    refine HFI.out.mono ?_
    rintro e w2 ⟨rfl, h2⟩
    have HB2 := Lib.hid h2
    clear h2
    go_wp2_with fail
    go_ret2
    exact ⟨by rw [HA.out] <;> rfl, by rw [HS.out]; exact .same (HH.out.below HB2.out) HB2.out⟩
end Go.Proofs.YtahgapkecabnjaaGreatDoor
