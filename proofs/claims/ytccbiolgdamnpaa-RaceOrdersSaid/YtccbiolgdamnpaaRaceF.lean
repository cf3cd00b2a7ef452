/- The walk of (*state).late: a range over what was touched. -/
import Derived.Test.YtccbiolgdamnpaaRaceE
import Derived.Maps.RangeRun
import Derived.LoopN
import Derived.Laws.IdiomRangeMap
namespace Go.Proofs.Ytccbiolgdamnpaa
set_option linter.unusedSimpArgs false
set_option linter.unusedVariables false
open Go Go.RowKit Go.Maps Go.MapKept
open Go.ChangeMaps (setBlock)

set_option maxHeartbeats 4000000 in
set_option maxRecDepth 100000 in
/-- Nothing was touched. -/
theorem late_nil (B : Blk) (x : Ac) (w : World) :
    Calls Try.prog 20 #[.pointer (some ⟨B.b, 0, none⟩), acV x, .map none] w fun e w' => e = .returned (.bool false) ∧ Below w.heap.size w w' := by
  obtain ⟨th, kd, pl⟩ := x
  unfold acV
  have hr := fun w => run_range_nilMap (P := Try.prog) w 52 _ _ Try.underlying52
  go_enter Try.func20, Try.ntmps20
  go_wp2_with fail
  have hn := fun ty => run_next_nilMap (P := Try.prog) (w.alloc (.cells #[.int .i64 th, .int .i64 kd, .int .i64 pl] 32)) ty 0 0 #[]
  have e1 : (w.alloc (.cells #[.int .i64 th, .int .i64 kd, .int .i64 pl] 32)).heap.size = w.heap.size + 1 := by simp
  rw [e1] at hn
  have HB : Hid (Below w.heap.size w ((w.alloc (.cells #[.int .i64 th, .int .i64 kd, .int .i64 pl] 32)).alloc (.mapIter none 0 #[] 0))) := Lib.hid (((Below.refl _ _).alloc (Nat.le_refl _) _).alloc (by simp) _)
  clear e1 hr
  refine wp_loop_rounds 1 ?_
  rw [rounds_succ]
  go_wp2_with fail
  go_ret
  exact ⟨rfl, HB.out⟩
/-- How many entries the iterator of block r has still to hand out. -/
def leftCnt (es : Array MapEntry) (r : Nat) (w : World) : Nat := match w.heap[r]? with
  | some (.mapIter _ _ seen _) => (leftOf es seen).size
  | _ => 0
/-- Is an entry late, by what the thread has heard of? -/
def lateE (f : Nat → Nat) (t : Nat) (e : MapEntry) : Prop := ∃ u c : Nat, u < 64 ∧ e.key = .int .i64 u ∧ e.val = .int .i64 c ∧ u ≠ t ∧ f u < c
structure Iter (es : Array MapEntry) (bi clock r : Nat) (f : Nat → Nat) (t : Nat) (w1 wr : World) : Prop where
  below : ∀ i, i < r → wr.heap[i]? = w1.heap[i]?
  size : r < wr.heap.size
  os : wr.os = w1.os
  tape : wr.tape = w1.tape
  output : wr.output = w1.output
  it : ∃ seen c0, wr.heap[r]? = some (.mapIter (some bi) clock seen c0) ∧ clock ≤ c0 ∧ ∀ e ∈ es.toList, seen.contains e.born = true → ¬ lateE f t e

theorem Iter.world {es : Array MapEntry} {bi clock t : Nat} {f : Nat → Nat} {w w1 wr : World} (h : Iter es bi clock (w.heap.size + 1) f t w1 wr) (hb : Below w.heap.size w w1) : Below w.heap.size w wr :=
  ⟨h.os.trans hb.os, h.tape.trans hb.tape, h.output.trans hb.output, by have := h.size; omega, fun i hi => (h.below i (by omega)).trans (hb.block i hi)⟩
theorem Iter.drewN {es : Array MapEntry} {bi clock r t : Nat} {f : Nat → Nat} {w1 wr : World} (h : Iter es bi clock r f t w1 wr) (n : Nat) : Iter es bi clock r f t w1 (wr.drewN n) := ⟨h.below, h.size, h.os, h.tape, h.output, h.it⟩
theorem Iter.next {es : Array MapEntry} {bi clock r t : Nat} {f : Nat → Nat} {w1 wr w2 : World} (h : Iter es bi clock r f t w1 wr) (hw : w2 = wr ∨ w2 = wr.drew) {seen : Array Nat} (hs : ∀ e ∈ es.toList, seen.contains e.born = true → ¬ lateE f t e) {e : MapEntry} (he : e ∈ es.toList) (hnd : (es.toList.map (·.born)).Nodup) (hl : ¬ lateE f t e) :
    Iter es bi clock r f t w1 (setBlock w2 r (.mapIter (some bi) clock (seen.push e.born) clock)) := by
  have hh : w2.heap = wr.heap := by rcases hw with rfl | rfl <;> rfl
  refine ⟨fun i hi => ?_, by simp [setBlock, hh]; exact h.size, ?_, ?_, ?_, seen.push e.born, clock, ?_, Nat.le_refl _, fun e' he' hc => ?_⟩
  · rw [set_other _ _ _ (by omega), hh]; exact h.below i hi
  · rcases hw with rfl | rfl <;> exact h.os
  · rcases hw with rfl | rfl <;> exact h.tape
  · rcases hw with rfl | rfl <;> exact h.output
  · exact set_heap_same (by rw [hh]; exact h.size)
  · by_cases hb : e'.born = e.born
    · have : e' = e := born_inj hnd he' he hb
      subst this; exact hl
    · refine hs e' he' ?_
      simp only [Array.contains_push, Bool.or_eq_true, beq_iff_eq] at hc
      rcases hc with hc | hc
      · exact hc
      · exact absurd hc hb
theorem leftCnt_push {es : Array MapEntry} {r bi clock c1 : Nat} {w : World} {seen : Array Nat} (h : w.heap[r]? = some (.mapIter (some bi) clock seen c1)) : leftCnt es r w = (leftOf es seen).size := by unfold leftCnt; rw [h]

set_option maxHeartbeats 4000000 in
set_option maxRecDepth 100000 in
theorem late_any (B : Blk) (S : VS) (x : Ac) (t bi : Nat) (g : Nat → Option Nat) (w : World) (hR : Rep w B S) (htm : TM w bi g) (ht : x.th = t) (ht64 : t < 64) :
    Calls Try.prog 20 #[.pointer (some ⟨B.b, 0, none⟩), acV x, .map (some bi)] w fun e w' => ∃ b, e = .returned (.bool b) ∧ (b = true ↔ ∃ u c, u < 64 ∧ u ≠ t ∧ g u = some c ∧ S.V t u < c) ∧ Below w.heap.size w w' := by
  obtain ⟨th, kd, pl⟩ := x
  simp only at ht
  subst ht
  unfold acV
  obtain ⟨f, ⟨es, clock, hes, hM⟩, hk, hg⟩ := htm
  have hbi : bi < w.heap.size := (Array.getElem?_eq_some_iff.1 hes).1
  have hes1 : (w.alloc (.cells #[.int .i64 (t : Int), .int .i64 kd, .int .i64 pl] 32)).heap[bi]? = some (.map es clock) := (Below.heap_alloc w _ bi hbi).trans hes
  have hr := run_range_map (P := Try.prog) (w.alloc (.cells #[.int .i64 (t : Int), .int .i64 kd, .int .i64 pl] 32)) 52 _ _ bi es clock Try.underlying52 hes1
  go_enter Try.func20, Try.ntmps20
  go_wp2_with fail
  have e1 : (w.alloc (.cells #[.int .i64 (t : Int), .int .i64 kd, .int .i64 pl] 32)).heap.size = w.heap.size + 1 := by simp
  have a0 : (w.alloc (.cells #[.int .i64 (t : Int), .int .i64 kd, .int .i64 pl] 32)).cell? ⟨w.heap.size, 0, none⟩ = some (.int .i64 t) := by simp
  have hB1 : Below w.heap.size w (w.alloc (.cells #[.int .i64 (t : Int), .int .i64 kd, .int .i64 pl] 32)) := (Below.refl _ _).alloc (Nat.le_refl _) _
  have hR1 := hR.below hB1
  generalize w.alloc (.cells #[.int .i64 (t : Int), .int .i64 kd, .int .i64 pl] 32) = w1 at *
  have hstart : Iter es bi clock (w.heap.size + 1) (S.V t) t w1 (w1.alloc (.mapIter (some bi) clock #[] clock)) := by
    rw [← e1]
    exact ⟨fun i hi => Below.heap_alloc _ _ _ hi, by simp, rfl, rfl, rfl, #[], clock, (MapKept.heap_alloc w1 _).1, Nat.le_refl _, fun e _ h => by simp at h⟩
  have HST := Lib.hid hstart
  have HR1 := Lib.hid hR1
  have HB1 := Lib.hid hB1
  have HM := Lib.hid hM
  have HK := Lib.hid hk
  have HG := Lib.hid hg
  have HE1 := Lib.hid e1
  clear hstart hR1 hR hB1 hM hk hg e1 hr hes
  go_loopw [7] (fun _ wr => Hid (Iter es bi clock (w.heap.size + 1) (S.V t) t w1 wr)) (fun _ wr => leftCnt es (w.heap.size + 1) wr)
  case atStart => exact HST
  case round =>
    obtain ⟨seen, c0, hit, hc0, hseen⟩ := hrel.out.it
    have hbm : wr.heap[bi]? = some (.map es clock) := (hrel.out.below bi (by omega)).trans hes1
    rcases run_next_at (P := Try.prog) wr 0 (w.heap.size + 1) bi clock c0 seen es clock hit hbm HM.out.stamped.1 hc0 with ⟨hz, hn⟩ | ⟨e, he, w2, hw2, hn⟩
    · go_wp2_with fail
      go_ret
      refine ⟨false, rfl, ⟨fun h => (by cases h), fun ⟨u, c, hu, hut, hgc, hlt⟩ => ?_⟩, hrel.out.world HB1.out⟩
      have hfu := HG.out u hu
      rw [hgc] at hfu
      obtain ⟨e, he, hek, hev⟩ := HM.out.only _ _ hfu
      refine absurd ⟨u, c, hu, hek, hev, hut, hlt⟩ (hseen e he ?_)
      rw [← Bool.not_eq_false]
      intro hns
      have hmem : e ∈ leftOf es seen := by unfold leftOf; rw [Array.mem_filter]; exact ⟨by simpa using he, by rw [hns]; rfl⟩
      rw [Array.eq_empty_of_size_eq_zero hz] at hmem
      simp at hmem
    · obtain ⟨hee, hns⟩ := mem_left he
      obtain ⟨u, hu, hkey⟩ := HK.out _ _ (HM.out.has e hee)
      obtain ⟨c, hgc, hval⟩ : ∃ c, g u = some c ∧ e.val = .int .i64 (c : Nat) := by
        have h1 := HM.out.has e hee
        rw [hkey, HG.out u hu] at h1
        cases hgu : g u with
        | none => rw [hgu] at h1; cases h1
        | some c => rw [hgu] at h1; exact ⟨c, rfl, (Option.some.inj h1).symm⟩
      have hnx : ¬ lateE (S.V t) t e → Hid (Iter es bi clock (w.heap.size + 1) (S.V t) t w1 (setBlock w2 (w.heap.size + 1) (.mapIter (some bi) clock (seen.push e.born) clock))) := fun hl => Lib.hid (hrel.out.next hw2 hseen hee HM.out.stamped.2.1 hl)
      have hh : w2.heap = wr.heap := by rcases hw2 with rfl | rfl <;> rfl
      have hw3 : ∀ i, i < w.heap.size + 1 → (setBlock w2 (w.heap.size + 1) (.mapIter (some bi) clock (seen.push e.born) clock)).heap[i]? = w1.heap[i]? := fun i hi => (set_other _ _ _ (by omega)).trans (by rw [hh]; exact hrel.out.below i hi)
      have hit3 : (setBlock w2 (w.heap.size + 1) (.mapIter (some bi) clock (seen.push e.born) clock)).heap[w.heap.size + 1]? = some (.mapIter (some bi) clock (seen.push e.born) clock) := set_heap_same (by rw [hh]; exact hrel.out.size)
      have hen := run_entry_at (P := Try.prog) _ _ bi clock seen es clock e hit3 ((hw3 bi (by omega)).trans hes1) hee HM.out.stamped.2.1
      have hsh : Hid ((leftOf es (seen.push e.born)).size < leftCnt es (w.heap.size + 1) wr) := Lib.hid (by rw [leftCnt_push hit]; exact left_shrinks es seen e he)
      have hct : Hid (leftCnt es (w.heap.size + 1) (setBlock w2 (w.heap.size + 1) (.mapIter (some bi) clock (seen.push e.born) clock)) = (leftOf es (seen.push e.born)).size) := Lib.hid (leftCnt_push hit3)
      have hbel : Hid (Below w.heap.size w (setBlock w2 (w.heap.size + 1) (.mapIter (some bi) clock (seen.push e.born) clock))) := Lib.hid (by
        have h1 := hrel.out.world HB1.out
        have h2 : Below w.heap.size w w2 := by
          rcases hw2 with rfl | rfl
          · exact h1
          · exact h1.drew
        exact ⟨h2.os, h2.tape, h2.output, by simpa [setBlock] using h2.size, fun i hi => (set_other _ _ _ (by omega)).trans (h2.block i hi)⟩)
      have d0 : (setBlock w2 (w.heap.size + 1) (.mapIter (some bi) clock (seen.push e.born) clock)).cell? ⟨w.heap.size, 0, none⟩ = some (.int .i64 t) := (World.cell?_of_block (w := w1) (hw3 _ (by show w.heap.size < _; omega))).trans a0
      have c0 : (setBlock w2 (w.heap.size + 1) (.mapIter (some bi) clock (seen.push e.born) clock)).cell? ⟨B.b, t * 64 + u, none⟩ = some (.int .i64 (S.V t u : Nat)) := (World.cell?_of_block (w := w1) (hw3 _ (by have := HR1.out.lt B.b (.inl rfl); rw [HE1.out] at this; exact this))).trans ((HR1.out.v t ht64) u hu).1
      rw [hkey, hval] at hn hen
      have hu0 : (0 : Int) ≤ (u : Int) := by omega
      have hu1 : (u : Int) < 64 := by omega
      have ht0 : (0 : Int) ≤ (t : Int) := by omega
      have ht1 : (t : Int) < 64 := by omega
      have HHK := Lib.hid hkey
      have HHV := Lib.hid hval
      have HGC := Lib.hid hgc
      clear hw3 hit3 hit hseen hc0 hbm hrel hh hw2 he hns hee hgc hkey hval hes1 a0 HST
      generalize hW3 : setBlock w2 (w.heap.size + 1) (.mapIter (some bi) clock (seen.push e.born) clock) = w3 at *
      clear hW3
      by_cases hut : u = t
      · have hq : ((u : Int) != (t : Int)) = false := by subst hut; simp
        have HN := hnx (fun ⟨u', c', _, h1, _, h3, _⟩ => h3 (by rw [HHK.out] at h1; injection h1 with _ h1; omega))
        clear hnx
        go_wp2_with fail
        refine WQ.enterC (Drew w3) ⟨1, rfl⟩ (by kernel_rfl) (by kernel_rfl) ?_
        refine WQ.val (by rfl) (fun v hv => by have k0 := hv.cell d0; go_simp; first | done | with_reducible rfl | (rw [if_neg (by omega)])) ?_; simp only [Act.put, List.setIfInBounds_toArray, List.set_cons_zero, List.set_cons_succ]
        refine WQ.val (by rfl) (fun v hv => by have k0 := hv.cell d0; go_simp; first | done | with_reducible rfl | (rw [if_neg (by omega)])) ?_; simp only [Act.put, List.setIfInBounds_toArray, List.set_cons_zero, List.set_cons_succ]
        refine WQ.val (by rfl) (fun v hv => by have k0 := hv.cell d0; go_simp; first | done | with_reducible rfl | (rw [if_neg (by omega)])) ?_; simp only [Act.put, List.setIfInBounds_toArray, List.set_cons_zero, List.set_cons_succ]
        refine WQ.val (by rfl) (fun v hv => by have k0 := hv.cell d0; go_simp; first | done | with_reducible rfl | (rw [if_neg (by omega)])) ?_; simp only [Act.put, List.setIfInBounds_toArray, List.set_cons_zero, List.set_cons_succ]
        refine WQ.val (by rfl) (fun v hv => by have k0 := hv.cell d0; go_simp; first | done | with_reducible rfl | (rw [if_neg (by omega)])) ?_; simp only [Act.put, List.setIfInBounds_toArray, List.set_cons_zero, List.set_cons_succ]
        refine WQ.off (by rfl) ?_; simp only [Act.put, List.setIfInBounds_toArray, List.set_cons_zero, List.set_cons_succ]
        refine WQ.off (by rfl) ?_; simp only [Act.put, List.setIfInBounds_toArray, List.set_cons_zero, List.set_cons_succ]
        refine WQ.off (by rfl) ?_; simp only [Act.put, List.setIfInBounds_toArray, List.set_cons_zero, List.set_cons_succ]
        refine WQ.off (by rfl) ?_; simp only [Act.put, List.setIfInBounds_toArray, List.set_cons_zero, List.set_cons_succ]
        refine WQ.off (by rfl) ?_; simp only [Act.put, List.setIfInBounds_toArray, List.set_cons_zero, List.set_cons_succ]
        refine WQ.off (by rfl) ?_; simp only [Act.put, List.setIfInBounds_toArray, List.set_cons_zero, List.set_cons_succ]
        refine WQ.off (by rfl) ?_; simp only [Act.put, List.setIfInBounds_toArray, List.set_cons_zero, List.set_cons_succ]
        refine WQ.off (by rfl) ?_; simp only [Act.put, List.setIfInBounds_toArray, List.set_cons_zero, List.set_cons_succ]
        refine WQ.off (by rfl) ?_; simp only [Act.put, List.setIfInBounds_toArray, List.set_cons_zero, List.set_cons_succ]
        refine WQ.off (by rfl) ?_; simp only [Act.put, List.setIfInBounds_toArray, List.set_cons_zero, List.set_cons_succ]
        refine WQ.off (by rfl) ?_; simp only [Act.put, List.setIfInBounds_toArray, List.set_cons_zero, List.set_cons_succ]
        refine WQ.val (by rfl) (fun v hv => by have k0 := hv.cell d0; go_simp; first | done | with_reducible rfl | (rw [if_neg (by omega)])) ?_; simp only [Act.put, List.setIfInBounds_toArray, List.set_cons_zero, List.set_cons_succ]
        refine WQ.done ?_
        intro w4 hw4
        obtain ⟨n4, rfl⟩ := hw4
        have HN4 : Hid (Iter es bi clock (w.heap.size + 1) (S.V t) t w1 (w3.drewN n4)) := Lib.hid (HN.out.drewN n4)
        go_wp2_with fail
        go_roundw
        case rel => exact HN4
        case measure => show leftCnt es (w.heap.size + 1) w3 < _; rw [hct.out]; exact hsh.out
      · have hq : ((u : Int) != (t : Int)) = true := bne_iff_ne.2 (by omega)
        by_cases hl : S.V t u < c
        · have hq2 : decide (((S.V t u : Nat) : Int) < (c : Int)) = true := decide_eq_true (by omega)
          have HL := Lib.hid hl
          generalize hvq : S.V t u = q at *
          have HVQ := Lib.hid hvq
          clear hvq
          clear hnx hl
          go_wp2_with fail
          refine WQ.enterC (Drew w3) ⟨1, rfl⟩ (by kernel_rfl) (by kernel_rfl) ?_
          refine WQ.val (by rfl) (fun v hv => by have k0 := hv.cell d0; have k1 := hv.cell c0; go_simp; first | done | with_reducible rfl | (rw [if_neg (by omega)])) ?_; simp only [Act.put, List.setIfInBounds_toArray, List.set_cons_zero, List.set_cons_succ]
          refine WQ.val (by rfl) (fun v hv => by have k0 := hv.cell d0; have k1 := hv.cell c0; go_simp; first | done | with_reducible rfl | (rw [if_neg (by omega)])) ?_; simp only [Act.put, List.setIfInBounds_toArray, List.set_cons_zero, List.set_cons_succ]
          refine WQ.val (by rfl) (fun v hv => by have k0 := hv.cell d0; have k1 := hv.cell c0; go_simp; first | done | with_reducible rfl | (rw [if_neg (by omega)])) ?_; simp only [Act.put, List.setIfInBounds_toArray, List.set_cons_zero, List.set_cons_succ]
          refine WQ.val (by rfl) (fun v hv => by have k0 := hv.cell d0; have k1 := hv.cell c0; go_simp; first | done | with_reducible rfl | (rw [if_neg (by omega)])) ?_; simp only [Act.put, List.setIfInBounds_toArray, List.set_cons_zero, List.set_cons_succ]
          refine WQ.val (by rfl) (fun v hv => by have k0 := hv.cell d0; have k1 := hv.cell c0; go_simp; first | done | with_reducible rfl | (rw [if_neg (by omega)])) ?_; simp only [Act.put, List.setIfInBounds_toArray, List.set_cons_zero, List.set_cons_succ]
          refine WQ.val (by rfl) (fun v hv => by have k0 := hv.cell d0; have k1 := hv.cell c0; go_simp; first | done | with_reducible rfl | (rw [if_neg (by omega)])) ?_; simp only [Act.put, List.setIfInBounds_toArray, List.set_cons_zero, List.set_cons_succ]
          refine WQ.val (by rfl) (fun v hv => by have k0 := hv.cell d0; have k1 := hv.cell c0; go_simp; first | done | with_reducible rfl | (rw [if_neg (by omega)])) ?_; simp only [Act.put, List.setIfInBounds_toArray, List.set_cons_zero, List.set_cons_succ]
          refine WQ.val (by rfl) (fun v hv => by have k0 := hv.cell d0; have k1 := hv.cell c0; go_simp; first | done | with_reducible rfl | (rw [if_neg (by omega)])) ?_; simp only [Act.put, List.setIfInBounds_toArray, List.set_cons_zero, List.set_cons_succ]
          refine WQ.val (by rfl) (fun v hv => by have k0 := hv.cell d0; have k1 := hv.cell c0; go_simp; first | done | with_reducible rfl | (rw [if_neg (by omega)])) ?_; simp only [Act.put, List.setIfInBounds_toArray, List.set_cons_zero, List.set_cons_succ]
          refine WQ.val (by rfl) (fun v hv => by have k0 := hv.cell d0; have k1 := hv.cell c0; go_simp; first | done | with_reducible rfl | (rw [if_neg (by omega)])) ?_; simp only [Act.put, List.setIfInBounds_toArray, List.set_cons_zero, List.set_cons_succ]
          refine WQ.val (by rfl) (fun v hv => by have k0 := hv.cell d0; have k1 := hv.cell c0; go_simp; first | done | with_reducible rfl | (rw [if_neg (by omega)])) ?_; simp only [Act.put, List.setIfInBounds_toArray, List.set_cons_zero, List.set_cons_succ]
          refine WQ.val (by rfl) (fun v hv => by have k0 := hv.cell d0; have k1 := hv.cell c0; go_simp; first | done | with_reducible rfl | (rw [if_neg (by omega)])) ?_; simp only [Act.put, List.setIfInBounds_toArray, List.set_cons_zero, List.set_cons_succ]
          refine WQ.val (by rfl) (fun v hv => by have k0 := hv.cell d0; have k1 := hv.cell c0; go_simp; first | done | with_reducible rfl | (rw [if_neg (by omega)])) ?_; simp only [Act.put, List.setIfInBounds_toArray, List.set_cons_zero, List.set_cons_succ]
          refine WQ.val (by rfl) (fun v hv => by have k0 := hv.cell d0; have k1 := hv.cell c0; go_simp; first | done | with_reducible rfl | (rw [if_neg (by omega)])) ?_; simp only [Act.put, List.setIfInBounds_toArray, List.set_cons_zero, List.set_cons_succ]
          refine WQ.val (by rfl) (fun v hv => by have k0 := hv.cell d0; have k1 := hv.cell c0; go_simp; first | done | with_reducible rfl | (rw [if_neg (by omega)])) ?_; simp only [Act.put, List.setIfInBounds_toArray, List.set_cons_zero, List.set_cons_succ]
          refine WQ.val (by rfl) (fun v hv => by have k0 := hv.cell d0; have k1 := hv.cell c0; go_simp; first | done | with_reducible rfl | (rw [if_neg (by omega)])) ?_; simp only [Act.put, List.setIfInBounds_toArray, List.set_cons_zero, List.set_cons_succ]
          refine WQ.val (by rfl) (fun v hv => by have k0 := hv.cell d0; have k1 := hv.cell c0; go_simp; first | done | with_reducible rfl | (rw [if_neg (by omega)])) ?_; simp only [Act.put, List.setIfInBounds_toArray, List.set_cons_zero, List.set_cons_succ]
          refine WQ.done ?_
          intro w4 hw4
          obtain ⟨n4, rfl⟩ := hw4
          go_wp2_with fail
          go_ret
          exact ⟨true, rfl, ⟨fun _ => ⟨u, c, hu, hut, HGC.out, by rw [HVQ.out]; exact HL.out⟩, fun _ => rfl⟩, ⟨hbel.out.os, hbel.out.tape, hbel.out.output, hbel.out.size, hbel.out.block⟩⟩
        · have hq2 : decide (((S.V t u : Nat) : Int) < (c : Int)) = false := decide_eq_false (by omega)
          have HN := hnx (fun ⟨u', c', _, h1, h2, _, h4⟩ => hl (by
            rw [HHK.out] at h1; injection h1 with _ h1
            rw [HHV.out] at h2; injection h2 with _ h2
            have e1 : u = u' := by omega
            have e2 : c = c' := by omega
            subst e1 e2; exact h4))
          clear hnx
          have hl' : ¬ (((S.V t u : Nat) : Int) < (c : Int)) := by omega
          clear hl
          generalize S.V t u = q at *
          go_wp2_with fail
          refine WQ.enterC (Drew w3) ⟨1, rfl⟩ (by kernel_rfl) (by kernel_rfl) ?_
          refine WQ.val (by rfl) (fun v hv => by have k0 := hv.cell d0; have k1 := hv.cell c0; go_simp; first | done | with_reducible rfl | (rw [if_neg (by omega)])) ?_; simp only [Act.put, List.setIfInBounds_toArray, List.set_cons_zero, List.set_cons_succ]
          refine WQ.val (by rfl) (fun v hv => by have k0 := hv.cell d0; have k1 := hv.cell c0; go_simp; first | done | with_reducible rfl | (rw [if_neg (by omega)])) ?_; simp only [Act.put, List.setIfInBounds_toArray, List.set_cons_zero, List.set_cons_succ]
          refine WQ.val (by rfl) (fun v hv => by have k0 := hv.cell d0; have k1 := hv.cell c0; go_simp; first | done | with_reducible rfl | (rw [if_neg (by omega)])) ?_; simp only [Act.put, List.setIfInBounds_toArray, List.set_cons_zero, List.set_cons_succ]
          refine WQ.val (by rfl) (fun v hv => by have k0 := hv.cell d0; have k1 := hv.cell c0; go_simp; first | done | with_reducible rfl | (rw [if_neg (by omega)])) ?_; simp only [Act.put, List.setIfInBounds_toArray, List.set_cons_zero, List.set_cons_succ]
          refine WQ.val (by rfl) (fun v hv => by have k0 := hv.cell d0; have k1 := hv.cell c0; go_simp; first | done | with_reducible rfl | (rw [if_neg (by omega)])) ?_; simp only [Act.put, List.setIfInBounds_toArray, List.set_cons_zero, List.set_cons_succ]
          refine WQ.val (by rfl) (fun v hv => by have k0 := hv.cell d0; have k1 := hv.cell c0; go_simp; first | done | with_reducible rfl | (rw [if_neg (by omega)])) ?_; simp only [Act.put, List.setIfInBounds_toArray, List.set_cons_zero, List.set_cons_succ]
          refine WQ.val (by rfl) (fun v hv => by have k0 := hv.cell d0; have k1 := hv.cell c0; go_simp; first | done | with_reducible rfl | (rw [if_neg (by omega)])) ?_; simp only [Act.put, List.setIfInBounds_toArray, List.set_cons_zero, List.set_cons_succ]
          refine WQ.val (by rfl) (fun v hv => by have k0 := hv.cell d0; have k1 := hv.cell c0; go_simp; first | done | with_reducible rfl | (rw [if_neg (by omega)])) ?_; simp only [Act.put, List.setIfInBounds_toArray, List.set_cons_zero, List.set_cons_succ]
          refine WQ.val (by rfl) (fun v hv => by have k0 := hv.cell d0; have k1 := hv.cell c0; go_simp; first | done | with_reducible rfl | (rw [if_neg (by omega)])) ?_; simp only [Act.put, List.setIfInBounds_toArray, List.set_cons_zero, List.set_cons_succ]
          refine WQ.val (by rfl) (fun v hv => by have k0 := hv.cell d0; have k1 := hv.cell c0; go_simp; first | done | with_reducible rfl | (rw [if_neg (by omega)])) ?_; simp only [Act.put, List.setIfInBounds_toArray, List.set_cons_zero, List.set_cons_succ]
          refine WQ.val (by rfl) (fun v hv => by have k0 := hv.cell d0; have k1 := hv.cell c0; go_simp; first | done | with_reducible rfl | (rw [if_neg (by omega)])) ?_; simp only [Act.put, List.setIfInBounds_toArray, List.set_cons_zero, List.set_cons_succ]
          refine WQ.val (by rfl) (fun v hv => by have k0 := hv.cell d0; have k1 := hv.cell c0; go_simp; first | done | with_reducible rfl | (rw [if_neg (by omega)])) ?_; simp only [Act.put, List.setIfInBounds_toArray, List.set_cons_zero, List.set_cons_succ]
          refine WQ.val (by rfl) (fun v hv => by have k0 := hv.cell d0; have k1 := hv.cell c0; go_simp; first | done | with_reducible rfl | (rw [if_neg (by omega)])) ?_; simp only [Act.put, List.setIfInBounds_toArray, List.set_cons_zero, List.set_cons_succ]
          refine WQ.val (by rfl) (fun v hv => by have k0 := hv.cell d0; have k1 := hv.cell c0; go_simp; first | done | with_reducible rfl | (rw [if_neg (by omega)])) ?_; simp only [Act.put, List.setIfInBounds_toArray, List.set_cons_zero, List.set_cons_succ]
          refine WQ.val (by rfl) (fun v hv => by have k0 := hv.cell d0; have k1 := hv.cell c0; go_simp; first | done | with_reducible rfl | (rw [if_neg (by omega)])) ?_; simp only [Act.put, List.setIfInBounds_toArray, List.set_cons_zero, List.set_cons_succ]
          refine WQ.val (by rfl) (fun v hv => by have k0 := hv.cell d0; have k1 := hv.cell c0; go_simp; first | done | with_reducible rfl | (rw [if_neg (by omega)])) ?_; simp only [Act.put, List.setIfInBounds_toArray, List.set_cons_zero, List.set_cons_succ]
          refine WQ.val (by rfl) (fun v hv => by have k0 := hv.cell d0; have k1 := hv.cell c0; go_simp; first | done | with_reducible rfl | (rw [if_neg (by omega)])) ?_; simp only [Act.put, List.setIfInBounds_toArray, List.set_cons_zero, List.set_cons_succ]
          refine WQ.done ?_
          intro w4 hw4
          obtain ⟨n4, rfl⟩ := hw4
          have HN4 : Hid (Iter es bi clock (w.heap.size + 1) (S.V t) t w1 (w3.drewN n4)) := Lib.hid (HN.out.drewN n4)
          go_wp2_with fail
          go_roundw
          case rel => exact HN4
          case measure => show leftCnt es (w.heap.size + 1) w3 < _; rw [hct.out]; exact hsh.out
end Go.Proofs.Ytccbiolgdamnpaa
