/- The walk of slices.Repeat at one element, and of New. -/
import Derived.Test.YtpmhlcnnbkicaaaMemF
import Derived.Laws.CopyOwn
import Derived.Deep.RegionLaw
import Derived.Deep.OwnRows
import Derived.LoopTactic
import Derived.RegionTactic
namespace Go.Proofs.Ytpmhlcnnbkicaaa
set_option linter.unusedSimpArgs false
set_option linter.unusedVariables false
open Go Go.RowKit

/-- The first k cells of the list are v. -/
def Full (cur : List Value) (c k : Nat) (v : Value) : Prop := cur.length = c ∧ ∀ j, j < k → cur[j]? = some v
theorem full_splice {cur : List Value} {c k m : Nat} {v : Value} (h : Full cur c k v) (hm : k + m ≤ c) : Full (splice cur k (List.replicate m v)) c (k + m) v := by
  obtain ⟨h1, h2⟩ := h
  refine ⟨by rw [length_splice]; exact h1; simp; omega, fun j hj => ?_⟩
  unfold splice
  by_cases hk : j < k
  · rw [List.getElem?_append_left (by simp; omega), List.getElem?_take, if_pos hk]
    exact h2 j hk
  · rw [List.getElem?_append_right (by simp; omega), List.getElem?_append_left (by simp; omega), List.getElem?_replicate, if_pos (by simp; omega)]
theorem full_all {cur : List Value} {c : Nat} {v : Value} (h : Full cur c c v) : cur = List.replicate c v := by
  apply List.ext_getElem?
  intro j
  rw [List.getElem?_replicate]
  split
  · exact h.2 j ‹_›
  · rw [List.getElem?_eq_none]; rw [h.1]; omega

theorem intInfo : (Try.prog.info? 3).map (fun i => (i.zero, i.size, i.bytes)) = some (some (.int .i64 0), 1, 8) := by kernel_rfl

def RepPost (w : World) (c : Nat) (v : Value) (e : Ending) (w' : World) : Prop := ∃ u, e = .returned u ∧ Row w' 3 1 u c (List.replicate c v) ∧ Below w.heap.size w w' ∧ (∀ b, u.ownBlock = some b → w.heap.size ≤ b)

theorem rep_end {w w' : World} {c g : Nat} {v : Value} {cur : List Value} (hf : Full cur c c v) (hg : w'.heap[g]? = some (.cells cur.toArray 3 (0, 0))) (hb : Below w.heap.size w w') (hle : w.heap.size ≤ g) (hc : c ≤ maxLen) :
    RepPost w c v (.returned (.slice (some ⟨g, 0, none⟩) c c)) w' := by
  have := full_all hf
  subst this
  exact ⟨_, rfl, ⟨by simp, .inr ⟨g, c, _, rfl, Nat.zero_le _, hg, Nat.le_refl _, hc, by simp, by simp [List.take_replicate]⟩⟩, hb, fun b e => by cases e; exact hle⟩

theorem wpop_copy {P : Program} {o : Oper} {a : Act} {w : World} {K : Act → World → Prop} {Q : Exit → Act → World → Prop} (dst : Option Tmp) (hdst : o.dst = dst) (hgd : o.guard = none) (d s : Operand) (dT sT : TypeId)
    (ho : o.op = .call { callee := .builtin .copy, args := #[d, s], argTypes := #[dT, sT] }) (elem : TypeId) (hu : P.underlying dT = some (.slice elem)) (hsz : (P.info? elem).map (·.size) = some 1)
    (dp sp : Option Addr) (dLen dCap sLen sCap : Nat) (hd : a.eval d = .slice dp dLen dCap) (hs : a.eval s = .slice sp sLen sCap)
    (g off : Nat) (cur : List Value) (t : TypeId) (hg : w.heap[g]? = some (.cells cur.toArray t (0, 0))) (cs : List Value) (hn : cs.length = Nat.min sLen dLen)
    (hpos : 0 < cs.length → dp = some ⟨g, off, none⟩ ∧ ∃ ad, sp = some ad ∧ ∀ j v, cs[j]? = some v → w.cell? (ad.add j) = some v)
    (hfit : off + cs.length ≤ cur.length) (h1 : ∀ v ∈ cs, v.oneCell' = true) (B : Nat) (w0 : World) (hb : RowKit.Below B w0 w) (hBg : B ≤ g)
    (h : ∀ w', RowKit.Hid (w'.heap[g]? = some (.cells (splice cur off cs).toArray t (0, 0))) → RowKit.Below B w0 w' → K (a.put dst (goInt cs.length)) w') : Oper.wp P o a w K Q := by
  subst hdst
  have := step_copy_splice (ops := #[]) (E := True) (Q := Q) hgd d s dT sT ho elem hu hsz dp sp dLen dCap sLen sCap hd hs g off cur t hg cs hn hpos hfit h1 B w0 hb hBg h
  rwa [if_pos (by simp [Region.wanted, hgd])] at this

theorem rep_src {w : World} {bx : Nat} {v : Value} {c : Nat} (hx : w.cell? ⟨bx, 0, none⟩ = some v) : ∀ j u, (List.replicate (Nat.min 1 c) v)[j]? = some u → w.cell? ((⟨bx, 0, none⟩ : Addr).add j) = some u := by
  intro j u hj
  rw [List.getElem?_replicate] at hj
  split at hj
  · rename_i hlt
    have hm : Nat.min 1 c ≤ 1 := Nat.min_le_left 1 c
    obtain rfl : j = 0 := by omega
    cases hj
    have e : (⟨bx, 0, none⟩ : Addr).add 0 = ⟨bx, 0, none⟩ := by unfold Addr.add; split <;> simp_all
    rw [e]; exact hx
  · cases hj

set_option maxHeartbeats 4000000 in
set_option maxRecDepth 100000 in
theorem repeat_any (bx : Nat) (c : Nat) (w : World) (hc : c ≤ 8192) (hx : w.cell? ⟨bx, 0, none⟩ = some (.int .i64 (-1))) :
    Calls Try.prog 68 #[.slice (some ⟨bx, 0, none⟩) 1 1, .int .i64 c] w (RepPost w c (.int .i64 (-1))) := by
  obtain ⟨i0, hi, hz0, hz1, hz2⟩ := info_parts intInfo
  have hsz : (Try.prog.info? 3).map (·.size) = some 1 := by rw [hi]; simp [hz1]
  have hw1 : IntKind.u64.wrap (c : Int) = c := by simp [IntKind.wrap, IntKind.bits, IntKind.signed]; omega
  have hw2 : IntKind.u64.wrap 1 = 1 := by decide
  have hw3 : IntKind.i64.wrap (c : Int) = c := IntWalk.i64_in _ (by omega)
  go_enter Try.func68, Try.ntmps68
  go_wp2_with fail
  refine (mul_one c _ (by omega) (by omega)).mono ?_
  rintro e w0 ⟨rfl, rfl⟩
  have hmade : (w0.alloc (.cells (madeCells #[.int .i64 0] c) 3)).heap[w0.heap.size]? = some (.cells (madeCells #[.int .i64 0] c).toList.toArray 3 (0, 0)) := by
    rw [Array.toArray_toList]; exact (MapKept.heap_alloc _ _).1
  have hmlen : (madeCells #[Value.int .i64 0] c).toList.length = c := by rw [Array.length_toList]; simp [madeCells]
  have hx' : (w0.alloc (.cells (madeCells #[.int .i64 0] c) 3)).cell? ⟨bx, 0, none⟩ = some (.int .i64 (-1)) := (World.cell?_of_block (w := w0) (Below.heap_alloc w0 _ _ (World.block_lt_of_cell? w0 _ hx))).trans hx
  have HM := Lib.hid hmade
  have HL := Lib.hid hmlen
  have hb0 : Below w0.heap.size w0 (w0.alloc (.cells (madeCells #[.int .i64 0] c) 3)) := (Below.refl _ _).alloc (Nat.le_refl _) _
  have HB0 := Lib.hid hb0
  clear hmade hmlen hb0
  go_wp2_with (first
    | (refine wpList_make_row _ rfl _ _ 95 rfl 3 i0 (.int .i64 0) Try.underlying95 hi hz0 hz1 rfl .i64 .i64 c rfl rfl (by rw [hz2]; omega) (by omega) ?_)
    | (refine wpList_copy_splice rfl (.tmp 31) (.tmp 32) 95 95 rfl 3 Try.underlying95 hsz _ _ _ _ _ _ rfl rfl w0.heap.size 0 _ _ HM.out (List.replicate (Nat.min 1 c) (.int .i64 (-1))) (by simp) (fun h => ⟨rfl, _, rfl, rep_src hx'⟩) (by rw [HL.out, List.length_replicate, Nat.zero_add]; exact Nat.min_le_right 1 c) (fun v hv => by rw [List.eq_of_mem_replicate hv]; rfl) w0.heap.size w0 HB0.out (Nat.le_refl _) ?_; intro w2 hg2 hb2))

  have hf0 : Full (splice (madeCells #[Value.int .i64 0] c).toList 0 (List.replicate (Nat.min 1 c) (.int .i64 (-1)))) c (Nat.min 1 c) (.int .i64 (-1)) := by
    have := full_splice (cur := (madeCells #[Value.int .i64 0] c).toList) (c := c) (k := 0) (m := Nat.min 1 c) (v := .int .i64 (-1)) ⟨HL.out, fun j hj => absurd hj (by omega)⟩ (by rw [Nat.zero_add]; exact Nat.min_le_right 1 c)
    rwa [Nat.zero_add] at this
  generalize hcur0 : splice (madeCells #[Value.int .i64 0] c).toList 0 (List.replicate (Nat.min 1 c) (.int .i64 (-1))) = cur0 at *
  have hm1 : Nat.min 1 c ≤ c := Nat.min_le_right 1 c
  have hm0 : Nat.min 1 c = 0 → c = 0 := fun h => by
    have : min 1 c = 0 := h
    omega
  generalize Nat.min 1 c = k0 at *
  have HF0 := Lib.hid hf0
  have HM0 := Lib.hid hm0
  clear hcur0 hf0 hm0 HM HL HB0 hx hx' hi hz0 hz1 hz2 hw1 hw2 hw3
  go_loopw [8] (fun n wr => ∃ (k : Nat) (cur : List Value), k ≤ c ∧ Hid (k = 0 → c = 0) ∧ n = .int .i64 k ∧ Hid (Full cur c k (.int .i64 (-1))) ∧ Hid (wr.heap[w0.heap.size]? = some (.cells cur.toArray 3 (0, 0))) ∧ Below w0.heap.size w0 wr) (fun n _ => c - (intOf n).toNat)
  case atStart => exact ⟨k0, cur0, hm1, HM0, rfl, HF0, hg2, hb2⟩
  case round =>
    clear hg2 hb2 HF0 HM0 hm1
    obtain ⟨k, cur, hk, HK, rfl, HF, HG, hb⟩ := hrel
    by_cases hlt : k < c
    · have hkp : 0 < k := Nat.pos_of_ne_zero (fun h => by have := HK.out h; omega)
      obtain ⟨m, hm⟩ : ∃ m, m = Nat.min k (c - k) := ⟨_, rfl⟩
      have hm1 : m ≤ k := by rw [hm]; exact Nat.min_le_left _ _
      have hm2 : m ≤ c - k := by rw [hm]; exact Nat.min_le_right _ _
      have hm3 : 0 < m := by rw [hm]; exact Nat.lt_min.2 ⟨hkp, by omega⟩
      have hmc : k + m ≤ c := by omega
      have HMM := Lib.hid hm
      clear hm
      have hwk : IntKind.i64.wrap ((k : Int) + m) = k + m := IntWalk.i64_in _ (by omega)
      have HWK := Lib.hid hwk
      clear hwk
      have hsrc : ∀ j u, (List.replicate m (Value.int .i64 (-1)))[j]? = some u → wr.drew.cell? ((⟨w0.heap.size, 0, none⟩ : Addr).add j) = some u := fun j u hj => by
        rw [List.getElem?_replicate] at hj
        split at hj
        · rename_i hjl
          cases hj
          have hjk : j < k := by omega
          have e : (⟨w0.heap.size, 0, none⟩ : Addr).add j = ⟨w0.heap.size, j, none⟩ := by unfold Addr.add; split <;> simp_all
          rw [e]
          show wr.cell? _ = _
          simp [World.cell?, HG.out]
          have := HF.out.2 j hjk
          simpa using this
        · cases hj
      have HS := Lib.hid hsrc
      clear hsrc
      go_wp2
      refine wp_region_any (by kernel_rfl) ?_
      refine wpAny_take_d 0 (some 38) (.int .i64 k) rfl rfl (by kernel_rfl) (by kernel_rfl) (by kernel_rfl) (fun _ _ _ h => h) (by rfl) (fun w => by go_simp) ?_
      simp only [Act.put, List.setIfInBounds_toArray, List.set_cons_zero, List.set_cons_succ]
      refine wpAny_take_d 1 (some 39) (.slice (some ⟨w0.heap.size, 0, none⟩) c c) rfl rfl (by kernel_rfl) (by kernel_rfl) (by kernel_rfl) (fun _ _ _ h => h) (by rfl) (fun w => by go_simp) ?_
      simp only [Act.put, List.setIfInBounds_toArray, List.set_cons_zero, List.set_cons_succ]
      refine wpAny_take_d 2 (some 40) (.int .i64 k) rfl rfl (by kernel_rfl) (by kernel_rfl) (by kernel_rfl) (fun _ _ _ h => h) (by rfl) (fun w => by go_simp) ?_
      simp only [Act.put, List.setIfInBounds_toArray, List.set_cons_zero, List.set_cons_succ]
      refine wpAny_take_d 3 (some 41) (.slice (some ⟨w0.heap.size, k, none⟩) (c - k) (c - k)) rfl rfl (by kernel_rfl) (by kernel_rfl) (by kernel_rfl) (fun _ _ _ h => h) (by rfl) (fun w => by go_simp; omega) ?_
      simp only [Act.put, List.setIfInBounds_toArray, List.set_cons_zero, List.set_cons_succ]
      refine wpAny_take_d 4 (some 42) (.slice (some ⟨w0.heap.size, 0, none⟩) c c) rfl rfl (by kernel_rfl) (by kernel_rfl) (by kernel_rfl) (fun _ _ _ h => h) (by rfl) (fun w => by go_simp) ?_
      simp only [Act.put, List.setIfInBounds_toArray, List.set_cons_zero, List.set_cons_succ]
      refine wpAny_take_d 5 (some 43) (.int .i64 k) rfl rfl (by kernel_rfl) (by kernel_rfl) (by kernel_rfl) (fun _ _ _ h => h) (by rfl) (fun w => by go_simp) ?_
      simp only [Act.put, List.setIfInBounds_toArray, List.set_cons_zero, List.set_cons_succ]
      refine wpAny_take_d 6 (some 44) (.slice (some ⟨w0.heap.size, 0, none⟩) k c) rfl rfl (by kernel_rfl) (by kernel_rfl) (by kernel_rfl) (fun _ _ _ h => h) (by rfl) (fun w => by go_simp) ?_
      simp only [Act.put, List.setIfInBounds_toArray, List.set_cons_zero, List.set_cons_succ]
      refine wpAny_one 7 (by kernel_rfl) rfl (by rfl) ?_
      refine wpop_copy (cur := cur) (cs := List.replicate m (.int .i64 (-1))) (g := w0.heap.size) (off := k) (B := w0.heap.size) (w0 := w0) (t := 3) (elem := 3) (dT := 95) (sT := 95) (dp := some ⟨w0.heap.size, k, none⟩) (sp := some ⟨w0.heap.size, 0, none⟩) (dLen := c - k) (dCap := c - k) (sLen := k) (sCap := c) (some 45) rfl ?_ (.tmp 41) (.tmp 44) ?_ ?_ ?_ ?_ ?_ ?_ ?_ ?_ ?_ ?_ ?_ ?_ ?_
      · rfl
      · rfl
      · exact Try.underlying95
      · exact hsz
      · rfl
      · rfl
      · exact HG.out
      · rw [List.length_replicate]; exact HMM.out
      · exact fun h => ⟨rfl, _, rfl, HS.out⟩
      · rw [HF.out.1, List.length_replicate]; exact hmc
      · intro v hv; rw [List.eq_of_mem_replicate hv]; rfl
      · exact hb.drew
      · exact Nat.le_refl _
      intro w4 hg4 hb4
      rw [List.length_replicate]
      simp only [Act.put, List.setIfInBounds_toArray, List.set_cons_zero, List.set_cons_succ]
      have hF4 := Lib.hid (full_splice HF.out hmc)
      have hwk := HWK.out
      refine wpAny_take_d 8 (some 46) (.int .i64 ((k : Int) + m)) rfl rfl (by kernel_rfl) (by kernel_rfl) (by kernel_rfl) (fun _ _ _ h => h) (by rfl) (fun w => by go_simp) ?_
      simp only [Act.put, List.setIfInBounds_toArray, List.set_cons_zero, List.set_cons_succ]
      refine wpAny_take_d 9 (some 8) (.int .i64 ((k : Int) + m)) rfl rfl (by kernel_rfl) (by kernel_rfl) (by kernel_rfl) (fun _ _ _ h => h) (by rfl) (fun w => by go_simp) ?_
      simp only [Act.put, List.setIfInBounds_toArray, List.set_cons_zero, List.set_cons_succ]
      refine wpAny_done (by kernel_rfl) ?_ _
      clear hwk
      go_roundw
      case rel => exact ⟨_, _, _, _, _, _, _, _, _, _, _, _, _, _, ⟨k + m, _, hmc, Lib.hid (by omega), by go_num, hF4, hg4, hb4⟩, rfl⟩
      case measure => simp [intOf]; omega
    · obtain rfl : k = c := by omega
      go_wp2
      go_ret
      exact rep_end HF.out HG.out hb (Nat.le_refl _) (by unfold maxLen; omega)
end Go.Proofs.Ytpmhlcnnbkicaaa
