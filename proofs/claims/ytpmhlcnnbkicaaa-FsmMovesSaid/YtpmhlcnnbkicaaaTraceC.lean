/- The walk of trace.moves. -/
import Derived.Test.YtpmhlcnnbkicaaaTraceB
import Derived.LoopTactic
import Derived.Lib.Hide
import Derived.Deep.LoopGhost
namespace Go.Proofs.Ytpmhlcnnbkicaaa
set_option linter.unusedSimpArgs false
set_option linter.unusedVariables false
open Go Go.RowKit Go.Maps Go.MapKept
open Go.ChangeMaps (setBlock)

/-- What else stands while the loops go. -/
def Rest (w : World) (b0 : Nat) (wr : World) : Prop := Below b0 w wr ∧ wr.heap.size = b0 + 2 ∧ wr.cell? ⟨b0 + 1, 0, none⟩ = some (.bool false) ∧ wr.cell? ⟨b0 + 1, 1, none⟩ = some (.bool true)
theorem Rest.set {w : World} {b0 : Nat} {wr : World} (h : Rest w b0 wr) (o : Obj) : Rest w b0 (setBlock wr b0 o) := by
  obtain ⟨h1, h2, h3, h4⟩ := h
  have hO := OnlyB.set wr b0 o
  exact ⟨h1.trans (hO.below (Nat.le_refl _)), hO.size.trans h2, (World.cell?_of_block (w := wr) (hO.other _ (by show b0 + 1 ≠ b0; omega))).trans h3, (World.cell?_of_block (w := wr) (hO.other _ (by show b0 + 1 ≠ b0; omega))).trans h4⟩

def MovesPost (w : World) (e : Ending) (w' : World) : Prop := ∃ b, e = .returned (.map (some b)) ∧ HoldsT w' b (stage 2) ∧ Below w.heap.size w w'

set_option maxHeartbeats 4000000 in
set_option maxRecDepth 100000 in
theorem moves_any (w : World) : Calls Try.prog 58 #[] w (MovesPost w) := by
  have hmm := @run_makeMap Try.prog
  go_enter Try.func58, Try.ntmps58
  go_wp2
  refine wp_region_any (by kernel_rfl) ?_
  refine wpAny_take (i := 1) (v := mkey 1 false 2) rfl (by kernel_rfl) (by kernel_rfl) (by kernel_rfl) (fun _ _ _ h => h) (Or.inl ⟨by rfl, fun w => by go_simp; rfl⟩) ?_
  refine wpAny_take (i := 3) (v := mkey 1 true 3) rfl (by kernel_rfl) (by kernel_rfl) (by kernel_rfl) (fun _ _ _ h => h) (Or.inl ⟨by rfl, fun w => by go_simp; rfl⟩) ?_
  refine wpAny_take (i := 5) (v := mkey 2 false 2) rfl (by kernel_rfl) (by kernel_rfl) (by kernel_rfl) (fun _ _ _ h => h) (Or.inl ⟨by rfl, fun w => by go_simp; rfl⟩) ?_
  refine wpAny_take (i := 7) (v := mkey 2 true 3) rfl (by kernel_rfl) (by kernel_rfl) (by kernel_rfl) (fun _ _ _ h => h) (Or.inl ⟨by rfl, fun w => by go_simp; rfl⟩) ?_
  refine wpAny_take (i := 9) (v := mkey 2 false 1) rfl (by kernel_rfl) (by kernel_rfl) (by kernel_rfl) (fun _ _ _ h => h) (Or.inl ⟨by rfl, fun w => by go_simp; rfl⟩) ?_
  refine wpAny_take (i := 11) (v := mkey 2 false 4) rfl (by kernel_rfl) (by kernel_rfl) (by kernel_rfl) (fun _ _ _ h => h) (Or.inl ⟨by rfl, fun w => by go_simp; rfl⟩) ?_
  refine wpAny_take (i := 13) (v := mkey 3 false 4) rfl (by kernel_rfl) (by kernel_rfl) (by kernel_rfl) (fun _ _ _ h => h) (Or.inl ⟨by rfl, fun w => by go_simp; rfl⟩) ?_
  refine wpAny_take (i := 15) (v := mkey 3 true 4) rfl (by kernel_rfl) (by kernel_rfl) (by kernel_rfl) (fun _ _ _ h => h) (Or.inl ⟨by rfl, fun w => by go_simp; rfl⟩) ?_
  refine wpAny_take (i := 17) (v := mkey 4 false 4) rfl (by kernel_rfl) (by kernel_rfl) (by kernel_rfl) (fun _ _ _ h => h) (Or.inl ⟨by rfl, fun w => by go_simp; rfl⟩) ?_
  refine wpAny_take (i := 19) (v := mkey 4 true 4) rfl (by kernel_rfl) (by kernel_rfl) (by kernel_rfl) (fun _ _ _ h => h) (Or.inl ⟨by rfl, fun w => by go_simp; rfl⟩) ?_
  refine wpAny_take (i := 21) (v := mkey 5 false 4) rfl (by kernel_rfl) (by kernel_rfl) (by kernel_rfl) (fun _ _ _ h => h) (Or.inl ⟨by rfl, fun w => by go_simp; rfl⟩) ?_
  refine wpAny_take (i := 23) (v := mkey 5 true 4) rfl (by kernel_rfl) (by kernel_rfl) (by kernel_rfl) (fun _ _ _ h => h) (Or.inl ⟨by rfl, fun w => by go_simp; rfl⟩) ?_
  refine wpAny_take (i := 25) (v := mkey 6 false 4) rfl (by kernel_rfl) (by kernel_rfl) (by kernel_rfl) (fun _ _ _ h => h) (Or.inl ⟨by rfl, fun w => by go_simp; rfl⟩) ?_
  refine wpAny_take (i := 27) (v := mkey 6 true 4) rfl (by kernel_rfl) (by kernel_rfl) (by kernel_rfl) (fun _ _ _ h => h) (Or.inl ⟨by rfl, fun w => by go_simp; rfl⟩) ?_
  refine wpAny_ready (rs := [0]) (by kernel_rfl) (by simp) ?_
  refine AllReady.cons rfl (fun K hK => ?_) AllReady.nil
  go_simp
  refine hK _ _ ?_
  clear hK K
  refine wpAny_inserts' (b := w.heap.size) mkey_keyed Try.underlying83 litF 2 litL _ (fun _ => none) _ ?_ (by kernel_rfl) ((IsMap.made w _ _).of_block rfl) litF_some litF_none (fun w1 ho hm => ?_)
  · unfold litL
    repeat (refine List.forall_mem_cons.2 ⟨⟨_, _, _, _, rfl, rfl, rfl, rfl, rfl, rfl, rfl, mkey_key _ (by decide) (by decide)⟩, ?_⟩)
    simp
  refine wpAny_take (i := 29) (v := .map (some w.heap.size)) rfl (by kernel_rfl) (by kernel_rfl) (by kernel_rfl) (fun _ _ _ h => h) (Or.inl ⟨by rfl, fun w => by go_simp⟩) ?_
  refine wpAny_take (i := 30) (v := .map (some w.heap.size)) rfl (by kernel_rfl) (by kernel_rfl) (by kernel_rfl) (fun _ _ _ h => h) (Or.inl ⟨by rfl, fun w => by go_simp⟩) ?_
  refine wpAny_done (by kernel_rfl) ?_ _
  have hb1 : Below w.heap.size w w1 := ((Below.refl _ w).alloc (Nat.le_refl _) (.map #[] 0)).drew.trans (ho.below (Nat.le_refl _))
  have hs1 : w1.heap.size = w.heap.size + 1 := by rw [ho.size]; simp
  have hT : HoldsT w1 w.heap.size baseT := ⟨litF, hm, litF_mkey⟩
  have hle : w.heap.size ≤ w.heap.size := Nat.le_refl _
  clear hm ho hmm
  generalize hbb : w.heap.size = b0 at *
  have hbb' := Lib.hid hbb
  clear hbb
  go_wp2
  have hc0 : (w1.alloc (.cells #[.bool false, .bool true] 4)).cell? ⟨b0 + 1, 0, none⟩ = some (.bool false) := by rw [← hs1]; simp
  have hc1 : (w1.alloc (.cells #[.bool false, .bool true] 4)).cell? ⟨b0 + 1, 1, none⟩ = some (.bool true) := by rw [← hs1]; simp
  have hs2 : (w1.alloc (.cells #[.bool false, .bool true] 4)).heap.size = b0 + 2 := by simp [hs1]
  have hT2 : HoldsT (w1.alloc (.cells #[.bool false, .bool true] 4)) b0 (stage 0) := (hT.of_block (Below.heap_alloc _ _ _ (by omega))).congr fun s r k => (stage_zero s r k).symm
  have hb2 : Below b0 w (w1.alloc (.cells #[.bool false, .bool true] 4)) := hb1.alloc (by omega) _
  generalize w1.alloc (.cells #[.bool false, .bool true] 4) = w2 at *
  clear hT hb1 hs1 w1
  go_loopw [24] (fun n wr => ∃ i : Nat, i ≤ 2 ∧ n = .int .i64 i ∧ HoldsT wr b0 (stage i) ∧ Below b0 w wr ∧ wr.heap.size = b0 + 2 ∧ wr.cell? ⟨b0 + 1, 0, none⟩ = some (.bool false) ∧ wr.cell? ⟨b0 + 1, 1, none⟩ = some (.bool true)) (fun n _ => 2 - (intOf n).toNat)
  case atStart => exact ⟨0, by omega, rfl, hT2, hb2, hs2, hc0, hc1⟩
  case round =>
    clear hT2 hb2 hs2 hc0 hc1
    obtain ⟨i, hi, rfl, hT, hb, hs, hc0, hc1⟩ := hrel
    by_cases hi2 : i < 2
    · have hb01 : ∃ b : Bool, ((i = 0 ∧ b = false) ∨ (i = 1 ∧ b = true)) ∧ wr.cell? ⟨b0 + 1, i, none⟩ = some (.bool b) := by
        obtain rfl | rfl : i = 0 ∨ i = 1 := by omega
        · exact ⟨false, .inl ⟨rfl, rfl⟩, hc0⟩
        · exact ⟨true, .inr ⟨rfl, rfl⟩, hc1⟩
      obtain ⟨b, hib, hcb⟩ := hb01
      have hR : Rest w b0 wr := ⟨hb, hs, hc0, hc1⟩
      have hT1 : HoldsT wr b0 (stage1 i b 3) := hT.congr fun s r k => (stage1_start i b s r k).symm
      clear hb hs hc0 hc1 hT
      have hIB := Lib.hid hib
      clear hib
      go_wp2
      go_loopw [4] (fun n wr => ∃ j : Nat, 3 ≤ j ∧ j ≤ 7 ∧ n = .int .i64 j ∧ HoldsT wr b0 (stage1 i b j) ∧ Rest w b0 wr) (fun n _ => 7 - (intOf n).toNat)
      case atStart => exact ⟨3, by omega, by omega, rfl, hT1, hR⟩
      case round =>
        clear hT1 hR hcb
        obtain ⟨j, hj3, hj7, rfl, hT, hR⟩ := hrel
        by_cases hlt : j < 7
        · obtain ⟨o, hrun, hT'⟩ := hT.put (s := (j : Int)) b (k := 1) j (WalkArith.wf_i64 (by omega)) (by decide)
          go_wp2
          go_roundw
          case rel => exact ⟨j + 1, by omega, by omega, by go_num, hT'.congr (stage1_step i b j (by omega)), hR.set o⟩
          case measure => simp [intOf]; omega
        · obtain rfl : j = 7 := by omega
          have hT1 : HoldsT wr b0 (stage2 i b 1) := hT.congr fun s r k => (stage2_start i b s r k).symm
          clear hT
          go_wp2
          go_loopw [5] (fun n wr => ∃ j : Nat, 1 ≤ j ∧ j ≤ 8 ∧ n = .int .i64 j ∧ HoldsT wr b0 (stage2 i b j) ∧ Rest w b0 wr) (fun n _ => 8 - (intOf n).toNat)
          case atStart => exact ⟨1, by omega, by omega, rfl, hT1, hR⟩
          case round =>
            clear hT1 hR
            obtain ⟨j, hj3, hj7, rfl, hT, hR⟩ := hrel
            by_cases hlt : j < 8
            · obtain ⟨o, hrun, hT'⟩ := hT.put (s := (j : Int)) b (k := 5) 7 (WalkArith.wf_i64 (by omega)) (by decide)
              go_wp2
              go_roundw
              case rel => exact ⟨j + 1, by omega, by omega, by go_num, hT'.congr (stage2_step i b j (by omega)), hR.set o⟩
              case measure => simp [intOf]; omega
            · obtain rfl : j = 8 := by omega
              go_wp2
              go_roundw
              case rel => exact ⟨i + 1, by omega, by go_num, hT.congr (stage_next i b hIB.out), hR.1, hR.2.1, hR.2.2.1, hR.2.2.2⟩
              case measure => simp [intOf]; omega
    · obtain rfl : i = 2 := by omega
      go_wp2
      go_ret
      exact ⟨b0, rfl, hT, by rw [hbb'.out]; exact hb⟩
end Go.Proofs.Ytpmhlcnnbkicaaa
