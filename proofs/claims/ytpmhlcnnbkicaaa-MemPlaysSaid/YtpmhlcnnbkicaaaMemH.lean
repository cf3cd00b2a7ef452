/- The walk of mem.New. -/
import Derived.Test.YtpmhlcnnbkicaaaMemG
import Derived.Deep.RegionWith
namespace Go.Proofs.Ytpmhlcnnbkicaaa
set_option linter.unusedSimpArgs false
set_option linter.unusedVariables false
open Go Go.RowKit

def newM (words locks : Int) : M := ⟨List.replicate (nearM words).toNat 0, List.replicate (nearM locks).toNat (-1), []⟩

def NewPost (w : World) (m : M) (e : Ending) (w' : World) : Prop := ∃ g F, e = .returned (.pointer (some ⟨g, 0, none⟩)) ∧ Mem w' g F m ∧ Below w.heap.size w w' ∧ (∀ i, F i → w.heap.size ≤ i)

theorem nearM_nat (n : Int) : ∃ j : Nat, nearM n = j ∧ j ≤ 8192 := by
  have := nearM_bd n
  obtain ⟨j, hj⟩ := Int.eq_ofNat_of_zero_le this.1
  exact ⟨j, hj, by omega⟩
theorem near_nat (n : Int) (j : Nat) (w : World) (h : nearM n = j) :
    Calls Try.prog 67 #[.int .i64 n] w fun e w' => e = .returned (.int .i64 j) ∧ w' = w := by rw [← h]; exact nearM_any n w


theorem row_below {w w' : World} {e : TypeId} {size n : Nat} {v : Value} {xs : List Value} (h : Row w e size v n xs) (hb : Below w.heap.size w w') : Row w' e size v n xs :=
  row_of_block h fun b hb' => hb.block b (row_lt h hb')

theorem row_made (W : World) (n : Nat) (hn : n ≤ 8192) : Row (W.alloc (.cells (madeCells #[.int .u64 0] n) 51)) 51 1 (.slice (some ⟨W.heap.size, 0, none⟩) n n) n (List.replicate n (.int .u64 0)) :=
  ⟨by simp, .inr ⟨W.heap.size, n, _, rfl, Nat.zero_le _, (MapKept.heap_alloc W _).1, Nat.le_refl _, by unfold maxLen; omega, by rw [size_madeCells]; omega, by rw [toList_madeCells_one]; simp⟩⟩

theorem new_close {w W : World} {words locks : Int} {a b : Nat} {vw vl : Value} (ea : nearM words = a) (eb : nearM locks = b) (hw : Row W 51 1 vw a (List.replicate a (.int .u64 0))) (hl : Row W 3 1 vl b (List.replicate b (.int .i64 (-1))))
    (hB : Below w.heap.size w W) (fw : ∀ i, vw.ownBlock = some i → w.heap.size ≤ i) (fl : ∀ i, vl.ownBlock = some i → w.heap.size ≤ i) :
    NewPost w (newM words locks) (.returned (.pointer (some ⟨W.heap.size, 0, none⟩))) (W.alloc (.cells #[vw, vl, .slice none 0 0] 98)) := by
  refine ⟨W.heap.size, _, rfl, ⟨vw, vl, .slice none 0 0, ⟨(MapKept.heap_alloc W _).1, ?_, ?_, row_nil _ _ _⟩, rfl⟩, hB.alloc hB.size _, ?_⟩
  · have : (newM words locks).W = List.replicate a 0 := by simp [newM, ea]
    rw [this]; simpa using hw.alloc _
  · have : (newM words locks).L = List.replicate b (-1) := by simp [newM, eb]
    rw [this]; simpa using hl.alloc _
  · rintro i (rfl | h | h | h)
    · exact hB.size
    · exact fw i h
    · exact fl i h
    · cases h

theorem new_a1 {w w1 : World} {words locks : Int} {a b : Nat} {vl : Value} {o : Obj} (ea : nearM words = a) (eb : nearM locks = b) (ha : a ≤ 8192)
    (hB : Below ((w.alloc (.cells (madeCells #[.int .u64 0] a) 51)).alloc o).drew.heap.size ((w.alloc (.cells (madeCells #[.int .u64 0] a) 51)).alloc o).drew w1) (hl : Row w1 3 1 vl b (List.replicate b (.int .i64 (-1))))
    (hfr : ∀ i, vl.ownBlock = some i → ((w.alloc (.cells (madeCells #[.int .u64 0] a) 51)).alloc o).drew.heap.size ≤ i) :
    NewPost w (newM words locks) (.returned (.pointer (some ⟨w1.heap.size, 0, none⟩))) (w1.alloc (.cells #[.slice (some ⟨w.heap.size, 0, none⟩) a a, vl, .slice none 0 0] 98)) := by
  have hr : Row ((w.alloc (.cells (madeCells #[.int .u64 0] a) 51)).alloc o).drew 51 1 (.slice (some ⟨w.heap.size, 0, none⟩) a a) a (List.replicate a (.int .u64 0)) := (row_made w a ha).alloc o
  have h0 : Below w.heap.size w ((w.alloc (.cells (madeCells #[.int .u64 0] a) 51)).alloc o).drew := (((Below.refl _ w).alloc (Nat.le_refl _) _).alloc (by simp) _).drew
  exact new_close ea eb (row_below hr hB) hl (h0.trans (hB.mono h0.size)) (fun i e => by cases e; exact Nat.le_refl _) (fun i e => Nat.le_trans h0.size (hfr i e))

theorem new_a2 {w w1 : World} {words locks : Int} {a b : Nat} {vl : Value} {o : Obj} (ea : nearM words = a) (eb : nearM locks = b) (ha : a ≤ 8192)
    (hB : Below ((w.alloc o).alloc (.cells (madeCells #[.int .u64 0] a) 51)).drew.heap.size ((w.alloc o).alloc (.cells (madeCells #[.int .u64 0] a) 51)).drew w1) (hl : Row w1 3 1 vl b (List.replicate b (.int .i64 (-1))))
    (hfr : ∀ i, vl.ownBlock = some i → ((w.alloc o).alloc (.cells (madeCells #[.int .u64 0] a) 51)).drew.heap.size ≤ i) :
    NewPost w (newM words locks) (.returned (.pointer (some ⟨w1.heap.size, 0, none⟩))) (w1.alloc (.cells #[.slice (some ⟨w.heap.size + 1, 0, none⟩) a a, vl, .slice none 0 0] 98)) := by
  have hs : (w.alloc o).heap.size = w.heap.size + 1 := by simp
  have hr : Row ((w.alloc o).alloc (.cells (madeCells #[.int .u64 0] a) 51)).drew 51 1 (.slice (some ⟨w.heap.size + 1, 0, none⟩) a a) a (List.replicate a (.int .u64 0)) := by
    rw [← hs]; exact row_made (w.alloc o) a ha
  have h0 : Below w.heap.size w ((w.alloc o).alloc (.cells (madeCells #[.int .u64 0] a) 51)).drew := (((Below.refl _ w).alloc (Nat.le_refl _) _).alloc (by simp) _).drew
  exact new_close ea eb (row_below hr hB) hl (h0.trans (hB.mono h0.size)) (fun i e => by cases e; exact Nat.le_succ _) (fun i e => Nat.le_trans h0.size (hfr i e))

theorem new_b {w w1 : World} {words locks : Int} {a b : Nat} {vl : Value} {o : Obj} (ea : nearM words = a) (eb : nearM locks = b) (ha : a ≤ 8192)
    (hB : Below (w.alloc o).drew.heap.size (w.alloc o).drew w1) (hl : Row w1 3 1 vl b (List.replicate b (.int .i64 (-1))))
    (hfr : ∀ i, vl.ownBlock = some i → (w.alloc o).drew.heap.size ≤ i) :
    NewPost w (newM words locks) (.returned (.pointer (some ⟨w1.heap.size + 1, 0, none⟩))) ((w1.alloc (.cells (madeCells #[.int .u64 0] a) 51)).alloc (.cells #[.slice (some ⟨w1.heap.size, 0, none⟩) a a, vl, .slice none 0 0] 98)) := by
  have hs : (w1.alloc (.cells (madeCells #[.int .u64 0] a) 51)).heap.size = w1.heap.size + 1 := by simp
  have h0 : Below w.heap.size w (w.alloc o).drew := ((Below.refl _ w).alloc (Nat.le_refl _) _).drew
  have h1 : Below w.heap.size w w1 := h0.trans (hB.mono h0.size)
  have := new_close (w := w) (W := w1.alloc (.cells (madeCells #[.int .u64 0] a) 51)) ea eb (row_made w1 a ha) (hl.alloc _) (h1.alloc h1.size _) (fun i e => by cases e; exact h1.size) (fun i e => Nat.le_trans h0.size (hfr i e))
  rwa [hs] at this

set_option maxHeartbeats 4000000 in
set_option maxRecDepth 100000 in
theorem new_any (words locks : Int) (w : World) :
    Calls Try.prog 34 #[.int .i64 words, .int .i64 locks] w (NewPost w (newM words locks)) := by
  obtain ⟨a, ea, ha⟩ := nearM_nat words
  obtain ⟨b, eb, hb⟩ := nearM_nat locks
  have EA := Lib.hid ea
  have EB := Lib.hid eb
  clear ea eb
  have hmk : ∀ W : World, (Instr.makeSlice 74 (.int .i64 (a : Int)) (.int .i64 (a : Int))).run Try.prog W = .ok (.slice (some ⟨W.heap.size, 0, none⟩) a a) (W.alloc (.cells (madeCells #[.int .u64 0] a) 51)) := fun W => by
    obtain ⟨i0, hi, hz0, hz1, hz2⟩ := info_parts u64Info
    exact run_make_row (P := Try.prog) 74 51 i0 (.int .u64 0) Try.underlying74 hi hz0 hz1 rfl .i64 .i64 a (by rw [hz2]; omega) (by omega) W
  go_enter Try.func34, Try.ntmps34
  go_wp2_with fail
  go_region_with (first
    | (go_at_call_of 67 words; refine (near_nat words a _ EA.out).mono ?_; rintro e w1 ⟨rfl, rfl⟩)
    | (go_at_call_of 67 locks; refine (near_nat locks b _ EB.out).mono ?_; rintro e w1 ⟨rfl, rfl⟩)
    | (go_at_call 68; refine (repeat_any _ b _ hb (by simp)).mono ?_; rintro e w1 ⟨u, rfl, hu, hB, hfr⟩; obtain ⟨ua, uc, rfl, _⟩ := row_form hu))
  all_goals
    go_wp2
    go_ret
    first
      | exact new_a1 EA.out EB.out ha hB hu hfr
      | exact new_a2 EA.out EB.out ha hB hu hfr
      | exact new_b EA.out EB.out ha hB hu hfr
end Go.Proofs.Ytpmhlcnnbkicaaa
