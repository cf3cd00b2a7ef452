/- The memory of package mem: its shape, and the walks of note, Words, has, Look, Load, Holder. -/
import Derived.Test.YtpmhlcnnbkicaaaProg
import Derived.Test.YtpmhlcnnbkicaaaHeap
import Derived.Test.YtpmhlcnnbkicaaaReg
import Derived.Lib.Hide
import Derived.Outline
import Derived.KernelRfl
import Derived.Laws.Tables
import Derived.BigQuiet
namespace Go.Proofs.Ytpmhlcnnbkicaaa
set_option linter.unusedSimpArgs false
set_option linter.unusedVariables false
open Go Go.RowKit

/-- An access. -/
structure Acc where
  thread : Int
  kind : Int
  place : Int
def accC (a : Acc) : List Value := [.int .i64 a.thread, .int .i64 a.kind, .int .i64 a.place]
def logC (l : List Acc) : List Value := l.flatMap accC
theorem logC_append (l m : List Acc) : logC (l ++ m) = logC l ++ logC m := by simp [logC]
theorem logC_length (l : List Acc) : (logC l).length = l.length * 3 := by
  induction l with
  | nil => rfl
  | cons a l ih => simp only [logC, List.flatMap_cons, List.length_append, List.length_cons] at *; rw [ih]; simp [accC]; omega

theorem accC_one (a : Acc) : ∀ u ∈ accC a, u.oneCell' = true := by
  intro u hu
  simp only [accC, List.mem_cons, List.not_mem_nil, or_false] at hu
  rcases hu with rfl | rfl | rfl <;> rfl

structure MemAt (w : World) (g : Nat) (vw vl vg : Value) (W L : List Int) (Lg : List Acc) : Prop where
  blk : w.heap[g]? = some (.cells #[vw, vl, vg] 98 (0, 0))
  words : Row w 51 1 vw W.length (W.map (.int .u64))
  locks : Row w 3 1 vl L.length (L.map (.int .i64))
  log : Row w 49 3 vg Lg.length (logC Lg)

def memFoot (g : Nat) (vw vl vg : Value) : Nat → Prop := fun i => i = g ∨ vw.ownBlock = some i ∨ vl.ownBlock = some i ∨ vg.ownBlock = some i

/-- Block g is a memory of words W, mutexes L and log Lg, in the blocks F. -/
def IsMem (w : World) (g : Nat) (F : Nat → Prop) (W L : List Int) (Lg : List Acc) : Prop := ∃ vw vl vg, MemAt w g vw vl vg W L Lg ∧ F = memFoot g vw vl vg

theorem MemAt.lt {w : World} {g : Nat} {vw vl vg : Value} {W L : List Int} {Lg : List Acc} (h : MemAt w g vw vl vg W L Lg) : g < w.heap.size := (Array.getElem?_eq_some_iff.1 h.blk).1
theorem MemAt.foot_lt {w : World} {g : Nat} {vw vl vg : Value} {W L : List Int} {Lg : List Acc} (h : MemAt w g vw vl vg W L Lg) : ∀ i, memFoot g vw vl vg i → i < w.heap.size := by
  rintro i (rfl | h1 | h1 | h1)
  · exact h.lt
  · exact row_lt h.words h1
  · exact row_lt h.locks h1
  · exact row_lt h.log h1
theorem IsMem.foot_lt {w : World} {g : Nat} {F : Nat → Prop} {W L : List Int} {Lg : List Acc} (h : IsMem w g F W L Lg) : ∀ i, F i → i < w.heap.size := by
  obtain ⟨vw, vl, vg, hm, rfl⟩ := h
  exact hm.foot_lt
theorem IsMem.turn {w w' : World} {g : Nat} {F G : Nat → Prop} {W L : List Int} {Lg : List Acc} (h : IsMem w g F W L Lg) (t : Turn G w w') (hs : Sep F G) : IsMem w' g F W L Lg := by
  obtain ⟨vw, vl, vg, hm, rfl⟩ := h
  exact ⟨vw, vl, vg, ⟨(t.block g hm.lt (hs g (.inl rfl))).trans hm.blk, row_turn hm.words t (fun b hb => hs b (.inr (.inl hb))), row_turn hm.locks t (fun b hb => hs b (.inr (.inr (.inl hb)))),
    row_turn hm.log t (fun b hb => hs b (.inr (.inr (.inr hb))))⟩, rfl⟩

theorem MemAt.cells {w : World} {g : Nat} {vw vl vg : Value} {W L : List Int} {Lg : List Acc} (h : MemAt w g vw vl vg W L Lg) :
    w.cell? ⟨g, 0, none⟩ = some vw ∧ w.cell? ⟨g, 1, none⟩ = some vl ∧ w.cell? ⟨g, 2, none⟩ = some vg ∧ (∀ o, w.frozen? ⟨g, o, none⟩ = false) := by
  refine ⟨?_, ?_, ?_, fun o => ?_⟩ <;> simp [World.cell?, World.frozen?, h.blk]

/-- The blocks of the parts differ, by their types. -/
theorem MemAt.apart {w : World} {g : Nat} {vw vl vg : Value} {W L : List Int} {Lg : List Acc} (h : MemAt w g vw vl vg W L Lg) :
    (∀ b, vw.ownBlock = some b → b ≠ g ∧ vl.ownBlock ≠ some b ∧ vg.ownBlock ≠ some b) ∧ (∀ b, vl.ownBlock = some b → b ≠ g ∧ vg.ownBlock ≠ some b) ∧ (∀ b, vg.ownBlock = some b → b ≠ g) := by
  have ne : ∀ {b : Nat} {c c' : Array Value} {e e' : TypeId}, w.heap[b]? = some (.cells c e (0, 0)) → w.heap[b]? = some (.cells c' e' (0, 0)) → e = e' := fun h1 h2 => by
    rw [h1] at h2; injection h2 with h2; injection h2
  refine ⟨fun b hb => ⟨?_, ?_, ?_⟩, fun b hb => ⟨?_, ?_⟩, fun b hb => ?_⟩
  · rintro rfl
    obtain ⟨c, hc⟩ := row_type h.words hb
    exact absurd (ne hc h.blk) (by decide)
  · intro h2
    obtain ⟨c, hc⟩ := row_type h.words hb
    obtain ⟨c', hc'⟩ := row_type h.locks h2
    exact absurd (ne hc hc') (by decide)
  · intro h2
    obtain ⟨c, hc⟩ := row_type h.words hb
    obtain ⟨c', hc'⟩ := row_type h.log h2
    exact absurd (ne hc hc') (by decide)
  · rintro rfl
    obtain ⟨c, hc⟩ := row_type h.locks hb
    exact absurd (ne hc h.blk) (by decide)
  · intro h2
    obtain ⟨c, hc⟩ := row_type h.locks hb
    obtain ⟨c', hc'⟩ := row_type h.log h2
    exact absurd (ne hc hc') (by decide)
  · rintro rfl
    obtain ⟨c, hc⟩ := row_type h.log hb
    exact absurd (ne hc h.blk) (by decide)

theorem accInfo : (Try.prog.info? 49).map (fun i => (i.zero, i.size, i.bytes)) = some (some (.agg #[.int .i64 0, .int .i64 0, .int .i64 0]), 3, 24) := by kernel_rfl

theorem note_blk {w w1 : World} {g : Nat} {vw vl vg : Value} {W L : List Int} {Lg : List Acc} {o : Obj} (h : MemAt w g vw vl vg W L Lg) (hg : (w.alloc o).grownBy w1 vg.ownBlock) : w1.heap[g]? = some (.cells #[vw, vl, vg] 98 (0, 0)) := by
  rw [hg.block g (by have := h.lt; simp; omega) (fun e => h.apart.2.2 g e.symm rfl), Below.heap_alloc w o g h.lt]
  exact h.blk

theorem note_end {w w1 : World} {g : Nat} {vw vl vg v' : Value} {W L : List Int} {Lg : List Acc} {o : Obj} {x : Acc} (h : MemAt w g vw vl vg W L Lg) (hg : (w.alloc o).grownBy w1 vg.ownBlock)
    (hown : w1.ownsRow 0 49 3 v' (Lg.length + 1) (logC Lg ++ accC x)) (hloc : v'.ownBlock = vg.ownBlock ∨ v'.ownBlock = some (w.alloc o).heap.size) :
    MemAt (w1.setCell ⟨g, 2, none⟩ v') g vw vl v' W L (Lg ++ [x]) ∧ Turn (fun i => i = g ∨ vg.ownBlock = some i) w (w1.setCell ⟨g, 2, none⟩ v') ∧ (∀ b, v'.ownBlock = some b → vg.ownBlock = some b ∨ w.heap.size ≤ b) := by
  obtain ⟨a1, a2, a3⟩ := h.apart
  have hsz : (w.alloc o).heap.size = w.heap.size + 1 := by simp
  have hlt := h.lt
  have T1 : Turn (fun i => i = g ∨ vg.ownBlock = some i) w w1 := ((Turn.refl _ w).alloc o).grown hg (fun b hb => .inl (.inr hb))
  have hext : ∀ b, v'.ownBlock = some b → vg.ownBlock = some b ∨ w.heap.size ≤ b := fun b hb => by
    rcases hloc with e | e
    · exact .inl (by rw [← e]; exact hb)
    · rw [hb] at e; cases e; exact .inr (by omega)
  have keep : ∀ {b}, b ≠ g → (w1.setCell ⟨g, 2, none⟩ v').heap[b]? = w1.heap[b]? := fun hb => Below.heap_setCell _ _ _ _ hb
  refine ⟨⟨set_heap_row (note_blk h hg) v', ?_, ?_, ?_⟩, T1.setCell _ _ (.inl (.inl rfl)), hext⟩
  · exact row_of_block (row_turn h.words T1 (fun b hb hh => hh.elim (a1 b hb).1 (a1 b hb).2.2)) (fun b hb => keep (a1 b hb).1)
  · exact row_of_block (row_turn h.locks T1 (fun b hb hh => hh.elim (a2 b hb).1 (a2 b hb).2)) (fun b hb => keep (a2 b hb).1)
  · have e1 : (Lg ++ [x]).length = Lg.length + 1 := by simp
    have e2 : logC (Lg ++ [x]) = logC Lg ++ accC x := by simp [logC]
    rw [e1, e2]
    exact row_of_block hown (fun b hb => keep (fun e => (hext b hb).elim (fun e2 => a3 b e2 e) (fun e2 => by omega)))

/-- What 'note' leaves. -/
def NotePost (w : World) (g : Nat) (vw vl vg : Value) (W L : List Int) (Lg : List Acc) (e : Ending) (w' : World) : Prop :=
  e = .returned (.tuple #[]) ∧ ∃ vg', MemAt w' g vw vl vg' W L Lg ∧ Turn (fun i => i = g ∨ vg.ownBlock = some i) w w' ∧ (∀ b, vg'.ownBlock = some b → vg.ownBlock = some b ∨ w.heap.size ≤ b)

set_option maxHeartbeats 1000000 in
set_option maxRecDepth 100000 in
theorem note_any (g : Nat) (vw vl vg : Value) (W L : List Int) (Lg : List Acc) (t k p : Int) (w : World) (h : MemAt w g vw vl vg W L Lg) (hroom : Lg.length < 4294967296) :
    Calls Try.prog 69 #[.pointer (some ⟨g, 0, none⟩), .int .i64 t, .int .i64 k, .int .i64 p] w (NotePost w g vw vl vg W L (Lg ++ [⟨t, k, p⟩])) := by
  obtain ⟨c0, c1, c2, hfz⟩ := h.cells
  obtain ⟨i0, hi, hz0, hz1, hz2⟩ := info_parts accInfo
  have H := Lib.hid h
  have FZ := Lib.hid hfz
  clear h hfz
  go_enter Try.func69, Try.ntmps69
  have hown : Row (w.alloc (.cells #[.int .i64 t, .int .i64 k, .int .i64 p] 49)) 49 3 vg Lg.length (logC Lg) := H.out.log.alloc _
  go_wp2_with (at_builtin; refine wpList_append_own_at _ rfl _ _ 40 rfl 0 49 i0 (.agg #[.int .i64 0, .int .i64 0, .int .i64 0]) 3 24 Try.underlying40 hi hz0 hz1 hz2 rfl (by decide) _ _ _ rfl hown ⟨w.heap.size, 0, none⟩ 1 1 (accC ⟨t, k, p⟩) rfl rfl (cells_new _ (accC ⟨t, k, p⟩) _) (accC_one _) (by unfold maxLen; omega) (by omega) (Nat.zero_le _) ?_; intro v' w1 hown1 hgrow _ hloc; obtain ⟨a', c', rfl, _⟩ := row_form hown1; have HGB := Lib.hid (note_blk H.out hgrow); have hfz : w1.frozen? ⟨g, 2, none⟩ = false := (by simp [World.frozen?, HGB.out]); have hc2 : w1.cell? ⟨g, 2, none⟩ = some vg := (by simp [World.cell?, HGB.out]))
  go_end0
  exact ⟨rfl, _, note_end H.out hgrow hown1 hloc⟩
end Go.Proofs.Ytpmhlcnnbkicaaa
