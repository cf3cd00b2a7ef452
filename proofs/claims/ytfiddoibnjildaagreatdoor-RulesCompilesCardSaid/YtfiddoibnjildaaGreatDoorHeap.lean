/- What a call may change of memory: footprints; rows of a call's own under them. -/
import Derived.Maps.AppendAt
import Derived.Below
import Derived.Deep.OwnRows
import Derived.OwnWalk
import Derived.WalkKit
import Derived.Deep.Draws
namespace Go.Proofs.YtfiddoibnjildaaGreatDoor
set_option linter.unusedSimpArgs false
set_option linter.unusedVariables false
open Go Go.RowKit

/-- Of what was there only blocks of F may have changed. -/
structure Turn (F : Nat → Prop) (w w' : World) : Prop where
  os : w'.os = w.os
  tape : w'.tape = w.tape
  output : w'.output = w.output
  size : w.heap.size ≤ w'.heap.size
  block : ∀ i, i < w.heap.size → ¬ F i → w'.heap[i]? = w.heap[i]?

theorem Turn.refl (F : Nat → Prop) (w : World) : Turn F w w := ⟨rfl, rfl, rfl, Nat.le_refl _, fun _ _ _ => rfl⟩
theorem Turn.trans {F G : Nat → Prop} {w w1 w2 : World} (h : Turn F w w1) (k : Turn G w1 w2) (hG : ∀ i, G i → F i ∨ w.heap.size ≤ i) : Turn F w w2 :=
  ⟨k.os.trans h.os, k.tape.trans h.tape, k.output.trans h.output, Nat.le_trans h.size k.size, fun i hi hf => (k.block i (Nat.lt_of_lt_of_le hi h.size) (fun hg => (hG i hg).elim hf (fun hle => by omega))).trans (h.block i hi hf)⟩
theorem Turn.mono {F G : Nat → Prop} {w w' : World} (h : Turn F w w') (hG : ∀ i, F i → G i) : Turn G w w' := ⟨h.os, h.tape, h.output, h.size, fun i hi hg => h.block i hi (fun hf => hg (hG i hf))⟩
theorem Turn.of_below {F : Nat → Prop} {w w' : World} (h : Below w.heap.size w w') : Turn F w w' := ⟨h.os, h.tape, h.output, h.size, fun i hi _ => h.block i hi⟩
theorem Turn.below {F : Nat → Prop} {w w' : World} {B : Nat} (h : Turn F w w') (hB : B ≤ w.heap.size) (hF : ∀ i, F i → B ≤ i) : Below B w w' :=
  ⟨h.os, h.tape, h.output, h.size, fun i hi => h.block i (by omega) (fun hf => by have := hF i hf; omega)⟩
theorem Turn.grown {F : Nat → Prop} {w w1 w2 : World} {row : Option Nat} (h : Turn F w w1) (k : w1.grownBy w2 row) (hr : ∀ b, row = some b → F b ∨ w.heap.size ≤ b) : Turn F w w2 :=
  ⟨k.os.trans h.os, k.tape.trans h.tape, k.output.trans h.output, Nat.le_trans h.size k.size, fun i hi hf => (k.block i (Nat.lt_of_lt_of_le hi h.size) (fun e => (hr i e.symm).elim hf (fun hle => by omega))).trans (h.block i hi hf)⟩
theorem Turn.alloc {F : Nat → Prop} {w w1 : World} (h : Turn F w w1) (o : Obj) : Turn F w (w1.alloc o) :=
  h.grown (World.grownBy_alloc w1 o none) (fun b e => by cases e)
theorem Turn.setCell {F : Nat → Prop} {w w1 : World} (h : Turn F w w1) (a : Addr) (v : Value) (ha : F a.block ∨ w.heap.size ≤ a.block) : Turn F w (w1.setCell a v) :=
  ⟨h.os, h.tape, h.output, by simpa [World.setCell] using h.size, fun i hi hf => by
    rw [Below.heap_setCell _ _ _ _ (fun e => by subst e; exact ha.elim hf (fun hle => by omega))]; exact h.block i hi hf⟩
theorem Turn.drew {F : Nat → Prop} {w w1 : World} (h : Turn F w w1) : Turn F w w1.drew := ⟨h.os, h.tape, h.output, h.size, h.block⟩
theorem Turn.drewN {F : Nat → Prop} {w w1 : World} (h : Turn F w w1) (n : Nat) : Turn F w (w1.drewN n) := ⟨h.os, h.tape, h.output, h.size, h.block⟩
theorem Turn.cell {F : Nat → Prop} {w w' : World} (h : Turn F w w') {a : Addr} {v : Value} (hc : w.cell? a = some v) (hf : ¬ F a.block) : w'.cell? a = some v :=
  (World.cell?_of_block (w := w) (h.block a.block (World.block_lt_of_cell? w a hc) hf)).trans hc

/-- A footprint that has grown by new blocks alone. -/
def Ext (w : World) (F F' : Nat → Prop) : Prop := ∀ i, F' i → F i ∨ w.heap.size ≤ i
def Sep (F G : Nat → Prop) : Prop := ∀ i, F i → ¬ G i
theorem Ext.refl (w : World) (F : Nat → Prop) : Ext w F F := fun _ h => .inl h
theorem Ext.trans {w w1 : World} {F G K : Nat → Prop} (h : Ext w F G) (k : Ext w1 G K) (hs : w.heap.size ≤ w1.heap.size) : Ext w F K := fun i hi => (k i hi).elim (h i) (fun hle => .inr (by omega))
theorem Sep.symm {F G : Nat → Prop} (h : Sep F G) : Sep G F := fun i hg hf => h i hf hg
theorem Sep.ext {w : World} {F F' G : Nat → Prop} (h : Sep F G) (k : Ext w F F') (hG : ∀ i, G i → i < w.heap.size) : Sep F' G := fun i hi hg => (k i hi).elim (fun hf => h i hf hg) (fun hle => by have := hG i hg; omega)
theorem Ext.base {w : World} {F F' : Nat → Prop} {B : Nat} (k : Ext w F F') (hB : B ≤ w.heap.size) (hF : ∀ i, F i → B ≤ i) : ∀ i, F' i → B ≤ i := fun i hi => (k i hi).elim (hF i) (fun hle => by omega)

/-! ### Rows -/
/-- Slice value v owns, in a block of its own, just the cells xs: n elements of type e, of 'size' cells. -/
abbrev Row (w : World) (e : TypeId) (size : Nat) (v : Value) (n : Nat) (xs : List Value) : Prop := w.ownsRow 0 e size v n xs

def rowFoot (v : Value) : Nat → Prop := fun i => v.ownBlock = some i

theorem row_of_block {w w' : World} {e : TypeId} {size n : Nat} {v : Value} {xs : List Value} (h : Row w e size v n xs) (hb : ∀ b, v.ownBlock = some b → w'.heap[b]? = w.heap[b]?) : Row w' e size v n xs := by
  refine ⟨h.1, ?_⟩
  rcases h.2 with h1 | ⟨g, cap, cur, rfl, h2, h3, h4⟩
  · exact .inl h1
  · exact .inr ⟨g, cap, cur, rfl, h2, (hb g rfl).trans h3, h4⟩
theorem row_lt {w : World} {e : TypeId} {size n : Nat} {v : Value} {xs : List Value} (h : Row w e size v n xs) {b : Nat} (hb : v.ownBlock = some b) : b < w.heap.size := by
  rcases h.2 with ⟨rfl, _⟩ | ⟨g, cap, cur, rfl, h2, h3, h4⟩
  · cases hb
  · cases hb
    exact (Array.getElem?_eq_some_iff.1 h3).1
theorem row_turn {F : Nat → Prop} {w w' : World} {e : TypeId} {size n : Nat} {v : Value} {xs : List Value} (h : Row w e size v n xs) (t : Turn F w w') (hF : ∀ b, v.ownBlock = some b → ¬ F b) : Row w' e size v n xs :=
  row_of_block h fun b hb => t.block b (row_lt h hb) (hF b hb)
theorem row_nil (w : World) (e : TypeId) (size : Nat) : Row w e size (.slice none 0 0) 0 [] := ⟨by simp, .inl ⟨rfl, rfl⟩⟩
theorem row_type {w : World} {e : TypeId} {size n : Nat} {v : Value} {xs : List Value} (h : Row w e size v n xs) {b : Nat} (hb : v.ownBlock = some b) : ∃ cur, w.heap[b]? = some (.cells cur e (0, 0)) := by
  rcases h.2 with ⟨rfl, _⟩ | ⟨g, cap, cur, rfl, h2, h3, h4⟩
  · cases hb
  · cases hb; exact ⟨cur, h3⟩
theorem row_len {w : World} {e : TypeId} {size n : Nat} {v : Value} {xs : List Value} (h : Row w e size v n xs) : n ≤ maxLen := by
  rcases h.2 with ⟨_, rfl⟩ | ⟨g, cap, cur, rfl, h2, h3, h4, h5, _⟩
  · exact Nat.zero_le _
  · omega
/-- The shape of the slice: what its cells hold. -/
theorem row_form {w : World} {e : TypeId} {size n : Nat} {v : Value} {xs : List Value} (h : Row w e size v n xs) : ∃ a c, v = .slice a n c ∧ (∀ j x, xs[j]? = some x → ∃ g, a = some ⟨g, 0, none⟩ ∧ w.cell? ⟨g, j, none⟩ = some x ∧ w.frozen? ⟨g, j, none⟩ = false) := by
  rcases h.2 with ⟨rfl, rfl⟩ | ⟨g, cap, cur, rfl, h2, h3, h4, h5, h6, h7⟩
  · refine ⟨none, 0, rfl, fun j x hj => ?_⟩
    have : xs = [] := List.eq_nil_of_length_eq_zero (by rw [h.1]; omega)
    subst this
    simp at hj
  · refine ⟨_, cap, rfl, fun j x hj => ⟨g, rfl, ?_, ?_⟩⟩
    · rw [← h7, List.getElem?_take] at hj
      split at hj
      · simp [World.cell?, h3]; simpa using hj
      · cases hj
    · simp [World.frozen?, h3]
/-- One cell of the row is written. -/
theorem row_set {w : World} {e : TypeId} {size n : Nat} {v : Value} {xs : List Value} (h : Row w e size v n xs) {g : Nat} (hg : v.ownBlock = some g) (j : Nat) (x : Value) (hj : j < xs.length) : Row (w.setCell ⟨g, j, none⟩ x) e size v n (xs.set j x) := by
  refine ⟨by rw [List.length_set]; exact h.1, ?_⟩
  rcases h.2 with ⟨rfl, _⟩ | ⟨g', cap, cur, rfl, h2, h3, h4, h5, h6, h7⟩
  · cases hg
  · cases hg
    refine .inr ⟨g', cap, cur.setIfInBounds j x, rfl, h2, ?_, h4, h5, by simpa using h6, ?_⟩
    · show (w.heap.modify g' _)[g']? = _
      rw [Array.getElem?_modify, if_pos rfl, h3]; rfl
    · rw [← h7, Array.toList_setIfInBounds, List.take_set]
/-- The cells of a new block, as the laws on append ask for them. -/
theorem cells_new (w : World) (l : List Value) (t : TypeId) : ∀ j u, l[j]? = some u → (w.alloc (.cells l.toArray t)).cell? ((⟨w.heap.size, 0, none⟩ : Addr).add j) = some u := by
  intro j u hj
  have e : (⟨w.heap.size, 0, none⟩ : Addr).add j = ⟨w.heap.size, j, none⟩ := by unfold Addr.add; split <;> simp_all
  rw [e]
  simp [hj]
theorem set_heap_row {w : World} {g o : Nat} {cs : Array Value} {T : TypeId} {fr : Nat × Nat} (h : w.heap[g]? = some (.cells cs T fr)) (v : Value) : (w.setCell ⟨g, o, none⟩ v).heap[g]? = some (.cells (cs.setIfInBounds o v) T fr) := by
  show (w.heap.modify g _)[g]? = _
  rw [Array.getElem?_modify, if_pos rfl, h]; rfl
end Go.Proofs.YtfiddoibnjildaaGreatDoor
