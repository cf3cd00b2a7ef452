/- The fixed fact of the laws of text. -/
import Derived.Test.YtfiddoibnjildaaGreatDoorTextD
namespace Go.Proofs.YtfiddoibnjildaaGreatDoor
set_option linter.unusedSimpArgs false
set_option linter.unusedVariables false
open Go Go.RowKit

theorem linesGo_mem : ∀ (ps : List (List UInt8)) (n : Nat) (l : Ln), l ∈ linesGo n ps → l.1 < n + ps.length ∧ ∃ p ∈ ps, l.2 = wordsOf p
  | [], n, l, h => by simp [linesGo] at h
  | q :: r, n, l, h => by
    rw [linesGo] at h
    split at h
    · obtain ⟨h1, p, hp, h2⟩ := linesGo_mem r (n + 1) l h
      exact ⟨by simp; omega, p, by simp [hp], h2⟩
    · rw [List.mem_cons] at h
      rcases h with rfl | h
      · exact ⟨by simp, q, by simp, rfl⟩
      · obtain ⟨h1, p, hp, h2⟩ := linesGo_mem r (n + 1) l h
        exact ⟨by simp; omega, p, by simp [hp], h2⟩
theorem join_word : ∀ (ws : List (List UInt8)) (w : List UInt8), w ∈ ws → w.length ≤ (Lib.join ws [32]).length
  | [], w, h => by simp at h
  | v :: r, w, h => by
    rw [Lib.join_cons]
    rw [List.mem_cons] at h
    rcases h with rfl | h
    · simp
    · have := join_word r w h
      cases r with
      | nil => simp at h
      | cons u t =>
        rw [Lib.join_cons] at this
        simp [Lib.joinTail] at this ⊢
        omega
theorem lines_bound {l : List UInt8} (hl : l.length ≤ 4096) (h : firstBad l = none) : (linesOf l).length ≤ 4097 ∧ ∀ x ∈ linesOf l, x.1 ≤ 4098 ∧ x.2.length ≤ 4096 ∧ ∀ w ∈ x.2, w.length ≤ 4096 := by
  have hcnt : (pieces 10 l).length ≤ 4097 := by
    have h1 := sumLen_pieces 10 l
    have : ∀ ps : List (List UInt8), ps.length ≤ sumLen ps := by
      intro ps; induction ps with
      | nil => simp [sumLen]
      | cons p r ih => simp [sumLen] at ih ⊢; omega
    have := this (pieces 10 l)
    omega
  refine ⟨Nat.le_trans (linesGo_len _ 1) hcnt, fun x hx => ?_⟩
  obtain ⟨h1, p, hp, h2⟩ := linesGo_mem _ 1 x hx
  have hpl := pieces_len 10 l p hp
  have hok := pieces_ok h p hp
  have hwl := wordsOf_len p
  refine ⟨by omega, by rw [h2]; exact Nat.le_trans (wordsOf_count hok.1 hok.2) (by omega), fun w hw => ?_⟩
  rw [h2] at hw
  have := join_word _ w hw
  omega
theorem textF_size {l : List UInt8} {ls : List Ln} {a : Nat} {c : Int} (h : textF l = (ls, a, c)) : ls.length ≤ 8192 ∧ ∀ x ∈ ls, x.2.length ≤ 8192 := by
  unfold textF at h
  split at h
  · cases h; simp
  · rename_i hl
    cases hb : firstBad l with
    | some i => rw [hb] at h; cases h; simp
    | none =>
      rw [hb] at h; cases h
      have := lines_bound (by omega) hb
      exact ⟨by omega, fun x hx => by have := (this.2 x hx).2.1; omega⟩
theorem lines_val (s : ByteArray) (ls : List Ln) (a : Nat) (c : Int) (w : World) (hs : s.size ≤ 140737488351232) (hT : TabsT w) (h : textF s.data.toList = (ls, a, c)) :
    Calls Tryz.prog 8 #[.string s] w fun e w' => ∃ v, e = .returned (.tuple #[v, .int .i64 a, .int .i64 c]) ∧ Lines w' v ls ∧ Below w.heap.size w w' :=
  (lines_any s w hs hT).mono fun e w' hp => by unfold LinesPost at hp; rw [h] at hp; exact hp
theorem refLines_val (s : ByteArray) (ls : List Ln) (a : Nat) (c : Int) (w : World) (hs : s.size ≤ 140737488351232) (h : textF s.data.toList = (ls, a, c)) :
    Calls Tryz.prog 10 #[.string s] w fun e w' => ∃ v, e = .returned (.tuple #[v, .int .i64 a, .int .i64 c]) ∧ Lines w' v ls ∧ Below w.heap.size w w' :=
  (refLines_any s w hs).mono fun e w' hp => by unfold LinesPost at hp; rw [h] at hp; exact hp
theorem number_val (s : ByteArray) (a : Int) (c : Bool) (w : World) (hs : s.size ≤ 140737488351232) (hT : Tabs w) (h1 : numT s.data.toList = a) (h2 : isNum s.data.toList big62 = c) :
    Calls Tryz.prog 65 #[.string s] w fun e w' => e = .returned (.tuple #[.int .i64 a, .bool c]) ∧ Below w.heap.size w w' :=
  (number_text s w hs hT).mono fun e w' hp => by unfold NumPost at hp; rw [h1, h2] at hp; exact hp
def awL : List Ln := [(1, [[97], [98]]), (3, [[100]])]
theorem aw1 : textF [97, 32, 98, 32, 35, 32, 99, 10, 10, 32, 100] = (awL, 0, 0) := by decide
theorem aw2 : textF [97, 10, 98, 9, 99] = ([], 2, 3) := by decide
theorem d7 : Lib.decDigits 7 = [55] := by simp [Lib.decDigits]
theorem d70 : Lib.decDigits 70 = [55, 48] := by simp [Lib.decDigits]
theorem aw3b : isNum [55, 48] big62 = true := isNum_iff.2 ⟨70, by decide, d70.symm⟩
theorem aw3 : numT [55, 48] = 70 := by
  unfold numT; rw [aw3b, if_pos rfl, ← d70, valOf_dec]; rfl
theorem aw4b : isNum [48, 55] big62 = false := by
  rw [← Bool.not_eq_true]
  intro h
  unfold isNum at h
  rw [decide_eq_true_iff] at h
  have h2 := h.1
  rw [show valOf [48, 55] = 7 from by decide, d7] at h2
  revert h2; decide
theorem aw4 : numT [48, 55] = 0 := by
  unfold numT; rw [aw4b, if_neg (by decide)]

theorem lines_aw (w : World) :
    Lines (((w.alloc (.cells #[str [97], str [98]] 9)).alloc (.cells #[str [100]] 9)).alloc (.cells #[.int .i64 1, .slice (some ⟨w.heap.size, 0, none⟩) 2 2, .int .i64 3, .slice (some ⟨w.heap.size + 1, 0, none⟩) 1 1] 36))
      (.slice (some ⟨w.heap.size + 1 + 1, 0, none⟩) 2 2) awL ∧
    Below w.heap.size w (((w.alloc (.cells #[str [97], str [98]] 9)).alloc (.cells #[str [100]] 9)).alloc (.cells #[.int .i64 1, .slice (some ⟨w.heap.size, 0, none⟩) 2 2, .int .i64 3, .slice (some ⟨w.heap.size + 1, 0, none⟩) 1 1] 36)) := by
  generalize hw1 : w.alloc (.cells #[str [97], str [98]] 9) = w1
  have s1 : w1.heap.size = w.heap.size + 1 := by rw [← hw1]; simp
  have b1 : Below w.heap.size w w1 := by rw [← hw1]; exact (Below.refl _ _).alloc (Nat.le_refl _) _
  have r1 : w1.rangeAt w.heap.size 0 [str [97], str [98]] := fun j v hv => by
    have := cells_new w [str [97], str [98]] 9 j v hv
    rw [Addr.add_mid, hw1] at this; exact this
  generalize hw2 : w1.alloc (.cells #[str [100]] 9) = w2
  have s2 : w2.heap.size = w.heap.size + 1 + 1 := by rw [← hw2]; simp [s1]
  have b2 : Since w1 w2 := by rw [← hw2]; exact (Below.refl _ _).alloc (Nat.le_refl _) _
  have r2 : w2.rangeAt (w.heap.size + 1) 0 [str [100]] := fun j v hv => by
    have := cells_new w1 [str [100]] 9 j v hv
    rw [Addr.add_mid, hw2, s1] at this; exact this
  generalize hl : ([.int .i64 1, .slice (some ⟨w.heap.size, 0, none⟩) 2 2, .int .i64 3, .slice (some ⟨w.heap.size + 1, 0, none⟩) 1 1] : List Value) = l
  generalize hw3 : w2.alloc (.cells l.toArray 36) = w3
  have b3 : Since w2 w3 := by rw [← hw3]; exact (Below.refl _ _).alloc (Nat.le_refl _) _
  have r3 : w3.rangeAt (w.heap.size + 1 + 1) 0 l := fun j v hv => by
    have := cells_new w2 l 36 j v hv
    rw [Addr.add_mid, hw3, s2] at this; exact this
  have r1' := b3.range (b2.range r1)
  have r2' := b3.range r2
  refine ⟨⟨_, 2, rfl, Nat.le_refl _, fun i ln hi => ?_⟩, below_then (below_then b1 b2) b3⟩
  subst hl
  match i, hi with
  | 0, hi =>
    cases hi
    exact ⟨_, 0, _, rfl, r3 0 _ rfl, r3 1 _ rfl, _, 2, rfl, Nat.le_refl _, fun j x hj => ⟨_, 0, rfl, trivial, r1' j _ (by
      match j, hj with
      | 0, hj => cases hj; rfl
      | 1, hj => cases hj; rfl)⟩⟩
  | 1, hi =>
    cases hi
    exact ⟨_, 0, _, rfl, r3 2 _ rfl, r3 3 _ rfl, _, 1, rfl, Nat.le_refl _, fun j x hj => ⟨_, 0, rfl, trivial, r2' j _ (by
      match j, hj with
      | 0, hj => cases hj; rfl)⟩⟩

end Go.Proofs.YtfiddoibnjildaaGreatDoor
