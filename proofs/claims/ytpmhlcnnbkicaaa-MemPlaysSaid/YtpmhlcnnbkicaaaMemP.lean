/- The reference's memory: its shape; say, More, Holder. -/
import Derived.Test.YtpmhlcnnbkicaaaMemJ
namespace Go.Proofs.Ytpmhlcnnbkicaaa
set_option linter.unusedSimpArgs false
set_option linter.unusedVariables false
open Go Go.RowKit

def lockC (L : List Int) : List Value := L.map fun h => .int .u64 (h + 1)
/-- The holders of a memory's mutexes. -/
def M.held (m : M) : Prop := ∀ h ∈ m.L, -1 ≤ h ∧ h ≤ 9223372036854775807

structure RMemAt (w : World) (g : Nat) (vw vl vg : Value) (W L : List Int) (Lg : List Acc) : Prop where
  blk : w.heap[g]? = some (.cells #[vw, vl, vg] 76 (0, 0))
  words : Row w 51 1 vw W.length (W.map (.int .u64))
  locks : Row w 51 1 vl L.length (lockC L)
  log : Row w 49 3 vg Lg.length (logC Lg)
  two : ∀ b, vw.ownBlock = some b → vl.ownBlock ≠ some b

def RMem (w : World) (g : Nat) (F : Nat → Prop) (m : M) : Prop := ∃ vw vl vg, RMemAt w g vw vl vg m.W m.L m.Lg ∧ F = memFoot g vw vl vg

theorem RMemAt.lt {w : World} {g : Nat} {vw vl vg : Value} {W L : List Int} {Lg : List Acc} (h : RMemAt w g vw vl vg W L Lg) : g < w.heap.size := (Array.getElem?_eq_some_iff.1 h.blk).1
theorem RMem.foot_lt {w : World} {g : Nat} {F : Nat → Prop} {m : M} (h : RMem w g F m) : ∀ i, F i → i < w.heap.size := by
  obtain ⟨vw, vl, vg, hm, rfl⟩ := h
  rintro i (rfl | h1 | h1 | h1)
  · exact hm.lt
  · exact row_lt hm.words h1
  · exact row_lt hm.locks h1
  · exact row_lt hm.log h1
theorem RMem.turn {w w' : World} {g : Nat} {F G : Nat → Prop} {m : M} (h : RMem w g F m) (t : Turn G w w') (hs : Sep F G) : RMem w' g F m := by
  obtain ⟨vw, vl, vg, hm, rfl⟩ := h
  exact ⟨vw, vl, vg, ⟨(t.block g hm.lt (hs g (.inl rfl))).trans hm.blk, row_turn hm.words t (fun b hb => hs b (.inr (.inl hb))), row_turn hm.locks t (fun b hb => hs b (.inr (.inr (.inl hb)))),
    row_turn hm.log t (fun b hb => hs b (.inr (.inr (.inr hb)))), hm.two⟩, rfl⟩
theorem RMemAt.cells {w : World} {g : Nat} {vw vl vg : Value} {W L : List Int} {Lg : List Acc} (h : RMemAt w g vw vl vg W L Lg) :
    w.cell? ⟨g, 0, none⟩ = some vw ∧ w.cell? ⟨g, 1, none⟩ = some vl ∧ w.cell? ⟨g, 2, none⟩ = some vg ∧ (∀ o, w.frozen? ⟨g, o, none⟩ = false) := by
  refine ⟨?_, ?_, ?_, fun o => ?_⟩ <;> simp [World.cell?, World.frozen?, h.blk]
theorem RMemAt.apart {w : World} {g : Nat} {vw vl vg : Value} {W L : List Int} {Lg : List Acc} (h : RMemAt w g vw vl vg W L Lg) :
    (∀ b, vw.ownBlock = some b → b ≠ g ∧ vl.ownBlock ≠ some b ∧ vg.ownBlock ≠ some b) ∧ (∀ b, vl.ownBlock = some b → b ≠ g ∧ vg.ownBlock ≠ some b) ∧ (∀ b, vg.ownBlock = some b → b ≠ g) := by
  have ne : ∀ {b : Nat} {c c' : Array Value} {e e' : TypeId}, w.heap[b]? = some (.cells c e (0, 0)) → w.heap[b]? = some (.cells c' e' (0, 0)) → e = e' := fun h1 h2 => by
    rw [h1] at h2; injection h2 with h2; injection h2
  refine ⟨fun b hb => ⟨?_, h.two b hb, ?_⟩, fun b hb => ⟨?_, ?_⟩, fun b hb => ?_⟩
  · rintro rfl
    obtain ⟨c, hc⟩ := row_type h.words hb
    exact absurd (ne hc h.blk) (by decide)
  · intro h2
    obtain ⟨c, hc⟩ := row_type h.words hb
    obtain ⟨c', hc'⟩ := row_type h.log h2
    exact absurd (ne hc hc') (by decide)
  · rintro rfl
    obtain ⟨c, hc⟩ := row_type h.locks hb
    exact absurd (ne hc h.blk) (by decide)
  · intro h2
    obtain ⟨c, hc⟩ := row_type h.locks hb
    obtain ⟨c', hc'⟩ := row_type h.log h2
    exact absurd (ne hc hc') (by decide)
  · rintro rfl
    obtain ⟨c, hc⟩ := row_type h.log hb
    exact absurd (ne hc h.blk) (by decide)

theorem say_blk {w w1 : World} {g : Nat} {vw vl vg : Value} {W L : List Int} {Lg : List Acc} {o : Obj} (h : RMemAt w g vw vl vg W L Lg) (hg : (w.alloc o).grownBy w1 vg.ownBlock) : w1.heap[g]? = some (.cells #[vw, vl, vg] 76 (0, 0)) := by
  rw [hg.block g (by have := h.lt; simp; omega) (fun e => h.apart.2.2 g e.symm rfl), Below.heap_alloc w o g h.lt]
  exact h.blk

theorem say_end {w w1 : World} {g : Nat} {vw vl vg v' : Value} {W L : List Int} {Lg : List Acc} {o : Obj} {x : Acc} (h : RMemAt w g vw vl vg W L Lg) (hg : (w.alloc o).grownBy w1 vg.ownBlock)
    (hown : w1.ownsRow 0 49 3 v' (Lg.length + 1) (logC Lg ++ accC x)) (hloc : v'.ownBlock = vg.ownBlock ∨ v'.ownBlock = some (w.alloc o).heap.size) :
    RMemAt (w1.setCell ⟨g, 2, none⟩ v') g vw vl v' W L (Lg ++ [x]) ∧ Turn (fun i => i = g ∨ vg.ownBlock = some i) w (w1.setCell ⟨g, 2, none⟩ v') ∧ (∀ b, v'.ownBlock = some b → vg.ownBlock = some b ∨ w.heap.size ≤ b) := by
  obtain ⟨a1, a2, a3⟩ := h.apart
  have hsz : (w.alloc o).heap.size = w.heap.size + 1 := by simp
  have hlt := h.lt
  have T1 : Turn (fun i => i = g ∨ vg.ownBlock = some i) w w1 := ((Turn.refl _ w).alloc o).grown hg (fun b hb => .inl (.inr hb))
  have hext : ∀ b, v'.ownBlock = some b → vg.ownBlock = some b ∨ w.heap.size ≤ b := fun b hb => by
    rcases hloc with e | e
    · exact .inl (by rw [← e]; exact hb)
    · rw [hb] at e; cases e; exact .inr (by omega)
  have keep : ∀ {b}, b ≠ g → (w1.setCell ⟨g, 2, none⟩ v').heap[b]? = w1.heap[b]? := fun hb => Below.heap_setCell _ _ _ _ hb
  refine ⟨⟨set_heap_row (say_blk h hg) v', ?_, ?_, ?_, h.two⟩, T1.setCell _ _ (.inl (.inl rfl)), hext⟩
  · exact row_of_block (row_turn h.words T1 (fun b hb hh => hh.elim (a1 b hb).1 (a1 b hb).2.2)) (fun b hb => keep (a1 b hb).1)
  · exact row_of_block (row_turn h.locks T1 (fun b hb hh => hh.elim (a2 b hb).1 (a2 b hb).2)) (fun b hb => keep (a2 b hb).1)
  · have e1 : (Lg ++ [x]).length = Lg.length + 1 := by simp
    have e2 : logC (Lg ++ [x]) = logC Lg ++ accC x := by simp [logC]
    rw [e1, e2]
    exact row_of_block hown (fun b hb => keep (fun e => (hext b hb).elim (fun e2 => a3 b e2 e) (fun e2 => by omega)))

/-- What a call leaves of the reference's memory. -/
def RMemPost (w : World) (g : Nat) (F : Nat → Prop) (r : Value) (m : M) (e : Ending) (w' : World) : Prop :=
  e = .returned r ∧ ∃ F', RMem w' g F' m ∧ Turn F w w' ∧ Ext w F F'
theorem rmemPost_same {w : World} {g : Nat} {F : Nat → Prop} {r : Value} {m : M} (h : RMem w g F m) : RMemPost w g F r m (.returned r) w := ⟨rfl, F, h, Turn.refl _ _, Ext.refl _ _⟩
theorem RMemPost.then {w w1 w2 : World} {g : Nat} {F : Nat → Prop} {r r' : Value} {m m' : M} {e : Ending} (h : RMemPost w g F r m e w1) (k : ∀ F', RMem w1 g F' m → Turn F w w1 → RMemPost w1 g F' r' m' (.returned r') w2) : RMemPost w g F r' m' (.returned r') w2 := by
  obtain ⟨_, F', hm, ht, he⟩ := h
  obtain ⟨_, F2, hm2, ht2, he2⟩ := k F' hm ht
  exact ⟨rfl, F2, hm2, ht.trans ht2 he, he.trans he2 ht.size⟩

set_option maxHeartbeats 1000000 in
set_option maxRecDepth 100000 in
theorem say_any (g : Nat) (F : Nat → Prop) (m : M) (t k p : Int) (w : World) (h : RMem w g F m) (hs : m.small) :
    Calls Try.prog 74 #[.pointer (some ⟨g, 0, none⟩), .int .i64 t, .int .i64 k, .int .i64 p] w (RMemPost w g F (.tuple #[]) (m.note t k p)) := by
  obtain ⟨vw, vl, vg, hm, rfl⟩ := h
  obtain ⟨c0, c1, c2, hfz⟩ := hm.cells
  obtain ⟨i0, hi, hz0, hz1, hz2⟩ := info_parts accInfo
  have H := Lib.hid hm
  have FZ := Lib.hid hfz
  have hroom := hs.2.2
  clear hm hfz
  go_enter Try.func74, Try.ntmps74
  have hown : Row (w.alloc (.cells #[.int .i64 t, .int .i64 k, .int .i64 p] 49)) 49 3 vg m.Lg.length (logC m.Lg) := H.out.log.alloc _
  go_wp2_with (at_builtin; refine wpList_append_own_at _ rfl _ _ 40 rfl 0 49 i0 (.agg #[.int .i64 0, .int .i64 0, .int .i64 0]) 3 24 Try.underlying40 hi hz0 hz1 hz2 rfl (by decide) _ _ _ rfl hown ⟨w.heap.size, 0, none⟩ 1 1 (accC ⟨t, k, p⟩) rfl rfl (cells_new _ (accC ⟨t, k, p⟩) _) (accC_one _) (by unfold maxLen; omega) (by omega) (Nat.zero_le _) ?_; intro v' w1 hown1 hgrow _ hloc; obtain ⟨a', c', rfl, _⟩ := row_form hown1; have HGB := Lib.hid (say_blk H.out hgrow); have hfz : w1.frozen? ⟨g, 2, none⟩ = false := (by simp [World.frozen?, HGB.out]); have hc2 : w1.cell? ⟨g, 2, none⟩ = some vg := (by simp [World.cell?, HGB.out]))
  go_end0
  obtain ⟨h1, h2, h3⟩ := say_end H.out hgrow hown1 hloc
  exact ⟨rfl, _, ⟨_, _, _, h1, rfl⟩, h2.mono (fun i hi => hi.elim .inl (fun hb => .inr (.inr (.inr hb)))), fun i hi => by
    rcases hi with hi | hi | hi | hi
    · exact .inl (.inl hi)
    · exact .inl (.inr (.inl hi))
    · exact .inl (.inr (.inr (.inl hi)))
    · exact (h3 i hi).imp (fun hb => .inr (.inr (.inr hb))) id⟩

theorem RMem.words {w : World} {g : Nat} {F : Nat → Prop} {m : M} (h : RMem w g F m) : ∃ a c, w.cell? ⟨g, 0, none⟩ = some (.slice a m.W.length c) ∧
    (∀ j, j < m.W.length → ∃ b, a = some ⟨b, 0, none⟩ ∧ F b ∧ w.cell? ⟨b, j, none⟩ = some (.int .u64 (m.W.getD j 0)) ∧ w.frozen? ⟨b, j, none⟩ = false) := by
  obtain ⟨vw, vl, vg, hm, rfl⟩ := h
  obtain ⟨a, c, rfl, hc⟩ := row_form hm.words
  refine ⟨a, c, hm.cells.1, fun j hj => ?_⟩
  obtain ⟨b, rfl, h1, h2⟩ := hc j (.int .u64 (m.W.getD j 0)) (by simp [List.getD_eq_getElem?_getD, List.getElem?_eq_getElem hj])
  exact ⟨b, rfl, .inr (.inl rfl), h1, h2⟩
theorem RMem.locks {w : World} {g : Nat} {F : Nat → Prop} {m : M} (h : RMem w g F m) : ∃ a c, w.cell? ⟨g, 1, none⟩ = some (.slice a m.L.length c) ∧
    (∀ j, j < m.L.length → ∃ b, a = some ⟨b, 0, none⟩ ∧ F b ∧ w.cell? ⟨b, j, none⟩ = some (.int .u64 (m.L.getD j 0 + 1)) ∧ w.frozen? ⟨b, j, none⟩ = false) := by
  obtain ⟨vw, vl, vg, hm, rfl⟩ := h
  obtain ⟨a, c, rfl, hc⟩ := row_form hm.locks
  refine ⟨a, c, hm.cells.2.1, fun j hj => ?_⟩
  obtain ⟨b, rfl, h1, h2⟩ := hc j (.int .u64 (m.L.getD j 0 + 1)) (by simp [lockC, List.getD_eq_getElem?_getD, List.getElem?_eq_getElem hj])
  exact ⟨b, rfl, .inr (.inr (.inl rfl)), h1, h2⟩

theorem RMem.setW {w : World} {g : Nat} {F : Nat → Prop} {m : M} (h : RMem w g F m) {j b : Nat} {a : Option Addr} {c : Nat} (hc : w.cell? ⟨g, 0, none⟩ = some (.slice a m.W.length c)) (ha : a = some ⟨b, 0, none⟩) (hj : j < m.W.length) (x : Int) :
    RMem (w.setCell ⟨b, j, none⟩ (.int .u64 x)) g F { m with W := m.W.set j x } := by
  obtain ⟨vw, vl, vg, hm, rfl⟩ := h
  obtain ⟨a1, a2, a3⟩ := hm.apart
  have e : vw = .slice a m.W.length c := Option.some.inj (hm.cells.1.symm.trans hc)
  have hb : vw.ownBlock = some b := by rw [e, ha]; rfl
  have keep : ∀ {i}, i ≠ b → (w.setCell ⟨b, j, none⟩ (.int .u64 x)).heap[i]? = w.heap[i]? := fun hi => Below.heap_setCell _ _ _ _ hi
  refine ⟨vw, vl, vg, ⟨(keep (a1 b hb).1.symm).trans hm.blk, ?_, row_of_block hm.locks (fun b' hb' => keep (fun e => by subst e; exact (a1 _ hb).2.1 hb')), row_of_block hm.log (fun b' hb' => keep (fun e => by subst e; exact (a1 _ hb).2.2 hb')), hm.two⟩, rfl⟩
  have := row_set hm.words hb j (.int .u64 x) (by simpa using hj)
  simpa [List.map_set] using this
theorem RMem.setL {w : World} {g : Nat} {F : Nat → Prop} {m : M} (h : RMem w g F m) {j b : Nat} {a : Option Addr} {c : Nat} (hc : w.cell? ⟨g, 1, none⟩ = some (.slice a m.L.length c)) (ha : a = some ⟨b, 0, none⟩) (hj : j < m.L.length) (x y : Int) (hy : x + 1 = y) :
    RMem (w.setCell ⟨b, j, none⟩ (.int .u64 y)) g F { m with L := m.L.set j x } := by
  subst hy
  obtain ⟨vw, vl, vg, hm, rfl⟩ := h
  obtain ⟨a1, a2, a3⟩ := hm.apart
  have e : vl = .slice a m.L.length c := Option.some.inj (hm.cells.2.1.symm.trans hc)
  have hb : vl.ownBlock = some b := by rw [e, ha]; rfl
  have keep : ∀ {i}, i ≠ b → (w.setCell ⟨b, j, none⟩ (.int .u64 (x + 1))).heap[i]? = w.heap[i]? := fun hi => Below.heap_setCell _ _ _ _ hi
  refine ⟨vw, vl, vg, ⟨(keep (a2 b hb).1.symm).trans hm.blk, row_of_block hm.words (fun b' hb' => keep (fun e => by subst e; exact (a1 _ hb').2.1 hb)), ?_, row_of_block hm.log (fun b' hb' => keep (fun e => by subst e; exact (a2 _ hb).2 hb')), hm.two⟩, rfl⟩
  have := row_set hm.locks hb j (.int .u64 (x + 1)) (by simpa [lockC] using hj)
  simpa [lockC, List.map_set] using this

theorem rmore_end {w w1 : World} {g : Nat} {vw vl vg v' : Value} {W L : List Int} {Lg : List Acc} {o : Obj} {x : Int} (h : RMemAt w g vw vl vg W L Lg) (hg : (w.alloc o).grownBy w1 vw.ownBlock)
    (hown : w1.ownsRow 0 51 1 v' (W.length + 1) (W.map (.int .u64) ++ [.int .u64 x])) (hloc : v'.ownBlock = vw.ownBlock ∨ v'.ownBlock = some (w.alloc o).heap.size) :
    RMemAt (w1.setCell ⟨g, 0, none⟩ v') g v' vl vg (W ++ [x]) L Lg ∧ Turn (fun i => i = g ∨ vw.ownBlock = some i) w (w1.setCell ⟨g, 0, none⟩ v') ∧ (∀ b, v'.ownBlock = some b → vw.ownBlock = some b ∨ w.heap.size ≤ b) := by
  obtain ⟨a1, a2, a3⟩ := h.apart
  have hsz : (w.alloc o).heap.size = w.heap.size + 1 := by simp
  have hlt := h.lt
  have hblk : w1.heap[g]? = some (.cells #[vw, vl, vg] 76 (0, 0)) := by
    rw [hg.block g (by omega) (fun e => (a1 g e.symm).1 rfl), Below.heap_alloc w o g h.lt]
    exact h.blk
  have T1 : Turn (fun i => i = g ∨ vw.ownBlock = some i) w w1 := ((Turn.refl _ w).alloc o).grown hg (fun b hb => .inl (.inr hb))
  have hext : ∀ b, v'.ownBlock = some b → vw.ownBlock = some b ∨ w.heap.size ≤ b := fun b hb => by
    rcases hloc with e | e
    · exact .inl (by rw [← e]; exact hb)
    · rw [hb] at e; cases e; exact .inr (by omega)
  have keep : ∀ {b}, b ≠ g → (w1.setCell ⟨g, 0, none⟩ v').heap[b]? = w1.heap[b]? := fun hb => Below.heap_setCell _ _ _ _ hb
  refine ⟨⟨set_heap_row hblk v', ?_, ?_, ?_, fun b hb hl => (hext b hb).elim (fun e => h.two b e hl) (fun e => by have := row_lt h.locks hl; omega)⟩, T1.setCell _ _ (.inl (.inl rfl)), hext⟩
  · have e1 : (W ++ [x]).length = W.length + 1 := by simp
    have e2 : (W ++ [x]).map (Value.int .u64) = W.map (Value.int .u64) ++ [Value.int .u64 x] := by simp
    rw [e1, e2]
    exact row_of_block hown (fun b hb => keep (fun e => (hext b hb).elim (fun e2 => (a1 b e2).1 e) (fun e2 => by omega)))
  · exact row_of_block (row_turn h.locks T1 (fun b hb hh => hh.elim (a2 b hb).1 (fun e => (a1 b e).2.1 hb))) (fun b hb => keep (a2 b hb).1)
  · exact row_of_block (row_turn h.log T1 (fun b hb hh => hh.elim (a3 b hb) (fun e => (a1 b e).2.2 hb))) (fun b hb => keep (a3 b hb))

set_option maxHeartbeats 2000000 in
set_option maxRecDepth 100000 in
theorem rmore_any (g : Nat) (F : Nat → Prop) (m : M) (x : Int) (w : World) (h : RMem w g F m) (hs : m.small) :
    Calls Try.prog 44 #[.pointer (some ⟨g, 0, none⟩), .int .u64 x] w (RMemPost w g F (.int .i64 m.W.length) (m.more x)) := by
  obtain ⟨vw, vl, vg, hm, rfl⟩ := h
  have hsm := hs.1
  obtain ⟨c0, c1, c2, hfz⟩ := hm.cells
  obtain ⟨i0, hi, hz0, hz1, hz2⟩ := info_parts u64Info
  have H := Lib.hid hm
  have hown : Row (w.alloc (.cells #[.int .u64 x] 51)) 51 1 vw m.W.length (m.W.map (.int .u64)) := H.out.words.alloc _
  clear hm hfz
  go_enter Try.func44, Try.ntmps44
  go_wp2_with (at_builtin; refine wpList_append_own_at _ rfl _ _ 74 rfl 0 51 i0 (.int .u64 0) 1 8 Try.underlying74 hi hz0 hz1 hz2 rfl (by decide) _ _ _ rfl hown ⟨w.heap.size, 0, none⟩ 1 1 [.int .u64 x] rfl rfl (cells_new _ [.int .u64 x] _) (by intro u hu; simp at hu; subst hu; rfl) (by unfold maxLen; omega) (by omega) (Nat.zero_le _) ?_; intro v' w1 hown1 hgrow _ hloc; obtain ⟨a', c', rfl, _⟩ := row_form hown1; have HE := Lib.hid (rmore_end H.out hgrow hown1 hloc); have HGB := Lib.hid ((hgrow.block g (by have := H.out.lt; simp; omega) (fun e => (H.out.apart.1 g e.symm).1 rfl)).trans ((Below.heap_alloc w _ g H.out.lt).trans H.out.blk)); have hfz : w1.frozen? ⟨g, 0, none⟩ = false := (by simp [World.frozen?, HGB.out]); have hc2 : w1.cell? ⟨g, 0, none⟩ = some vw := (by simp [World.cell?, HGB.out]))
  go_ret
  obtain ⟨h1, h2, h3⟩ := HE.out
  exact ⟨by simp, _, ⟨_, _, _, h1, rfl⟩, h2.mono (fun i hi => hi.elim .inl (fun hb => .inr (.inl hb))), fun i hi => by
    rcases hi with hi | hi | hi | hi
    · exact .inl (.inl hi)
    · exact (h3 i hi).imp (fun hb => .inr (.inl hb)) id
    · exact .inl (.inr (.inr (.inl hi)))
    · exact .inl (.inr (.inr (.inr hi)))⟩
end Go.Proofs.Ytpmhlcnnbkicaaa
