/- The memory of package mem: its shape, and the walks of note, Words, has, Look, Load, Holder. -/
import Derived.Test.YtahgapkecabnjaaProg
import Derived.Test.YtahgapkecabnjaaC03
import Derived.Test.YtahgapkecabnjaaC01
import Derived.Lib.Hide
import Derived.Outline
import Derived.KernelRfl
import Derived.Laws.Tables
import Derived.BigQuiet
import Derived.WalkSpells
import Derived.Test.YtahgapkecabnjaaC04
namespace Go.Proofs.Ytahgapkecabnjaa
set_option linter.unusedSimpArgs false
set_option linter.unusedVariables false
open Go Go.RowKit

/-- An access. -/
structure Acc where
  thread : Int
  kind : Int
  place : Int
def accC (a : Acc) : List Value := [.int .i64 a.thread, .int .i64 a.kind, .int .i64 a.place]
def logC (l : List Acc) : List Value := l.flatMap accC
theorem logC_append (l m : List Acc) : logC (l ++ m) = logC l ++ logC m := by simp [logC]
theorem logC_length (l : List Acc) : (logC l).length = l.length * 3 := by
  induction l with
  | nil => rfl
  | cons a l ih => simp only [logC, List.flatMap_cons, List.length_append, List.length_cons] at *; rw [ih]; simp [accC]; omega

theorem accC_one (a : Acc) : ∀ u ∈ accC a, u.oneCell' = true := by
  intro u hu
  simp only [accC, List.mem_cons, List.not_mem_nil, or_false] at hu
  rcases hu with rfl | rfl | rfl <;> rfl

structure MemAt (w : World) (g : Nat) (vw vl vg : Value) (W L : List Int) (Lg : List Acc) : Prop where
  blk : w.heap[g]? = some (.cells #[vw, vl, vg] 72 (0, 0))
  words : Row w 93 1 vw W.length (W.map (.int .u64))
  locks : Row w 3 1 vl L.length (L.map (.int .i64))
  log : Row w 99 3 vg Lg.length (logC Lg)

def memFoot (g : Nat) (vw vl vg : Value) : Nat → Prop := fun i => i = g ∨ vw.ownBlock = some i ∨ vl.ownBlock = some i ∨ vg.ownBlock = some i

/-- Block g is a memory of words W, mutexes L and log Lg, in the blocks F. -/
def IsMem (w : World) (g : Nat) (F : Nat → Prop) (W L : List Int) (Lg : List Acc) : Prop := ∃ vw vl vg, MemAt w g vw vl vg W L Lg ∧ F = memFoot g vw vl vg

theorem MemAt.lt {w : World} {g : Nat} {vw vl vg : Value} {W L : List Int} {Lg : List Acc} (h : MemAt w g vw vl vg W L Lg) : g < w.heap.size := (Array.getElem?_eq_some_iff.1 h.blk).1
theorem MemAt.foot_lt {w : World} {g : Nat} {vw vl vg : Value} {W L : List Int} {Lg : List Acc} (h : MemAt w g vw vl vg W L Lg) : ∀ i, memFoot g vw vl vg i → i < w.heap.size := by
  rintro i (rfl | h1 | h1 | h1)
  · exact h.lt
  · exact row_lt h.words h1
  · exact row_lt h.locks h1
  · exact row_lt h.log h1
theorem IsMem.foot_lt {w : World} {g : Nat} {F : Nat → Prop} {W L : List Int} {Lg : List Acc} (h : IsMem w g F W L Lg) : ∀ i, F i → i < w.heap.size := by
  obtain ⟨vw, vl, vg, hm, rfl⟩ := h
  exact hm.foot_lt
theorem IsMem.turn {w w' : World} {g : Nat} {F G : Nat → Prop} {W L : List Int} {Lg : List Acc} (h : IsMem w g F W L Lg) (t : Turn G w w') (hs : Sep F G) : IsMem w' g F W L Lg := by
  obtain ⟨vw, vl, vg, hm, rfl⟩ := h
  exact ⟨vw, vl, vg, ⟨(t.block g hm.lt (hs g (.inl rfl))).trans hm.blk, row_turn hm.words t (fun b hb => hs b (.inr (.inl hb))), row_turn hm.locks t (fun b hb => hs b (.inr (.inr (.inl hb)))),
    row_turn hm.log t (fun b hb => hs b (.inr (.inr (.inr hb))))⟩, rfl⟩

theorem MemAt.cells {w : World} {g : Nat} {vw vl vg : Value} {W L : List Int} {Lg : List Acc} (h : MemAt w g vw vl vg W L Lg) :
    w.cell? ⟨g, 0, none⟩ = some vw ∧ w.cell? ⟨g, 1, none⟩ = some vl ∧ w.cell? ⟨g, 2, none⟩ = some vg ∧ (∀ o, w.frozen? ⟨g, o, none⟩ = false) := by
  refine ⟨?_, ?_, ?_, fun o => ?_⟩ <;> simp [World.cell?, World.frozen?, h.blk]

/-- The blocks of the parts differ, by their types. -/
theorem MemAt.apart {w : World} {g : Nat} {vw vl vg : Value} {W L : List Int} {Lg : List Acc} (h : MemAt w g vw vl vg W L Lg) :
    (∀ b, vw.ownBlock = some b → b ≠ g ∧ vl.ownBlock ≠ some b ∧ vg.ownBlock ≠ some b) ∧ (∀ b, vl.ownBlock = some b → b ≠ g ∧ vg.ownBlock ≠ some b) ∧ (∀ b, vg.ownBlock = some b → b ≠ g) := by
  have ne : ∀ {b : Nat} {c c' : Array Value} {e e' : TypeId}, w.heap[b]? = some (.cells c e (0, 0)) → w.heap[b]? = some (.cells c' e' (0, 0)) → e = e' := fun h1 h2 => by
    rw [h1] at h2; injection h2 with h2; injection h2
  refine ⟨fun b hb => ⟨?_, ?_, ?_⟩, fun b hb => ⟨?_, ?_⟩, fun b hb => ?_⟩
  · rintro rfl
    obtain ⟨c, hc⟩ := row_type h.words hb
    exact absurd (ne hc h.blk) (by decide)
  · intro h2
    obtain ⟨c, hc⟩ := row_type h.words hb
    obtain ⟨c', hc'⟩ := row_type h.locks h2
    exact absurd (ne hc hc') (by decide)
  · intro h2
    obtain ⟨c, hc⟩ := row_type h.words hb
    obtain ⟨c', hc'⟩ := row_type h.log h2
    exact absurd (ne hc hc') (by decide)
  · rintro rfl
    obtain ⟨c, hc⟩ := row_type h.locks hb
    exact absurd (ne hc h.blk) (by decide)
  · intro h2
    obtain ⟨c, hc⟩ := row_type h.locks hb
    obtain ⟨c', hc'⟩ := row_type h.log h2
    exact absurd (ne hc hc') (by decide)
  · rintro rfl
    obtain ⟨c, hc⟩ := row_type h.log hb
    exact absurd (ne hc h.blk) (by decide)

theorem accInfo : (Try.prog.info? 99).map (fun i => (i.zero, i.size, i.bytes)) = some (some (.agg #[.int .i64 0, .int .i64 0, .int .i64 0]), 3, 24) := by kernel_rfl

theorem note_blk {w w1 : World} {g : Nat} {vw vl vg : Value} {W L : List Int} {Lg : List Acc} {o : Obj} (h : MemAt w g vw vl vg W L Lg) (hg : (w.alloc o).grownBy w1 vg.ownBlock) : w1.heap[g]? = some (.cells #[vw, vl, vg] 72 (0, 0)) := by
  rw [hg.block g (by have := h.lt; simp; omega) (fun e => h.apart.2.2 g e.symm rfl), Below.heap_alloc w o g h.lt]
  exact h.blk

theorem note_end {w w1 : World} {g : Nat} {vw vl vg v' : Value} {W L : List Int} {Lg : List Acc} {o : Obj} {x : Acc} (h : MemAt w g vw vl vg W L Lg) (hg : (w.alloc o).grownBy w1 vg.ownBlock)
    (hown : w1.ownsRow 0 99 3 v' (Lg.length + 1) (logC Lg ++ accC x)) (hloc : v'.ownBlock = vg.ownBlock ∨ v'.ownBlock = some (w.alloc o).heap.size) :
    MemAt (w1.setCell ⟨g, 2, none⟩ v') g vw vl v' W L (Lg ++ [x]) ∧ Turn (fun i => i = g ∨ vg.ownBlock = some i) w (w1.setCell ⟨g, 2, none⟩ v') ∧ (∀ b, v'.ownBlock = some b → vg.ownBlock = some b ∨ w.heap.size ≤ b) := by
  obtain ⟨a1, a2, a3⟩ := h.apart
  have hsz : (w.alloc o).heap.size = w.heap.size + 1 := by simp
  have hlt := h.lt
  have T1 : Turn (fun i => i = g ∨ vg.ownBlock = some i) w w1 := ((Turn.refl _ w).alloc o).grown hg (fun b hb => .inl (.inr hb))
  have hext : ∀ b, v'.ownBlock = some b → vg.ownBlock = some b ∨ w.heap.size ≤ b := fun b hb => by
    rcases hloc with e | e
    · exact .inl (by rw [← e]; exact hb)
    · rw [hb] at e; cases e; exact .inr (by omega)
  have keep : ∀ {b}, b ≠ g → (w1.setCell ⟨g, 2, none⟩ v').heap[b]? = w1.heap[b]? := fun hb => Below.heap_setCell _ _ _ _ hb
  refine ⟨⟨set_heap_row (note_blk h hg) v', ?_, ?_, ?_⟩, T1.setCell _ _ (.inl (.inl rfl)), hext⟩
  · exact row_of_block (row_turn h.words T1 (fun b hb hh => hh.elim (a1 b hb).1 (a1 b hb).2.2)) (fun b hb => keep (a1 b hb).1)
  · exact row_of_block (row_turn h.locks T1 (fun b hb hh => hh.elim (a2 b hb).1 (a2 b hb).2)) (fun b hb => keep (a2 b hb).1)
  · have e1 : (Lg ++ [x]).length = Lg.length + 1 := by simp
    have e2 : logC (Lg ++ [x]) = logC Lg ++ accC x := by simp [logC]
    rw [e1, e2]
    exact row_of_block hown (fun b hb => keep (fun e => (hext b hb).elim (fun e2 => a3 b e2 e) (fun e2 => by omega)))

/-- What 'note' leaves. -/
def NotePost (w : World) (g : Nat) (vw vl vg : Value) (W L : List Int) (Lg : List Acc) (e : Ending) (w' : World) : Prop :=
  e = .returned (.tuple #[]) ∧ ∃ vg', MemAt w' g vw vl vg' W L Lg ∧ Turn (fun i => i = g ∨ vg.ownBlock = some i) w w' ∧ (∀ b, vg'.ownBlock = some b → vg.ownBlock = some b ∨ w.heap.size ≤ b)

set_option maxHeartbeats 1000000 in
set_option maxRecDepth 100000 in
theorem note_any (g : Nat) (vw vl vg : Value) (W L : List Int) (Lg : List Acc) (t k p : Int) (w : World) (h : MemAt w g vw vl vg W L Lg) (hroom : Lg.length < 4294967296) :
    Calls Try.prog 31 #[.pointer (some ⟨g, 0, none⟩), .int .i64 t, .int .i64 k, .int .i64 p] w (NotePost w g vw vl vg W L (Lg ++ [⟨t, k, p⟩])) := by
  obtain ⟨c0, c1, c2, hfz⟩ := h.cells
  obtain ⟨i0, hi, hz0, hz1, hz2⟩ := info_parts accInfo
  have H := Lib.hid h
  have FZ := Lib.hid hfz
  clear h hfz
  go_enter Try.func31, Try.ntmps31
  have hown : Row (w.alloc (.cells #[.int .i64 t, .int .i64 k, .int .i64 p] 99)) 99 3 vg Lg.length (logC Lg) := H.out.log.alloc _
  go_wp2_with (at_builtin; refine wpList_append_own_at _ rfl _ _ 62 rfl 0 99 i0 (.agg #[.int .i64 0, .int .i64 0, .int .i64 0]) 3 24 Try.underlying62 hi hz0 hz1 hz2 rfl (by decide) _ _ _ rfl hown ⟨w.heap.size, 0, none⟩ 1 1 (accC ⟨t, k, p⟩) rfl rfl (cells_new _ (accC ⟨t, k, p⟩) _) (accC_one _) (by unfold maxLen; omega) (by omega) (Nat.zero_le _) ?_; intro v' w1 hown1 hgrow _ hloc; obtain ⟨a', c', rfl, _⟩ := row_form hown1; have HGB := Lib.hid (note_blk H.out hgrow); have hfz : w1.frozen? ⟨g, 2, none⟩ = false := (by simp [World.frozen?, HGB.out]); have hc2 : w1.cell? ⟨g, 2, none⟩ = some vg := (by simp [World.cell?, HGB.out]))
  go_end0
  exact ⟨rfl, _, note_end H.out hgrow hown1 hloc⟩
end Go.Proofs.Ytahgapkecabnjaa
/- The walks of package mem: Words, has, Look, Load, Swap, Holder, Lock, Unlock, plain, Read, Write, More. -/
namespace Go.Proofs.Ytahgapkecabnjaa
set_option linter.unusedSimpArgs false
set_option linter.unusedVariables false
open Go Go.RowKit

/-- What a memory is. -/
structure M where
  W : List Int
  L : List Int
  Lg : List Acc

def M.small (m : M) : Prop := m.W.length < 1073741824 ∧ m.L.length < 1073741824 ∧ m.Lg.length < 1073741824
def Mem (w : World) (g : Nat) (F : Nat → Prop) (m : M) : Prop := IsMem w g F m.W m.L m.Lg

def M.note (m : M) (t k p : Int) : M := { m with Lg := m.Lg ++ [⟨t, k, p⟩] }
def M.has (m : M) (i : Int) : Bool := decide (0 ≤ i ∧ i < m.W.length)
def M.hasL (m : M) (i : Int) : Bool := decide (0 ≤ i ∧ i < m.L.length)
def M.look (m : M) (i : Int) : Int := if m.has i then m.W.getD i.toNat 0 else 0
def M.load (m : M) (t i : Int) : M := if m.has i then m.note t 3 (3 * i) else m
def M.swap (m : M) (t i old now : Int) : M :=
  if m.has i then (if m.W.getD i.toNat 0 = old then { (m.note t 4 (3 * i)) with W := m.W.set i.toNat now } else m.note t 3 (3 * i)) else m
def M.swapOk (m : M) (i old : Int) : Bool := m.has i && decide (m.W.getD i.toNat 0 = old)
def M.holder (m : M) (i : Int) : Int := if m.hasL i then m.L.getD i.toNat 0 else -1
def M.lockOk (m : M) (t i : Int) : Bool := m.hasL i && decide (m.L.getD i.toNat 0 = -1) && decide (0 ≤ t)
def M.lock (m : M) (t i : Int) : M := if m.lockOk t i then { (m.note t 1 (3 * i + 1)) with L := m.L.set i.toNat t } else m
def M.unlockE (m : M) (t i : Int) : Int := if m.hasL i then (if m.L.getD i.toNat 0 = t ∧ 0 ≤ t then 0 else 13) else 15
def M.unlock (m : M) (t i : Int) : M := if m.unlockE t i = 0 then { (m.note t 2 (3 * i + 1)) with L := m.L.set i.toNat (-1) } else m
def M.touch (m : M) (t k p : Int) : M := if 0 ≤ p ∧ p ≤ 1099511627776 then m.note t k (3 * p + 2) else m
def M.more (m : M) (x : Int) : M := { m with W := m.W ++ [x] }

/-- What a call leaves of a memory. -/
def MemPost (w : World) (g : Nat) (F : Nat → Prop) (r : Value) (m : M) (e : Ending) (w' : World) : Prop :=
  e = .returned r ∧ ∃ F', Mem w' g F' m ∧ Turn F w w' ∧ Ext w F F'

theorem memPost_same {w : World} {g : Nat} {F : Nat → Prop} {r : Value} {m : M} (h : Mem w g F m) : MemPost w g F r m (.returned r) w := ⟨rfl, F, h, Turn.refl _ _, Ext.refl _ _⟩
theorem MemPost.then {w w1 w2 : World} {g : Nat} {F : Nat → Prop} {r r' : Value} {m m' : M} {e : Ending} (h : MemPost w g F r m e w1) (k : ∀ F', Mem w1 g F' m → Turn F w w1 → MemPost w1 g F' r' m' (.returned r') w2) : MemPost w g F r' m' (.returned r') w2 := by
  obtain ⟨_, F', hm, ht, he⟩ := h
  obtain ⟨_, F2, hm2, ht2, he2⟩ := k F' hm ht
  exact ⟨rfl, F2, hm2, ht.trans ht2 he, he.trans he2 ht.size⟩

set_option maxHeartbeats 1000000 in
theorem noteM (g : Nat) (F : Nat → Prop) (m : M) (t k p : Int) (w : World) (h : Mem w g F m) (hs : m.small) :
    Calls Try.prog 31 #[.pointer (some ⟨g, 0, none⟩), .int .i64 t, .int .i64 k, .int .i64 p] w (MemPost w g F (.tuple #[]) (m.note t k p)) := by
  obtain ⟨vw, vl, vg, hm, rfl⟩ := h
  refine (note_any g vw vl vg m.W m.L m.Lg t k p w hm (by have := hs.2.2; omega)).mono ?_
  rintro e w' ⟨rfl, vg', hm', ht, hx⟩
  exact ⟨rfl, _, ⟨vw, vl, vg', hm', rfl⟩, ht.mono (fun i hi => hi.elim .inl (fun hb => .inr (.inr (.inr hb)))), fun i hi => by
    rcases hi with hi | hi | hi | hi
    · exact .inl (.inl hi)
    · exact .inl (.inr (.inl hi))
    · exact .inl (.inr (.inr (.inl hi)))
    · exact (hx i hi).imp (fun hb => .inr (.inr (.inr hb))) id⟩

/-- The length of the words, for the walk. -/
theorem Mem.words {w : World} {g : Nat} {F : Nat → Prop} {m : M} (h : Mem w g F m) : ∃ a c, w.cell? ⟨g, 0, none⟩ = some (.slice a m.W.length c) ∧
    (∀ j, j < m.W.length → ∃ b, a = some ⟨b, 0, none⟩ ∧ F b ∧ w.cell? ⟨b, j, none⟩ = some (.int .u64 (m.W.getD j 0)) ∧ w.frozen? ⟨b, j, none⟩ = false) := by
  obtain ⟨vw, vl, vg, hm, rfl⟩ := h
  obtain ⟨a, c, rfl, hc⟩ := row_form hm.words
  refine ⟨a, c, hm.cells.1, fun j hj => ?_⟩
  obtain ⟨b, rfl, h1, h2⟩ := hc j (.int .u64 (m.W.getD j 0)) (by simp [List.getD_eq_getElem?_getD, List.getElem?_eq_getElem hj])
  exact ⟨b, rfl, .inr (.inl rfl), h1, h2⟩
theorem Mem.locks {w : World} {g : Nat} {F : Nat → Prop} {m : M} (h : Mem w g F m) : ∃ a c, w.cell? ⟨g, 1, none⟩ = some (.slice a m.L.length c) ∧
    (∀ j, j < m.L.length → ∃ b, a = some ⟨b, 0, none⟩ ∧ F b ∧ w.cell? ⟨b, j, none⟩ = some (.int .i64 (m.L.getD j 0)) ∧ w.frozen? ⟨b, j, none⟩ = false) := by
  obtain ⟨vw, vl, vg, hm, rfl⟩ := h
  obtain ⟨a, c, rfl, hc⟩ := row_form hm.locks
  refine ⟨a, c, hm.cells.2.1, fun j hj => ?_⟩
  obtain ⟨b, rfl, h1, h2⟩ := hc j (.int .i64 (m.L.getD j 0)) (by simp [List.getD_eq_getElem?_getD, List.getElem?_eq_getElem hj])
  exact ⟨b, rfl, .inr (.inr (.inl rfl)), h1, h2⟩

end Go.Proofs.Ytahgapkecabnjaa
/- The walks of package mem: Look, Load, Swap, Holder, Lock, Unlock, plain, Read, Write. -/
namespace Go.Proofs.Ytahgapkecabnjaa
set_option linter.unusedSimpArgs false
set_option linter.unusedVariables false
open Go Go.RowKit

theorem M.has_nat {m : M} {i : Int} (h : m.has i = true) : ∃ j : Nat, i = j ∧ j < m.W.length := by
  simp only [M.has, decide_eq_true_eq] at h
  obtain ⟨j, rfl⟩ := Int.eq_ofNat_of_zero_le h.1
  exact ⟨j, rfl, by omega⟩
theorem M.hasL_nat {m : M} {i : Int} (h : m.hasL i = true) : ∃ j : Nat, i = j ∧ j < m.L.length := by
  simp only [M.hasL, decide_eq_true_eq] at h
  obtain ⟨j, rfl⟩ := Int.eq_ofNat_of_zero_le h.1
  exact ⟨j, rfl, by omega⟩

theorem beq_t {a b : Int} (h : a = b) : (a == b) = true ∧ (a != b) = false := by subst h; simp
theorem beq_f {a b : Int} (h : a ≠ b) : (a == b) = false ∧ (a != b) = true := by simp [h]

/-- A word or a mutex of the memory is written. -/
theorem Mem.setW {w : World} {g : Nat} {F : Nat → Prop} {m : M} (h : Mem w g F m) {j b : Nat} {a : Option Addr} {c : Nat} (hc : w.cell? ⟨g, 0, none⟩ = some (.slice a m.W.length c)) (ha : a = some ⟨b, 0, none⟩) (hj : j < m.W.length) (x : Int) :
    Mem (w.setCell ⟨b, j, none⟩ (.int .u64 x)) g F { m with W := m.W.set j x } := by
  obtain ⟨vw, vl, vg, hm, rfl⟩ := h
  obtain ⟨a1, a2, a3⟩ := hm.apart
  have e : vw = .slice a m.W.length c := Option.some.inj (hm.cells.1.symm.trans hc)
  have hb : vw.ownBlock = some b := by rw [e, ha]; rfl
  have keep : ∀ {i}, i ≠ b → (w.setCell ⟨b, j, none⟩ (.int .u64 x)).heap[i]? = w.heap[i]? := fun hi => Below.heap_setCell _ _ _ _ hi
  refine ⟨vw, vl, vg, ⟨(keep (a1 b hb).1.symm).trans hm.blk, ?_, row_of_block hm.locks (fun b' hb' => keep (fun e => by subst e; exact (a1 _ hb).2.1 hb')), row_of_block hm.log (fun b' hb' => keep (fun e => by subst e; exact (a1 _ hb).2.2 hb'))⟩, rfl⟩
  have := row_set hm.words hb j (.int .u64 x) (by simpa using hj)
  simpa [List.map_set] using this
theorem Mem.setL {w : World} {g : Nat} {F : Nat → Prop} {m : M} (h : Mem w g F m) {j b : Nat} {a : Option Addr} {c : Nat} (hc : w.cell? ⟨g, 1, none⟩ = some (.slice a m.L.length c)) (ha : a = some ⟨b, 0, none⟩) (hj : j < m.L.length) (x : Int) :
    Mem (w.setCell ⟨b, j, none⟩ (.int .i64 x)) g F { m with L := m.L.set j x } := by
  obtain ⟨vw, vl, vg, hm, rfl⟩ := h
  obtain ⟨a1, a2, a3⟩ := hm.apart
  have e : vl = .slice a m.L.length c := Option.some.inj (hm.cells.2.1.symm.trans hc)
  have hb : vl.ownBlock = some b := by rw [e, ha]; rfl
  have keep : ∀ {i}, i ≠ b → (w.setCell ⟨b, j, none⟩ (.int .i64 x)).heap[i]? = w.heap[i]? := fun hi => Below.heap_setCell _ _ _ _ hi
  refine ⟨vw, vl, vg, ⟨(keep (a2 b hb).1.symm).trans hm.blk, row_of_block hm.words (fun b' hb' => keep (fun e => by subst e; exact (a1 _ hb').2.1 hb)), ?_, row_of_block hm.log (fun b' hb' => keep (fun e => by subst e; exact (a2 _ hb).2 hb'))⟩, rfl⟩
  have := row_set hm.locks hb j (.int .i64 x) (by simpa using hj)
  simpa [List.map_set] using this

theorem memPost_set {w w1 : World} {g b : Nat} {F : Nat → Prop} {r r' : Value} {m m' : M} {e : Ending} {v : Value} {j : Nat} (h : MemPost w g F r m e w1)
    (k : ∀ F', Mem w1 g F' m → F' b ∧ Mem (w1.setCell ⟨b, j, none⟩ v) g F' m') : MemPost w g F r' m' (.returned r') (w1.setCell ⟨b, j, none⟩ v) :=
  h.then fun F' hm ht => ⟨rfl, F', (k F' hm).2, (Turn.refl _ _).setCell _ _ (.inl (k F' hm).1), Ext.refl _ _⟩

set_option maxHeartbeats 1000000 in
theorem holder_any (g : Nat) (F : Nat → Prop) (m : M) (i : Int) (w : World) (h : Mem w g F m) (hs : m.small) :
    Calls Try.prog 51 #[.pointer (some ⟨g, 0, none⟩), .int .i64 i] w fun e w' => e = .returned (.int .i64 (m.holder i)) ∧ w' = w := by
  have hsm := hs.2.1
  cases hh : m.hasL i with
  | false =>
    have hv : m.holder i = -1 := by simp [M.holder, hh]
    have HV := Lib.hid hv
    obtain ⟨a, c, hc, hx⟩ := h.locks
    simp only [M.hasL, decide_eq_false_iff_not] at hh
    clear h hv hx hs
    go_enter Try.func51, Try.ntmps51
    by_cases h0 : i < 0
    · go_wp2
      go_ret
      exact ⟨by rw [HV.out]; rfl, rfl⟩
    · have h1 : (m.L.length : Int) ≤ i := by omega
      go_wp2
      go_ret
      exact ⟨by rw [HV.out]; rfl, rfl⟩
  | true =>
    obtain ⟨j, rfl, hj⟩ := M.hasL_nat hh
    obtain ⟨x, ex⟩ : ∃ x, m.L.getD j 0 = x := ⟨_, rfl⟩
    have hv : m.holder j = x := by rw [← ex]; simp [M.holder, hh]
    have HV := Lib.hid hv
    obtain ⟨a, c, hc, hx⟩ := h.locks
    obtain ⟨b, rfl, _, hcb, _⟩ := hx j hj
    rw [ex] at hcb
    clear h hv hh hx hs ex
    go_enter Try.func51, Try.ntmps51
    go_wp2
    go_ret
    exact ⟨by rw [HV.out]; rfl, rfl⟩

set_option maxHeartbeats 2000000 in
theorem lock_any (g : Nat) (F : Nat → Prop) (m : M) (t i : Int) (w : World) (h : Mem w g F m) (hs : m.small) :
    Calls Try.prog 8 #[.pointer (some ⟨g, 0, none⟩), .int .i64 t, .int .i64 i] w (MemPost w g F (.bool (m.lockOk t i)) (m.lock t i)) := by
  have hsm := hs.2.1
  have same : m.lockOk t i = false → MemPost w g F (.bool (m.lockOk t i)) (m.lock t i) (.returned (.bool false)) w := fun e1 => by
    have e2 : m.lock t i = m := by simp [M.lock, e1]
    rw [e1, e2]; exact memPost_same h
  obtain ⟨a, c, hc, hx⟩ := h.locks
  cases hh : m.hasL i with
  | false =>
    have HV := Lib.hid (same (by simp [M.lockOk, hh]))
    simp only [M.hasL, decide_eq_false_iff_not] at hh
    clear h hx hs same
    go_enter Try.func8, Try.ntmps8
    by_cases h0 : i < 0
    · go_wp2
      go_ret
      exact HV.out
    · have h1 : (m.L.length : Int) ≤ i := by omega
      go_wp2
      go_ret
      exact HV.out
  | true =>
    obtain ⟨j, rfl, hj⟩ := M.hasL_nat hh
    obtain ⟨x, ex⟩ : ∃ x, m.L.getD j 0 = x := ⟨_, rfl⟩
    obtain ⟨b, rfl, _, hcb, hfb⟩ := hx j hj
    rw [ex] at hcb
    by_cases hx1 : x = -1
    · by_cases ht : 0 ≤ t
      · have hok : m.lockOk t j = true := by simp only [M.lockOk, hh, Int.toNat_natCast, ex]; simp [hx1, ht]
        have hS : Mem (w.setCell ⟨b, j, none⟩ (.int .i64 t)) g F { m with L := m.L.set j t } := Mem.setL h hc rfl hj t
        have hTu : F b := by
          obtain ⟨b', e', hF, _⟩ := hx j hj
          cases e'; exact hF
        have hv : ∀ e w1, MemPost (w.setCell ⟨b, j, none⟩ (.int .i64 t)) g F (.tuple #[]) ({ m with L := m.L.set j t }.note t 1 (3 * j + 1)) e w1 → MemPost w g F (.bool (m.lockOk t j)) (m.lock t j) (.returned (.bool true)) w1 := fun e w1 hp => by
          have e2 : m.lock t j = { m with L := m.L.set j t }.note t 1 (3 * j + 1) := by simp only [M.lock, hok, if_true, Int.toNat_natCast]; rfl
          rw [hok, e2]
          obtain ⟨_, F', hm', ht', hx'⟩ := hp
          have hsz : (w.setCell ⟨b, j, none⟩ (.int .i64 t)).heap.size = w.heap.size := by simp [World.setCell]
          exact ⟨rfl, F', hm', ((Turn.refl F w).setCell _ _ (.inl hTu)).trans ht' (fun i hi => .inl hi), fun i hi => by have := hx' i hi; rwa [hsz] at this⟩
        have hsm2 : { m with L := m.L.set j t }.small := ⟨hs.1, by simpa using hs.2.1, hs.2.2⟩
        have HV := Lib.hid hv
        have HS := Lib.hid hS
        have HSM := Lib.hid hsm2
        obtain ⟨q1, q2⟩ := beq_t hx1
        clear h hv hh hs hx ex hx1 same hS hTu hsm2 hok
        go_enter Try.func8, Try.ntmps8
        go_wp2_with (go_at_call 31; refine (noteM g F _ t 1 (3 * j + 1) _ HS.out HSM.out).mono ?_; intro e w1 hp; have HP := Lib.hid (HV.out e w1 hp); obtain ⟨rfl, _⟩ := hp)
        go_ret
        exact HP.out
      · have HV := Lib.hid (same (by simp only [M.lockOk, hh, Int.toNat_natCast, ex]; simp [ht]))
        obtain ⟨q1, q2⟩ := beq_t hx1
        clear h hh hs hx ex hx1 same
        go_enter Try.func8, Try.ntmps8
        go_wp2
        go_ret
        exact HV.out
    · have HV := Lib.hid (same (by simp only [M.lockOk, hh, Int.toNat_natCast, ex]; simp [hx1]))
      obtain ⟨q1, q2⟩ := beq_f hx1
      clear h hh hs hx ex hx1 same
      go_enter Try.func8, Try.ntmps8
      go_wp2
      go_ret
      exact HV.out
end Go.Proofs.Ytahgapkecabnjaa
/- The walks of package mem: Unlock, plain, Read, Write, More, Log. -/
namespace Go.Proofs.Ytahgapkecabnjaa
set_option linter.unusedSimpArgs false
set_option linter.unusedVariables false
open Go Go.RowKit

set_option maxHeartbeats 2000000 in
theorem unlock_any (g : Nat) (F : Nat → Prop) (m : M) (t i : Int) (w : World) (h : Mem w g F m) (hs : m.small) :
    Calls Try.prog 19 #[.pointer (some ⟨g, 0, none⟩), .int .i64 t, .int .i64 i] w (MemPost w g F (.int .i64 (m.unlockE t i)) (m.unlock t i)) := by
  have hsm := hs.2.1
  have same : ∀ x, x ≠ 0 → m.unlockE t i = x → MemPost w g F (.int .i64 (m.unlockE t i)) (m.unlock t i) (.returned (.int .i64 x)) w := fun x hx e1 => by
    have e2 : m.unlock t i = m := by simp only [M.unlock, e1]; rw [if_neg hx]
    rw [e1, e2]; exact memPost_same h
  obtain ⟨a, c, hc, hx⟩ := h.locks
  cases hh : m.hasL i with
  | false =>
    have HV := Lib.hid (same 15 (by decide) (by simp [M.unlockE, hh]))
    simp only [M.hasL, decide_eq_false_iff_not] at hh
    clear h hx hs same
    go_enter Try.func19, Try.ntmps19
    by_cases h0 : i < 0
    · go_wp2
      go_ret
      exact HV.out
    · have h1 : (m.L.length : Int) ≤ i := by omega
      go_wp2
      go_ret
      exact HV.out
  | true =>
    obtain ⟨j, rfl, hj⟩ := M.hasL_nat hh
    obtain ⟨x, ex⟩ : ∃ x, m.L.getD j 0 = x := ⟨_, rfl⟩
    obtain ⟨b, rfl, _, hcb, hfb⟩ := hx j hj
    rw [ex] at hcb
    by_cases hx1 : x = t
    · by_cases ht : 0 ≤ t
      · have hok : m.unlockE t j = 0 := by simp only [M.unlockE, hh, if_true, Int.toNat_natCast, ex]; rw [if_pos ⟨hx1, ht⟩]
        have hS : Mem (w.setCell ⟨b, j, none⟩ (.int .i64 (-1))) g F { m with L := m.L.set j (-1) } := Mem.setL h hc rfl hj (-1)
        have hTu : F b := by
          obtain ⟨b', e', hF, _⟩ := hx j hj
          cases e'; exact hF
        have hv : ∀ e w1, MemPost (w.setCell ⟨b, j, none⟩ (.int .i64 (-1))) g F (.tuple #[]) ({ m with L := m.L.set j (-1) }.note t 2 (3 * j + 1)) e w1 → MemPost w g F (.int .i64 (m.unlockE t j)) (m.unlock t j) (.returned (.int .i64 0)) w1 := fun e w1 hp => by
          have e2 : m.unlock t j = { m with L := m.L.set j (-1) }.note t 2 (3 * j + 1) := by simp only [M.unlock, hok, if_true, Int.toNat_natCast]; rfl
          rw [hok, e2]
          obtain ⟨_, F', hm', ht', hx'⟩ := hp
          have hsz : (w.setCell ⟨b, j, none⟩ (.int .i64 (-1))).heap.size = w.heap.size := by simp [World.setCell]
          exact ⟨rfl, F', hm', ((Turn.refl F w).setCell _ _ (.inl hTu)).trans ht' (fun i hi => .inl hi), fun i hi => by have := hx' i hi; rwa [hsz] at this⟩
        have hsm2 : { m with L := m.L.set j (-1) }.small := ⟨hs.1, by simpa using hs.2.1, hs.2.2⟩
        have HV := Lib.hid hv
        have HS := Lib.hid hS
        have HSM := Lib.hid hsm2
        obtain ⟨q1, q2⟩ := beq_t hx1
        clear h hv hh hs hx ex hx1 same hS hTu hsm2 hok
        go_enter Try.func19, Try.ntmps19
        go_wp2_with (go_at_call 31; refine (noteM g F _ t 2 (3 * j + 1) _ HS.out HSM.out).mono ?_; intro e w1 hp; have HP := Lib.hid (HV.out e w1 hp); obtain ⟨rfl, _⟩ := hp)
        go_ret
        exact HP.out
      · have HV := Lib.hid (same 13 (by decide) (by simp only [M.unlockE, hh, if_true, Int.toNat_natCast, ex]; rw [if_neg (fun h => ht h.2)]))
        obtain ⟨q1, q2⟩ := beq_t hx1
        clear h hh hs hx ex hx1 same
        go_enter Try.func19, Try.ntmps19
        go_wp2
        go_ret
        exact HV.out
    · have HV := Lib.hid (same 13 (by decide) (by simp only [M.unlockE, hh, if_true, Int.toNat_natCast, ex]; rw [if_neg (fun h => hx1 h.1)]))
      obtain ⟨q1, q2⟩ := beq_f hx1
      clear h hh hs hx ex hx1 same
      go_enter Try.func19, Try.ntmps19
      go_wp2
      go_ret
      exact HV.out

set_option maxHeartbeats 2000000 in
theorem plain_any (g : Nat) (F : Nat → Prop) (m : M) (t k p : Int) (w : World) (h : Mem w g F m) (hs : m.small) :
    Calls Try.prog 52 #[.pointer (some ⟨g, 0, none⟩), .int .i64 t, .int .i64 k, .int .i64 p] w (MemPost w g F (.tuple #[]) (m.touch t k p)) := by
  by_cases h0 : 0 ≤ p
  · by_cases h1 : p ≤ 1099511627776
    · have e : m.touch t k p = m.note t k (3 * p + 2) := by simp [M.touch, h0, h1]
      rw [e]
      have H := Lib.hid h
      have HS := Lib.hid hs
      clear h hs e
      go_enter Try.func52, Try.ntmps52
      go_wp2_with (go_at_call 31; refine (noteM g F m t k (3 * p + 2) _ H.out HS.out).mono ?_; intro e w1 hp; have HP := Lib.hid hp; obtain ⟨rfl, _⟩ := hp)
      go_end0
      exact HP.out
    · have e : m.touch t k p = m := by simp [M.touch, h1]
      rw [e]
      have HV := Lib.hid (memPost_same (r := .tuple #[]) h)
      clear h hs e
      have h2 : 1099511627776 < p := by omega
      go_enter Try.func52, Try.ntmps52
      go_wp2
      go_end0
      exact HV.out
  · have e : m.touch t k p = m := by simp [M.touch, h0]
    rw [e]
    have HV := Lib.hid (memPost_same (r := .tuple #[]) h)
    clear h hs e
    go_enter Try.func52, Try.ntmps52
    go_wp2
    go_end0
    exact HV.out

set_option maxHeartbeats 2000000 in
theorem read_any (g : Nat) (F : Nat → Prop) (m : M) (t p : Int) (w : World) (h : Mem w g F m) (hs : m.small) :
    Calls Try.prog 38 #[.pointer (some ⟨g, 0, none⟩), .int .i64 t, .int .i64 p] w (MemPost w g F (.tuple #[]) (m.touch t 5 p)) := by
  have H := Lib.hid h
  have HS := Lib.hid hs
  clear h hs
  go_enter Try.func38, Try.ntmps38
  go_wp2_with (go_at_call 52; refine (plain_any g F m t 5 p _ H.out HS.out).mono ?_; intro e w1 hp; have HP := Lib.hid hp; obtain ⟨rfl, _⟩ := hp)
  go_end0
  exact HP.out

set_option maxHeartbeats 2000000 in
theorem write_any (g : Nat) (F : Nat → Prop) (m : M) (t p : Int) (w : World) (h : Mem w g F m) (hs : m.small) :
    Calls Try.prog 34 #[.pointer (some ⟨g, 0, none⟩), .int .i64 t, .int .i64 p] w (MemPost w g F (.tuple #[]) (m.touch t 6 p)) := by
  have H := Lib.hid h
  have HS := Lib.hid hs
  clear h hs
  go_enter Try.func34, Try.ntmps34
  go_wp2_with (go_at_call 52; refine (plain_any g F m t 6 p _ H.out HS.out).mono ?_; intro e w1 hp; have HP := Lib.hid hp; obtain ⟨rfl, _⟩ := hp)
  go_end0
  exact HP.out

theorem u64Info : (Try.prog.info? 93).map (fun i => (i.zero, i.size, i.bytes)) = some (some (.int .u64 0), 1, 8) := by kernel_rfl

/-- A word more. -/
theorem more_end {w w1 : World} {g : Nat} {vw vl vg v' : Value} {W L : List Int} {Lg : List Acc} {o : Obj} {x : Int} (h : MemAt w g vw vl vg W L Lg) (hg : (w.alloc o).grownBy w1 vw.ownBlock)
    (hown : w1.ownsRow 0 93 1 v' (W.length + 1) (W.map (.int .u64) ++ [.int .u64 x])) (hloc : v'.ownBlock = vw.ownBlock ∨ v'.ownBlock = some (w.alloc o).heap.size) :
    MemAt (w1.setCell ⟨g, 0, none⟩ v') g v' vl vg (W ++ [x]) L Lg ∧ Turn (fun i => i = g ∨ vw.ownBlock = some i) w (w1.setCell ⟨g, 0, none⟩ v') ∧ (∀ b, v'.ownBlock = some b → vw.ownBlock = some b ∨ w.heap.size ≤ b) := by
  obtain ⟨a1, a2, a3⟩ := h.apart
  have hsz : (w.alloc o).heap.size = w.heap.size + 1 := by simp
  have hlt := h.lt
  have hblk : w1.heap[g]? = some (.cells #[vw, vl, vg] 72 (0, 0)) := by
    rw [hg.block g (by omega) (fun e => (a1 g e.symm).1 rfl), Below.heap_alloc w o g h.lt]
    exact h.blk
  have T1 : Turn (fun i => i = g ∨ vw.ownBlock = some i) w w1 := ((Turn.refl _ w).alloc o).grown hg (fun b hb => .inl (.inr hb))
  have hext : ∀ b, v'.ownBlock = some b → vw.ownBlock = some b ∨ w.heap.size ≤ b := fun b hb => by
    rcases hloc with e | e
    · exact .inl (by rw [← e]; exact hb)
    · rw [hb] at e; cases e; exact .inr (by omega)
  have keep : ∀ {b}, b ≠ g → (w1.setCell ⟨g, 0, none⟩ v').heap[b]? = w1.heap[b]? := fun hb => Below.heap_setCell _ _ _ _ hb
  refine ⟨⟨set_heap_row hblk v', ?_, ?_, ?_⟩, T1.setCell _ _ (.inl (.inl rfl)), hext⟩
  · have e1 : (W ++ [x]).length = W.length + 1 := by simp
    have e2 : (W ++ [x]).map (Value.int .u64) = W.map (Value.int .u64) ++ [Value.int .u64 x] := by simp
    rw [e1, e2]
    exact row_of_block hown (fun b hb => keep (fun e => (hext b hb).elim (fun e2 => (a1 b e2).1 e) (fun e2 => by omega)))
  · exact row_of_block (row_turn h.locks T1 (fun b hb hh => hh.elim (a2 b hb).1 (fun e => (a1 b e).2.1 hb))) (fun b hb => keep (a2 b hb).1)
  · exact row_of_block (row_turn h.log T1 (fun b hb hh => hh.elim (a3 b hb) (fun e => (a1 b e).2.2 hb))) (fun b hb => keep (a3 b hb))

end Go.Proofs.Ytahgapkecabnjaa
/- The walks of slices.Clone and slices.Clip at accesses, and of Log. -/
namespace Go.Proofs.Ytahgapkecabnjaa
set_option linter.unusedSimpArgs false
set_option linter.unusedVariables false
open Go Go.RowKit

/-- The slice .slice a n _ reads as the cells xs, in a block from B on. -/
def RdFrom (w : World) (B : Nat) (a : Option Addr) (xs : List Value) : Prop := ∀ j x, xs[j]? = some x → ∃ b, a = some ⟨b, 0, none⟩ ∧ w.cell? ⟨b, j, none⟩ = some x ∧ B ≤ b

def ClonePost (w : World) (n : Nat) (xs : List Value) (e : Ending) (w' : World) : Prop := ∃ a c, e = .returned (.slice a n c) ∧ n ≤ c ∧ (a = none → n = 0 ∧ c = 0) ∧ (∀ ad, a = some ad → ∃ b, ad = ⟨b, 0, none⟩) ∧ RdFrom w' w.heap.size a xs ∧ Below w.heap.size w w'

theorem clone_end {w w1 : World} {v' : Value} {n : Nat} {xs : List Value} {o : Obj} (hown : w1.ownsRow 0 99 3 v' (0 + n) ([] ++ xs)) (hg : (w.alloc o).grownBy w1 (some w.heap.size))
    (hnil : v' = .slice none 0 0 ↔ (.slice (some ⟨w.heap.size, 0, none⟩) 0 0 : Value) = .slice none 0 0 ∧ n = 0) (hloc : v'.ownBlock = some w.heap.size ∨ v'.ownBlock = some (w.alloc o).heap.size) :
    ClonePost w n xs (.returned v') w1 := by
  rw [Nat.zero_add, List.nil_append] at hown
  have hb : Below w.heap.size w w1 := (((Below.refl _ w).alloc (Nat.le_refl _) o)).grown hg (by simp) (fun k hk => by cases hk; exact Nat.le_refl _)
  have hfr : ∀ b, v'.ownBlock = some b → w.heap.size ≤ b := fun b e => by
    rcases hloc with e2 | e2 <;> rw [e] at e2 <;> cases e2 <;> simp
  obtain ⟨a, c, rfl, hf⟩ := row_form hown
  have ha : a ≠ none := by
    rintro rfl
    rcases hloc with e2 | e2 <;> cases e2
  obtain ⟨ad, rfl⟩ := Option.ne_none_iff_exists'.1 ha
  rcases hown.2 with ⟨e1, _⟩ | ⟨g, cap, cur, e1, h2, h3, h4, h5, h6, h7⟩
  · cases e1
  · cases e1
    exact ⟨_, _, rfl, h4, (fun e => by cases e), (fun _ e => by cases e; exact ⟨_, rfl⟩), (fun j x hj => by
      obtain ⟨b, e2, hc, _⟩ := hf j x hj
      exact ⟨b, e2, hc, hfr b (by rw [e2]; rfl)⟩), hb⟩

set_option maxHeartbeats 2000000 in
set_option maxRecDepth 100000 in
theorem cloneAcc_any (v : Value) (n : Nat) (xs : List Value) (w : World) (h : Row w 99 3 v n xs) (hn : n < 1073741824) (hones : ∀ u ∈ xs, u.oneCell' = true) :
    Calls Try.prog 48 #[v] w (ClonePost w n xs) := by
  have he := fun (W : World) (a : Option Addr) (n c : Nat) => Lib.run_eql_slice_nil (P := Try.prog) W (t := 62) 99 a n c 0 0 Try.underlying62
  rcases h.2 with ⟨rfl, rfl⟩ | ⟨g, cap, cur, rfl, h2, h3, h4, h5, h6, h7⟩
  · have hx : xs = [] := List.eq_nil_of_length_eq_zero h.1
    subst hx
    clear h
    go_enter Try.func48, Try.ntmps48
    go_wp2
    go_ret
    exact ⟨none, 0, rfl, Nat.le_refl _, (fun _ => ⟨rfl, rfl⟩), (fun _ e => by cases e), (fun j x hj => by simp at hj), Below.refl _ _⟩
  · obtain ⟨i0, hi, hz0, hz1, hz2⟩ := info_parts accInfo
    have hown : Row (w.alloc (.cells #[] 99)) 99 3 (.slice (some ⟨w.heap.size, 0, none⟩) 0 0) 0 [] :=
      ⟨by simp, .inr ⟨w.heap.size, 0, #[], rfl, Nat.zero_le _, (MapKept.heap_alloc w _).1, by simp, by simp, by simp, by simp⟩⟩
    have hnews : ∀ j u, xs[j]? = some u → (w.alloc (.cells #[] 99)).cell? ((⟨g, 0, none⟩ : Addr).add j) = some u := by
      intro j u hj
      have e : (⟨g, 0, none⟩ : Addr).add j = ⟨g, j, none⟩ := by unfold Addr.add; split <;> simp_all
      obtain ⟨a, c, e1, hf⟩ := row_form h
      cases e1
      obtain ⟨b, e2, hc, _⟩ := hf j u hj
      cases e2
      rw [e]
      exact (World.cell?_of_block (w := w) (Below.heap_alloc w _ _ (World.block_lt_of_cell? w _ hc))).trans hc
    have hone : ∀ u ∈ xs, u.oneCell' = true := hones
    have hlen := h.1
    have HR := Lib.hid h
    have HL := Lib.hid hlen
    clear h h3 h6 h7 hlen
    go_enter Try.func48, Try.ntmps48
    go_wp2_with (at_builtin; refine wpList_append_own_at _ rfl _ _ 62 rfl 0 99 i0 (.agg #[.int .i64 0, .int .i64 0, .int .i64 0]) 3 24 Try.underlying62 hi hz0 hz1 hz2 rfl (by decide) _ _ _ rfl hown ⟨g, 0, none⟩ n cap xs rfl HL.out hnews hone (by unfold maxLen; omega) (by omega) (Nat.zero_le _) ?_; intro v' w1 hown1 hgrow hnil hloc)
    go_ret
    exact clone_end hown1 hgrow hnil hloc

set_option maxHeartbeats 1000000 in
theorem clipAcc_any (a : Option Addr) (n c : Nat) (w : World) (hn : n < 1073741824) (hc : n ≤ c) (ha : a = none → n = 0 ∧ c = 0) (hb : ∀ ad, a = some ad → ∃ b, ad = ⟨b, 0, none⟩) :
    Calls Try.prog 47 #[.slice a n c] w fun e w' => e = .returned (.slice a n n) ∧ w' = w := by
  cases a with
  | none =>
    obtain ⟨rfl, rfl⟩ := ha rfl
    go_enter Try.func47, Try.ntmps47
    go_wp2
    go_ret
    exact ⟨rfl, rfl⟩
  | some ad =>
    obtain ⟨b, rfl⟩ := hb ad rfl
    clear ha hb
    go_enter Try.func47, Try.ntmps47
    go_wp2
    go_ret
    exact ⟨rfl, rfl⟩

def LogPost (w : World) (l : List Acc) (e : Ending) (w' : World) : Prop := ∃ a c, e = .returned (.slice a l.length c) ∧ RdFrom w' w.heap.size a (logC l) ∧ Below w.heap.size w w'

theorem logC_one (l : List Acc) : ∀ u ∈ logC l, u.oneCell' = true := by
  intro u hu
  obtain ⟨a, _, h⟩ := List.mem_flatMap.1 hu
  exact accC_one a u h

set_option maxHeartbeats 1000000 in
theorem log_any (g : Nat) (F : Nat → Prop) (m : M) (w : World) (h : Mem w g F m) (hs : m.small) :
    Calls Try.prog 28 #[.pointer (some ⟨g, 0, none⟩)] w (LogPost w m.Lg) := by
  obtain ⟨vw, vl, vg, hm, rfl⟩ := h
  obtain ⟨c0, c1, c2, _⟩ := hm.cells
  have hl := hm.log
  have HL := Lib.hid hl
  have HS := Lib.hid hs
  clear hm hl hs
  go_enter Try.func28, Try.ntmps28
  go_wp2_with fail
  refine (cloneAcc_any vg _ _ _ HL.out (by have := HS.out.2.2; omega) (logC_one _)).mono ?_
  rintro e w1 ⟨a, c, rfl, h1, h2, h3, h4, h5⟩
  have H4 := Lib.hid h4
  have H5 := Lib.hid h5
  have H2 := Lib.hid h2
  have H3 := Lib.hid h3
  clear h4 h5 h2 h3
  go_wp2_with fail
  refine (clipAcc_any a m.Lg.length c _ (by have := HS.out.2.2; omega) h1 H2.out H3.out).mono ?_
  rintro e w2 ⟨rfl, rfl⟩
  go_wp2_with fail
  go_ret
  exact ⟨a, _, rfl, H4.out, H5.out⟩
end Go.Proofs.Ytahgapkecabnjaa
/- A table of flows in stripes, on a memory: its shape. -/
namespace Go.Proofs.Ytahgapkecabnjaa
set_option linter.unusedSimpArgs false
set_option linter.unusedVariables false
open Go Go.RowKit Go.Shelf Go.Lib Go.Maps Go.MapKept
open Go.ChangeMaps (setBlock)

/-- What a table is. -/
structure Tb where
  m : M
  n : Nat
  fl : Kl (Int × Bool)
structure Tb.Ok (t : Tb) : Prop where
  pow : t.n ∈ pows
  rise : Rises (keysL t.fl)
  kin : ∀ k ∈ keysL t.fl, k.In
  few : t.fl.length ≤ 1000000
  sm : t.m.small
theorem Tb.Ok.pos {t : Tb} (h : t.Ok) : 0 < t.n := (pows_pos h.pow).1
theorem Tb.Ok.le {t : Tb} (h : t.Ok) : t.n ≤ 4096 := (pows_pos h.pow).2

def evT (p : Int × Bool) : Value := .agg #[.int .i64 p.1, .bool p.2]

theorem zero_tentry : ∀ w, (zeroValue 81).run Try.prog w = .ok (.agg #[.int .i64 0, .bool false]) w := fun w => by kernel_rfl
/-- A flow's entry; none: nothing. -/
def entT (fl : Kl (Int × Bool)) (k : Ky) : Int × Bool := (getL fl k).getD (0, false)
theorem tlook {w : World} {b : Nat} {fl : Kl (Int × Bool)} {f : Value → Option Value} (h : FlowsAt w b evT fl f) {k : Ky} (hk : k.In) :
    (Instr.lookup 76 (.map (some b)) (kyV k) true).run Try.prog w = .ok (.tuple #[evT (entT fl k), .bool (hasL fl k)]) w := by
  obtain ⟨kl, hkl⟩ := ky_key hk
  rw [h.is.lookup ky_keyed Try.underlying76 (zero_tentry w) hkl true, h.get]
  unfold entT hasL
  cases getL fl k <;> rfl
theorem tupd_key {fl : Kl (Int × Bool)} {f : Value → Option Value} (hg : ∀ k, f (kyV k) = (getL fl k).map evT) (ho : ∀ v x, f v = some x → ∃ k, v = kyV k) (k : Ky) (y : Option (Int × Bool)) (fl' : Kl (Int × Bool)) (he : ∀ z, getL fl' z = if z = k then y else getL fl z) :
    (∀ z, upd f (kyV k) (y.map evT) (kyV z) = (getL fl' z).map evT) ∧ ∀ v x, upd f (kyV k) (y.map evT) v = some x → ∃ z, v = kyV z := by
  refine ⟨fun z => ?_, fun v x hv => ?_⟩
  · rw [he]
    by_cases e : z = k
    · subst e; rw [upd_same, if_pos rfl]
    · rw [upd_other _ _ (fun h => e (kyV_inj h)), if_neg e]; exact hg z
  · by_cases e : v = kyV k
    · exact ⟨k, e⟩
    · rw [upd_other _ _ e] at hv; exact ho v x hv
theorem tdel {w : World} {b : Nat} {fl : Kl (Int × Bool)} {f : Value → Option Value} (h : FlowsAt w b evT fl f) {k : Ky} (hk : k.In) (ty : TypeId) :
    ∃ o, (Builtin.delete_ #[76, 28] ty #[.map (some b), kyV k]).run Try.prog w = .ok (.tuple #[]) (setBlock w b o) ∧ FlowsAt (setBlock w b o) b evT (delL fl k) (upd f (kyV k) none) := by
  obtain ⟨kl, hkl⟩ := ky_key hk
  obtain ⟨o, h1, h2⟩ := h.is.delete ky_keyed Try.underlying76 hkl ty
  obtain ⟨a, c⟩ := tupd_key h.get h.only k none (delL fl k) (fun z => getL_del fl k z)
  exact ⟨o, h1, h2, a, c⟩
theorem tput {w : World} {b : Nat} {fl : Kl (Int × Bool)} {f : Value → Option Value} (h : FlowsAt w b evT fl f) {k : Ky} (hk : k.In) (e : Int × Bool) :
    ∃ o, (Instr.mapUpdate 76 (.map (some b)) (kyV k) (evT e)).run Try.prog w = .ok () (setBlock w b o) ∧ FlowsAt (setBlock w b o) b evT (putL fl k e) (upd f (kyV k) (some (evT e))) := by
  obtain ⟨kl, hkl⟩ := ky_key hk
  obtain ⟨o, h1, h2⟩ := h.is.update ky_keyed Try.underlying76 hkl (evT e)
  obtain ⟨a, c⟩ := tupd_key h.get h.only k (some e) (putL fl k e) (fun z => getL_put fl k e z)
  exact ⟨o, h1, h2, a, c⟩
theorem tset_other (w : World) (b : Nat) (o : Obj) {i : Nat} (h : i ≠ b) : (setBlock w b o).heap[i]? = w.heap[i]? := (OnlyB.set w b o).other i h
theorem Turn.setMap {F : Nat → Prop} {w w1 : World} (h : Turn F w w1) (b : Nat) (o : Obj) (hb : F b ∨ w.heap.size ≤ b) : Turn F w (setBlock w1 b o) := by
  have k := OnlyB.set w1 b o
  exact ⟨k.os.trans h.os, k.tape.trans h.tape, k.output.trans h.output, by rw [k.size]; exact h.size, fun i hi hf => (k.other i (fun e => by subst e; exact hb.elim hf (fun hle => by omega))).trans (h.block i hi hf)⟩

/-- The blocks of a memory hold cells, of four types. -/
theorem Mem.types {w : World} {g : Nat} {F : Nat → Prop} {m : M} (h : Mem w g F m) {i : Nat} (hi : F i) : ∃ cs T fr, w.heap[i]? = some (.cells cs T fr) ∧ (T = 72 ∨ T = 93 ∨ T = 3 ∨ T = 99) := by
  obtain ⟨vw, vl, vg, hm, rfl⟩ := h
  rcases hi with rfl | hb | hb | hb
  · exact ⟨_, _, _, hm.blk, .inl rfl⟩
  · obtain ⟨c, hc⟩ := row_type hm.words hb
    exact ⟨_, _, _, hc, .inr (.inl rfl)⟩
  · obtain ⟨c, hc⟩ := row_type hm.locks hb
    exact ⟨_, _, _, hc, .inr (.inr (.inl rfl))⟩
  · obtain ⟨c, hc⟩ := row_type hm.log hb
    exact ⟨_, _, _, hc, .inr (.inr (.inr rfl))⟩

def mapC (bs : List Nat) : List Value := bs.map fun b => .map (some b)
def tabFoot (g : Nat) (Fm : Nat → Prop) (v : Value) (bs : List Nat) : Nat → Prop := fun i => Fm i ∨ i = g ∨ v.ownBlock = some i ∨ i ∈ bs

/-- Block g is a table, on the memory bm. -/
structure TabW (w : World) (g bm : Nat) (Fm : Nat → Prop) (t : Tb) (v : Value) (bs : List Nat) (fs : Nat → Value → Option Value) : Prop where
  box : w.heap[g]? = some (.cells #[.pointer (some ⟨bm, 0, none⟩), v] 75 (0, 0))
  mem : Mem w bm Fm t.m
  row : Row w 76 1 v t.n (mapC bs)
  maps : ∀ s b, bs[s]? = some b → FlowsAt w b evT (inS t.n s t.fl) (fs s)
  nodup : bs.Nodup
def Tab (w : World) (g bm : Nat) (F : Nat → Prop) (t : Tb) : Prop := ∃ Fm v bs fs, TabW w g bm Fm t v bs fs ∧ F = tabFoot g Fm v bs

section
variable {w w' : World} {g bm : Nat} {Fm F : Nat → Prop} {t : Tb} {v : Value} {bs : List Nat} {fs : Nat → Value → Option Value}
theorem TabW.len (h : TabW w g bm Fm t v bs fs) : bs.length = t.n := by
  have := h.row.1
  simpa [mapC] using this
theorem TabW.lt (h : TabW w g bm Fm t v bs fs) : g < w.heap.size := (Array.getElem?_eq_some_iff.1 h.box).1
theorem TabW.map_of (h : TabW w g bm Fm t v bs fs) {b : Nat} (hb : b ∈ bs) : ∃ es c, w.heap[b]? = some (.map es c) := by
  obtain ⟨s, hs⟩ := List.getElem?_of_mem hb
  obtain ⟨es, c, e, _⟩ := (h.maps s b hs).is
  exact ⟨es, c, e⟩
theorem TabW.foot_lt (h : TabW w g bm Fm t v bs fs) : ∀ i, tabFoot g Fm v bs i → i < w.heap.size := by
  rintro i (h1 | rfl | h1 | h1)
  · exact IsMem.foot_lt h.mem i h1
  · exact h.lt
  · exact row_lt h.row h1
  · obtain ⟨es, c, e⟩ := h.map_of h1
    exact (Array.getElem?_eq_some_iff.1 e).1
theorem Tab.foot_lt (h : Tab w g bm F t) : ∀ i, F i → i < w.heap.size := by
  obtain ⟨Fm, v, bs, fs, hw, rfl⟩ := h
  exact hw.foot_lt
/-- The parts lie apart, by their types. -/
theorem TabW.apart (h : TabW w g bm Fm t v bs fs) : (∀ i, Fm i → i ≠ g ∧ v.ownBlock ≠ some i ∧ i ∉ bs) ∧ (∀ b, v.ownBlock = some b → b ≠ g ∧ b ∉ bs) ∧ g ∉ bs := by
  refine ⟨fun i hi => ?_, fun b hb => ⟨?_, fun hm => ?_⟩, fun hm => ?_⟩
  · obtain ⟨cs, T, fr, hc, hT⟩ := Mem.types h.mem hi
    refine ⟨?_, fun hv => ?_, fun hm => ?_⟩
    · rintro rfl
      rw [h.box] at hc
      injection hc with hc
      injection hc with _ hc
      rcases hT with e | e | e | e <;> (rw [e] at hc; exact absurd hc (by decide))
    · obtain ⟨cur, hr⟩ := row_type h.row hv
      rw [hr] at hc
      injection hc with hc
      injection hc with _ hc
      rcases hT with e | e | e | e <;> (rw [e] at hc; exact absurd hc (by decide))
    · obtain ⟨es, c, e⟩ := h.map_of hm
      rw [e] at hc
      cases hc
  · rintro rfl
    obtain ⟨cur, hr⟩ := row_type h.row hb
    rw [h.box] at hr
    injection hr with hr
    injection hr with _ hr
    exact absurd hr (by decide)
  · obtain ⟨cur, hr⟩ := row_type h.row hb
    obtain ⟨es, c, e⟩ := h.map_of hm
    rw [e] at hr
    cases hr
  · obtain ⟨es, c, e⟩ := h.map_of hm
    have := h.box
    rw [e] at this
    cases this
/-- All but the memory stands as it was. -/
theorem TabW.keep (h : TabW w g bm Fm t v bs fs) {Fm' : Nat → Prop} {m' : M} (hm : Mem w' bm Fm' m') (ho : ∀ i, (i = g ∨ v.ownBlock = some i ∨ i ∈ bs) → w'.heap[i]? = w.heap[i]?) : TabW w' g bm Fm' { t with m := m' } v bs fs :=
  ⟨(ho g (.inl rfl)).trans h.box, hm, row_of_block h.row (fun b e => ho b (.inr (.inl e))), fun s b hb => (h.maps s b hb).of_block (ho b (.inr (.inr (List.mem_of_getElem? hb)))), h.nodup⟩
theorem Tab.turn {G : Nat → Prop} (h : Tab w g bm F t) (k : Turn G w w') (hs : Sep F G) : Tab w' g bm F t := by
  obtain ⟨Fm, v, bs, fs, hw, rfl⟩ := h
  refine ⟨Fm, v, bs, fs, ?_, rfl⟩
  exact hw.keep (m' := t.m) (IsMem.turn hw.mem k (fun i hi => hs i (.inl hi))) (fun i hi => k.block i (hw.foot_lt i (.inr hi)) (hs i (.inr hi)))
theorem Tab.below (h : Tab w g bm F t) (k : Below w.heap.size w w') : Tab w' g bm F t := h.turn (Turn.of_below (F := fun _ => False) k) (fun _ _ h => h)
theorem TabW.cells (h : TabW w g bm Fm t v bs fs) : w.cell? ⟨g, 0, none⟩ = some (.pointer (some ⟨bm, 0, none⟩)) ∧ w.cell? ⟨g, 1, none⟩ = some v ∧ ∀ o, w.frozen? ⟨g, o, none⟩ = false := by
  refine ⟨?_, ?_, fun o => ?_⟩ <;> simp [World.cell?, World.frozen?, h.box]
/-- The stripes, for the walk. -/
theorem TabW.stripes (h : TabW w g bm Fm t v bs fs) : ∃ a c, v = .slice a t.n c ∧ ∀ s, s < t.n → ∃ b gs, bs[s]? = some b ∧ a = some ⟨gs, 0, none⟩ ∧ w.cell? ⟨gs, s, none⟩ = some (.map (some b)) := by
  obtain ⟨a, c, e, hc⟩ := row_form h.row
  refine ⟨a, c, e, fun s hs => ?_⟩
  have hl : s < bs.length := by rw [h.len]; exact hs
  obtain ⟨gs, e2, h1, _⟩ := hc s (.map (some bs[s])) (by simp [mapC, List.getElem?_eq_getElem hl])
  exact ⟨bs[s], gs, List.getElem?_eq_getElem hl, e2, h1⟩
end

theorem TabW.below {w w' : World} {g bm : Nat} {Fm : Nat → Prop} {t : Tb} {v : Value} {bs : List Nat} {fs : Nat → Value → Option Value} (h : TabW w g bm Fm t v bs fs) (k : Below w.heap.size w w') : TabW w' g bm Fm t v bs fs :=
  h.keep (m' := t.m) (IsMem.turn h.mem (Turn.of_below (F := fun _ => False) k) (fun _ _ h => h)) (fun i hi => k.block i (h.foot_lt i (.inr hi)))
theorem inS_put_same {α : Type} {n : Nat} {l : Kl α} (k : Ky) (x : α) {s : Nat} (h : stripeF k n = s) : inS n s (putL l k x) = putL (inS n s l) k x := by rw [inS_put, if_pos h]
theorem inS_get_other {α : Type} {n s : Nat} {l : Kl α} {k : Ky} (h : stripeF k n ≠ s) : getL (inS n s l) k = none := by
  rw [getL_none, keys_inS]
  exact fun hh => h hh.2
theorem inS_put_other {α : Type} {n : Nat} {l : Kl α} (hr : Rises (keysL l)) (k : Ky) (x : α) {s : Nat} (h : s ≠ stripeF k n) : inS n s (putL l k x) = inS n s l := by
  refine kl_one (inS_rise (rises_put hr k x)) (inS_rise hr) (fun z => ?_)
  by_cases e : stripeF z n = s
  · rw [inS_get e, inS_get e, getL_put, if_neg]
    rintro rfl
    exact h e.symm
  · rw [inS_get_other e, inS_get_other e]
theorem inS_del_other {α : Type} {n : Nat} {l : Kl α} (k : Ky) {s : Nat} (h : s ≠ stripeF k n) : inS n s (delL l k) = inS n s l := by
  rw [inS_del, del_none (inS_get_other (Ne.symm h))]
/-- What a call leaves of a table. -/
def TabPost (w : World) (g bm : Nat) (F : Nat → Prop) (r : Value) (t : Tb) (e : Ending) (w' : World) : Prop :=
  e = .returned r ∧ ∃ F', Tab w' g bm F' t ∧ Turn F w w' ∧ Ext w F F'
theorem tabPost_same {w : World} {g bm : Nat} {F : Nat → Prop} {r : Value} {t : Tb} (h : Tab w g bm F t) : TabPost w g bm F r t (.returned r) w := ⟨rfl, F, h, Turn.refl _ _, Ext.refl _ _⟩
theorem tabPost_below {w w' : World} {g bm : Nat} {F : Nat → Prop} {r : Value} {t : Tb} (h : Tab w g bm F t) (k : Below w.heap.size w w') : TabPost w g bm F r t (.returned r) w' := ⟨rfl, F, h.below k, Turn.of_below k, Ext.refl _ _⟩
theorem TabPost.then {w w1 w2 : World} {g bm : Nat} {F : Nat → Prop} {r r' : Value} {m m' : Tb} {e : Ending} (h : TabPost w g bm F r m e w1) (k : ∀ F', Tab w1 g bm F' m → Turn F w w1 → TabPost w1 g bm F' r' m' (.returned r') w2) : TabPost w g bm F r' m' (.returned r') w2 := by
  obtain ⟨_, F', hm, ht, he⟩ := h
  obtain ⟨_, F2, hm2, ht2, he2⟩ := k F' hm ht
  exact ⟨rfl, F2, hm2, ht.trans ht2 he, he.trans he2 ht.size⟩
/-- A call on the memory, seen from the table. -/
theorem Tab.mem_post {w : World} {g bm : Nat} {F : Nat → Prop} {t : Tb} {f : FuncId} {args : Array Value} {r : Value} {m' : M} (h : Tab w g bm F t) (hc : ∀ Fm, Mem w bm Fm t.m → Calls Try.prog f args w (MemPost w bm Fm r m')) :
    Calls Try.prog f args w (TabPost w g bm F r { t with m := m' }) := by
  obtain ⟨Fm, v, bs, fs, hw, rfl⟩ := h
  refine (hc Fm hw.mem).mono ?_
  rintro e w' ⟨rfl, F', hm, ht, hx⟩
  obtain ⟨a1, a2, a3⟩ := hw.apart
  refine ⟨rfl, tabFoot g F' v bs, ⟨F', v, bs, fs, hw.keep hm (fun i hi => ht.block i (hw.foot_lt i (.inr hi)) (fun hf => ?_)), rfl⟩, ht.mono (fun i hi => .inl hi), fun i hi => ?_⟩
  · obtain ⟨b1, b2, b3⟩ := a1 i hf
    rcases hi with e | e | e
    · exact b1 e
    · exact b2 e
    · exact b3 e
  · rcases hi with h1 | h1
    · exact (hx i h1).imp .inl id
    · exact .inl (.inr h1)
theorem Tab.mem {w : World} {g bm : Nat} {F : Nat → Prop} {t : Tb} (h : Tab w g bm F t) : ∃ Fm, Mem w bm Fm t.m := by
  obtain ⟨Fm, v, bs, fs, hw, rfl⟩ := h
  exact ⟨Fm, hw.mem⟩
/-- One stripe's map is another. -/
theorem TabW.setmap {w : World} {g bm : Nat} {Fm : Nat → Prop} {t : Tb} {v : Value} {bs : List Nat} {fs : Nat → Value → Option Value} (h : TabW w g bm Fm t v bs fs) {s b : Nat} (hb : bs[s]? = some b) (o : Obj) {fl' : Kl (Int × Bool)} {f' : Value → Option Value}
    (hf : FlowsAt (setBlock w b o) b evT (inS t.n s fl') f') (hr : ∀ s', s' ≠ s → inS t.n s' fl' = inS t.n s' t.fl) {t2 : Tb} (h2 : t2 = ⟨t.m, t.n, fl'⟩) : Tab (setBlock w b o) g bm (tabFoot g Fm v bs) t2 ∧ Turn (tabFoot g Fm v bs) w (setBlock w b o) := by
  subst h2
  obtain ⟨a1, a2, a3⟩ := h.apart
  have hm := List.mem_of_getElem? hb
  have T : Turn (fun i => i = b) w (setBlock w b o) := (Turn.refl _ w).setMap b o (.inl rfl)
  refine ⟨⟨Fm, v, bs, fun s' => if s' = s then f' else fs s', ⟨?_, ?_, ?_, fun s' b' hb' => ?_, h.nodup⟩, rfl⟩, T.mono (fun i hi => by subst hi; exact .inr (.inr (.inr hm)))⟩
  · exact (tset_other w b o (fun e => a3 (by rw [e]; exact hm))).trans h.box
  · exact IsMem.turn h.mem T (fun i hi e => (a1 i hi).2.2 (by rw [e]; exact hm))
  · exact row_of_block h.row (fun i hi => tset_other w b o (fun e => (a2 i hi).2 (by rw [e]; exact hm)))
  · by_cases e : s' = s
    · subst e
      rw [hb] at hb'
      cases hb'
      simpa using hf
    · have hne : b' ≠ b := fun e2 => by
        subst e2
        obtain ⟨h1, e1⟩ := List.getElem?_eq_some_iff.1 hb
        obtain ⟨h2, e2⟩ := List.getElem?_eq_some_iff.1 hb'
        rcases Nat.lt_or_gt_of_ne e with hlt | hgt
        · exact List.pairwise_iff_getElem.1 h.nodup s' s h2 h1 hlt (by rw [e1, e2])
        · exact List.pairwise_iff_getElem.1 h.nodup s s' h1 h2 hgt (by rw [e1, e2])
      rw [if_neg e, hr s' e]
      exact (h.maps s' b' hb').of_block (tset_other w b o hne)
end Go.Proofs.Ytahgapkecabnjaa
