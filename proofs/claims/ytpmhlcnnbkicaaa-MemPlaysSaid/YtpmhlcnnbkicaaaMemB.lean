/- The walks of package mem: Words, has, Look, Load, Swap, Holder, Lock, Unlock, plain, Read, Write, More. -/
import Derived.Test.YtpmhlcnnbkicaaaMemA
namespace Go.Proofs.Ytpmhlcnnbkicaaa
set_option linter.unusedSimpArgs false
set_option linter.unusedVariables false
open Go Go.RowKit

/-- What a memory is. -/
structure M where
  W : List Int
  L : List Int
  Lg : List Acc

def M.small (m : M) : Prop := m.W.length < 1073741824 ∧ m.L.length < 1073741824 ∧ m.Lg.length < 1073741824
def Mem (w : World) (g : Nat) (F : Nat → Prop) (m : M) : Prop := IsMem w g F m.W m.L m.Lg

def M.note (m : M) (t k p : Int) : M := { m with Lg := m.Lg ++ [⟨t, k, p⟩] }
def M.has (m : M) (i : Int) : Bool := decide (0 ≤ i ∧ i < m.W.length)
def M.hasL (m : M) (i : Int) : Bool := decide (0 ≤ i ∧ i < m.L.length)
def M.look (m : M) (i : Int) : Int := if m.has i then m.W.getD i.toNat 0 else 0
def M.load (m : M) (t i : Int) : M := if m.has i then m.note t 3 (3 * i) else m
def M.swap (m : M) (t i old now : Int) : M :=
  if m.has i then (if m.W.getD i.toNat 0 = old then { (m.note t 4 (3 * i)) with W := m.W.set i.toNat now } else m.note t 3 (3 * i)) else m
def M.swapOk (m : M) (i old : Int) : Bool := m.has i && decide (m.W.getD i.toNat 0 = old)
def M.holder (m : M) (i : Int) : Int := if m.hasL i then m.L.getD i.toNat 0 else -1
def M.lockOk (m : M) (t i : Int) : Bool := m.hasL i && decide (m.L.getD i.toNat 0 = -1) && decide (0 ≤ t)
def M.lock (m : M) (t i : Int) : M := if m.lockOk t i then { (m.note t 1 (3 * i + 1)) with L := m.L.set i.toNat t } else m
def M.unlockE (m : M) (t i : Int) : Int := if m.hasL i then (if m.L.getD i.toNat 0 = t ∧ 0 ≤ t then 0 else 13) else 15
def M.unlock (m : M) (t i : Int) : M := if m.unlockE t i = 0 then { (m.note t 2 (3 * i + 1)) with L := m.L.set i.toNat (-1) } else m
def M.touch (m : M) (t k p : Int) : M := if 0 ≤ p ∧ p ≤ 1099511627776 then m.note t k (3 * p + 2) else m
def M.more (m : M) (x : Int) : M := { m with W := m.W ++ [x] }

/-- What a call leaves of a memory. -/
def MemPost (w : World) (g : Nat) (F : Nat → Prop) (r : Value) (m : M) (e : Ending) (w' : World) : Prop :=
  e = .returned r ∧ ∃ F', Mem w' g F' m ∧ Turn F w w' ∧ Ext w F F'

theorem memPost_same {w : World} {g : Nat} {F : Nat → Prop} {r : Value} {m : M} (h : Mem w g F m) : MemPost w g F r m (.returned r) w := ⟨rfl, F, h, Turn.refl _ _, Ext.refl _ _⟩
theorem MemPost.then {w w1 w2 : World} {g : Nat} {F : Nat → Prop} {r r' : Value} {m m' : M} {e : Ending} (h : MemPost w g F r m e w1) (k : ∀ F', Mem w1 g F' m → Turn F w w1 → MemPost w1 g F' r' m' (.returned r') w2) : MemPost w g F r' m' (.returned r') w2 := by
  obtain ⟨_, F', hm, ht, he⟩ := h
  obtain ⟨_, F2, hm2, ht2, he2⟩ := k F' hm ht
  exact ⟨rfl, F2, hm2, ht.trans ht2 he, he.trans he2 ht.size⟩

set_option maxHeartbeats 1000000 in
theorem noteM (g : Nat) (F : Nat → Prop) (m : M) (t k p : Int) (w : World) (h : Mem w g F m) (hs : m.small) :
    Calls Try.prog 69 #[.pointer (some ⟨g, 0, none⟩), .int .i64 t, .int .i64 k, .int .i64 p] w (MemPost w g F (.tuple #[]) (m.note t k p)) := by
  obtain ⟨vw, vl, vg, hm, rfl⟩ := h
  refine (note_any g vw vl vg m.W m.L m.Lg t k p w hm (by have := hs.2.2; omega)).mono ?_
  rintro e w' ⟨rfl, vg', hm', ht, hx⟩
  exact ⟨rfl, _, ⟨vw, vl, vg', hm', rfl⟩, ht.mono (fun i hi => hi.elim .inl (fun hb => .inr (.inr (.inr hb)))), fun i hi => by
    rcases hi with hi | hi | hi | hi
    · exact .inl (.inl hi)
    · exact .inl (.inr (.inl hi))
    · exact .inl (.inr (.inr (.inl hi)))
    · exact (hx i hi).imp (fun hb => .inr (.inr (.inr hb))) id⟩

/-- The length of the words, for the walk. -/
theorem Mem.words {w : World} {g : Nat} {F : Nat → Prop} {m : M} (h : Mem w g F m) : ∃ a c, w.cell? ⟨g, 0, none⟩ = some (.slice a m.W.length c) ∧
    (∀ j, j < m.W.length → ∃ b, a = some ⟨b, 0, none⟩ ∧ F b ∧ w.cell? ⟨b, j, none⟩ = some (.int .u64 (m.W.getD j 0)) ∧ w.frozen? ⟨b, j, none⟩ = false) := by
  obtain ⟨vw, vl, vg, hm, rfl⟩ := h
  obtain ⟨a, c, rfl, hc⟩ := row_form hm.words
  refine ⟨a, c, hm.cells.1, fun j hj => ?_⟩
  obtain ⟨b, rfl, h1, h2⟩ := hc j (.int .u64 (m.W.getD j 0)) (by simp [List.getD_eq_getElem?_getD, List.getElem?_eq_getElem hj])
  exact ⟨b, rfl, .inr (.inl rfl), h1, h2⟩
theorem Mem.locks {w : World} {g : Nat} {F : Nat → Prop} {m : M} (h : Mem w g F m) : ∃ a c, w.cell? ⟨g, 1, none⟩ = some (.slice a m.L.length c) ∧
    (∀ j, j < m.L.length → ∃ b, a = some ⟨b, 0, none⟩ ∧ F b ∧ w.cell? ⟨b, j, none⟩ = some (.int .i64 (m.L.getD j 0)) ∧ w.frozen? ⟨b, j, none⟩ = false) := by
  obtain ⟨vw, vl, vg, hm, rfl⟩ := h
  obtain ⟨a, c, rfl, hc⟩ := row_form hm.locks
  refine ⟨a, c, hm.cells.2.1, fun j hj => ?_⟩
  obtain ⟨b, rfl, h1, h2⟩ := hc j (.int .i64 (m.L.getD j 0)) (by simp [List.getD_eq_getElem?_getD, List.getElem?_eq_getElem hj])
  exact ⟨b, rfl, .inr (.inr (.inl rfl)), h1, h2⟩

set_option maxHeartbeats 1000000 in
theorem words_any (g : Nat) (F : Nat → Prop) (m : M) (w : World) (h : Mem w g F m) :
    Calls Try.prog 53 #[.pointer (some ⟨g, 0, none⟩)] w fun e w' => e = .returned (.int .i64 m.W.length) ∧ w' = w := by
  obtain ⟨a, c, hc, _⟩ := h.words
  go_enter Try.func53, Try.ntmps53
  go_wp2
  go_ret
  exact ⟨rfl, rfl⟩

set_option maxHeartbeats 1000000 in
theorem has_any' (g : Nat) (F : Nat → Prop) (m : M) (i : Int) (w : World) (h : Mem w g F m) :
    Calls Try.prog 72 #[.pointer (some ⟨g, 0, none⟩), .int .i64 i] w fun e w' => e = .returned (.bool (m.has i)) ∧ w' = w := by
  have H := Lib.hid h
  clear h
  go_enter Try.func72, Try.ntmps72
  go_wp2_with (go_at_call 53; refine (words_any g F m _ H.out).mono ?_; rintro e w' ⟨rfl, rfl⟩)
  all_goals
    go_ret
    refine ⟨congrArg (fun b => Ending.returned (.bool b)) ?_, rfl⟩
    simp only [M.has]
    first | (rw [decide_eq_decide]; omega) | (rw [eq_comm, decide_eq_false_iff_not]; omega) | (simp; omega)
end Go.Proofs.Ytpmhlcnnbkicaaa
