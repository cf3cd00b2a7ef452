/- Three logs that are built; the walk of RaceAlone. -/
import Derived.Test.YtccbiolgdamnpaaRaceQ
namespace Go.Proofs.Ytccbiolgdamnpaa
set_option linter.unusedSimpArgs false
set_option linter.unusedVariables false
open Go Go.RowKit

/-! ### What the three logs hold -/
theorem ac_mem {L : List Ac} {i : Nat} (hi : i < L.length) : ac L i ∈ L := by
  unfold ac
  rw [List.getD_eq_getElem?_getD, List.getElem?_eq_getElem hi]
  exact List.getElem_mem hi
theorem ac_left (L M : List Ac) {i : Nat} (hi : i < L.length) : ac (L ++ M) i = ac L i := by
  unfold ac
  rw [List.getD_eq_getElem?_getD, List.getD_eq_getElem?_getD, List.getElem?_append_left hi]
theorem ac_right (L M : List Ac) (k : Nat) : ac (L ++ M) (L.length + k) = ac M k := by
  unfold ac
  rw [List.getD_eq_getElem?_getD, List.getD_eq_getElem?_getD, List.getElem?_append_right (by omega), Nat.add_sub_cancel_left]
def Of1 (L : List Ac) : Prop := ∀ x ∈ L, AcOk x ∧ x.th = 7
def Of2 (L : List Ac) : Prop := ∀ x ∈ L, AcOk x ∧ (0 ≤ x.th ∧ x.th < 64) ∧ x.kd ≠ 6
structure Of3 (p : Int) (L : List Ac) : Prop where
  ok : ∀ x ∈ L, AcOk x ∧ (0 ≤ x.th ∧ x.th < 64)
  three : L.length % 3 = 0
  held : Held p L
theorem of1_find {L : List Ac} (h : Of1 L) : FindIs L (-1) 0 := alone_one fun i hi => (h _ (ac_mem hi)).2
theorem of2_find {L : List Ac} (h : Of2 L) : FindIs L (-1) 0 := alone_reads (fun i hi => (h _ (ac_mem hi)).2.1) fun i hi => (h _ (ac_mem hi)).2.2
theorem of3_find {p : Int} {L : List Ac} (h : Of3 p L) : FindIs L (-1) 0 := alone_held (fun i hi => (h.ok _ (ac_mem hi)).2) h.three h.held
theorem of1_push {L : List Ac} (h : Of1 L) {x : Ac} (hx : AcOk x ∧ x.th = 7) : Of1 (L ++ [x]) := fun y hy => by
  rcases List.mem_append.1 hy with h1 | h1
  · exact h y h1
  · rw [List.mem_singleton.1 h1]; exact hx
theorem of2_push {L : List Ac} (h : Of2 L) {x : Ac} (hx : AcOk x ∧ (0 ≤ x.th ∧ x.th < 64) ∧ x.kd ≠ 6) : Of2 (L ++ [x]) := fun y hy => by
  rcases List.mem_append.1 hy with h1 | h1
  · exact h y h1
  · rw [List.mem_singleton.1 h1]; exact hx
theorem of3_push {p : Int} {L : List Ac} (h : Of3 p L) {t k q : Int} (h0 : AcOk ⟨t, 1, p⟩ ∧ AcOk ⟨t, k, q⟩ ∧ AcOk ⟨t, 2, p⟩) (ht : 0 ≤ t ∧ t < 64) : Of3 p (L ++ [⟨t, 1, p⟩, ⟨t, k, q⟩, ⟨t, 2, p⟩]) := by
  refine ⟨fun y hy => ?_, by have := h.three; simp; omega, fun i hi => ?_⟩
  · rcases List.mem_append.1 hy with h1 | h1
    · exact h.ok y h1
    · simp only [List.mem_cons, List.not_mem_nil, or_false] at h1
      rcases h1 with rfl | rfl | rfl
      · exact ⟨h0.1, ht⟩
      · exact ⟨h0.2.1, ht⟩
      · exact ⟨h0.2.2, ht⟩
  · have h3 := h.three
    rcases Nat.lt_or_ge i L.length with hl | hl
    · rw [ac_left _ _ hl, ac_left _ _ (by omega : i - i % 3 < L.length)]
      exact h.held i hl
    · obtain ⟨r, rfl⟩ : ∃ r, i = L.length + r := ⟨i - L.length, by omega⟩
      have hr : r < 3 := by rw [List.length_append] at hi; simp at hi; omega
      have e0 := ac_right L [⟨t, 1, p⟩, ⟨t, k, q⟩, ⟨t, 2, p⟩] 0
      rw [Nat.add_zero] at e0
      rw [ac_right, show L.length + r - (L.length + r) % 3 = L.length by omega, e0]
      rcases (by omega : r = 0 ∨ r = 1 ∨ r = 2) with rfl | rfl | rfl
      · exact ⟨fun _ => ⟨rfl, rfl⟩, fun h => by omega, rfl⟩
      · exact ⟨fun h => by omega, fun h => by omega, rfl⟩
      · exact ⟨fun h => by omega, fun _ => ⟨rfl, rfl⟩, rfl⟩
theorem of1_nil : Of1 [] := fun _ h => by cases h
theorem of2_nil : Of2 [] := fun _ h => by cases h
theorem of3_nil (p : Int) : Of3 p [] := ⟨(fun _ h => by cases h), rfl, (fun i hi => by cases hi)⟩

/-! ### The three logs in memory -/
/-- Three logs in blocks of their own, made since w0. -/
structure Tn (w0 w : World) (v1 v2 v3 : Value) (L1 L2 L3 : List Ac) : Prop where
  r1 : Row w 32 3 v1 L1.length (logC L1)
  r2 : Row w 32 3 v2 L2.length (logC L2)
  r3 : Row w 32 3 v3 L3.length (logC L3)
  b1 : ∀ b, v1.ownBlock = some b → w0.heap.size ≤ b ∧ v2.ownBlock ≠ some b ∧ v3.ownBlock ≠ some b
  b2 : ∀ b, v2.ownBlock = some b → w0.heap.size ≤ b ∧ v1.ownBlock ≠ some b ∧ v3.ownBlock ≠ some b
  b3 : ∀ b, v3.ownBlock = some b → w0.heap.size ≤ b ∧ v1.ownBlock ≠ some b ∧ v2.ownBlock ≠ some b
  below : Below w0.heap.size w0 w
theorem Tn.rot {w0 w : World} {v1 v2 v3 : Value} {L1 L2 L3 : List Ac} (h : Tn w0 w v1 v2 v3 L1 L2 L3) : Tn w0 w v2 v3 v1 L2 L3 L1 :=
  ⟨h.r2, h.r3, h.r1, fun b hb => let ⟨h1, h2, h3⟩ := h.b2 b hb; ⟨h1, h3, h2⟩, fun b hb => let ⟨h1, h2, h3⟩ := h.b3 b hb; ⟨h1, h3, h2⟩, fun b hb => h.b1 b hb, h.below⟩
theorem Tn.alloc {w0 w : World} {v1 v2 v3 : Value} {L1 L2 L3 : List Ac} (h : Tn w0 w v1 v2 v3 L1 L2 L3) (o : Obj) : Tn w0 (w.alloc o) v1 v2 v3 L1 L2 L3 :=
  ⟨h.r1.alloc o, h.r2.alloc o, h.r3.alloc o, h.b1, h.b2, h.b3, h.below.alloc h.below.size o⟩
/-- A block of the call's own, apart from the logs. -/
structure Bx (w0 w : World) (bx : Nat) (x : Ac) (v1 v2 v3 : Value) : Prop where
  blk : w.heap[bx]? = some (.cells #[.int .i64 x.th, .int .i64 x.kd, .int .i64 x.pl] 32 (0, 0))
  base : w0.heap.size ≤ bx
  n1 : v1.ownBlock ≠ some bx
  n2 : v2.ownBlock ≠ some bx
  n3 : v3.ownBlock ≠ some bx
theorem Bx.rot {w0 w : World} {bx : Nat} {x : Ac} {v1 v2 v3 : Value} (h : Bx w0 w bx x v1 v2 v3) : Bx w0 w bx x v2 v3 v1 := ⟨h.blk, h.base, h.n2, h.n3, h.n1⟩
theorem Bx.new {w0 w : World} {v1 v2 v3 : Value} {L1 L2 L3 : List Ac} (h : Tn w0 w v1 v2 v3 L1 L2 L3) (x : Ac) : Bx w0 (w.alloc (.cells #[.int .i64 x.th, .int .i64 x.kd, .int .i64 x.pl] 32)) w.heap.size x v1 v2 v3 :=
  ⟨(MapKept.heap_alloc w _).1, h.below.size, fun e => Nat.lt_irrefl _ (row_lt h.r1 e), fun e => Nat.lt_irrefl _ (row_lt h.r2 e), fun e => Nat.lt_irrefl _ (row_lt h.r3 e)⟩
theorem Bx.lt {w0 w : World} {bx : Nat} {x : Ac} {v1 v2 v3 : Value} (h : Bx w0 w bx x v1 v2 v3) : bx < w.heap.size := (Array.getElem?_eq_some_iff.1 h.blk).1
theorem Bx.cells {w0 w : World} {bx : Nat} {x : Ac} {v1 v2 v3 : Value} (h : Bx w0 w bx x v1 v2 v3) : w.cell? ⟨bx, 0, none⟩ = some (.int .i64 x.th) ∧ w.cell? ⟨bx, 1, none⟩ = some (.int .i64 x.kd) ∧ w.cell? ⟨bx, 2, none⟩ = some (.int .i64 x.pl) ∧ w.frozen? ⟨bx, 0, none⟩ = false := by
  refine ⟨?_, ?_, ?_, ?_⟩ <;> simp [World.cell?, World.frozen?, h.blk]
/-- Another thread in the box. -/
theorem Bx.set {w0 w : World} {bx : Nat} {t k q : Int} {v1 v2 v3 : Value} (h : Bx w0 w bx ⟨t, k, q⟩ v1 v2 v3) (u : Int) : Bx w0 (w.setCell ⟨bx, 0, none⟩ (.int .i64 u)) bx ⟨u, k, q⟩ v1 v2 v3 :=
  ⟨set_heap_row h.blk _, h.base, h.n1, h.n2, h.n3⟩
theorem Tn.set {w0 w : World} {v1 v2 v3 : Value} {L1 L2 L3 : List Ac} (h : Tn w0 w v1 v2 v3 L1 L2 L3) {bx : Nat} {x : Ac} (hb : Bx w0 w bx x v1 v2 v3) (v : Value) : Tn w0 (w.setCell ⟨bx, 0, none⟩ v) v1 v2 v3 L1 L2 L3 := by
  have keep : ∀ {b}, b ≠ bx → (w.setCell ⟨bx, 0, none⟩ v).heap[b]? = w.heap[b]? := fun hb => Below.heap_setCell _ _ _ _ hb
  exact ⟨row_of_block h.r1 fun b e => keep fun e2 => hb.n1 (by rw [← e2]; exact e), row_of_block h.r2 fun b e => keep fun e2 => hb.n2 (by rw [← e2]; exact e), row_of_block h.r3 fun b e => keep fun e2 => hb.n3 (by rw [← e2]; exact e),
    h.b1, h.b2, h.b3, h.below.setCell (p := ⟨bx, 0, none⟩) hb.base v⟩
/-- What append leaves. -/
theorem Tn.push {w0 w w1 : World} {v1 v2 v3 v' : Value} {L1 L2 L3 M : List Ac} {bx : Nat} {x : Ac} {o : Obj} (h : Tn w0 w v1 v2 v3 L1 L2 L3) (hb : Bx w0 w bx x v1 v2 v3) {m : Nat} (hm : M.length = m)
    (hown : w1.ownsRow 0 32 3 v' (L1.length + m) (logC L1 ++ logC M)) (hg : (w.alloc o).grownBy w1 v1.ownBlock) (hloc : v'.ownBlock = v1.ownBlock ∨ v'.ownBlock = some (w.alloc o).heap.size) :
    Tn w0 w1 v' v2 v3 (L1 ++ M) L2 L3 ∧ Bx w0 w1 bx x v' v2 v3 := by
  subst hm
  have hs : (w.alloc o).heap.size = w.heap.size + 1 := by simp
  have hbl : ∀ b, b < w.heap.size → v1.ownBlock ≠ some b → w1.heap[b]? = w.heap[b]? := fun b hlt hne => by
    rw [hg.block b (by omega) (fun e => hne e.symm), Below.heap_alloc w o b hlt]
  have hext : ∀ b, v'.ownBlock = some b → v1.ownBlock = some b ∨ b = w.heap.size + 1 := fun b e => by
    rcases hloc with e2 | e2
    · exact .inl (by rw [← e2]; exact e)
    · rw [e] at e2; injection e2 with e2; exact .inr (by omega)
  have T : Turn (fun i => v1.ownBlock = some i) w w1 := ((Turn.refl _ w).alloc o).grown hg (fun b hb => .inl hb)
  have h2 : ∀ b, v2.ownBlock = some b → v'.ownBlock ≠ some b := fun b e e2 => (hext b e2).elim (fun e3 => (h.b2 b e).2.1 e3) (fun e3 => by have := row_lt h.r2 e; omega)
  have h3 : ∀ b, v3.ownBlock = some b → v'.ownBlock ≠ some b := fun b e e2 => (hext b e2).elim (fun e3 => (h.b3 b e).2.1 e3) (fun e3 => by have := row_lt h.r3 e; omega)
  have hx : logC (L1 ++ M) = logC L1 ++ logC M := by simp [logC]
  refine ⟨⟨by rw [List.length_append, hx]; exact hown, row_turn h.r2 T fun b e => (h.b2 b e).2.1, row_turn h.r3 T fun b e => (h.b3 b e).2.1, fun b e => ⟨?_, fun e2 => h2 b e2 e, fun e2 => h3 b e2 e⟩,
    fun b e => ⟨(h.b2 b e).1, h2 b e, (h.b2 b e).2.2⟩, fun b e => ⟨(h.b3 b e).1, h3 b e, (h.b3 b e).2.2⟩, h.below.trans (T.below h.below.size fun i hi => (h.b1 i hi).1)⟩,
    (hbl bx hb.lt hb.n1).trans hb.blk, hb.base, fun e => (hext bx e).elim hb.n1 (fun e2 => by have := hb.lt; omega), hb.n2, hb.n3⟩
  rcases hext b e with e2 | e2
  · exact (h.b1 b e2).1
  · have := h.below.size; omega
theorem row_empty (w : World) (T : TypeId) : Row (w.alloc (.cells #[] T)) T 3 (.slice (some ⟨w.heap.size, 0, none⟩) 0 0) 0 [] :=
  ⟨rfl, .inr ⟨w.heap.size, 0, #[], rfl, Nat.zero_le _, (MapKept.heap_alloc w _).1, Nat.le_refl _, Nat.zero_le _, rfl, rfl⟩⟩
theorem Tn.start (w : World) : Tn w (((w.alloc (.cells #[] 32)).alloc (.cells #[] 32)).alloc (.cells #[] 32)) (.slice (some ⟨w.heap.size, 0, none⟩) 0 0) (.slice (some ⟨w.heap.size + 1, 0, none⟩) 0 0) (.slice (some ⟨w.heap.size + 1 + 1, 0, none⟩) 0 0) [] [] [] := by
  have s1 : (w.alloc (.cells #[] 32)).heap.size = w.heap.size + 1 := by simp
  have s2 : ((w.alloc (.cells #[] 32)).alloc (.cells #[] 32)).heap.size = w.heap.size + 1 + 1 := by simp
  have r1 := row_empty w 32
  have r2 := row_empty (w.alloc (.cells #[] 32)) 32
  have r3 := row_empty ((w.alloc (.cells #[] 32)).alloc (.cells #[] 32)) 32
  rw [s1] at r2
  rw [s2] at r3
  refine ⟨(r1.alloc _).alloc _, r2.alloc _, r3, fun b e => ?_, fun b e => ?_, fun b e => ?_, (((Below.refl _ w).alloc (Nat.le_refl _) _).alloc (by simp) _).alloc (by simp; omega) _⟩
  · have e : some (w.heap.size) = some b := e
    have e3 : w.heap.size = b := Option.some.inj e
    exact ⟨by omega, fun (e2 : some (w.heap.size + 1) = some b) => by injection e2; omega, fun (e2 : some (w.heap.size + 1 + 1) = some b) => by injection e2; omega⟩
  · have e : some (w.heap.size + 1) = some b := e
    have e3 : w.heap.size + 1 = b := Option.some.inj e
    exact ⟨by omega, fun (e2 : some (w.heap.size) = some b) => by injection e2; omega, fun (e2 : some (w.heap.size + 1 + 1) = some b) => by injection e2; omega⟩
  · have e : some (w.heap.size + 1 + 1) = some b := e
    have e3 : w.heap.size + 1 + 1 = b := Option.some.inj e
    exact ⟨by omega, fun (e2 : some (w.heap.size) = some b) => by injection e2; omega, fun (e2 : some (w.heap.size + 1) = some b) => by injection e2; omega⟩
theorem accInfo : (Try.prog.info? 32).map (fun i => (i.zero, i.size, i.bytes)) = some (some (.agg #[.int .i64 0, .int .i64 0, .int .i64 0]), 3, 24) := by kernel_rfl
theorem logC_one (L : List Ac) : ∀ u ∈ logC L, u.oneCell' = true := by
  intro u hu
  obtain ⟨x, _, hx⟩ := List.mem_flatMap.1 hu
  simp only [accC, List.mem_cons, List.not_mem_nil, or_false] at hx
  rcases hx with rfl | rfl | rfl <;> rfl
end Go.Proofs.Ytccbiolgdamnpaa
