/- The state of package race in memory: 64 clocks, and maps of clocks and of what was touched. -/
import Derived.Test.YtccbiolgdamnpaaProg
import Derived.Test.YtccbiolgdamnpaaMapF
import Derived.Test.YtccbiolgdamnpaaHeap
import Derived.Test.YtccbiolgdamnpaaRegL
import Derived.Lib.Hide
import Derived.Outline
import Derived.Laws.Tables
import Derived.Laws.IdiomCopy
import Derived.Test.YtccbiolgdamnpaaRaceP
namespace Go.Proofs.Ytccbiolgdamnpaa
set_option linter.unusedSimpArgs false
set_option linter.unusedVariables false
open Go Go.RowKit Go.Maps Go.MapKept
open Go.ChangeMaps (setBlock)

/-- A clock, from cell o of block b on. -/
def Arr (w : World) (b o : Nat) (f : Nat → Nat) : Prop := ∀ u, u < 64 → w.cell? ⟨b, o + u, none⟩ = some (.int .i64 (f u : Nat)) ∧ w.frozen? ⟨b, o + u, none⟩ = false
/-- A clock as a value. -/
def aggV (f : Nat → Nat) : Value := .agg ((List.range 64).map (fun u => Value.int .i64 (f u : Nat))).toArray
theorem Arr.of_cells {w w' : World} {b o : Nat} {f g : Nat → Nat} (h : Arr w b o f) (hc : ∀ u, u < 64 → w'.cell? ⟨b, o + u, none⟩ = w.cell? ⟨b, o + u, none⟩) (hf : ∀ u, u < 64 → w'.frozen? ⟨b, o + u, none⟩ = w.frozen? ⟨b, o + u, none⟩) (e : ∀ u, u < 64 → g u = f u) : Arr w' b o g :=
  fun u hu => ⟨by rw [hc u hu, e u hu]; exact (h u hu).1, by rw [hf u hu]; exact (h u hu).2⟩
theorem frozen_of_block {w w' : World} {a : Addr} (h : w'.heap[a.block]? = w.heap[a.block]?) : w'.frozen? a = w.frozen? a := by
  unfold World.frozen?; rw [h]
theorem Arr.of_block {w w' : World} {b o : Nat} {f : Nat → Nat} (h : Arr w b o f) (hb : w'.heap[b]? = w.heap[b]?) : Arr w' b o f :=
  h.of_cells (fun u _ => World.cell?_of_block (w := w) hb) (fun u _ => frozen_of_block hb) (fun _ _ => rfl)
theorem Arr.lt {w : World} {b o : Nat} {f : Nat → Nat} (h : Arr w b o f) : b < w.heap.size := World.block_lt_of_cell? w _ (h 0 (by omega)).1
theorem Arr.range {w : World} {b o : Nat} {f : Nat → Nat} (h : Arr w b o f) : w.rangeAt b o ((List.range 64).map (fun u => Value.int .i64 (f u : Nat))) := fun j v hv => by
  rw [List.getElem?_map] at hv
  cases hr : (List.range 64)[j]? with
  | none => rw [hr] at hv; cases hv
  | some u =>
    rw [hr] at hv
    obtain ⟨hj, e⟩ := List.getElem?_eq_some_iff.1 hr
    simp at hj e
    subst e
    cases hv
    exact (h j hj).1
/-- Of block b only the cells from o to o + 64 have changed, and nothing else. -/
structure OnlyA (b o : Nat) (w w' : World) : Prop where
  os : w'.os = w.os
  tape : w'.tape = w.tape
  output : w'.output = w.output
  size : w'.heap.size = w.heap.size
  other : ∀ i, i ≠ b → w'.heap[i]? = w.heap[i]?
  far : ∀ i, (i < o ∨ o + 64 ≤ i) → w'.cell? ⟨b, i, none⟩ = w.cell? ⟨b, i, none⟩
  frozen : ∀ i, w'.frozen? ⟨b, i, none⟩ = w.frozen? ⟨b, i, none⟩
theorem OnlyA.refl (b o : Nat) (w : World) : OnlyA b o w w := ⟨rfl, rfl, rfl, rfl, fun _ _ => rfl, fun _ _ => rfl, fun _ => rfl⟩
theorem OnlyA.trans {b o : Nat} {w w1 w2 : World} (h : OnlyA b o w w1) (k : OnlyA b o w1 w2) : OnlyA b o w w2 :=
  ⟨k.os.trans h.os, k.tape.trans h.tape, k.output.trans h.output, k.size.trans h.size, fun i hi => (k.other i hi).trans (h.other i hi), fun i hi => (k.far i hi).trans (h.far i hi), fun i => (k.frozen i).trans (h.frozen i)⟩
theorem OnlyA.drewN (b o : Nat) (w : World) (n : Nat) : OnlyA b o w (w.drewN n) := ⟨rfl, rfl, rfl, rfl, fun _ _ => rfl, fun _ _ => rfl, fun _ => rfl⟩
theorem OnlyA.below {b o B : Nat} {w w' : World} (h : OnlyA b o w w') (hb : B ≤ b) : Below B w w' :=
  ⟨h.os, h.tape, h.output, Nat.le_of_eq h.size.symm, fun i hi => h.other i (by omega)⟩
theorem frozen_setCell (w : World) (a c : Addr) (v : Value) : (w.setCell a v).frozen? c = w.frozen? c := World.frozen?_setCell _ _ _ _
theorem OnlyA.set (b o : Nat) (w : World) {i : Nat} (hi : o ≤ i ∧ i < o + 64) (v : Value) : OnlyA b o w (w.setCell ⟨b, i, none⟩ v) :=
  ⟨rfl, rfl, rfl, by simp [World.setCell], fun j hj => Below.heap_setCell _ _ _ _ hj, fun j hj => World.cell?_setCell_other _ _ _ _ (by intro e; injection e with _ e; omega), fun j => frozen_setCell _ _ _ _⟩
/-- A clock half way through join. -/
theorem Arr.step {w : World} {b o : Nat} {f g : Nat → Nat} (h : Arr w b o f) {k : Nat} (hk : k < 64) (hg : ∀ u, u < 64 → g u = if u = k then g k else f u) : Arr (w.setCell ⟨b, o + k, none⟩ (.int .i64 (g k : Nat))) b o g := fun u hu => by
  refine ⟨?_, by rw [frozen_setCell]; exact (h u hu).2⟩
  by_cases e : u = k
  · subst e; exact World.cell?_setCell_same _ _ _ (h u hu).1
  · rw [World.cell?_setCell_other _ _ _ _ (by intro e2; injection e2 with _ e2; omega), hg u hu, if_neg e]
    exact (h u hu).1

/-! ### Maps -/
/-- A map of clocks. -/
def ClockMap (w : World) (b : Nat) (m : Int → Nat → Nat) : Prop :=
  ∃ f, IsMap w Try.prog 3 b f ∧ ∀ p : Int, (f (.int .i64 p) = none ∧ ∀ u, u < 64 → m p u = 0) ∨ f (.int .i64 p) = some (aggV (m p))
/-- What was touched of one place. -/
def TM (w : World) (b : Nat) (g : Nat → Option Nat) : Prop :=
  ∃ h, IsMap w Try.prog 3 b h ∧ (∀ v x, h v = some x → ∃ u : Nat, u < 64 ∧ v = .int .i64 u) ∧ ∀ u : Nat, u < 64 → h (.int .i64 u) = (g u).map fun n => Value.int .i64 (n : Nat)
/-- What was touched, by places; not in a block of F. -/
def TouchMap (w : World) (F : Nat → Prop) (b : Nat) (m : Int → Nat → Option Nat) : Prop :=
  ∃ f, IsMap w Try.prog 3 b f ∧ ∀ p : Int, (f (.int .i64 p) = none ∧ ∀ u, u < 64 → m p u = none) ∨ ∃ bi, f (.int .i64 p) = some (.map (some bi)) ∧ ¬ F bi ∧ TM w bi (m p)
theorem ClockMap.of_block {w w' : World} {b : Nat} {m : Int → Nat → Nat} (h : ClockMap w b m) (hb : w'.heap[b]? = w.heap[b]?) : ClockMap w' b m := by
  obtain ⟨f, h1, h2⟩ := h; exact ⟨f, h1.of_block hb, h2⟩
theorem TM.of_block {w w' : World} {b : Nat} {g : Nat → Option Nat} (h : TM w b g) (hb : w'.heap[b]? = w.heap[b]?) : TM w' b g := by
  obtain ⟨f, h1, h2⟩ := h; exact ⟨f, h1.of_block hb, h2⟩
theorem TM.lt {w : World} {b : Nat} {g : Nat → Option Nat} (h : TM w b g) : b < w.heap.size := let ⟨_, h1, _⟩ := h; h1.lt
theorem ClockMap.lt {w : World} {b : Nat} {m : Int → Nat → Nat} (h : ClockMap w b m) : b < w.heap.size := let ⟨_, h1, _⟩ := h; h1.lt
theorem TouchMap.lt {w : World} {F : Nat → Prop} {b : Nat} {m : Int → Nat → Option Nat} (h : TouchMap w F b m) : b < w.heap.size := let ⟨_, h1, _⟩ := h; h1.lt
theorem TouchMap.keep {w w' : World} {F : Nat → Prop} {b : Nat} {m : Int → Nat → Option Nat} (h : TouchMap w F b m) (hb : w'.heap[b]? = w.heap[b]?) (hF : ∀ i, i < w.heap.size → ¬ F i → w'.heap[i]? = w.heap[i]?) : TouchMap w' F b m := by
  obtain ⟨f, h1, h2⟩ := h
  refine ⟨f, h1.of_block hb, fun p => ?_⟩
  rcases h2 p with h | ⟨bi, e1, e2, e3⟩
  · exact .inl h
  · exact .inr ⟨bi, e1, e2, e3.of_block (hF bi e3.lt e2)⟩

/-- The five blocks of a state. -/
structure Blk where
  b : Nat
  bl : Nat
  bw : Nat
  br : Nat
  bx : Nat
def Blk.has (B : Blk) (i : Nat) : Prop := i = B.b ∨ i = B.bl ∨ i = B.bw ∨ i = B.br ∨ i = B.bx
structure Blk.Apart (B : Blk) : Prop where
  bl : B.b ≠ B.bl
  bw : B.b ≠ B.bw
  br : B.b ≠ B.br
  bx : B.b ≠ B.bx
  lw : B.bl ≠ B.bw
  lr : B.bl ≠ B.br
  lx : B.bl ≠ B.bx
  wr : B.bw ≠ B.br
  wx : B.bw ≠ B.bx
  rx : B.br ≠ B.bx
/-- The state S, in the blocks B. -/
structure Rep (w : World) (B : Blk) (S : VS) : Prop where
  v : ∀ t, t < 64 → Arr w B.b (t * 64) (S.V t)
  cl : w.cell? ⟨B.b, 4096, none⟩ = some (.map (some B.bl))
  cw : w.cell? ⟨B.b, 4097, none⟩ = some (.map (some B.bw))
  cr : w.cell? ⟨B.b, 4098, none⟩ = some (.map (some B.br))
  cx : w.cell? ⟨B.b, 4099, none⟩ = some (.map (some B.bx))
  l : ClockMap w B.bl S.Lk
  wd : ClockMap w B.bw S.Wd
  r : TouchMap w B.has B.br S.Rd
  x : TouchMap w B.has B.bx S.Wr
  apart : B.Apart
/-- Of what was there only the state has changed. -/
theorem Rep.lt {w : World} {B : Blk} {S : VS} (h : Rep w B S) : ∀ i, B.has i → i < w.heap.size := by
  rintro i (rfl | rfl | rfl | rfl | rfl)
  · exact World.block_lt_of_cell? w _ h.cl
  · exact h.l.lt
  · exact h.wd.lt
  · exact h.r.lt
  · exact h.x.lt
/-- Nothing of it has changed. -/
theorem Rep.keep {w w' : World} {B : Blk} {S : VS} (h : Rep w B S) (hk : ∀ i, i < w.heap.size → w'.heap[i]? = w.heap[i]?) : Rep w' B S := by
  have hl := h.lt
  have hb : ∀ i, B.has i → w'.heap[i]? = w.heap[i]? := fun i hi => hk i (hl i hi)
  have hc : ∀ i v, w.cell? ⟨B.b, i, none⟩ = some v → w'.cell? ⟨B.b, i, none⟩ = some v := fun i v hv => (World.cell?_of_block (w := w) (hb _ (.inl rfl))).trans hv
  exact ⟨fun t ht => (h.v t ht).of_block (hb _ (.inl rfl)), hc _ _ h.cl, hc _ _ h.cw, hc _ _ h.cr, hc _ _ h.cx, h.l.of_block (hb _ (.inr (.inl rfl))), h.wd.of_block (hb _ (.inr (.inr (.inl rfl)))),
    h.r.keep (hb _ (.inr (.inr (.inr (.inl rfl))))) (fun i hi _ => hk i hi), h.x.keep (hb _ (.inr (.inr (.inr (.inr rfl))))) (fun i hi _ => hk i hi), h.apart⟩
theorem Rep.below {w w' : World} {B : Blk} {S : VS} (h : Rep w B S) (hb : Below w.heap.size w w') : Rep w' B S := h.keep fun i hi => hb.block i hi
/-- One clock has changed. -/
theorem Rep.clock {w w' : World} {B : Blk} {S : VS} (h : Rep w B S) {t : Nat} (ht : t < 64) {f : Nat → Nat} (ho : OnlyA B.b (t * 64) w w') (hf : Arr w' B.b (t * 64) f) : Rep w' B { S with V := fun s => if s = t then f else S.V s } := by
  have hA := h.apart
  have hc : ∀ i v, 4096 ≤ i → w.cell? ⟨B.b, i, none⟩ = some v → w'.cell? ⟨B.b, i, none⟩ = some v := fun i v hi hv => (ho.far i (by omega)).trans hv
  have hb : ∀ i, i ≠ B.b → w'.heap[i]? = w.heap[i]? := fun i hi => ho.other i hi
  have hF : ∀ i, i < w.heap.size → ¬ B.has i → w'.heap[i]? = w.heap[i]? := fun i _ hi => hb i (fun e => hi (.inl e))
  refine ⟨fun s hs => ?_, hc _ _ (by omega) h.cl, hc _ _ (by omega) h.cw, hc _ _ (by omega) h.cr, hc _ _ (by omega) h.cx, h.l.of_block (hb _ hA.bl.symm), h.wd.of_block (hb _ hA.bw.symm), h.r.keep (hb _ hA.br.symm) hF, h.x.keep (hb _ hA.bx.symm) hF, hA⟩
  show Arr w' B.b (s * 64) (if s = t then f else S.V s)
  by_cases e : s = t
  · subst e; rw [if_pos rfl]; exact hf
  · rw [if_neg e]
    exact (h.v s hs).of_cells (fun u hu => ho.far _ (by omega)) (fun u _ => ho.frozen _) (fun _ _ => rfl)

/-! ### Its maps -/
theorem clock_zero (w : World) : (zeroValue 45).run Try.prog w = .ok (aggV fun _ => 0) w := by kernel_rfl
theorem aggV_congr {f g : Nat → Nat} (h : ∀ u, u < 64 → f u = g u) : aggV f = aggV g := by
  unfold aggV
  have : (List.range 64).map (fun u => Value.int .i64 (f u : Nat)) = (List.range 64).map (fun u => Value.int .i64 (g u : Nat)) := List.map_congr_left fun u hu => by rw [h u (List.mem_range.1 hu)]
  rw [this]
theorem ClockMap.look {w : World} {b : Nat} {m : Int → Nat → Nat} (h : ClockMap w b m) {p : Int} (hp : (Lit.int .i64 p).wf = true) :
    (Instr.lookup 42 (.map (some b)) (.int .i64 p) false).run Try.prog w = .ok (aggV (m p)) w := by
  obtain ⟨f, hf, hm⟩ := h
  have := hf.lookup (int_keyed Try.underlying3) Try.underlying42 (clock_zero w) (keyOf_int_mk Try.underlying3 hp) false
  rw [this]
  rcases hm p with ⟨h1, h2⟩ | h1
  · rw [h1]
    show Result.ok (aggV fun _ => 0) w = _
    rw [aggV_congr (f := fun _ => 0) (g := m p) (fun u hu => (h2 u hu).symm)]
  · rw [h1]; rfl
theorem ClockMap.put {w : World} {b : Nat} {m : Int → Nat → Nat} (h : ClockMap w b m) {p : Int} (hp : (Lit.int .i64 p).wf = true) (g : Nat → Nat) :
    ∃ o, (Instr.mapUpdate 42 (.map (some b)) (.int .i64 p) (aggV g)).run Try.prog w = .ok () (setBlock w b o) ∧ ClockMap (setBlock w b o) b (fun q u => if q = p then g u else m q u) := by
  obtain ⟨f, hf, hm⟩ := h
  obtain ⟨o, h1, h2⟩ := hf.update (int_keyed Try.underlying3) Try.underlying42 (keyOf_int_mk Try.underlying3 hp) (aggV g)
  refine ⟨o, h1, _, h2, fun q => ?_⟩
  by_cases e : q = p
  · subst e
    refine .inr ?_
    rw [upd_same]
    exact congrArg some (aggV_congr fun u _ => (if_pos rfl).symm)
  · rw [upd_other _ _ (by intro e2; injection e2 with _ e2; exact e e2)]
    rcases hm q with ⟨h1, h2⟩ | h1
    · exact .inl ⟨h1, fun u hu => (if_neg e).trans (h2 u hu)⟩
    · exact .inr (h1.trans (congrArg some (aggV_congr fun u _ => (if_neg e).symm)))
theorem set_other (w : World) (b : Nat) (o : Obj) {i : Nat} (h : i ≠ b) : (setBlock w b o).heap[i]? = w.heap[i]? := set_heap_other h
/-- Another map of the locks. -/
theorem Rep.locks {w : World} {B : Blk} {S : VS} (h : Rep w B S) {o : Obj} {m : Int → Nat → Nat} (hm : ClockMap (setBlock w B.bl o) B.bl m) : Rep (setBlock w B.bl o) B { S with Lk := m } := by
  have hA := h.apart
  have hb : ∀ i, i ≠ B.bl → (setBlock w B.bl o).heap[i]? = w.heap[i]? := fun i hi => set_other w B.bl o hi
  have hc : ∀ i v, w.cell? ⟨B.b, i, none⟩ = some v → (setBlock w B.bl o).cell? ⟨B.b, i, none⟩ = some v := fun i v hv => (World.cell?_of_block (w := w) (hb _ hA.bl)).trans hv
  have hF : ∀ i, i < w.heap.size → ¬ B.has i → (setBlock w B.bl o).heap[i]? = w.heap[i]? := fun i _ hi => hb i (fun e => hi (.inr (.inl e)))
  exact ⟨fun t ht => (h.v t ht).of_block (hb _ hA.bl), hc _ _ h.cl, hc _ _ h.cw, hc _ _ h.cr, hc _ _ h.cx, hm, h.wd.of_block (hb _ hA.lw.symm), h.r.keep (hb _ hA.lr.symm) hF, h.x.keep (hb _ hA.lx.symm) hF, hA⟩
/-- Another map of the words. -/
theorem Rep.words {w : World} {B : Blk} {S : VS} (h : Rep w B S) {o : Obj} {m : Int → Nat → Nat} (hm : ClockMap (setBlock w B.bw o) B.bw m) : Rep (setBlock w B.bw o) B { S with Wd := m } := by
  have hA := h.apart
  have hb : ∀ i, i ≠ B.bw → (setBlock w B.bw o).heap[i]? = w.heap[i]? := fun i hi => set_other w B.bw o hi
  have hc : ∀ i v, w.cell? ⟨B.b, i, none⟩ = some v → (setBlock w B.bw o).cell? ⟨B.b, i, none⟩ = some v := fun i v hv => (World.cell?_of_block (w := w) (hb _ hA.bw)).trans hv
  have hF : ∀ i, i < w.heap.size → ¬ B.has i → (setBlock w B.bw o).heap[i]? = w.heap[i]? := fun i _ hi => hb i (fun e => hi (.inr (.inr (.inl e))))
  exact ⟨fun t ht => (h.v t ht).of_block (hb _ hA.bw), hc _ _ h.cl, hc _ _ h.cw, hc _ _ h.cr, hc _ _ h.cx, h.l.of_block (hb _ hA.lw), hm, h.r.keep (hb _ hA.wr.symm) hF, h.x.keep (hb _ hA.wx.symm) hF, hA⟩
theorem Turn.set {F : Nat → Prop} {w w1 : World} (h : Turn F w w1) (b : Nat) (o : Obj) (hb : F b) : Turn F w (setBlock w1 b o) :=
  ⟨h.os, h.tape, h.output, by simpa [setBlock] using h.size, fun i hi hf => (set_other w1 b o (fun e => hf (by rw [e]; exact hb))).trans (h.block i hi hf)⟩
theorem Turn.only {F : Nat → Prop} {w w1 w2 : World} (h : Turn F w w1) {b o : Nat} (k : OnlyA b o w1 w2) (hb : F b) : Turn F w w2 :=
  ⟨k.os.trans h.os, k.tape.trans h.tape, k.output.trans h.output, by rw [k.size]; exact h.size, fun i hi hf => (k.other i (fun e => hf (by rw [e]; exact hb))).trans (h.block i hi hf)⟩
theorem Turn.then {F : Nat → Prop} {w w1 w2 : World} (h : Turn F w w1) (k : Below w1.heap.size w1 w2) : Turn F w w2 :=
  ⟨k.os.trans h.os, k.tape.trans h.tape, k.output.trans h.output, Nat.le_trans h.size k.size, fun i hi hf => (k.block i (Nat.lt_of_lt_of_le hi h.size)).trans (h.block i hi hf)⟩
end Go.Proofs.Ytccbiolgdamnpaa
