/- Maps of what was touched: look-up, store, copy. -/
import Derived.Test.YtccbiolgdamnpaaRaceD
namespace Go.Proofs.Ytccbiolgdamnpaa
set_option linter.unusedSimpArgs false
set_option linter.unusedVariables false
open Go Go.RowKit Go.Maps Go.MapKept
open Go.ChangeMaps (setBlock)

theorem touch_zero (w : World) : (zeroValue 52).run Try.prog w = .ok (.map none) w := by kernel_rfl
theorem TouchMap.look {w : World} {F : Nat → Prop} {b : Nat} {m : Int → Nat → Option Nat} (h : TouchMap w F b m) {p : Int} (hp : (Lit.int .i64 p).wf = true) :
    ∃ V, (Instr.lookup 43 (.map (some b)) (.int .i64 p) false).run Try.prog w = .ok V w ∧ ((V = .map none ∧ ∀ u, u < 64 → m p u = none) ∨ ∃ bi, V = .map (some bi) ∧ ¬ F bi ∧ TM w bi (m p)) := by
  obtain ⟨f, hf, hm⟩ := h
  have := hf.lookup (int_keyed Try.underlying3) Try.underlying43 (touch_zero w) (keyOf_int_mk Try.underlying3 hp) false
  refine ⟨_, this, ?_⟩
  rcases hm p with ⟨h1, h2⟩ | ⟨bi, h1, h2, h3⟩
  · rw [h1]; exact .inl ⟨rfl, h2⟩
  · rw [h1]; exact .inr ⟨bi, rfl, h2, h3⟩
theorem TM.put {w : World} {b : Nat} {g : Nat → Option Nat} (h : TM w b g) {t : Nat} (ht : t < 64) (n : Nat) :
    ∃ o, (Instr.mapUpdate 52 (.map (some b)) (.int .i64 t) (.int .i64 n)).run Try.prog w = .ok () (setBlock w b o) ∧ TM (setBlock w b o) b (fun u => if u = t then some n else g u) := by
  obtain ⟨f, hf, hk, hm⟩ := h
  have hwf : (Lit.int .i64 (t : Int)).wf = true := WalkArith.wf_i64 (by omega)
  obtain ⟨o, h1, h2⟩ := hf.update (int_keyed Try.underlying3) Try.underlying52 (keyOf_int_mk Try.underlying3 hwf) (.int .i64 n)
  refine ⟨o, h1, _, h2, fun v x hv => ?_, fun u hu => ?_⟩
  · by_cases e : v = .int .i64 t
    · exact ⟨t, ht, e⟩
    · rw [upd_other _ _ e] at hv; exact hk v x hv
  · by_cases e : u = t
    · subst e; rw [upd_same]; simp
    · rw [upd_other _ _ (by intro e2; injection e2 with _ e2; omega), hm u hu]; simp [e]
theorem TM.made (w : World) : TM (w.alloc (.map #[] 0)) w.heap.size (fun _ => none) :=
  ⟨_, IsMap.made w Try.prog 3, fun v x h => (by cases h), fun u _ => rfl⟩
theorem TM.congr {w : World} {b : Nat} {g g' : Nat → Option Nat} (h : TM w b g) (e : ∀ u, u < 64 → g' u = g u) : TM w b g' := by
  obtain ⟨f, h1, h2, h3⟩ := h
  exact ⟨f, h1, h2, fun u hu => by rw [e u hu]; exact h3 u hu⟩
theorem TM.copy {w : World} {b : Nat} {g : Nat → Option Nat} (h : TM w b g) : ∃ es clock, w.heap[b]? = some (.map es clock) ∧ TM (w.alloc (.map es clock)) w.heap.size g := by
  obtain ⟨f, ⟨es, clock, hb, hM⟩, h2, h3⟩ := h
  exact ⟨es, clock, hb, f, ⟨es, clock, (MapKept.heap_alloc w _).1, hM⟩, h2, h3⟩
theorem TouchMap.put {w : World} {F : Nat → Prop} {b : Nat} {m : Int → Nat → Option Nat} (h : TouchMap w F b m) (hb : F b) {p : Int} (hp : (Lit.int .i64 p).wf = true) {bi : Nat} {g : Nat → Option Nat} (hi : TM w bi g) (hF : ¬ F bi) :
    ∃ o, (Instr.mapUpdate 43 (.map (some b)) (.int .i64 p) (.map (some bi))).run Try.prog w = .ok () (setBlock w b o) ∧ TouchMap (setBlock w b o) F b (fun q u => if q = p then g u else m q u) := by
  obtain ⟨f, hf, hm⟩ := h
  obtain ⟨o, h1, h2⟩ := hf.update (int_keyed Try.underlying3) Try.underlying43 (keyOf_int_mk Try.underlying3 hp) (.map (some bi))
  refine ⟨o, h1, _, h2, fun q => ?_⟩
  have hne : ∀ i, ¬ F i → (setBlock w b o).heap[i]? = w.heap[i]? := fun i hi => set_other w b o (fun e => hi (by rw [e]; exact hb))
  by_cases e : q = p
  · subst e
    refine .inr ⟨bi, upd_same _ _ _, hF, (hi.of_block (hne bi hF)).congr fun u _ => if_pos rfl⟩
  · have hfq : upd f (.int .i64 p) (some (.map (some bi))) (.int .i64 q) = f (.int .i64 q) := upd_other _ _ (by intro e2; injection e2 with _ e2; exact e e2)
    rcases hm q with ⟨k1, k2⟩ | ⟨bj, k1, k2, k3⟩
    · exact .inl ⟨hfq.trans k1, fun u hu => (if_neg e).trans (k2 u hu)⟩
    · exact .inr ⟨bj, hfq.trans k1, k2, (k3.of_block (hne bj k2)).congr fun u _ => if_neg e⟩
/-- Another map of the reads: all other blocks as they were. -/
theorem Rep.reads {w w' : World} {B : Blk} {S : VS} (h : Rep w B S) (hk : ∀ i, i < w.heap.size → i ≠ B.br → w'.heap[i]? = w.heap[i]?) {m : Int → Nat → Option Nat} (hm : TouchMap w' B.has B.br m) : Rep w' B { S with Rd := m } := by
  have hA := h.apart
  have hl := h.lt
  have hb : ∀ i, B.has i → i ≠ B.br → w'.heap[i]? = w.heap[i]? := fun i hi hne => hk i (hl i hi) hne
  have hc : ∀ i v, w.cell? ⟨B.b, i, none⟩ = some v → w'.cell? ⟨B.b, i, none⟩ = some v := fun i v hv => (World.cell?_of_block (w := w) (hb _ (.inl rfl) hA.br)).trans hv
  have hF : ∀ i, i < w.heap.size → ¬ B.has i → w'.heap[i]? = w.heap[i]? := fun i hi hn => hk i hi (fun e => hn (.inr (.inr (.inr (.inl e)))))
  exact ⟨fun t ht => (h.v t ht).of_block (hb _ (.inl rfl) hA.br), hc _ _ h.cl, hc _ _ h.cw, hc _ _ h.cr, hc _ _ h.cx, h.l.of_block (hb _ (.inr (.inl rfl)) hA.lr), h.wd.of_block (hb _ (.inr (.inr (.inl rfl))) hA.wr), hm, h.x.keep (hb _ (.inr (.inr (.inr (.inr rfl)))) hA.rx.symm) hF, hA⟩
/-- Another map of the writes: all other blocks as they were. -/
theorem Rep.writes {w w' : World} {B : Blk} {S : VS} (h : Rep w B S) (hk : ∀ i, i < w.heap.size → i ≠ B.bx → w'.heap[i]? = w.heap[i]?) {m : Int → Nat → Option Nat} (hm : TouchMap w' B.has B.bx m) : Rep w' B { S with Wr := m } := by
  have hA := h.apart
  have hl := h.lt
  have hb : ∀ i, B.has i → i ≠ B.bx → w'.heap[i]? = w.heap[i]? := fun i hi hne => hk i (hl i hi) hne
  have hc : ∀ i v, w.cell? ⟨B.b, i, none⟩ = some v → w'.cell? ⟨B.b, i, none⟩ = some v := fun i v hv => (World.cell?_of_block (w := w) (hb _ (.inl rfl) hA.bx)).trans hv
  have hF : ∀ i, i < w.heap.size → ¬ B.has i → w'.heap[i]? = w.heap[i]? := fun i hi hn => hk i hi (fun e => hn (.inr (.inr (.inr (.inr e)))))
  exact ⟨fun t ht => (h.v t ht).of_block (hb _ (.inl rfl) hA.bx), hc _ _ h.cl, hc _ _ h.cw, hc _ _ h.cr, hc _ _ h.cx, h.l.of_block (hb _ (.inr (.inl rfl)) hA.lx), h.wd.of_block (hb _ (.inr (.inr (.inl rfl))) hA.wx), h.r.keep (hb _ (.inr (.inr (.inr (.inl rfl)))) hA.rx) hF, hm, hA⟩
end Go.Proofs.Ytccbiolgdamnpaa
