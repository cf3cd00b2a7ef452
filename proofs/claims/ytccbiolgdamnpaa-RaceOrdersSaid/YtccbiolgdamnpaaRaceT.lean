/- A new clock: its block, and what is put there. -/
import Derived.Test.YtccbiolgdamnpaaRaceA
namespace Go.Proofs.Ytccbiolgdamnpaa
open Go Go.RowKit
set_option linter.unusedSimpArgs false
set_option linter.unusedVariables false
def zeroC : List Value := (List.range 64).map fun _ => Value.int .i64 0
theorem wp_alloc_clock {o : Oper} {a : Act} {w : World} {K : Act → World → Prop} {Q : Exit → Act → World → Prop} (ho : o.op = .alloc 45) (d : Option Tmp) (hd : o.dst = d)
    (h : K (a.put d (.pointer (some ⟨w.heap.size, 0, none⟩))) (w.alloc (.cells zeroC.toArray 45))) : o.wp Try.prog a w K Q := by
  subst hd
  unfold Oper.wp execOp
  simp only [ho]
  have e : (Instr.alloc 45 true (.tuple #[])).run Try.prog w = .ok (.pointer (some ⟨w.heap.size, 0, none⟩)) (w.alloc (.cells zeroC.toArray 45)) := by kernel_rfl
  simp only [Sem.run_bind, Sem.run_pure, e, Result.andThen_ok]
  exact h
theorem setCells_since (b : Nat) : ∀ (vs : List Value) (o : Nat) (w : World), (w.setCells b o vs).heap.size = w.heap.size ∧ (w.setCells b o vs).os = w.os ∧ (w.setCells b o vs).tape = w.tape ∧ (w.setCells b o vs).output = w.output ∧ ∀ i, i ≠ b → (w.setCells b o vs).heap[i]? = w.heap[i]?
  | [], _, _ => ⟨rfl, rfl, rfl, rfl, fun _ _ => rfl⟩
  | v :: r, o, w => by
    obtain ⟨h1, h2, h3, h4, h5⟩ := setCells_since b r (o + 1) (w.setCell ⟨b, o, none⟩ v)
    exact ⟨by rw [World.setCells, h1]; simp [World.setCell], by rw [World.setCells, h2]; rfl, by rw [World.setCells, h3]; rfl, by rw [World.setCells, h4]; rfl, fun i hi => by rw [World.setCells, h5 i hi, Below.heap_setCell _ _ _ _ hi]⟩
theorem Below.setCells {B : Nat} {w0 w : World} (h : Below B w0 w) {b : Nat} (hb : B ≤ b) (o : Nat) (vs : List Value) : Below B w0 (w.setCells b o vs) := by
  obtain ⟨h1, h2, h3, h4, h5⟩ := setCells_since b vs o w
  exact ⟨h2.trans h.os, h3.trans h.tape, h4.trans h.output, by rw [h1]; exact h.size, fun i hi => (h5 i (by omega)).trans (h.block i hi)⟩
theorem there_new (w : World) (L : List Value) (t : TypeId) : (w.alloc (.cells L.toArray t)).there w.heap.size 0 L.length := fun j hj => by
  rw [Nat.zero_add]
  refine ⟨by simp [hj], ?_⟩
  unfold World.frozen?
  show (match (w.alloc (.cells L.toArray t)).heap[w.heap.size]? with | some (.cells _ _ (lo, hi)) => decide (lo ≤ j) && decide (j < hi) | _ => false) = false
  rw [(MapKept.heap_alloc w _).1]
  simp
theorem zeroC_length : zeroC.length = 64 := by unfold zeroC; simp
def clockC (f : Nat → Nat) : List Value := (List.range 64).map (fun u => Value.int .i64 (f u : Nat))
theorem aggV_clock (f : Nat → Nat) : aggV f = .agg (clockC f).toArray := rfl
theorem clockC_length (f : Nat → Nat) : (clockC f).length = 64 := by unfold clockC; simp
theorem clockC_get (f : Nat → Nat) {u : Nat} (h : u < 64) : (clockC f)[u]? = some (.int .i64 (f u : Nat)) := by unfold clockC; simp [h]
theorem arr_put (w : World) (f : Nat → Nat) : Arr ((w.alloc (.cells zeroC.toArray 45)).setCells w.heap.size 0 (clockC f)) w.heap.size 0 f := fun u hu => by
  have ht : (w.alloc (.cells zeroC.toArray 45)).there w.heap.size 0 (clockC f).length := by
    rw [clockC_length, ← zeroC_length]; exact there_new w zeroC _
  refine ⟨World.rangeAt_setCells_same _ _ _ _ ht u _ (clockC_get f hu), ?_⟩
  rw [World.frozen?_setCells]
  exact (ht u (by rw [clockC_length]; exact hu)).2
theorem wp_store_clock {o : Oper} {a : Act} {w : World} {K : Act → World → Prop} {Q : Exit → Act → World → Prop} (f : Nat → Nat) (x y : Operand) (ho : o.op = .store 45 x y) (d : Option Tmp) (hd : o.dst = d)
    (hx : a.eval x = .pointer (some ⟨w.heap.size, 0, none⟩)) (hy : a.eval y = aggV f)
    (h : K (a.put d undef) ((w.alloc (.cells zeroC.toArray 45)).setCells w.heap.size 0 (clockC f))) : o.wp Try.prog a (w.alloc (.cells zeroC.toArray 45)) K Q := by
  subst hd
  refine wp_store_mid 45 x y ho w.heap.size 0 (clockC f).toArray hx hy ?_ ?_ (all_oneCell_toArray (fun v hv => by unfold clockC at hv; rw [List.mem_map] at hv; obtain ⟨u, _, rfl⟩ := hv; rfl)) h
  · have := there_new w zeroC 45
    rw [zeroC_length, ← clockC_length f] at this
    exact this
  · show _ = some (clockC f).length
    rw [clockC_length]; kernel_rfl
end Go.Proofs.Ytccbiolgdamnpaa
