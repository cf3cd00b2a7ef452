/- Regions that draw their order, whose operations read old memory and whose calls may make new memory: one walk in the order of the text, over the class of the worlds in which nothing old has changed. -/
import Derived.Deep.QuietTactic
import Derived.Deep.MidRow
import Derived.Below
import Derived.WalkKit
import Derived.RegionTactic
namespace Go.Proofs.YtfiddoibnjildaaGreatDoor
set_option linter.unusedSimpArgs false
set_option linter.unusedVariables false
open Go Go.RowKit

/-- Nothing that was there in w has changed. -/
def Since (w w' : World) : Prop := Below w.heap.size w w'
theorem Since.refl (w : World) : Since w w := Below.refl _ _
theorem Since.step {w w1 w2 : World} (h : Since w w1) (k : Below w1.heap.size w1 w2) : Since w w2 := h.trans (k.mono h.size)
theorem Since.cell {w w1 : World} (h : Since w w1) {a : Addr} {v : Value} (hc : w.cell? a = some v) : w1.cell? a = some v := (Below.cell h (World.block_lt_of_cell? w a hc)).trans hc
theorem Since.range {w w1 : World} (h : Since w w1) {b o : Nat} {cs : List Value} (hc : w.rangeAt b o cs) : w1.rangeAt b o cs := fun j v hv => h.cell (hc j v hv)

section
variable {P : Program} {ops : Array Oper} {C : World → Prop} {Q : Act → Prop} {o : Oper} {a : Act} {rest : List Oper}

theorem wpQ_val {u : Value} (hw : Region.wanted o (yielded ops a.tmps) = true) (h : ∀ w, C w → (execOp a.eval o).run P w = .ok (.value u) w)
    (hk : wpQuiet P ops C Q rest (a.put o.dst u)) : wpQuiet P ops C Q (o :: rest) a := by
  unfold wpQuiet
  rw [if_pos hw]
  exact ⟨u, fun w hc => by unfold Oper.quietAt; rw [h w hc]; exact ⟨rfl, rfl⟩, hk⟩
theorem wpQ_off (hw : Region.wanted o (yielded ops a.tmps) = false) (hk : wpQuiet P ops C Q rest (a.put o.dst undef)) : wpQuiet P ops C Q (o :: rest) a := by
  unfold wpQuiet
  rw [if_neg (by rw [hw]; exact Bool.false_ne_true)]
  exact hk
theorem wpQ_call {f : FuncId} {args : Array Value} {v : Value} (hw : Region.wanted o (yielded ops a.tmps) = true) (h : ∀ w, C w → (execOp a.eval o).run P w = .ok (.enter f args) w)
    (hc : ∀ w, C w → Calls P f args w fun e w' => e = .returned v ∧ C w') (hk : wpQuiet P ops C Q rest (a.put o.dst v)) : wpQuiet P ops C Q (o :: rest) a := by
  unfold wpQuiet
  rw [if_pos hw]
  exact ⟨v, fun w hc' => by unfold Oper.quietAt; rw [h w hc']; exact ⟨rfl, hc w hc'⟩, hk⟩
theorem wpQ_load_mid (hw : Region.wanted o (yielded ops a.tmps) = true) (ty : TypeId) (x : Operand) (ho : o.op = .load ty x) (b off : Nat) (hx : a.eval x = .pointer (some ⟨b, off, none⟩)) (cs : List Value) (d : TypeDesc)
    (hc : ∀ w, C w → w.rangeAt b off cs) (hu : P.underlying ty = some d) (hd : d.isRow = true) (hi : (P.info? ty).map (·.size) = some cs.length)
    (hk : wpQuiet P ops C Q rest (a.put o.dst (.agg cs.toArray))) : wpQuiet P ops C Q (o :: rest) a := by
  refine wpQ_val hw (fun w hcw => ?_) hk
  unfold execOp
  simp only [ho, hx, Sem.run_bind, run_loadAt_mid w b off ty cs d (hc w hcw) hu hd hi, Result.andThen_ok, Sem.run_pure]
theorem wpQ_done (h : Q a) : wpQuiet P ops C Q [] a := h

/-- The load of a whole array or struct in a plain region, guarded or not. -/
theorem wpList_load_mid_w {P : Program} {ops : Array Oper} {rest : List Oper} {op : Oper} {a : Act} {w : World} {Q : Exit → Act → World → Prop} (hw : Region.wanted op (yielded ops a.tmps) = true) (ty : TypeId) (x : Operand) (ho : op.op = .load ty x)
    (b o : Nat) (hx : a.eval x = .pointer (some ⟨b, o, none⟩)) (cs : List Value) (d : TypeDesc) (hc : w.rangeAt b o cs)
    (hu : P.underlying ty = some d) (hd : d.isRow = true) (hi : (P.info? ty).map (·.size) = some cs.length)
    (h : wpList P ops Q rest (a.put op.dst (.agg cs.toArray)) w) : wpList P ops Q (op :: rest) a w :=
  wpList_step fun K hK => by rw [if_pos hw]; exact wp_load_mid ty x ho b o hx cs d hc hu hd hi (hK _ _ h)

section
variable {P : Program} {ops : Array Oper} {md : Region.Mode} {Q : Exit → Act → World → Prop}
/-- 'wpAny_take' with the slot written out, so that the frame stays small. -/
theorem wpAny_take_d (i : Nat) (d : Option Tmp) (v : Value) {oi : Oper} {fuel : Nat} {listed : Array Bool} {a : Act} {w : World} (hi : ops[i]? = some oi) (hd : oi.dst = d)
    (hs : Region.noSelect ops = true) (hf : Region.free md ops listed i = true) (hr : (Region.ready md ops listed).contains i = true)
    (hQ : ∀ c a w, Q (.panic c) (a.put oi.dst v) w → Q (.panic c) a w) (hw : Region.wanted oi (yielded ops a.tmps) = true) (hy : ∀ w, (execOp a.eval oi).run P w = .ok (.value v) w)
    (h : wpAny P md ops Q fuel (listed.setIfInBounds i true) (a.put d v) w) : wpAny P md ops Q (fuel + 1) listed a w := by
  subst hd
  exact wpAny_take hi hs hf hr hQ (.inl ⟨hw, hy⟩) h
/-- The one operation that may come up next is carried out. -/
theorem wpAny_one (i : Nat) {o : Oper} {fuel : Nat} {listed : Array Bool} {a : Act} {w : World} (hr : Region.ready md ops listed = [i]) (ho : ops[i]? = some o) (hw : Region.wanted o (yielded ops a.tmps) = true)
    (h : o.wp P a w (wpAny P md ops Q fuel (listed.setIfInBounds i true)) Q) : wpAny P md ops Q (fuel + 1) listed a w :=
  wpAny_ready hr (by simp) (AllReady.cons ho (fun K hK => by rw [if_pos hw]; exact Oper.wp_mono hK h) AllReady.nil)
end

/-- Into a region that draws, at the class 'nothing old has changed'. -/
theorem wp_region_since {id : Nat} {Q : Exit → Act → World → Prop} {w : World} {l : List Oper} (w0 : World) (hs : Since w0 w) (hm : P.follows .mixedOrders = true) (hB : Region.lexB .any l.toArray = true)
    (h : wpQuiet P l.toArray (Since w0) (fun a' => ∀ w', Since w0 w' → Q .normal a' w') l a) : (Code.region id l.toArray true).wp P Q a w :=
  wp_region_quiet (C := Since w0) hm hB (show Since w0 { w with drawn := w.drawn + 1 } from Below.trans hs ⟨rfl, rfl, rfl, Nat.le_refl _, fun _ _ => rfl⟩) (by simpa using h)

/-- 'wpQuiet' under a name that does not unfold. -/
structure WQ (P : Program) (ops : Array Oper) (C : World → Prop) (Q : Act → Prop) (rest : List Oper) (a : Act) : Prop where
  mk :: (out : wpQuiet P ops C Q rest a)
theorem WQ.val {u : Value} (hw : Region.wanted o (yielded ops a.tmps) = true) (h : ∀ w, C w → (execOp a.eval o).run P w = .ok (.value u) w) (hk : WQ P ops C Q rest (a.put o.dst u)) : WQ P ops C Q (o :: rest) a := ⟨wpQ_val hw h hk.out⟩
theorem WQ.off (hw : Region.wanted o (yielded ops a.tmps) = false) (hk : WQ P ops C Q rest (a.put o.dst undef)) : WQ P ops C Q (o :: rest) a := ⟨wpQ_off hw hk.out⟩
theorem WQ.call {f : FuncId} {args : Array Value} {v : Value} (hw : Region.wanted o (yielded ops a.tmps) = true) (h : ∀ w, C w → (execOp a.eval o).run P w = .ok (.enter f args) w)
    (hc : ∀ w, C w → Calls P f args w fun e w' => e = .returned v ∧ C w') (hk : WQ P ops C Q rest (a.put o.dst v)) : WQ P ops C Q (o :: rest) a := ⟨wpQ_call hw h hc hk.out⟩
theorem WQ.load (hw : Region.wanted o (yielded ops a.tmps) = true) (ty : TypeId) (x : Operand) (ho : o.op = .load ty x) (b off : Nat) (hx : a.eval x = .pointer (some ⟨b, off, none⟩)) (cs : List Value) (d : TypeDesc)
    (hc : ∀ w, C w → w.rangeAt b off cs) (hu : P.underlying ty = some d) (hd : d.isRow = true) (hi : (P.info? ty).map (·.size) = some cs.length)
    (hk : WQ P ops C Q rest (a.put o.dst (.agg cs.toArray))) : WQ P ops C Q (o :: rest) a := ⟨wpQ_load_mid hw ty x ho b off hx cs d hc hu hd hi hk.out⟩
theorem WQ.done (h : Q a) : WQ P ops C Q [] a := ⟨wpQ_done h⟩
theorem WQ.enter {id : Nat} {Q : Exit → Act → World → Prop} {w : World} {l : List Oper} (w0 : World) (hs : Since w0 w) (hm : P.follows .mixedOrders = true) (hB : Region.lexB .any l.toArray = true)
    (h : WQ P l.toArray (Since w0) (fun a' => ∀ w', Since w0 w' → Q .normal a' w') l a) : (Code.region id l.toArray true).wp P Q a w := wp_region_since w0 hs hm hB h.out
end
end Go.Proofs.YtfiddoibnjildaaGreatDoor
