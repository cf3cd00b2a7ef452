/- Regions that draw their order, whose operations read old memory and whose calls may make new memory: one walk in the order of the text, over the class of the worlds in which nothing old has changed. -/
import Derived.Deep.QuietTactic
import Derived.Deep.MidRow
import Derived.Below
import Derived.WalkKit
import Derived.RegionTactic
import Derived.Test.YtahgapkecabnjaaC00
import Derived.BigQuiet
import Derived.WalkSmall
import Derived.WalkLawsBesides
namespace Go.Proofs.Ytahgapkecabnjaa
set_option linter.unusedSimpArgs false
set_option linter.unusedVariables false
open Go Go.RowKit

theorem below_then {w w1 w2 : World} (h : Below w.heap.size w w1) (k : Below w1.heap.size w1 w2) : Below w.heap.size w w2 := h.trans (k.mono h.size)
/-- Nothing that was there in w has changed. -/
def Since (w w' : World) : Prop := Below w.heap.size w w'
theorem Since.refl (w : World) : Since w w := Below.refl _ _
theorem Since.step {w w1 w2 : World} (h : Since w w1) (k : Below w1.heap.size w1 w2) : Since w w2 := h.trans (k.mono h.size)
theorem Since.cell {w w1 : World} (h : Since w w1) {a : Addr} {v : Value} (hc : w.cell? a = some v) : w1.cell? a = some v := (Below.cell h (World.block_lt_of_cell? w a hc)).trans hc
theorem Since.range {w w1 : World} (h : Since w w1) {b o : Nat} {cs : List Value} (hc : w.rangeAt b o cs) : w1.rangeAt b o cs := fun j v hv => h.cell (hc j v hv)

section
variable {P : Program} {ops : Array Oper} {C : World → Prop} {Q : Act → Prop} {o : Oper} {a : Act} {rest : List Oper}

theorem wpQ_val {u : Value} (hw : Region.wanted o (yielded ops a.tmps) = true) (h : ∀ w, C w → (execOp a.eval o).run P w = .ok (.value u) w)
    (hk : wpQuiet P ops C Q rest (a.put o.dst u)) : wpQuiet P ops C Q (o :: rest) a := by
  unfold wpQuiet
  rw [if_pos hw]
  exact ⟨u, fun w hc => by unfold Oper.quietAt; rw [h w hc]; exact ⟨rfl, rfl⟩, hk⟩
theorem wpQ_off (hw : Region.wanted o (yielded ops a.tmps) = false) (hk : wpQuiet P ops C Q rest (a.put o.dst undef)) : wpQuiet P ops C Q (o :: rest) a := by
  unfold wpQuiet
  rw [if_neg (by rw [hw]; exact Bool.false_ne_true)]
  exact hk
theorem wpQ_call {f : FuncId} {args : Array Value} {v : Value} (hw : Region.wanted o (yielded ops a.tmps) = true) (h : ∀ w, C w → (execOp a.eval o).run P w = .ok (.enter f args) w)
    (hc : ∀ w, C w → Calls P f args w fun e w' => e = .returned v ∧ C w') (hk : wpQuiet P ops C Q rest (a.put o.dst v)) : wpQuiet P ops C Q (o :: rest) a := by
  unfold wpQuiet
  rw [if_pos hw]
  exact ⟨v, fun w hc' => by unfold Oper.quietAt; rw [h w hc']; exact ⟨rfl, hc w hc'⟩, hk⟩
theorem wpQ_load_mid (hw : Region.wanted o (yielded ops a.tmps) = true) (ty : TypeId) (x : Operand) (ho : o.op = .load ty x) (b off : Nat) (hx : a.eval x = .pointer (some ⟨b, off, none⟩)) (cs : List Value) (d : TypeDesc)
    (hc : ∀ w, C w → w.rangeAt b off cs) (hu : P.underlying ty = some d) (hd : d.isRow = true) (hi : (P.info? ty).map (·.size) = some cs.length)
    (hk : wpQuiet P ops C Q rest (a.put o.dst (.agg cs.toArray))) : wpQuiet P ops C Q (o :: rest) a := by
  refine wpQ_val hw (fun w hcw => ?_) hk
  unfold execOp
  simp only [ho, hx, Sem.run_bind, run_loadAt_mid w b off ty cs d (hc w hcw) hu hd hi, Result.andThen_ok, Sem.run_pure]
theorem wpQ_done (h : Q a) : wpQuiet P ops C Q [] a := h

/-- The load of a whole array or struct in a plain region, guarded or not. -/
theorem wpList_load_mid_w {P : Program} {ops : Array Oper} {rest : List Oper} {op : Oper} {a : Act} {w : World} {Q : Exit → Act → World → Prop} (hw : Region.wanted op (yielded ops a.tmps) = true) (ty : TypeId) (x : Operand) (ho : op.op = .load ty x)
    (b o : Nat) (hx : a.eval x = .pointer (some ⟨b, o, none⟩)) (cs : List Value) (d : TypeDesc) (hc : w.rangeAt b o cs)
    (hu : P.underlying ty = some d) (hd : d.isRow = true) (hi : (P.info? ty).map (·.size) = some cs.length)
    (h : wpList P ops Q rest (a.put op.dst (.agg cs.toArray)) w) : wpList P ops Q (op :: rest) a w :=
  wpList_step fun K hK => by rw [if_pos hw]; exact wp_load_mid ty x ho b o hx cs d hc hu hd hi (hK _ _ h)

section
variable {P : Program} {ops : Array Oper} {md : Region.Mode} {Q : Exit → Act → World → Prop}
/-- 'wpAny_take' with the slot written out, so that the frame stays small. -/
theorem wpAny_take_d (i : Nat) (d : Option Tmp) (v : Value) {oi : Oper} {fuel : Nat} {listed : Array Bool} {a : Act} {w : World} (hi : ops[i]? = some oi) (hd : oi.dst = d)
    (hs : Region.noSelect ops = true) (hf : Region.free md ops listed i = true) (hr : (Region.ready md ops listed).contains i = true)
    (hQ : ∀ c a w, Q (.panic c) (a.put oi.dst v) w → Q (.panic c) a w) (hw : Region.wanted oi (yielded ops a.tmps) = true) (hy : ∀ w, (execOp a.eval oi).run P w = .ok (.value v) w)
    (h : wpAny P md ops Q fuel (listed.setIfInBounds i true) (a.put d v) w) : wpAny P md ops Q (fuel + 1) listed a w := by
  subst hd
  exact wpAny_take hi hs hf hr hQ (.inl ⟨hw, hy⟩) h
/-- The one operation that may come up next is carried out. -/
theorem wpAny_one (i : Nat) {o : Oper} {fuel : Nat} {listed : Array Bool} {a : Act} {w : World} (hr : Region.ready md ops listed = [i]) (ho : ops[i]? = some o) (hw : Region.wanted o (yielded ops a.tmps) = true)
    (h : o.wp P a w (wpAny P md ops Q fuel (listed.setIfInBounds i true)) Q) : wpAny P md ops Q (fuel + 1) listed a w :=
  wpAny_ready hr (by simp) (AllReady.cons ho (fun K hK => by rw [if_pos hw]; exact Oper.wp_mono hK h) AllReady.nil)
end

/-- Into a region that draws, at the class 'nothing old has changed'. -/
theorem wp_region_since {id : Nat} {Q : Exit → Act → World → Prop} {w : World} {l : List Oper} (w0 : World) (hs : Since w0 w) (hm : P.follows .mixedOrders = true) (hB : Region.lexB .any l.toArray = true)
    (h : wpQuiet P l.toArray (Since w0) (fun a' => ∀ w', Since w0 w' → Q .normal a' w') l a) : (Code.region id l.toArray true).wp P Q a w :=
  wp_region_quiet (C := Since w0) hm hB (show Since w0 { w with drawn := w.drawn + 1 } from Below.trans hs ⟨rfl, rfl, rfl, Nat.le_refl _, fun _ _ => rfl⟩) (by simpa using h)

/-- 'wpQuiet' under a name that does not unfold. -/
structure WQ (P : Program) (ops : Array Oper) (C : World → Prop) (Q : Act → Prop) (rest : List Oper) (a : Act) : Prop where
  mk :: (out : wpQuiet P ops C Q rest a)
theorem WQ.val {u : Value} (hw : Region.wanted o (yielded ops a.tmps) = true) (h : ∀ w, C w → (execOp a.eval o).run P w = .ok (.value u) w) (hk : WQ P ops C Q rest (a.put o.dst u)) : WQ P ops C Q (o :: rest) a := ⟨wpQ_val hw h hk.out⟩
theorem WQ.off (hw : Region.wanted o (yielded ops a.tmps) = false) (hk : WQ P ops C Q rest (a.put o.dst undef)) : WQ P ops C Q (o :: rest) a := ⟨wpQ_off hw hk.out⟩
theorem WQ.call {f : FuncId} {args : Array Value} {v : Value} (hw : Region.wanted o (yielded ops a.tmps) = true) (h : ∀ w, C w → (execOp a.eval o).run P w = .ok (.enter f args) w)
    (hc : ∀ w, C w → Calls P f args w fun e w' => e = .returned v ∧ C w') (hk : WQ P ops C Q rest (a.put o.dst v)) : WQ P ops C Q (o :: rest) a := ⟨wpQ_call hw h hc hk.out⟩
theorem WQ.load (hw : Region.wanted o (yielded ops a.tmps) = true) (ty : TypeId) (x : Operand) (ho : o.op = .load ty x) (b off : Nat) (hx : a.eval x = .pointer (some ⟨b, off, none⟩)) (cs : List Value) (d : TypeDesc)
    (hc : ∀ w, C w → w.rangeAt b off cs) (hu : P.underlying ty = some d) (hd : d.isRow = true) (hi : (P.info? ty).map (·.size) = some cs.length)
    (hk : WQ P ops C Q rest (a.put o.dst (.agg cs.toArray))) : WQ P ops C Q (o :: rest) a := ⟨wpQ_load_mid hw ty x ho b off hx cs d hc hu hd hi hk.out⟩
theorem WQ.done (h : Q a) : WQ P ops C Q [] a := ⟨wpQ_done h⟩
theorem WQ.enter {id : Nat} {Q : Exit → Act → World → Prop} {w : World} {l : List Oper} (w0 : World) (hs : Since w0 w) (hm : P.follows .mixedOrders = true) (hB : Region.lexB .any l.toArray = true)
    (h : WQ P l.toArray (Since w0) (fun a' => ∀ w', Since w0 w' → Q .normal a' w') l a) : (Code.region id l.toArray true).wp P Q a w := wp_region_since w0 hs hm hB h.out
end
end Go.Proofs.Ytahgapkecabnjaa
/- trace.Next. -/
namespace Go.Proofs.Ytahgapkecabnjaa
set_option linter.unusedSimpArgs false
set_option linter.unusedVariables false
open Go Go.RowKit Go.Maps Go.MapKept

theorem kindF_range (f : Int) : 0 ≤ kindF f ∧ kindF f ≤ 5 := by
  unfold kindF
  repeat' split
  all_goals omega

def nextF (s : Int) (r : Bool) (f : Int) : Int × Bool := ((stage 2 s r (kindF f)).getD 0, (stage 2 s r (kindF f)).isSome)

def NextPost (s : Int) (r : Bool) (f : Int) (w : World) (e : Ending) (w' : World) : Prop :=
  e = .returned (.tuple #[.int .i64 (nextF s r f).1, .bool (nextF s r f).2]) ∧ Below w.heap.size w w'

/-! ### The fixed fact and the law's own function -/
theorem openF_syn : openF 2 = (1, true) := by decide

/-- The plain law: Next of the program is Next of the reference, state by state. -/
theorem has_eq (f g : Int) : hasF f g = (f / g % 2 == 1) := rfl

theorem moves_law_flags : ∀ f : Fin 256, openF f.val = refOpenF f.val := by decide +kernel
theorem openF_eq (f : Int) (h0 : 0 ≤ f) (h1 : f ≤ 255) : openF f = refOpenF f := by
  obtain ⟨n, rfl⟩ := Int.eq_ofNat_of_zero_le h0
  exact moves_law_flags ⟨n, by omega⟩
theorem next_law_small : ∀ (s : Fin 9) (r : Bool) (f : Fin 256), nextF s.val r f.val = refNextF s.val r f.val := by decide +kernel
theorem stage_out (s : Int) (r : Bool) (k : Int) (h : s < 1 ∨ 7 < s) : stage 2 s r k = none := by
  unfold stage
  rw [if_neg (by omega), if_neg (by omega)]
  simp only [baseT, Option.map_eq_none_iff, List.find?_eq_none, baseL, List.forall_mem_cons, decide_eq_true_eq, Prod.mk.injEq]
  repeat (refine ⟨by omega, ?_⟩)
  simp
theorem nextF_eq (s : Int) (r : Bool) (f : Int) (h0 : 0 ≤ f) (h1 : f ≤ 255) : nextF s r f = refNextF s r f := by
  by_cases hs : s < 1 ∨ 7 < s
  · unfold nextF refNextF
    rw [stage_out s r _ hs, if_pos hs]; rfl
  · obtain ⟨n, rfl⟩ := Int.eq_ofNat_of_zero_le h0
    obtain ⟨m, rfl⟩ := Int.eq_ofNat_of_zero_le (show 0 ≤ s by omega)
    exact next_law_small ⟨m, by omega⟩ r ⟨n, by omega⟩
end Go.Proofs.Ytahgapkecabnjaa
/- Walks of package fsm and of its reference. -/
namespace Go.Proofs.Ytahgapkecabnjaa
set_option linter.unusedSimpArgs false
set_option linter.unusedVariables false
open Go Go.RowKit

/-- A packet. -/
structure Pk where
  proto : Int
  src : Int
  dst : Int
  sport : Int
  dport : Int
  flags : Int
  kind : Int

def pkC (p : Pk) : Array Value := #[.int .u8 p.proto, .int .u32 p.src, .int .u32 p.dst, .int .u16 p.sport, .int .u16 p.dport, .int .u8 p.flags, .int .u8 p.kind]

def goesF (r : Bool) (p : Pk) : Bool :=
  if (p.proto == 17) = true then true else if (p.proto == 1) = true then ((p.kind == 8) && !r) || ((p.kind == 0) && r) else false

def fopenF (p : Pk) : Int × Bool :=
  if (p.proto == 6) = true then openF p.flags else if (p.proto == 17) = true then (8, true) else if (p.proto == 1) = true then if (p.kind == 8) = true then (8, true) else (0, false) else (0, false)

def nearF (n lo hi : Int) : Int := max lo (min n hi)

/-- How long a state lasts. -/
def longF (ts : Nat → Int) (s : Int) : Int := if 0 ≤ s ∧ s < 16 then ts s.toNat else 0
def untilF (ts : Nat → Int) (s c : Int) : Int := min (nearF c 0 1099511627775 + nearF (longF ts s) 1 1048576) 1099511627775

/-- An array of 16 numbers. -/
def arr16 (f : Nat → Int) : Array Value := #[.int .i64 (f 0), .int .i64 (f 1), .int .i64 (f 2), .int .i64 (f 3), .int .i64 (f 4), .int .i64 (f 5), .int .i64 (f 6), .int .i64 (f 7), .int .i64 (f 8), .int .i64 (f 9), .int .i64 (f 10), .int .i64 (f 11), .int .i64 (f 12), .int .i64 (f 13), .int .i64 (f 14), .int .i64 (f 15)]
theorem arr16_at (f : Nat → Int) (j : Nat) (hj : j < 16) : (arr16 f)[j]? = some (.int .i64 (f j)) := by
  have : j = 0 ∨ j = 1 ∨ j = 2 ∨ j = 3 ∨ j = 4 ∨ j = 5 ∨ j = 6 ∨ j = 7 ∨ j = 8 ∨ j = 9 ∨ j = 10 ∨ j = 11 ∨ j = 12 ∨ j = 13 ∨ j = 14 ∨ j = 15 := by omega
  rcases this with h | h | h | h | h | h | h | h | h | h | h | h | h | h | h | h <;> subst h <;> rfl

theorem until_tail {a b : Int} (ha : 0 ≤ a) (ha' : a ≤ 1099511627775) (hb : 1 ≤ b) (hb' : b ≤ 1048576) : 0 ≤ a + b ∧ a + b ≤ 1099512676351 := by omega
theorem nearF_bd (n lo hi : Int) (h : lo ≤ hi) : lo ≤ nearF n lo hi ∧ nearF n lo hi ≤ hi := by unfold nearF; omega

end Go.Proofs.Ytahgapkecabnjaa
/- Walks of fsm.Next, of the reference's Open and Next, and the fixed fact. -/
namespace Go.Proofs.Ytahgapkecabnjaa
set_option linter.unusedSimpArgs false
set_option linter.unusedVariables false
open Go Go.RowKit

theorem below_box {w w1 : World} {o : Obj} (h : Below (w.alloc o).heap.size (w.alloc o) w1) : Below w.heap.size w w1 :=
  ((Below.refl _ w).alloc (Nat.le_refl _) o).trans (h.mono (by simp))

def fnextF (s : Int) (r : Bool) (p : Pk) : Int × Bool :=
  if (p.proto == 6) = true then nextF s r p.flags
  else if (s == 8) = false ∧ (s == 9) = false then (0, false)
  else if goesF r p = false then (0, false) else if r = true then (9, true) else (s, true)

def PairPost (q : Int × Bool) (w : World) (e : Ending) (w' : World) : Prop := e = .returned (.tuple #[.int .i64 q.1, .bool q.2]) ∧ Below w.heap.size w w'

theorem pair_end {q : Int × Bool} {t : Int} {ok : Bool} {w w' : World} (h : q = (t, ok)) (hb : Below w.heap.size w w') : PairPost q w (.returned (.tuple #[.int .i64 t, .bool ok])) w' := by
  subst h; exact ⟨rfl, hb⟩

def refFnextF (s : Int) (r : Bool) (p : Pk) : Int × Bool := fnextF s r p

end Go.Proofs.Ytahgapkecabnjaa
/- Regions that draw their order, whose operations only read or call, but for the last, which waits for all the others: one walk of the text's order serves every order. After Derived/Deep/Quiet.lean. -/
namespace Go.Proofs.Ytahgapkecabnjaa
set_option linter.unusedSimpArgs false
set_option linter.unusedVariables false
open Go Go.RowKit

section
variable {P : Program} {ops : Array Oper} {md : Region.Mode} {C : World → Prop}

/-- What an operation waits for. -/
def aft (md : Region.Mode) (ops : Array Oper) (i : Nat) : List Nat := ((ops[i]?).map fun o => (o.after.toList.filter (Region.binds md)).map (·.on)).getD []
def reach (md : Region.Mode) (ops : Array Oper) (l : Nat) : Nat → List Nat
  | 0 => aft md ops l
  | k + 1 => reach md ops l k ++ (reach md ops l k).flatMap (aft md ops)
/-- What is listed waits for what is listed. -/
def Closed (md : Region.Mode) (ops : Array Oper) (listed : Array Bool) : Prop := ∀ i j, i < ops.size → listed.getD i true = true → j ∈ aft md ops i → listed.getD j false = true
theorem Closed.start (n : Nat) : Closed md ops (Array.replicate ops.size false) := fun i j hi h => by
  simp [hi] at h
theorem aft_of {i : Nat} {o : Oper} (h : ops[i]? = some o) {j : Nat} (hj : j ∈ aft md ops i) : ∃ e ∈ o.after, Region.binds md e = true ∧ e.on = j := by
  unfold aft at hj
  rw [h] at hj
  simp only [Option.map_some, Option.getD_some, List.mem_map, List.mem_filter] at hj
  obtain ⟨e, ⟨h1, h2⟩, h3⟩ := hj
  exact ⟨e, by simpa using h1, h2, h3⟩
theorem ready_aft {listed : Array Bool} {i : Nat} (h : i ∈ Region.ready md ops listed) {j : Nat} (hj : j ∈ aft md ops i) : listed.getD j false = true := by
  obtain ⟨_, o, ho, hall⟩ := mem_ready.1 h
  obtain ⟨e, he, hb, rfl⟩ := aft_of ho hj
  exact hall e he hb
theorem getD_lt {listed : Array Bool} {j : Nat} (h : listed.getD j false = true) : j < listed.size := by
  rcases Nat.lt_or_ge j listed.size with h' | h'
  · exact h'
  · simp [Array.getElem?_eq_none h'] at h
theorem getD_set (listed : Array Bool) (i j : Nat) (d : Bool) (hi : i < listed.size) : (listed.setIfInBounds i true).getD j d = if i = j then true else listed.getD j d := by
  by_cases h : i = j
  · subst h; rw [if_pos rfl]; simp [hi]
  · rw [if_neg h]; exact getD_set_ne d h
theorem ready_lt {listed : Array Bool} {i : Nat} (h : i ∈ Region.ready md ops listed) : i < ops.size := by
  obtain ⟨_, o, ho, _⟩ := mem_ready.1 h
  exact (Array.getElem?_eq_some_iff.1 ho).1
theorem Closed.set {listed : Array Bool} (h : Closed md ops listed) (hs : listed.size = ops.size) {i : Nat} (hi : i ∈ Region.ready md ops listed) : Closed md ops (listed.setIfInBounds i true) := fun a j ha hl hj => by
  have hil : i < listed.size := by rw [hs]; exact ready_lt hi
  rw [getD_set _ _ _ _ hil] at hl ⊢
  split
  · rfl
  · by_cases e : i = a
    · subst e; exact ready_aft hi hj
    · rw [if_neg e] at hl; exact h a j ha hl hj
theorem reach_listed {listed : Array Bool} (h : Closed md ops listed) (hs : listed.size = ops.size) {l : Nat} (hl : l ∈ Region.ready md ops listed) : ∀ k j, j ∈ reach md ops l k → listed.getD j false = true
  | 0, j, hj => ready_aft hl hj
  | k + 1, j, hj => by
    rw [reach, List.mem_append, List.mem_flatMap] at hj
    rcases hj with hj | ⟨m, hm, hj⟩
    · exact reach_listed h hs hl k j hj
    · have h1 := reach_listed h hs hl k m hm
      have hlt := getD_lt h1
      exact h m j (by omega) (by simp [hlt] at h1 ⊢; exact h1) hj
/-- Operation l is the last, and waits for all the others. -/
def lastB (md : Region.Mode) (ops : Array Oper) (l k : Nat) : Bool := (ops.size == l + 1) && (List.range l).all fun j => (reach md ops l k).contains j

/-- Whatever order is picked from here on, up to the last operation. -/
def wpAnyR (P : Program) (md : Region.Mode) (ops : Array Oper) (C : World → Prop) (l : Nat) (Q : Act → Prop) : Nat → Array Bool → Act → Prop
  | 0, listed, a => Region.ready md ops listed = [l] ∧ Q a
  | fuel + 1, listed, a =>
    (Region.ready md ops listed = [] → False) ∧ (Region.ready md ops listed = [l] → Q a) ∧
    ∀ i ∈ Region.ready md ops listed, i ≠ l → qOp P ops C i (wpAnyR P md ops C l Q fuel (listed.setIfInBounds i true)) a

theorem only_last {listed : Array Bool} {l k : Nat} (hb : lastB md ops l k = true) (h : Closed md ops listed) (hs : listed.size = ops.size) (hl : l ∈ Region.ready md ops listed) : (∀ j, j < l → listed.getD j false = true) ∧ ops.size = l + 1 := by
  unfold lastB at hb
  rw [Bool.and_eq_true, beq_iff_eq, List.all_eq_true] at hb
  refine ⟨fun j hj => reach_listed h hs hl k j ?_, hb.1⟩
  have := hb.2 j (List.mem_range.2 hj)
  simpa using this
theorem ready_set_nil {listed : Array Bool} {l : Nat} (hsz : ops.size = l + 1) (hs : listed.size = ops.size) (h : ∀ j, j < l → listed.getD j false = true) : Region.ready md ops (listed.setIfInBounds l true) = [] := by
  rw [List.eq_nil_iff_forall_not_mem]
  intro i hi
  have h1 := (mem_ready.1 hi).1
  have h2 := ready_lt hi
  rw [getD_set _ _ _ _ (by omega)] at h1
  split at h1
  · cases h1
  · rename_i hne
    have h3 := h i (by omega)
    have hlt := getD_lt h3
    simp [hlt] at h1 h3
    rw [h3] at h1; cases h1

theorem wpAny_of_R {l k : Nat} (hb : lastB md ops l k = true) {Q : Act → Prop} {Q' : Exit → Act → World → Prop} (hQ : ∀ a w, C w → Q a → wpOp P ops Q' l (fun a' w' => Q' .normal a' w') a w) :
    ∀ (fuel : Nat) (listed : Array Bool) (a : Act) (w : World), Closed md ops listed → listed.size = ops.size → C w → wpAnyR P md ops C l Q fuel listed a → wpAny P md ops Q' (fuel + 1) listed a w
  | fuel, listed, a, w, hcl, hs, hw, h => by
    have hend : l ∈ Region.ready md ops listed → Q a → wpOp P ops Q' l (wpAny P md ops Q' fuel (listed.setIfInBounds l true)) a w := fun hl hq => by
      obtain ⟨h1, h2⟩ := only_last hb hcl hs hl
      have h3 := ready_set_nil (md := md) h2 hs h1
      refine wpOp_mono (fun a' w' h' => ?_) (hQ a w hw hq)
      cases fuel with
      | zero => exact ⟨h3, h'⟩
      | succ f => exact ⟨fun _ => h', fun i hi => by rw [h3] at hi; cases hi⟩
    cases fuel with
    | zero =>
      obtain ⟨h1, h2⟩ := h
      refine ⟨fun h0 => (by rw [h0] at h1; cases h1), fun i hi => ?_⟩
      rw [h1] at hi
      obtain rfl := List.mem_singleton.1 hi
      exact hend (by rw [h1]; exact List.mem_singleton.2 rfl) h2
    | succ f =>
      obtain ⟨h0, h1, h2⟩ := h
      refine ⟨fun e => (h0 e).elim, fun i hi => ?_⟩
      by_cases e : i = l
      · subst e
        refine hend hi (h1 ?_)
        obtain ⟨g1, g2⟩ := only_last hb hcl hs hi
        have hall : ∀ x ∈ Region.ready md ops listed, x = i := fun x hx => by
          rcases Nat.lt_or_ge x i with hlt | hge
          · have g3 := g1 x hlt
            have g4 := (mem_ready.1 hx).1
            have hlt2 := getD_lt g3
            simp [hlt2] at g3 g4
            rw [g3] at g4; cases g4
          · have := ready_lt hx; omega
        have hnd : (Region.ready md ops listed).Nodup := by
          unfold Region.ready
          exact List.Pairwise.filter _ List.nodup_range
        cases hr : Region.ready md ops listed with
        | nil => rw [hr] at hi; cases hi
        | cons x xs =>
          rw [hr] at hall hnd
          obtain rfl := hall x (by simp)
          cases xs with
          | nil => rfl
          | cons y ys =>
            have := hall y (by simp)
            subst this
            simp at hnd
      · exact wpOp_of_qOp hw (fun a' w' hw' h' => wpAny_of_R hb hQ f _ a' w' (hcl.set hs hi) (by simpa using hs) hw' h') (h2 i hi e)

theorem wpAnyR_first {l : Nat} {Q : Act → Prop} {i : Nat} {oi : Oper} {v : Value} (hil : i ≠ l) (hi : ops[i]? = some oi) (hsel : ∀ (j : Nat) (o : Oper) cs b, ops[j]? = some o → o.op ≠ .select cs b) :
    ∀ (fuel : Nat) (listed : Array Bool) (a : Act),
      (∀ j oj, ops[j]? = some oj → j ≠ i → listed.getD j true = false → (∀ e ∈ oj.after, Region.binds md e = true → e.on ≠ i) → oi.apart ops oj = true) →
      i ∈ Region.ready md ops listed → YieldsIn P ops C oi v a →
      wpAnyR P md ops C l Q fuel (listed.setIfInBounds i true) (a.put oi.dst v) → wpAnyR P md ops C l Q (fuel + 1) listed a := by
  intro fuel
  induction fuel with
  | zero =>
    intro listed a _ hr hy H
    refine ⟨fun h => (by rw [h] at hr; cases hr), fun h => (by rw [h] at hr; exact absurd (List.mem_singleton.1 hr) hil), fun j hj hjl => ?_⟩
    by_cases hji : j = i
    · subst hji; exact hy.qOp hi H
    · have := ready_mono hj hji
      rw [H.1] at this
      exact absurd (List.mem_singleton.1 this) hjl
  | succ fuel ih =>
    intro listed a hfree hr hy H
    refine ⟨fun h => (by rw [h] at hr; cases hr), fun h => (by rw [h] at hr; exact absurd (List.mem_singleton.1 hr) hil), fun j hj hjl => ?_⟩
    by_cases hji : j = i
    · subst hji; exact hy.qOp hi H
    · have h1 := H.2.2 j (ready_mono hj hji) hjl
      obtain ⟨hjun, oj, hoj, hall⟩ := mem_ready.1 hj
      have hnot : ∀ e ∈ oj.after, Region.binds md e = true → e.on ≠ i := fun e he hb heq => by
        have h1 := hall e he hb
        have h0 := (mem_ready.1 hr).1
        rw [heq] at h1
        rcases Nat.lt_or_ge i listed.size with h' | h'
        · simp [h'] at h0 h1; rw [h0] at h1; cases h1
        · simp [Array.getElem?_eq_none h'] at h1
      have h2 := qOp_put hoj (hfree j oj hoj hji hjun hnot) (fun cs b => hsel i oi cs b hi) (fun cs b => hsel j oj cs b hoj) hy h1
      have hfree' : ∀ k ok, ops[k]? = some ok → k ≠ i → (listed.setIfInBounds j true).getD k true = false →
          (∀ e ∈ ok.after, Region.binds md e = true → e.on ≠ i) → oi.apart ops ok = true := fun k ok hk hki hun hno => by
        refine hfree k ok hk hki ?_ hno
        by_cases hjk : j = k
        · subst hjk; exact hjun
        · rw [getD_set_ne true hjk] at hun; exact hun
      refine qOp_mono (fun a' h3 => ih (listed.setIfInBounds j true) a' hfree' (ready_mono hr (Ne.symm hji)) h3.1 ?_) h2
      rw [Array.setIfInBounds_comm _ _ hji]
      exact h3.2

def lexFromL (md : Region.Mode) (ops : Array Oper) (l : Nat) : Nat → Nat → Array Bool → Bool
  | 0, _, listed => Region.ready md ops listed == [l]
  | fuel + 1, k, listed => (Region.ready md ops listed).contains k && Region.free md ops listed k && lexFromL md ops l fuel (k + 1) (listed.setIfInBounds k true)
theorem wpAnyR_lex {n : Nat} {Q : Act → Prop} (hs : Region.noSelect ops = true) : ∀ (l : List Oper) (k : Nat) (listed : Array Bool) (a : Act), k + l.length = n → (∀ j, j < l.length → l[j]? = ops[k + j]?) →
    lexFromL md ops n l.length k listed = true → wpQuiet P ops C Q l a → wpAnyR P md ops C n Q l.length listed a
  | [], _, _, _, _, _, hB, h => ⟨by simpa [lexFromL] using hB, h⟩
  | o :: l, k, listed, a, hn, hl, hB, h => by
    have h0 : ops[k]? = some o := by simpa using (hl 0 (by simp)).symm
    simp only [List.length_cons, lexFromL, Bool.and_eq_true] at hB
    obtain ⟨⟨hr, hf⟩, hB'⟩ := hB
    have hst : qOp P ops C k (wpQuiet P ops C Q l) a := by unfold qOp; simp only [h0]; exact h
    obtain ⟨v, hy, hK⟩ := yieldsIn_of_qOp h0 hst
    simp only [List.length_cons] at hn
    exact wpAnyR_first (by omega) h0 (Region.noSelect_spec hs) l.length listed a (Region.free_spec h0 hf) (by simpa using hr) hy
      (wpAnyR_lex hs l (k + 1) _ _ (by omega) (fun j hj => by have := hl (j + 1) (by simp; omega); simpa [Nat.add_assoc, Nat.add_comm 1 j] using this) hB' hK)

/-- Some draws later. -/
def Drew (w w' : World) : Prop := ∃ n, w' = w.drewN n
theorem Drew.refl (w : World) : Drew w w := ⟨0, rfl⟩
theorem Drew.cell {w w' : World} (h : Drew w w') {a : Addr} {v : Value} (hc : w.cell? a = some v) : w'.cell? a = some v := by obtain ⟨n, rfl⟩ := h; exact hc
theorem Drew.frozen {w w' : World} (h : Drew w w') {a : Addr} {v : Bool} (hc : w.frozen? a = v) : w'.frozen? a = v := by obtain ⟨n, rfl⟩ := h; exact hc
theorem Drew.range {w w' : World} (h : Drew w w') {b o : Nat} {cs : List Value} (hc : w.rangeAt b o cs) : w'.rangeAt b o cs := fun j v hv => h.cell (hc j v hv)
/-- Into such a region. -/
theorem WQ.last {id : Nat} {Q : Exit → Act → World → Prop} {a : Act} {w : World} {ls : List Oper} (C : World → Prop) (hs : C w.drew) (n k : Nat) (hn : ls.length = n + 1) (hm : P.follows .mixedOrders = true)
    (hB : (Region.noSelect ls.toArray && lastB .any ls.toArray n k && lexFromL .any ls.toArray n n 0 (Array.replicate (n + 1) false)) = true)
    (h : WQ P ls.toArray C (fun a' => ∀ w', C w' → wpOp P ls.toArray Q n (fun a'' w'' => Q .normal a'' w'') a' w') (ls.take n) a) : (Code.region id ls.toArray true).wp P Q a w := by
  simp only [Bool.and_eq_true] at hB
  obtain ⟨⟨h1, h2⟩, h3⟩ := hB
  have hsz : ls.toArray.size = n + 1 := by simpa using hn
  refine wp_region_any hm ?_
  rw [hsz]
  refine wpAny_of_R (C := C) (k := k) h2 (Q := fun a' => ∀ w', C w' → wpOp P ls.toArray Q n (fun a'' w'' => Q .normal a'' w'') a' w') (fun a w hw h => h w hw) n _ a _ ?_ (by simp [hsz]) ?_ ?_
  · have := Closed.start (md := .any) (ops := ls.toArray) 0
    rw [hsz] at this; exact this
  · exact hs
  · have hln : (ls.take n).length = n := by rw [List.length_take]; omega
    have := wpAnyR_lex (C := C) (md := .any) (n := n) h1 (ls.take n) 0 (Array.replicate (n + 1) false) a (by omega) (fun j hj => by
      rw [hln] at hj; simp [List.getElem?_take, hj]) (by rw [hln]; exact h3) h.out
    rw [hln] at this; exact this
/-- Into a region that only reads, at any class. -/
theorem WQ.enterC {id : Nat} {Q : Exit → Act → World → Prop} {a : Act} {w : World} {l : List Oper} (C : World → Prop) (hs : C w.drew) (hm : P.follows .mixedOrders = true) (hB : Region.lexB .any l.toArray = true)
    (h : WQ P l.toArray C (fun a' => ∀ w', C w' → Q .normal a' w') l a) : (Code.region id l.toArray true).wp P Q a w :=
  wp_region_quiet (C := C) hm hB hs (by simpa using h.out)
/-- The last operation. -/
theorem wpOp_one {n : Nat} {o : Oper} {a : Act} {w : World} {Q : Exit → Act → World → Prop} {K : Act → World → Prop} (ho : ops[n]? = some o) (hw : Region.wanted o (yielded ops a.tmps) = true)
    (h : ∀ K' : Act → World → Prop, (∀ a w, K a w → K' a w) → o.wp P a w K' Q) : wpOp P ops Q n K a w := by
  unfold wpOp
  rw [ho]
  simp only [hw, if_true]
  exact .inl (h K fun _ _ h => h)
/-- 'wpAnyH' under a name that does not unfold. -/
structure WH (P : Program) (ops : Array Oper) (Q : Exit → Act → World → Prop) (S : World → Prop) (fuel : Nat) (listed : Array Bool) (a : Act) (w : World) : Prop where
  mk :: (out : wpAnyH P .any ops Q S fuel listed a w)
theorem WH.enter {id : Nat} {Q : Exit → Act → World → Prop} {a : Act} {w : World} {ops : Array Oper} (S : World → Prop) (hm : P.follows .mixedOrders = true) (n : Nat) (hn : ops.size = n)
    (h : WH P ops Q S n (Array.replicate n false) a w.drew) : (Code.region id ops true).wp P Q a w := wp_region_held hm (by subst hn; exact h.out)
theorem WH.take {Q : Exit → Act → World → Prop} {ops : Array Oper} {S : World → Prop} (i : Nat) (d : Option Tmp) {v : Value} {oi : Oper} {fuel : Nat} {listed : Array Bool} {a : Act} {w : World} (hi : ops[i]? = some oi) (hd : oi.dst = d) (hs : Region.noSelect ops = true)
    (hf : Region.free .any ops listed i = true) (hr : (Region.ready .any ops listed).contains i = true) (hQ : ∀ c a w, Q (.panic c) (a.put oi.dst v) w → Q (.panic c) a w) (hw : Region.wanted oi (yielded ops a.tmps) = true) (hy : ∀ w, S w → (execOp a.eval oi).run P w = .ok (.value v) w) (hS : S w)
    (h : WH P ops Q S fuel (listed.setIfInBounds i true) (a.put d v) w) : WH P ops Q S (fuel + 1) listed a w := by
  subst hd
  exact ⟨wpAnyH_take hi hs hf hr hQ (.inl ⟨hw, hy⟩) hS h.out⟩
theorem WH.one {Q : Exit → Act → World → Prop} {ops : Array Oper} {S : World → Prop} (i : Nat) {o : Oper} {fuel : Nat} {listed : Array Bool} {a : Act} {w : World} (hr : Region.ready .any ops listed = [i]) (ho : ops[i]? = some o) (hw : Region.wanted o (yielded ops a.tmps) = true)
    (h : o.wp P a w (fun a' w' => S w' ∧ WH P ops Q S fuel (listed.setIfInBounds i true) a' w') Q) : WH P ops Q S (fuel + 1) listed a w :=
  ⟨wpAnyH_all hr (by simp) (fun j hj => by
    obtain rfl := List.mem_singleton.1 hj
    unfold wpOp
    rw [ho]
    simp only [hw, if_true]
    exact .inl (Oper.wp_mono (fun a' w' h' => ⟨h'.1, h'.2.out⟩) h))⟩
theorem WH.done {Q : Exit → Act → World → Prop} {ops : Array Oper} {S : World → Prop} {fuel : Nat} {listed : Array Bool} {a : Act} {w : World} (hr : Region.ready .any ops listed = []) (h : Q .normal a w) : WH P ops Q S fuel listed a w := ⟨wpAnyH_done hr h fuel⟩
end
end Go.Proofs.Ytahgapkecabnjaa
