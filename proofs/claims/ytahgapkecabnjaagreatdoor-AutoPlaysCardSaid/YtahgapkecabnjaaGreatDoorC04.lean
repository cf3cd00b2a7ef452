/- Regions that draw their order, whose operations only read or call, but for the last, which waits for all the others: one walk of the text's order serves every order. After Derived/Deep/Quiet.lean. -/
import Derived.Test.YtahgapkecabnjaaGreatDoorC00
import Derived.Test.YtahgapkecabnjaaGreatDoorC02
import Derived.Test.YtahgapkecabnjaaGreatDoorC03
import Derived.Sort.Grow
import Derived.Lib.AppendIntMem
namespace Go.Proofs.YtahgapkecabnjaaGreatDoor
set_option linter.unusedSimpArgs false
set_option linter.unusedVariables false
open Go Go.RowKit

section
variable {P : Program} {ops : Array Oper} {md : Region.Mode} {C : World → Prop}

/-- What an operation waits for. -/
def aft (md : Region.Mode) (ops : Array Oper) (i : Nat) : List Nat := ((ops[i]?).map fun o => (o.after.toList.filter (Region.binds md)).map (·.on)).getD []
def reach (md : Region.Mode) (ops : Array Oper) (l : Nat) : Nat → List Nat
  | 0 => aft md ops l
  | k + 1 => reach md ops l k ++ (reach md ops l k).flatMap (aft md ops)
/-- What is listed waits for what is listed. -/
def Closed (md : Region.Mode) (ops : Array Oper) (listed : Array Bool) : Prop := ∀ i j, i < ops.size → listed.getD i true = true → j ∈ aft md ops i → listed.getD j false = true
theorem Closed.start (n : Nat) : Closed md ops (Array.replicate ops.size false) := fun i j hi h => by
  simp [hi] at h
theorem aft_of {i : Nat} {o : Oper} (h : ops[i]? = some o) {j : Nat} (hj : j ∈ aft md ops i) : ∃ e ∈ o.after, Region.binds md e = true ∧ e.on = j := by
  unfold aft at hj
  rw [h] at hj
  simp only [Option.map_some, Option.getD_some, List.mem_map, List.mem_filter] at hj
  obtain ⟨e, ⟨h1, h2⟩, h3⟩ := hj
  exact ⟨e, by simpa using h1, h2, h3⟩
theorem ready_aft {listed : Array Bool} {i : Nat} (h : i ∈ Region.ready md ops listed) {j : Nat} (hj : j ∈ aft md ops i) : listed.getD j false = true := by
  obtain ⟨_, o, ho, hall⟩ := mem_ready.1 h
  obtain ⟨e, he, hb, rfl⟩ := aft_of ho hj
  exact hall e he hb
theorem getD_lt {listed : Array Bool} {j : Nat} (h : listed.getD j false = true) : j < listed.size := by
  rcases Nat.lt_or_ge j listed.size with h' | h'
  · exact h'
  · simp [Array.getElem?_eq_none h'] at h
theorem getD_set (listed : Array Bool) (i j : Nat) (d : Bool) (hi : i < listed.size) : (listed.setIfInBounds i true).getD j d = if i = j then true else listed.getD j d := by
  by_cases h : i = j
  · subst h; rw [if_pos rfl]; simp [hi]
  · rw [if_neg h]; exact getD_set_ne d h
theorem ready_lt {listed : Array Bool} {i : Nat} (h : i ∈ Region.ready md ops listed) : i < ops.size := by
  obtain ⟨_, o, ho, _⟩ := mem_ready.1 h
  exact (Array.getElem?_eq_some_iff.1 ho).1
theorem Closed.set {listed : Array Bool} (h : Closed md ops listed) (hs : listed.size = ops.size) {i : Nat} (hi : i ∈ Region.ready md ops listed) : Closed md ops (listed.setIfInBounds i true) := fun a j ha hl hj => by
  have hil : i < listed.size := by rw [hs]; exact ready_lt hi
  rw [getD_set _ _ _ _ hil] at hl ⊢
  split
  · rfl
  · by_cases e : i = a
    · subst e; exact ready_aft hi hj
    · rw [if_neg e] at hl; exact h a j ha hl hj
theorem reach_listed {listed : Array Bool} (h : Closed md ops listed) (hs : listed.size = ops.size) {l : Nat} (hl : l ∈ Region.ready md ops listed) : ∀ k j, j ∈ reach md ops l k → listed.getD j false = true
  | 0, j, hj => ready_aft hl hj
  | k + 1, j, hj => by
    rw [reach, List.mem_append, List.mem_flatMap] at hj
    rcases hj with hj | ⟨m, hm, hj⟩
    · exact reach_listed h hs hl k j hj
    · have h1 := reach_listed h hs hl k m hm
      have hlt := getD_lt h1
      exact h m j (by omega) (by simp [hlt] at h1 ⊢; exact h1) hj
/-- Operation l is the last, and waits for all the others. -/
def lastB (md : Region.Mode) (ops : Array Oper) (l k : Nat) : Bool := (ops.size == l + 1) && (List.range l).all fun j => (reach md ops l k).contains j

/-- Whatever order is picked from here on, up to the last operation. -/
def wpAnyR (P : Program) (md : Region.Mode) (ops : Array Oper) (C : World → Prop) (l : Nat) (Q : Act → Prop) : Nat → Array Bool → Act → Prop
  | 0, listed, a => Region.ready md ops listed = [l] ∧ Q a
  | fuel + 1, listed, a =>
    (Region.ready md ops listed = [] → False) ∧ (Region.ready md ops listed = [l] → Q a) ∧
    ∀ i ∈ Region.ready md ops listed, i ≠ l → qOp P ops C i (wpAnyR P md ops C l Q fuel (listed.setIfInBounds i true)) a

theorem only_last {listed : Array Bool} {l k : Nat} (hb : lastB md ops l k = true) (h : Closed md ops listed) (hs : listed.size = ops.size) (hl : l ∈ Region.ready md ops listed) : (∀ j, j < l → listed.getD j false = true) ∧ ops.size = l + 1 := by
  unfold lastB at hb
  rw [Bool.and_eq_true, beq_iff_eq, List.all_eq_true] at hb
  refine ⟨fun j hj => reach_listed h hs hl k j ?_, hb.1⟩
  have := hb.2 j (List.mem_range.2 hj)
  simpa using this
theorem ready_set_nil {listed : Array Bool} {l : Nat} (hsz : ops.size = l + 1) (hs : listed.size = ops.size) (h : ∀ j, j < l → listed.getD j false = true) : Region.ready md ops (listed.setIfInBounds l true) = [] := by
  rw [List.eq_nil_iff_forall_not_mem]
  intro i hi
  have h1 := (mem_ready.1 hi).1
  have h2 := ready_lt hi
  rw [getD_set _ _ _ _ (by omega)] at h1
  split at h1
  · cases h1
  · rename_i hne
    have h3 := h i (by omega)
    have hlt := getD_lt h3
    simp [hlt] at h1 h3
    rw [h3] at h1; cases h1

theorem wpAny_of_R {l k : Nat} (hb : lastB md ops l k = true) {Q : Act → Prop} {Q' : Exit → Act → World → Prop} (hQ : ∀ a w, C w → Q a → wpOp P ops Q' l (fun a' w' => Q' .normal a' w') a w) :
    ∀ (fuel : Nat) (listed : Array Bool) (a : Act) (w : World), Closed md ops listed → listed.size = ops.size → C w → wpAnyR P md ops C l Q fuel listed a → wpAny P md ops Q' (fuel + 1) listed a w
  | fuel, listed, a, w, hcl, hs, hw, h => by
    have hend : l ∈ Region.ready md ops listed → Q a → wpOp P ops Q' l (wpAny P md ops Q' fuel (listed.setIfInBounds l true)) a w := fun hl hq => by
      obtain ⟨h1, h2⟩ := only_last hb hcl hs hl
      have h3 := ready_set_nil (md := md) h2 hs h1
      refine wpOp_mono (fun a' w' h' => ?_) (hQ a w hw hq)
      cases fuel with
      | zero => exact ⟨h3, h'⟩
      | succ f => exact ⟨fun _ => h', fun i hi => by rw [h3] at hi; cases hi⟩
    cases fuel with
    | zero =>
      obtain ⟨h1, h2⟩ := h
      refine ⟨fun h0 => (by rw [h0] at h1; cases h1), fun i hi => ?_⟩
      rw [h1] at hi
      obtain rfl := List.mem_singleton.1 hi
      exact hend (by rw [h1]; exact List.mem_singleton.2 rfl) h2
    | succ f =>
      obtain ⟨h0, h1, h2⟩ := h
      refine ⟨fun e => (h0 e).elim, fun i hi => ?_⟩
      by_cases e : i = l
      · subst e
        refine hend hi (h1 ?_)
        obtain ⟨g1, g2⟩ := only_last hb hcl hs hi
        have hall : ∀ x ∈ Region.ready md ops listed, x = i := fun x hx => by
          rcases Nat.lt_or_ge x i with hlt | hge
          · have g3 := g1 x hlt
            have g4 := (mem_ready.1 hx).1
            have hlt2 := getD_lt g3
            simp [hlt2] at g3 g4
            rw [g3] at g4; cases g4
          · have := ready_lt hx; omega
        have hnd : (Region.ready md ops listed).Nodup := by
          unfold Region.ready
          exact List.Pairwise.filter _ List.nodup_range
        cases hr : Region.ready md ops listed with
        | nil => rw [hr] at hi; cases hi
        | cons x xs =>
          rw [hr] at hall hnd
          obtain rfl := hall x (by simp)
          cases xs with
          | nil => rfl
          | cons y ys =>
            have := hall y (by simp)
            subst this
            simp at hnd
      · exact wpOp_of_qOp hw (fun a' w' hw' h' => wpAny_of_R hb hQ f _ a' w' (hcl.set hs hi) (by simpa using hs) hw' h') (h2 i hi e)

theorem wpAnyR_first {l : Nat} {Q : Act → Prop} {i : Nat} {oi : Oper} {v : Value} (hil : i ≠ l) (hi : ops[i]? = some oi) (hsel : ∀ (j : Nat) (o : Oper) cs b, ops[j]? = some o → o.op ≠ .select cs b) :
    ∀ (fuel : Nat) (listed : Array Bool) (a : Act),
      (∀ j oj, ops[j]? = some oj → j ≠ i → listed.getD j true = false → (∀ e ∈ oj.after, Region.binds md e = true → e.on ≠ i) → oi.apart ops oj = true) →
      i ∈ Region.ready md ops listed → YieldsIn P ops C oi v a →
      wpAnyR P md ops C l Q fuel (listed.setIfInBounds i true) (a.put oi.dst v) → wpAnyR P md ops C l Q (fuel + 1) listed a := by
  intro fuel
  induction fuel with
  | zero =>
    intro listed a _ hr hy H
    refine ⟨fun h => (by rw [h] at hr; cases hr), fun h => (by rw [h] at hr; exact absurd (List.mem_singleton.1 hr) hil), fun j hj hjl => ?_⟩
    by_cases hji : j = i
    · subst hji; exact hy.qOp hi H
    · have := ready_mono hj hji
      rw [H.1] at this
      exact absurd (List.mem_singleton.1 this) hjl
  | succ fuel ih =>
    intro listed a hfree hr hy H
    refine ⟨fun h => (by rw [h] at hr; cases hr), fun h => (by rw [h] at hr; exact absurd (List.mem_singleton.1 hr) hil), fun j hj hjl => ?_⟩
    by_cases hji : j = i
    · subst hji; exact hy.qOp hi H
    · have h1 := H.2.2 j (ready_mono hj hji) hjl
      obtain ⟨hjun, oj, hoj, hall⟩ := mem_ready.1 hj
      have hnot : ∀ e ∈ oj.after, Region.binds md e = true → e.on ≠ i := fun e he hb heq => by
        have h1 := hall e he hb
        have h0 := (mem_ready.1 hr).1
        rw [heq] at h1
        rcases Nat.lt_or_ge i listed.size with h' | h'
        · simp [h'] at h0 h1; rw [h0] at h1; cases h1
        · simp [Array.getElem?_eq_none h'] at h1
      have h2 := qOp_put hoj (hfree j oj hoj hji hjun hnot) (fun cs b => hsel i oi cs b hi) (fun cs b => hsel j oj cs b hoj) hy h1
      have hfree' : ∀ k ok, ops[k]? = some ok → k ≠ i → (listed.setIfInBounds j true).getD k true = false →
          (∀ e ∈ ok.after, Region.binds md e = true → e.on ≠ i) → oi.apart ops ok = true := fun k ok hk hki hun hno => by
        refine hfree k ok hk hki ?_ hno
        by_cases hjk : j = k
        · subst hjk; exact hjun
        · rw [getD_set_ne true hjk] at hun; exact hun
      refine qOp_mono (fun a' h3 => ih (listed.setIfInBounds j true) a' hfree' (ready_mono hr (Ne.symm hji)) h3.1 ?_) h2
      rw [Array.setIfInBounds_comm _ _ hji]
      exact h3.2

def lexFromL (md : Region.Mode) (ops : Array Oper) (l : Nat) : Nat → Nat → Array Bool → Bool
  | 0, _, listed => Region.ready md ops listed == [l]
  | fuel + 1, k, listed => (Region.ready md ops listed).contains k && Region.free md ops listed k && lexFromL md ops l fuel (k + 1) (listed.setIfInBounds k true)
theorem wpAnyR_lex {n : Nat} {Q : Act → Prop} (hs : Region.noSelect ops = true) : ∀ (l : List Oper) (k : Nat) (listed : Array Bool) (a : Act), k + l.length = n → (∀ j, j < l.length → l[j]? = ops[k + j]?) →
    lexFromL md ops n l.length k listed = true → wpQuiet P ops C Q l a → wpAnyR P md ops C n Q l.length listed a
  | [], _, _, _, _, _, hB, h => ⟨by simpa [lexFromL] using hB, h⟩
  | o :: l, k, listed, a, hn, hl, hB, h => by
    have h0 : ops[k]? = some o := by simpa using (hl 0 (by simp)).symm
    simp only [List.length_cons, lexFromL, Bool.and_eq_true] at hB
    obtain ⟨⟨hr, hf⟩, hB'⟩ := hB
    have hst : qOp P ops C k (wpQuiet P ops C Q l) a := by unfold qOp; simp only [h0]; exact h
    obtain ⟨v, hy, hK⟩ := yieldsIn_of_qOp h0 hst
    simp only [List.length_cons] at hn
    exact wpAnyR_first (by omega) h0 (Region.noSelect_spec hs) l.length listed a (Region.free_spec h0 hf) (by simpa using hr) hy
      (wpAnyR_lex hs l (k + 1) _ _ (by omega) (fun j hj => by have := hl (j + 1) (by simp; omega); simpa [Nat.add_assoc, Nat.add_comm 1 j] using this) hB' hK)

/-- Some draws later. -/
def Drew (w w' : World) : Prop := ∃ n, w' = w.drewN n
theorem Drew.refl (w : World) : Drew w w := ⟨0, rfl⟩
theorem Drew.cell {w w' : World} (h : Drew w w') {a : Addr} {v : Value} (hc : w.cell? a = some v) : w'.cell? a = some v := by obtain ⟨n, rfl⟩ := h; exact hc
theorem Drew.frozen {w w' : World} (h : Drew w w') {a : Addr} {v : Bool} (hc : w.frozen? a = v) : w'.frozen? a = v := by obtain ⟨n, rfl⟩ := h; exact hc
theorem Drew.range {w w' : World} (h : Drew w w') {b o : Nat} {cs : List Value} (hc : w.rangeAt b o cs) : w'.rangeAt b o cs := fun j v hv => h.cell (hc j v hv)
/-- Into such a region. -/
theorem WQ.last {id : Nat} {Q : Exit → Act → World → Prop} {a : Act} {w : World} {ls : List Oper} (C : World → Prop) (hs : C w.drew) (n k : Nat) (hn : ls.length = n + 1) (hm : P.follows .mixedOrders = true)
    (hB : (Region.noSelect ls.toArray && lastB .any ls.toArray n k && lexFromL .any ls.toArray n n 0 (Array.replicate (n + 1) false)) = true)
    (h : WQ P ls.toArray C (fun a' => ∀ w', C w' → wpOp P ls.toArray Q n (fun a'' w'' => Q .normal a'' w'') a' w') (ls.take n) a) : (Code.region id ls.toArray true).wp P Q a w := by
  simp only [Bool.and_eq_true] at hB
  obtain ⟨⟨h1, h2⟩, h3⟩ := hB
  have hsz : ls.toArray.size = n + 1 := by simpa using hn
  refine wp_region_any hm ?_
  rw [hsz]
  refine wpAny_of_R (C := C) (k := k) h2 (Q := fun a' => ∀ w', C w' → wpOp P ls.toArray Q n (fun a'' w'' => Q .normal a'' w'') a' w') (fun a w hw h => h w hw) n _ a _ ?_ (by simp [hsz]) ?_ ?_
  · have := Closed.start (md := .any) (ops := ls.toArray) 0
    rw [hsz] at this; exact this
  · exact hs
  · have hln : (ls.take n).length = n := by rw [List.length_take]; omega
    have := wpAnyR_lex (C := C) (md := .any) (n := n) h1 (ls.take n) 0 (Array.replicate (n + 1) false) a (by omega) (fun j hj => by
      rw [hln] at hj; simp [List.getElem?_take, hj]) (by rw [hln]; exact h3) h.out
    rw [hln] at this; exact this
/-- Into a region that only reads, at any class. -/
theorem WQ.enterC {id : Nat} {Q : Exit → Act → World → Prop} {a : Act} {w : World} {l : List Oper} (C : World → Prop) (hs : C w.drew) (hm : P.follows .mixedOrders = true) (hB : Region.lexB .any l.toArray = true)
    (h : WQ P l.toArray C (fun a' => ∀ w', C w' → Q .normal a' w') l a) : (Code.region id l.toArray true).wp P Q a w :=
  wp_region_quiet (C := C) hm hB hs (by simpa using h.out)
/-- The last operation. -/
theorem wpOp_one {n : Nat} {o : Oper} {a : Act} {w : World} {Q : Exit → Act → World → Prop} {K : Act → World → Prop} (ho : ops[n]? = some o) (hw : Region.wanted o (yielded ops a.tmps) = true)
    (h : ∀ K' : Act → World → Prop, (∀ a w, K a w → K' a w) → o.wp P a w K' Q) : wpOp P ops Q n K a w := by
  unfold wpOp
  rw [ho]
  simp only [hw, if_true]
  exact .inl (h K fun _ _ h => h)
/-- 'wpAnyH' under a name that does not unfold. -/
structure WH (P : Program) (ops : Array Oper) (Q : Exit → Act → World → Prop) (S : World → Prop) (fuel : Nat) (listed : Array Bool) (a : Act) (w : World) : Prop where
  mk :: (out : wpAnyH P .any ops Q S fuel listed a w)
theorem WH.enter {id : Nat} {Q : Exit → Act → World → Prop} {a : Act} {w : World} {ops : Array Oper} (S : World → Prop) (hm : P.follows .mixedOrders = true) (n : Nat) (hn : ops.size = n)
    (h : WH P ops Q S n (Array.replicate n false) a w.drew) : (Code.region id ops true).wp P Q a w := wp_region_held hm (by subst hn; exact h.out)
theorem WH.take {Q : Exit → Act → World → Prop} {ops : Array Oper} {S : World → Prop} (i : Nat) (d : Option Tmp) {v : Value} {oi : Oper} {fuel : Nat} {listed : Array Bool} {a : Act} {w : World} (hi : ops[i]? = some oi) (hd : oi.dst = d) (hs : Region.noSelect ops = true)
    (hf : Region.free .any ops listed i = true) (hr : (Region.ready .any ops listed).contains i = true) (hQ : ∀ c a w, Q (.panic c) (a.put oi.dst v) w → Q (.panic c) a w) (hw : Region.wanted oi (yielded ops a.tmps) = true) (hy : ∀ w, S w → (execOp a.eval oi).run P w = .ok (.value v) w) (hS : S w)
    (h : WH P ops Q S fuel (listed.setIfInBounds i true) (a.put d v) w) : WH P ops Q S (fuel + 1) listed a w := by
  subst hd
  exact ⟨wpAnyH_take hi hs hf hr hQ (.inl ⟨hw, hy⟩) hS h.out⟩
theorem WH.one {Q : Exit → Act → World → Prop} {ops : Array Oper} {S : World → Prop} (i : Nat) {o : Oper} {fuel : Nat} {listed : Array Bool} {a : Act} {w : World} (hr : Region.ready .any ops listed = [i]) (ho : ops[i]? = some o) (hw : Region.wanted o (yielded ops a.tmps) = true)
    (h : o.wp P a w (fun a' w' => S w' ∧ WH P ops Q S fuel (listed.setIfInBounds i true) a' w') Q) : WH P ops Q S (fuel + 1) listed a w :=
  ⟨wpAnyH_all hr (by simp) (fun j hj => by
    obtain rfl := List.mem_singleton.1 hj
    unfold wpOp
    rw [ho]
    simp only [hw, if_true]
    exact .inl (Oper.wp_mono (fun a' w' h' => ⟨h'.1, h'.2.out⟩) h))⟩
theorem WH.done {Q : Exit → Act → World → Prop} {ops : Array Oper} {S : World → Prop} {fuel : Nat} {listed : Array Bool} {a : Act} {w : World} (hr : Region.ready .any ops listed = []) (h : Q .normal a w) : WH P ops Q S fuel listed a w := ⟨wpAnyH_done hr h fuel⟩
end
end Go.Proofs.YtahgapkecabnjaaGreatDoor
/- Walks of cmp's functions, of package key and of its reference. Printed by gen_keya.py. -/
namespace Go.Proofs.YtahgapkecabnjaaGreatDoor
set_option linter.unusedSimpArgs false
set_option linter.unusedVariables false
open Go Go.RowKit

/-! ### New blocks and draws alone -/
def Grew (w w' : World) : Prop := ∃ q os, w' = Sort.grow (w.drewN q) os
theorem Grew.refl (w : World) : Grew w w := ⟨0, #[], by simp [World.drewN]⟩
theorem Grew.alloc {w w1 : World} (h : Grew w w1) (o : Obj) : Grew w (w1.alloc o) := by
  obtain ⟨q, os, rfl⟩ := h
  exact ⟨q, os ++ #[o], by rw [Sort.alloc_eq_grow, Sort.grow_grow]⟩
theorem Grew.drew {w w1 : World} (h : Grew w w1) : Grew w w1.drew := by
  obtain ⟨q, os, rfl⟩ := h
  exact ⟨q + 1, os, rfl⟩
theorem Grew.below {w w1 : World} (h : Grew w w1) : Below w.heap.size w w1 := by
  obtain ⟨q, os, rfl⟩ := h
  exact Lib.below_grow _ w (Nat.le_refl _) q os
theorem Grew.cell {w w1 : World} (h : Grew w w1) {a : Addr} {v : Value} (hc : w.cell? a = some v) : w1.cell? a = some v := (Below.cell h.below (World.block_lt_of_cell? w a hc)).trans hc
theorem Grew.trans {w w1 w2 : World} (h : Grew w w1) (k : Grew w1 w2) : Grew w w2 := by
  obtain ⟨q, os, rfl⟩ := h
  obtain ⟨q2, os2, rfl⟩ := k
  refine ⟨q + q2, os ++ os2, ?_⟩
  rw [← Sort.grow_grow]
  unfold Sort.grow World.drewN
  simp [Nat.add_assoc]

/-! ### Package cmp -/
def cmpF (a b : Int) : Int := if a < b then -1 else if b < a then 1 else 0
def orF (l : List Int) : Int := (l.find? fun x => decide (x ≠ 0)).getD 0
set_option maxHeartbeats 1000000 in
theorem isNaN_u8 (a : Int) (w : World) :
    Calls Tryz.prog 108 #[.int .u8 a] w fun e w' => e = .returned (.bool false) ∧ w' = w := by
  go_enter Tryz.func108, Tryz.ntmps108
  go_wp2
  go_ret
  exact ⟨rfl, rfl⟩
set_option maxHeartbeats 2000000 in
theorem compare_u8 (a b : Int) (w : World) :
    Calls Tryz.prog 84 #[.int .u8 a, .int .u8 b] w fun e w' => e = .returned (.int .i64 (cmpF a b)) ∧ w' = w := by
  go_enter Tryz.func84, Tryz.ntmps84
  go_wp2_with (go_at_call 108; refine (isNaN_u8 _ _).mono ?_; rintro e w' ⟨rfl, rfl⟩)
  all_goals
    go_ret
    exact ⟨congrArg (fun b => Ending.returned (.int .i64 b)) (by unfold cmpF; (repeat' split) <;> omega), rfl⟩
set_option maxHeartbeats 1000000 in
theorem isNaN_u16 (a : Int) (w : World) :
    Calls Tryz.prog 79 #[.int .u16 a] w fun e w' => e = .returned (.bool false) ∧ w' = w := by
  go_enter Tryz.func79, Tryz.ntmps79
  go_wp2
  go_ret
  exact ⟨rfl, rfl⟩
set_option maxHeartbeats 2000000 in
theorem compare_u16 (a b : Int) (w : World) :
    Calls Tryz.prog 44 #[.int .u16 a, .int .u16 b] w fun e w' => e = .returned (.int .i64 (cmpF a b)) ∧ w' = w := by
  go_enter Tryz.func44, Tryz.ntmps44
  go_wp2_with (go_at_call 79; refine (isNaN_u16 _ _).mono ?_; rintro e w' ⟨rfl, rfl⟩)
  all_goals
    go_ret
    exact ⟨congrArg (fun b => Ending.returned (.int .i64 b)) (by unfold cmpF; (repeat' split) <;> omega), rfl⟩
set_option maxHeartbeats 1000000 in
theorem isNaN_u32 (a : Int) (w : World) :
    Calls Tryz.prog 78 #[.int .u32 a] w fun e w' => e = .returned (.bool false) ∧ w' = w := by
  go_enter Tryz.func78, Tryz.ntmps78
  go_wp2
  go_ret
  exact ⟨rfl, rfl⟩
set_option maxHeartbeats 2000000 in
theorem compare_u32 (a b : Int) (w : World) :
    Calls Tryz.prog 43 #[.int .u32 a, .int .u32 b] w fun e w' => e = .returned (.int .i64 (cmpF a b)) ∧ w' = w := by
  go_enter Tryz.func43, Tryz.ntmps43
  go_wp2_with (go_at_call 78; refine (isNaN_u32 _ _).mono ?_; rintro e w' ⟨rfl, rfl⟩)
  all_goals
    go_ret
    exact ⟨congrArg (fun b => Ending.returned (.int .i64 b)) (by unfold cmpF; (repeat' split) <;> omega), rfl⟩
set_option maxHeartbeats 2000000 in
theorem or_any (b c : Nat) (l : List Int) (w : World) (hc : ∀ j v, l[j]? = some v → w.cell? ⟨b, j, none⟩ = some (.int .i64 v)) (hl : l.length ≤ 1000) :
    Calls Tryz.prog 42 #[.slice (some ⟨b, 0, none⟩) l.length c] w fun e w' => e = .returned (.int .i64 (orF l)) ∧ w' = w := by
  have HC := Lib.hid hc
  clear hc
  go_enter Tryz.func42, Tryz.ntmps42
  go_wp2_with fail
  go_loopw [8] (fun n wr => ∃ j : Nat, n = .int .i64 j ∧ j ≤ l.length ∧ Hid (wr = w) ∧ Hid (∀ x ∈ l.take j, x = 0)) (fun n _ => l.length - (intOf n).toNat)
  case atStart => exact ⟨0, rfl, by omega, Lib.hid (by first | rfl | trivial), Lib.hid (by simp)⟩
  case round =>
    obtain ⟨j, rfl, hj, hww, hz⟩ := hrel
    obtain rfl := hww.out
    by_cases hlt : j < l.length
    · obtain ⟨x, hx⟩ : ∃ x, l[j]? = some x := ⟨l[j], List.getElem?_eq_getElem hlt⟩
      have c0 := HC.out j x hx
      by_cases h0 : x = 0
      · subst h0
        have HZ : Hid (∀ y ∈ l.take (j + 1), y = 0) := Lib.hid (by
          intro y hy
          rw [List.take_add_one, hx] at hy
          rcases List.mem_append.1 hy with h | h
          · exact hz.out y h
          · simpa using h)
        clear hx
        go_wp2_with fail
        go_roundw
        case rel => exact ⟨j + 1, by go_num, by omega, Lib.hid (by first | rfl | trivial), HZ⟩
        case measure => simp [intOf]; omega
      · have hv : Hid (orF l = x) := Lib.hid (by
          unfold orF
          have e : l = l.take j ++ x :: l.drop (j + 1) := by
            have h1 := List.take_append_drop j l
            rw [List.drop_eq_getElem_cons hlt] at h1
            rw [List.getElem?_eq_getElem hlt] at hx
            injection hx with hx
            rw [hx] at h1
            exact h1.symm
          have hn : (l.take j).find? (fun x => decide (x ≠ 0)) = none := by
            rw [List.find?_eq_none]
            intro y hy
            simp [hz.out y hy]
          rw [e, List.find?_append, hn]
          simp [h0])
        clear hx
        go_wp2_with fail
        go_ret
        exact ⟨by (rw [hv.out]) <;> rfl, rfl⟩
    · obtain rfl : j = l.length := by omega
      have hv : Hid (orF l = 0) := Lib.hid (by
        unfold orF
        have hn : l.find? (fun x => decide (x ≠ 0)) = none := by
          rw [List.find?_eq_none]
          intro y hy
          have := hz.out
          rw [List.take_length] at this
          simp [this y hy]
        rw [hn]; rfl)
      go_wp2_with fail
      go_ret
      exact ⟨by (rw [hv.out]) <;> rfl, rfl⟩

/-! ### Keys in memory -/
def kyC (k : Ky) : Array Value := #[.int .u32 k.a0, .int .u32 k.a1, .int .u16 k.p0, .int .u16 k.p1, .int .u8 k.pr]
abbrev kyV (k : Ky) : Value := .agg (kyC k)
theorem less_or (x y : Ky) : lessK x y = decide (orF [cmpF x.pr y.pr, cmpF x.a0 y.a0, cmpF x.p0 y.p0, cmpF x.a1 y.a1, cmpF x.p1 y.p1] < 0) := by
  have h : ∀ (a b : Nat) (l : List Int), orF (cmpF a b :: l) < 0 ↔ a < b ∨ a = b ∧ orF l < 0 := fun a b l => by
    unfold orF cmpF
    rw [List.find?_cons]
    by_cases h1 : a < b
    · have : (a : Int) < b := by omega
      simp [this, h1]
    · by_cases h2 : b < a
      · have e1 : ¬ (a : Int) < b := by omega
        have e2 : (b : Int) < a := by omega
        have e3 : ¬ a = b := by omega
        simp [e1, e2, h1, e3]
      · have e1 : ¬ (a : Int) < b := by omega
        have e2 : ¬ (b : Int) < a := by omega
        have e3 : a = b := by omega
        simp [e1, e2, h1, e3]
  rw [Bool.eq_iff_iff, lessK_iff, decide_eq_true_iff, h, h, h, h, h]
  unfold ltK
  simp [orF]
set_option maxHeartbeats 16000000 in
set_option maxRecDepth 100000 in
theorem less_any (x y : Ky) (w : World) :
    Calls Tryz.prog 52 #[kyV x, kyV y] w fun e w' => e = .returned (.bool (lessK x y)) ∧ Grew w w' := by
  have HL := Lib.hid (less_or x y)
  obtain ⟨a0, a1, p0, p1, pr⟩ := x
  obtain ⟨b0, b1, q0, q1, qr⟩ := y
  simp only at HL
  generalize lessK ⟨a0, a1, p0, p1, pr⟩ ⟨b0, b1, q0, q1, qr⟩ = res at *
  have C1 := Lib.hid (fun W => compare_u8 pr qr W)
  have C2 := Lib.hid (fun W => compare_u32 a0 b0 W)
  have C3 := Lib.hid (fun W => compare_u16 p0 q0 W)
  have C4 := Lib.hid (fun W => compare_u32 a1 b1 W)
  have C5 := Lib.hid (fun W => compare_u16 p1 q1 W)
  generalize cmpF pr qr = d1 at *
  generalize cmpF a0 b0 = d2 at *
  generalize cmpF p0 q0 = d3 at *
  generalize cmpF a1 b1 = d4 at *
  generalize cmpF p1 q1 = d5 at *
  unfold kyV kyC
  go_enter Tryz.func52, Tryz.ntmps52
  go_wp2_with fail
  have HG : Hid (Grew w ((w.alloc (.cells #[.int .u32 a0, .int .u32 a1, .int .u16 p0, .int .u16 p1, .int .u8 pr] 45)).alloc (.cells #[.int .u32 b0, .int .u32 b1, .int .u16 q0, .int .u16 q1, .int .u8 qr] 45))) := Lib.hid (((Grew.refl w).alloc _).alloc _)
  have xk0 : ((w.alloc (.cells #[.int .u32 a0, .int .u32 a1, .int .u16 p0, .int .u16 p1, .int .u8 pr] 45)).alloc (.cells #[.int .u32 b0, .int .u32 b1, .int .u16 q0, .int .u16 q1, .int .u8 qr] 45)).cell? ⟨w.heap.size, 0, none⟩ = some (.int .u32 a0) := by simp
  have xm0 : ((w.alloc (.cells #[.int .u32 a0, .int .u32 a1, .int .u16 p0, .int .u16 p1, .int .u8 pr] 45)).alloc (.cells #[.int .u32 b0, .int .u32 b1, .int .u16 q0, .int .u16 q1, .int .u8 qr] 45)).cell? ⟨w.heap.size + 1, 0, none⟩ = some (.int .u32 b0) := by simp
  have xk1 : ((w.alloc (.cells #[.int .u32 a0, .int .u32 a1, .int .u16 p0, .int .u16 p1, .int .u8 pr] 45)).alloc (.cells #[.int .u32 b0, .int .u32 b1, .int .u16 q0, .int .u16 q1, .int .u8 qr] 45)).cell? ⟨w.heap.size, 1, none⟩ = some (.int .u32 a1) := by simp
  have xm1 : ((w.alloc (.cells #[.int .u32 a0, .int .u32 a1, .int .u16 p0, .int .u16 p1, .int .u8 pr] 45)).alloc (.cells #[.int .u32 b0, .int .u32 b1, .int .u16 q0, .int .u16 q1, .int .u8 qr] 45)).cell? ⟨w.heap.size + 1, 1, none⟩ = some (.int .u32 b1) := by simp
  have xk2 : ((w.alloc (.cells #[.int .u32 a0, .int .u32 a1, .int .u16 p0, .int .u16 p1, .int .u8 pr] 45)).alloc (.cells #[.int .u32 b0, .int .u32 b1, .int .u16 q0, .int .u16 q1, .int .u8 qr] 45)).cell? ⟨w.heap.size, 2, none⟩ = some (.int .u16 p0) := by simp
  have xm2 : ((w.alloc (.cells #[.int .u32 a0, .int .u32 a1, .int .u16 p0, .int .u16 p1, .int .u8 pr] 45)).alloc (.cells #[.int .u32 b0, .int .u32 b1, .int .u16 q0, .int .u16 q1, .int .u8 qr] 45)).cell? ⟨w.heap.size + 1, 2, none⟩ = some (.int .u16 q0) := by simp
  have xk3 : ((w.alloc (.cells #[.int .u32 a0, .int .u32 a1, .int .u16 p0, .int .u16 p1, .int .u8 pr] 45)).alloc (.cells #[.int .u32 b0, .int .u32 b1, .int .u16 q0, .int .u16 q1, .int .u8 qr] 45)).cell? ⟨w.heap.size, 3, none⟩ = some (.int .u16 p1) := by simp
  have xm3 : ((w.alloc (.cells #[.int .u32 a0, .int .u32 a1, .int .u16 p0, .int .u16 p1, .int .u8 pr] 45)).alloc (.cells #[.int .u32 b0, .int .u32 b1, .int .u16 q0, .int .u16 q1, .int .u8 qr] 45)).cell? ⟨w.heap.size + 1, 3, none⟩ = some (.int .u16 q1) := by simp
  have xk4 : ((w.alloc (.cells #[.int .u32 a0, .int .u32 a1, .int .u16 p0, .int .u16 p1, .int .u8 pr] 45)).alloc (.cells #[.int .u32 b0, .int .u32 b1, .int .u16 q0, .int .u16 q1, .int .u8 qr] 45)).cell? ⟨w.heap.size, 4, none⟩ = some (.int .u8 pr) := by simp
  have xm4 : ((w.alloc (.cells #[.int .u32 a0, .int .u32 a1, .int .u16 p0, .int .u16 p1, .int .u8 pr] 45)).alloc (.cells #[.int .u32 b0, .int .u32 b1, .int .u16 q0, .int .u16 q1, .int .u8 qr] 45)).cell? ⟨w.heap.size + 1, 4, none⟩ = some (.int .u8 qr) := by simp
  generalize ((w.alloc (.cells #[.int .u32 a0, .int .u32 a1, .int .u16 p0, .int .u16 p1, .int .u8 pr] 45)).alloc (.cells #[.int .u32 b0, .int .u32 b1, .int .u16 q0, .int .u16 q1, .int .u8 qr] 45)) = wx at *
  generalize w.heap.size = n0 at *
  have HS0 : Hid (Grew wx wx.drew) := Lib.hid (Grew.refl _).drew
  refine WH.enter (Grew wx) (by kernel_rfl) 37 rfl ?_
  refine WH.take 0 (some 5) rfl rfl (by kernel_rfl) (by kernel_rfl) (by kernel_rfl) (fun _ _ _ h => h) (by rfl) (fun v hv => by have k0 := hv.cell xk0; have k1 := hv.cell xk1; have k2 := hv.cell xk2; have k3 := hv.cell xk3; have k4 := hv.cell xk4; have m0 := hv.cell xm0; have m1 := hv.cell xm1; have m2 := hv.cell xm2; have m3 := hv.cell xm3; have m4 := hv.cell xm4; go_simp; first | done | with_reducible rfl | (rw [if_neg (by omega)])) HS0.out ?_; simp only [Act.put, List.setIfInBounds_toArray, List.set_cons_zero, List.set_cons_succ]
  refine WH.take 1 (some 6) rfl rfl (by kernel_rfl) (by kernel_rfl) (by kernel_rfl) (fun _ _ _ h => h) (by rfl) (fun v hv => by have k0 := hv.cell xk0; have k1 := hv.cell xk1; have k2 := hv.cell xk2; have k3 := hv.cell xk3; have k4 := hv.cell xk4; have m0 := hv.cell xm0; have m1 := hv.cell xm1; have m2 := hv.cell xm2; have m3 := hv.cell xm3; have m4 := hv.cell xm4; go_simp; first | done | with_reducible rfl | (rw [if_neg (by omega)])) HS0.out ?_; simp only [Act.put, List.setIfInBounds_toArray, List.set_cons_zero, List.set_cons_succ]
  refine WH.take 2 (some 7) rfl rfl (by kernel_rfl) (by kernel_rfl) (by kernel_rfl) (fun _ _ _ h => h) (by rfl) (fun v hv => by have k0 := hv.cell xk0; have k1 := hv.cell xk1; have k2 := hv.cell xk2; have k3 := hv.cell xk3; have k4 := hv.cell xk4; have m0 := hv.cell xm0; have m1 := hv.cell xm1; have m2 := hv.cell xm2; have m3 := hv.cell xm3; have m4 := hv.cell xm4; go_simp; first | done | with_reducible rfl | (rw [if_neg (by omega)])) HS0.out ?_; simp only [Act.put, List.setIfInBounds_toArray, List.set_cons_zero, List.set_cons_succ]
  refine WH.take 3 (some 8) rfl rfl (by kernel_rfl) (by kernel_rfl) (by kernel_rfl) (fun _ _ _ h => h) (by rfl) (fun v hv => by have k0 := hv.cell xk0; have k1 := hv.cell xk1; have k2 := hv.cell xk2; have k3 := hv.cell xk3; have k4 := hv.cell xk4; have m0 := hv.cell xm0; have m1 := hv.cell xm1; have m2 := hv.cell xm2; have m3 := hv.cell xm3; have m4 := hv.cell xm4; go_simp; first | done | with_reducible rfl | (rw [if_neg (by omega)])) HS0.out ?_; simp only [Act.put, List.setIfInBounds_toArray, List.set_cons_zero, List.set_cons_succ]
  refine WH.take 5 (some 10) rfl rfl (by kernel_rfl) (by kernel_rfl) (by kernel_rfl) (fun _ _ _ h => h) (by rfl) (fun v hv => by have k0 := hv.cell xk0; have k1 := hv.cell xk1; have k2 := hv.cell xk2; have k3 := hv.cell xk3; have k4 := hv.cell xk4; have m0 := hv.cell xm0; have m1 := hv.cell xm1; have m2 := hv.cell xm2; have m3 := hv.cell xm3; have m4 := hv.cell xm4; go_simp; first | done | with_reducible rfl | (rw [if_neg (by omega)])) HS0.out ?_; simp only [Act.put, List.setIfInBounds_toArray, List.set_cons_zero, List.set_cons_succ]
  refine WH.take 6 (some 11) rfl rfl (by kernel_rfl) (by kernel_rfl) (by kernel_rfl) (fun _ _ _ h => h) (by rfl) (fun v hv => by have k0 := hv.cell xk0; have k1 := hv.cell xk1; have k2 := hv.cell xk2; have k3 := hv.cell xk3; have k4 := hv.cell xk4; have m0 := hv.cell xm0; have m1 := hv.cell xm1; have m2 := hv.cell xm2; have m3 := hv.cell xm3; have m4 := hv.cell xm4; go_simp; first | done | with_reducible rfl | (rw [if_neg (by omega)])) HS0.out ?_; simp only [Act.put, List.setIfInBounds_toArray, List.set_cons_zero, List.set_cons_succ]
  refine WH.take 7 (some 12) rfl rfl (by kernel_rfl) (by kernel_rfl) (by kernel_rfl) (fun _ _ _ h => h) (by rfl) (fun v hv => by have k0 := hv.cell xk0; have k1 := hv.cell xk1; have k2 := hv.cell xk2; have k3 := hv.cell xk3; have k4 := hv.cell xk4; have m0 := hv.cell xm0; have m1 := hv.cell xm1; have m2 := hv.cell xm2; have m3 := hv.cell xm3; have m4 := hv.cell xm4; go_simp; first | done | with_reducible rfl | (rw [if_neg (by omega)])) HS0.out ?_; simp only [Act.put, List.setIfInBounds_toArray, List.set_cons_zero, List.set_cons_succ]
  refine WH.take 8 (some 13) rfl rfl (by kernel_rfl) (by kernel_rfl) (by kernel_rfl) (fun _ _ _ h => h) (by rfl) (fun v hv => by have k0 := hv.cell xk0; have k1 := hv.cell xk1; have k2 := hv.cell xk2; have k3 := hv.cell xk3; have k4 := hv.cell xk4; have m0 := hv.cell xm0; have m1 := hv.cell xm1; have m2 := hv.cell xm2; have m3 := hv.cell xm3; have m4 := hv.cell xm4; go_simp; first | done | with_reducible rfl | (rw [if_neg (by omega)])) HS0.out ?_; simp only [Act.put, List.setIfInBounds_toArray, List.set_cons_zero, List.set_cons_succ]
  refine WH.take 9 (some 14) rfl rfl (by kernel_rfl) (by kernel_rfl) (by kernel_rfl) (fun _ _ _ h => h) (by rfl) (fun v hv => by have k0 := hv.cell xk0; have k1 := hv.cell xk1; have k2 := hv.cell xk2; have k3 := hv.cell xk3; have k4 := hv.cell xk4; have m0 := hv.cell xm0; have m1 := hv.cell xm1; have m2 := hv.cell xm2; have m3 := hv.cell xm3; have m4 := hv.cell xm4; go_simp; first | done | with_reducible rfl | (rw [if_neg (by omega)])) HS0.out ?_; simp only [Act.put, List.setIfInBounds_toArray, List.set_cons_zero, List.set_cons_succ]
  refine WH.take 10 (some 15) rfl rfl (by kernel_rfl) (by kernel_rfl) (by kernel_rfl) (fun _ _ _ h => h) (by rfl) (fun v hv => by have k0 := hv.cell xk0; have k1 := hv.cell xk1; have k2 := hv.cell xk2; have k3 := hv.cell xk3; have k4 := hv.cell xk4; have m0 := hv.cell xm0; have m1 := hv.cell xm1; have m2 := hv.cell xm2; have m3 := hv.cell xm3; have m4 := hv.cell xm4; go_simp; first | done | with_reducible rfl | (rw [if_neg (by omega)])) HS0.out ?_; simp only [Act.put, List.setIfInBounds_toArray, List.set_cons_zero, List.set_cons_succ]
  refine WH.take 12 (some 17) rfl rfl (by kernel_rfl) (by kernel_rfl) (by kernel_rfl) (fun _ _ _ h => h) (by rfl) (fun v hv => by have k0 := hv.cell xk0; have k1 := hv.cell xk1; have k2 := hv.cell xk2; have k3 := hv.cell xk3; have k4 := hv.cell xk4; have m0 := hv.cell xm0; have m1 := hv.cell xm1; have m2 := hv.cell xm2; have m3 := hv.cell xm3; have m4 := hv.cell xm4; go_simp; first | done | with_reducible rfl | (rw [if_neg (by omega)])) HS0.out ?_; simp only [Act.put, List.setIfInBounds_toArray, List.set_cons_zero, List.set_cons_succ]
  refine WH.take 13 (some 18) rfl rfl (by kernel_rfl) (by kernel_rfl) (by kernel_rfl) (fun _ _ _ h => h) (by rfl) (fun v hv => by have k0 := hv.cell xk0; have k1 := hv.cell xk1; have k2 := hv.cell xk2; have k3 := hv.cell xk3; have k4 := hv.cell xk4; have m0 := hv.cell xm0; have m1 := hv.cell xm1; have m2 := hv.cell xm2; have m3 := hv.cell xm3; have m4 := hv.cell xm4; go_simp; first | done | with_reducible rfl | (rw [if_neg (by omega)])) HS0.out ?_; simp only [Act.put, List.setIfInBounds_toArray, List.set_cons_zero, List.set_cons_succ]
  refine WH.take 14 (some 19) rfl rfl (by kernel_rfl) (by kernel_rfl) (by kernel_rfl) (fun _ _ _ h => h) (by rfl) (fun v hv => by have k0 := hv.cell xk0; have k1 := hv.cell xk1; have k2 := hv.cell xk2; have k3 := hv.cell xk3; have k4 := hv.cell xk4; have m0 := hv.cell xm0; have m1 := hv.cell xm1; have m2 := hv.cell xm2; have m3 := hv.cell xm3; have m4 := hv.cell xm4; go_simp; first | done | with_reducible rfl | (rw [if_neg (by omega)])) HS0.out ?_; simp only [Act.put, List.setIfInBounds_toArray, List.set_cons_zero, List.set_cons_succ]
  refine WH.take 15 (some 20) rfl rfl (by kernel_rfl) (by kernel_rfl) (by kernel_rfl) (fun _ _ _ h => h) (by rfl) (fun v hv => by have k0 := hv.cell xk0; have k1 := hv.cell xk1; have k2 := hv.cell xk2; have k3 := hv.cell xk3; have k4 := hv.cell xk4; have m0 := hv.cell xm0; have m1 := hv.cell xm1; have m2 := hv.cell xm2; have m3 := hv.cell xm3; have m4 := hv.cell xm4; go_simp; first | done | with_reducible rfl | (rw [if_neg (by omega)])) HS0.out ?_; simp only [Act.put, List.setIfInBounds_toArray, List.set_cons_zero, List.set_cons_succ]
  refine WH.take 16 (some 21) rfl rfl (by kernel_rfl) (by kernel_rfl) (by kernel_rfl) (fun _ _ _ h => h) (by rfl) (fun v hv => by have k0 := hv.cell xk0; have k1 := hv.cell xk1; have k2 := hv.cell xk2; have k3 := hv.cell xk3; have k4 := hv.cell xk4; have m0 := hv.cell xm0; have m1 := hv.cell xm1; have m2 := hv.cell xm2; have m3 := hv.cell xm3; have m4 := hv.cell xm4; go_simp; first | done | with_reducible rfl | (rw [if_neg (by omega)])) HS0.out ?_; simp only [Act.put, List.setIfInBounds_toArray, List.set_cons_zero, List.set_cons_succ]
  refine WH.take 17 (some 22) rfl rfl (by kernel_rfl) (by kernel_rfl) (by kernel_rfl) (fun _ _ _ h => h) (by rfl) (fun v hv => by have k0 := hv.cell xk0; have k1 := hv.cell xk1; have k2 := hv.cell xk2; have k3 := hv.cell xk3; have k4 := hv.cell xk4; have m0 := hv.cell xm0; have m1 := hv.cell xm1; have m2 := hv.cell xm2; have m3 := hv.cell xm3; have m4 := hv.cell xm4; go_simp; first | done | with_reducible rfl | (rw [if_neg (by omega)])) HS0.out ?_; simp only [Act.put, List.setIfInBounds_toArray, List.set_cons_zero, List.set_cons_succ]
  refine WH.take 19 (some 24) rfl rfl (by kernel_rfl) (by kernel_rfl) (by kernel_rfl) (fun _ _ _ h => h) (by rfl) (fun v hv => by have k0 := hv.cell xk0; have k1 := hv.cell xk1; have k2 := hv.cell xk2; have k3 := hv.cell xk3; have k4 := hv.cell xk4; have m0 := hv.cell xm0; have m1 := hv.cell xm1; have m2 := hv.cell xm2; have m3 := hv.cell xm3; have m4 := hv.cell xm4; go_simp; first | done | with_reducible rfl | (rw [if_neg (by omega)])) HS0.out ?_; simp only [Act.put, List.setIfInBounds_toArray, List.set_cons_zero, List.set_cons_succ]
  refine WH.take 20 (some 25) rfl rfl (by kernel_rfl) (by kernel_rfl) (by kernel_rfl) (fun _ _ _ h => h) (by rfl) (fun v hv => by have k0 := hv.cell xk0; have k1 := hv.cell xk1; have k2 := hv.cell xk2; have k3 := hv.cell xk3; have k4 := hv.cell xk4; have m0 := hv.cell xm0; have m1 := hv.cell xm1; have m2 := hv.cell xm2; have m3 := hv.cell xm3; have m4 := hv.cell xm4; go_simp; first | done | with_reducible rfl | (rw [if_neg (by omega)])) HS0.out ?_; simp only [Act.put, List.setIfInBounds_toArray, List.set_cons_zero, List.set_cons_succ]
  refine WH.take 21 (some 26) rfl rfl (by kernel_rfl) (by kernel_rfl) (by kernel_rfl) (fun _ _ _ h => h) (by rfl) (fun v hv => by have k0 := hv.cell xk0; have k1 := hv.cell xk1; have k2 := hv.cell xk2; have k3 := hv.cell xk3; have k4 := hv.cell xk4; have m0 := hv.cell xm0; have m1 := hv.cell xm1; have m2 := hv.cell xm2; have m3 := hv.cell xm3; have m4 := hv.cell xm4; go_simp; first | done | with_reducible rfl | (rw [if_neg (by omega)])) HS0.out ?_; simp only [Act.put, List.setIfInBounds_toArray, List.set_cons_zero, List.set_cons_succ]
  refine WH.take 22 (some 27) rfl rfl (by kernel_rfl) (by kernel_rfl) (by kernel_rfl) (fun _ _ _ h => h) (by rfl) (fun v hv => by have k0 := hv.cell xk0; have k1 := hv.cell xk1; have k2 := hv.cell xk2; have k3 := hv.cell xk3; have k4 := hv.cell xk4; have m0 := hv.cell xm0; have m1 := hv.cell xm1; have m2 := hv.cell xm2; have m3 := hv.cell xm3; have m4 := hv.cell xm4; go_simp; first | done | with_reducible rfl | (rw [if_neg (by omega)])) HS0.out ?_; simp only [Act.put, List.setIfInBounds_toArray, List.set_cons_zero, List.set_cons_succ]
  refine WH.take 23 (some 28) rfl rfl (by kernel_rfl) (by kernel_rfl) (by kernel_rfl) (fun _ _ _ h => h) (by rfl) (fun v hv => by have k0 := hv.cell xk0; have k1 := hv.cell xk1; have k2 := hv.cell xk2; have k3 := hv.cell xk3; have k4 := hv.cell xk4; have m0 := hv.cell xm0; have m1 := hv.cell xm1; have m2 := hv.cell xm2; have m3 := hv.cell xm3; have m4 := hv.cell xm4; go_simp; first | done | with_reducible rfl | (rw [if_neg (by omega)])) HS0.out ?_; simp only [Act.put, List.setIfInBounds_toArray, List.set_cons_zero, List.set_cons_succ]
  refine WH.take 24 (some 29) rfl rfl (by kernel_rfl) (by kernel_rfl) (by kernel_rfl) (fun _ _ _ h => h) (by rfl) (fun v hv => by have k0 := hv.cell xk0; have k1 := hv.cell xk1; have k2 := hv.cell xk2; have k3 := hv.cell xk3; have k4 := hv.cell xk4; have m0 := hv.cell xm0; have m1 := hv.cell xm1; have m2 := hv.cell xm2; have m3 := hv.cell xm3; have m4 := hv.cell xm4; go_simp; first | done | with_reducible rfl | (rw [if_neg (by omega)])) HS0.out ?_; simp only [Act.put, List.setIfInBounds_toArray, List.set_cons_zero, List.set_cons_succ]
  refine WH.take 26 (some 31) rfl rfl (by kernel_rfl) (by kernel_rfl) (by kernel_rfl) (fun _ _ _ h => h) (by rfl) (fun v hv => by have k0 := hv.cell xk0; have k1 := hv.cell xk1; have k2 := hv.cell xk2; have k3 := hv.cell xk3; have k4 := hv.cell xk4; have m0 := hv.cell xm0; have m1 := hv.cell xm1; have m2 := hv.cell xm2; have m3 := hv.cell xm3; have m4 := hv.cell xm4; go_simp; first | done | with_reducible rfl | (rw [if_neg (by omega)])) HS0.out ?_; simp only [Act.put, List.setIfInBounds_toArray, List.set_cons_zero, List.set_cons_succ]
  refine WH.take 27 (some 32) rfl rfl (by kernel_rfl) (by kernel_rfl) (by kernel_rfl) (fun _ _ _ h => h) (by rfl) (fun v hv => by have k0 := hv.cell xk0; have k1 := hv.cell xk1; have k2 := hv.cell xk2; have k3 := hv.cell xk3; have k4 := hv.cell xk4; have m0 := hv.cell xm0; have m1 := hv.cell xm1; have m2 := hv.cell xm2; have m3 := hv.cell xm3; have m4 := hv.cell xm4; go_simp; first | done | with_reducible rfl | (rw [if_neg (by omega)])) HS0.out ?_; simp only [Act.put, List.setIfInBounds_toArray, List.set_cons_zero, List.set_cons_succ]
  refine WH.take 28 (some 33) rfl rfl (by kernel_rfl) (by kernel_rfl) (by kernel_rfl) (fun _ _ _ h => h) (by rfl) (fun v hv => by have k0 := hv.cell xk0; have k1 := hv.cell xk1; have k2 := hv.cell xk2; have k3 := hv.cell xk3; have k4 := hv.cell xk4; have m0 := hv.cell xm0; have m1 := hv.cell xm1; have m2 := hv.cell xm2; have m3 := hv.cell xm3; have m4 := hv.cell xm4; go_simp; first | done | with_reducible rfl | (rw [if_neg (by omega)])) HS0.out ?_; simp only [Act.put, List.setIfInBounds_toArray, List.set_cons_zero, List.set_cons_succ]
  refine WH.take 29 (some 34) rfl rfl (by kernel_rfl) (by kernel_rfl) (by kernel_rfl) (fun _ _ _ h => h) (by rfl) (fun v hv => by have k0 := hv.cell xk0; have k1 := hv.cell xk1; have k2 := hv.cell xk2; have k3 := hv.cell xk3; have k4 := hv.cell xk4; have m0 := hv.cell xm0; have m1 := hv.cell xm1; have m2 := hv.cell xm2; have m3 := hv.cell xm3; have m4 := hv.cell xm4; go_simp; first | done | with_reducible rfl | (rw [if_neg (by omega)])) HS0.out ?_; simp only [Act.put, List.setIfInBounds_toArray, List.set_cons_zero, List.set_cons_succ]
  refine WH.take 30 (some 35) rfl rfl (by kernel_rfl) (by kernel_rfl) (by kernel_rfl) (fun _ _ _ h => h) (by rfl) (fun v hv => by have k0 := hv.cell xk0; have k1 := hv.cell xk1; have k2 := hv.cell xk2; have k3 := hv.cell xk3; have k4 := hv.cell xk4; have m0 := hv.cell xm0; have m1 := hv.cell xm1; have m2 := hv.cell xm2; have m3 := hv.cell xm3; have m4 := hv.cell xm4; go_simp; first | done | with_reducible rfl | (rw [if_neg (by omega)])) HS0.out ?_; simp only [Act.put, List.setIfInBounds_toArray, List.set_cons_zero, List.set_cons_succ]
  refine WH.take 31 (some 36) rfl rfl (by kernel_rfl) (by kernel_rfl) (by kernel_rfl) (fun _ _ _ h => h) (by rfl) (fun v hv => by have k0 := hv.cell xk0; have k1 := hv.cell xk1; have k2 := hv.cell xk2; have k3 := hv.cell xk3; have k4 := hv.cell xk4; have m0 := hv.cell xm0; have m1 := hv.cell xm1; have m2 := hv.cell xm2; have m3 := hv.cell xm3; have m4 := hv.cell xm4; go_simp; first | done | with_reducible rfl | (rw [if_neg (by omega)])) HS0.out ?_; simp only [Act.put, List.setIfInBounds_toArray, List.set_cons_zero, List.set_cons_succ]
  refine WH.one 4 (by kernel_rfl) rfl (by rfl) ?_
  go_wp2_with fail
  refine (C1.out _).mono ?_
  rintro e w' ⟨rfl, rfl⟩
  go_wp2_with fail
  refine ⟨HS0.out, ?_⟩
  refine WH.one 11 (by kernel_rfl) rfl (by rfl) ?_
  go_wp2_with fail
  refine (C2.out _).mono ?_
  rintro e w' ⟨rfl, rfl⟩
  go_wp2_with fail
  refine ⟨HS0.out, ?_⟩
  refine WH.one 18 (by kernel_rfl) rfl (by rfl) ?_
  go_wp2_with fail
  refine (C3.out _).mono ?_
  rintro e w' ⟨rfl, rfl⟩
  go_wp2_with fail
  refine ⟨HS0.out, ?_⟩
  refine WH.one 25 (by kernel_rfl) rfl (by rfl) ?_
  go_wp2_with fail
  refine (C4.out _).mono ?_
  rintro e w' ⟨rfl, rfl⟩
  go_wp2_with fail
  refine ⟨HS0.out, ?_⟩
  refine WH.one 32 (by kernel_rfl) rfl (by rfl) ?_
  go_wp2_with fail
  refine (C5.out _).mono ?_
  rintro e w' ⟨rfl, rfl⟩
  go_wp2_with fail
  refine ⟨HS0.out, ?_⟩
  refine WH.one 33 (by kernel_rfl) rfl (by rfl) ?_
  go_wp2_with fail
  have HS1 : Hid (Grew wx (wx.alloc (.cells #[.int .i64 d1, .int .i64 d2, .int .i64 d3, .int .i64 d4, .int .i64 d5] 3)).drew) := Lib.hid (HS0.out.alloc _)
  refine ⟨HS1.out, ?_⟩
  refine WH.one 34 (by kernel_rfl) rfl (by rfl) ?_
  go_wp2_with fail
  refine (or_any wx.heap.size 5 [d1, d2, d3, d4, d5] _ (fun j v hj => by
    match j, hj with
    | 0, hj => simp at hj; subst hj; simp
    | 1, hj => simp at hj; subst hj; simp
    | 2, hj => simp at hj; subst hj; simp
    | 3, hj => simp at hj; subst hj; simp
    | 4, hj => simp at hj; subst hj; simp
    | j + 5, hj => simp at hj) (by simp)).mono ?_
  rintro e w' ⟨rfl, rfl⟩
  generalize orF [d1, d2, d3, d4, d5] = oo at *
  go_wp2_with fail
  refine ⟨HS1.out, ?_⟩
  refine WH.take 35 (some 40) rfl rfl (by kernel_rfl) (by kernel_rfl) (by kernel_rfl) (fun _ _ _ h => h) (by rfl) (fun v hv => by have k0 := hv.cell xk0; have k1 := hv.cell xk1; have k2 := hv.cell xk2; have k3 := hv.cell xk3; have k4 := hv.cell xk4; have m0 := hv.cell xm0; have m1 := hv.cell xm1; have m2 := hv.cell xm2; have m3 := hv.cell xm3; have m4 := hv.cell xm4; go_simp; first | done | with_reducible rfl | (rw [if_neg (by omega)])) HS1.out ?_; simp only [Act.put, List.setIfInBounds_toArray, List.set_cons_zero, List.set_cons_succ]
  refine WH.take 36 (some 4) rfl rfl (by kernel_rfl) (by kernel_rfl) (by kernel_rfl) (fun _ _ _ h => h) (by rfl) (fun v hv => by have k0 := hv.cell xk0; have k1 := hv.cell xk1; have k2 := hv.cell xk2; have k3 := hv.cell xk3; have k4 := hv.cell xk4; have m0 := hv.cell xm0; have m1 := hv.cell xm1; have m2 := hv.cell xm2; have m3 := hv.cell xm3; have m4 := hv.cell xm4; go_simp; first | done | with_reducible rfl | (rw [if_neg (by omega)])) HS1.out ?_; simp only [Act.put, List.setIfInBounds_toArray, List.set_cons_zero, List.set_cons_succ]
  refine WH.done (by kernel_rfl) ?_
  go_wp2_with fail
  go_ret
  exact ⟨by (rw [HL.out]) <;> rfl, HG.out.trans HS1.out⟩
end Go.Proofs.YtahgapkecabnjaaGreatDoor
