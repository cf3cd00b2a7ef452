/- Plain law: keys of flows, their order, and lists of flows in that order. No program in sight. -/
import Derived.Test.YtahgapkecabnjaaGreatDoorProg
import Derived.WalkKit
import Derived.KernelRfl
import Derived.OwnWalk
import Derived.Outline
import Derived.Deep.Light
import Derived.Maps.Keyed
import Derived.MapViews
import Derived.Carry
import Derived.Orders
import Derived.RegionTactic
import Derived.DeepKeys4
import Derived.LoopTactic
import Derived.Lib.Hide
import Derived.Deep.LoopGhost
namespace Go.Proofs.YtahgapkecabnjaaGreatDoor
set_option linter.unusedSimpArgs false
set_option linter.unusedVariables false

/-- A flow's key. -/
structure Ky where
  a0 : Nat
  a1 : Nat
  p0 : Nat
  p1 : Nat
  pr : Nat
theorem Ky.same {x y : Ky} : x = y ↔ x.a0 = y.a0 ∧ x.a1 = y.a1 ∧ x.p0 = y.p0 ∧ x.p1 = y.p1 ∧ x.pr = y.pr := by
  constructor
  · rintro rfl; exact ⟨rfl, rfl, rfl, rfl, rfl⟩
  · rintro ⟨h1, h2, h3, h4, h5⟩
    cases x; cases y; simp only at h1 h2 h3 h4 h5
    subst h1 h2 h3 h4 h5; rfl
instance : DecidableEq Ky := fun x y => decidable_of_iff _ (Ky.same (x := x) (y := y)).symm
instance : Inhabited Ky := ⟨⟨0, 0, 0, 0, 0⟩⟩
structure Ky.In (k : Ky) : Prop where
  a0 : k.a0 < 4294967296
  a1 : k.a1 < 4294967296
  p0 : k.p0 < 65536
  p1 : k.p1 < 65536
  pr : k.pr < 256
/-- The order of keys. -/
def ltK (x y : Ky) : Prop := x.pr < y.pr ∨ x.pr = y.pr ∧ (x.a0 < y.a0 ∨ x.a0 = y.a0 ∧ (x.p0 < y.p0 ∨ x.p0 = y.p0 ∧ (x.a1 < y.a1 ∨ x.a1 = y.a1 ∧ x.p1 < y.p1)))
instance (x y : Ky) : Decidable (ltK x y) := by unfold ltK; infer_instance
def lessK (x y : Ky) : Bool := decide (ltK x y)
theorem lessK_iff {x y : Ky} : lessK x y = true ↔ ltK x y := by unfold lessK; rw [decide_eq_true_iff]
theorem lessK_not {x y : Ky} : lessK x y = false ↔ ¬ ltK x y := by unfold lessK; rw [decide_eq_false_iff_not]
theorem ltK_irrefl (x : Ky) : ¬ ltK x x := by unfold ltK; omega
theorem ltK_trans {x y z : Ky} (h : ltK x y) (k : ltK y z) : ltK x z := by unfold ltK at *; omega
theorem ltK_asymm {x y : Ky} (h : ltK x y) : ¬ ltK y x := by unfold ltK at *; omega
theorem ltK_total {x y : Ky} (h : x ≠ y) : ltK x y ∨ ltK y x := by
  rw [Ne, Ky.same] at h
  unfold ltK; omega
theorem ltK_ntrans {x y z : Ky} (h : ¬ ltK x y) (k : ¬ ltK y z) : ¬ ltK x z := by unfold ltK at *; omega
theorem ltK_ne {x y : Ky} (h : ltK x y) : x ≠ y := fun e => by subst e; exact ltK_irrefl _ h
def endN (a p : Nat) : Nat := a * 65536 + p
/-- The order as the reference tells it. -/
theorem lessK_ends {x y : Ky} (hx : x.In) (hy : y.In) : lessK x y = if x.pr ≠ y.pr then decide (x.pr < y.pr) else
    if endN x.a0 x.p0 ≠ endN y.a0 y.p0 then decide (endN x.a0 x.p0 < endN y.a0 y.p0) else decide (endN x.a1 x.p1 < endN y.a1 y.p1) := by
  obtain ⟨_, _, h1, h2, _⟩ := hx
  obtain ⟨_, _, h3, h4, _⟩ := hy
  rw [Bool.eq_iff_iff, lessK_iff]
  unfold ltK endN
  split
  · rw [decide_eq_true_iff]; omega
  · split
    · rw [decide_eq_true_iff]; omega
    · rw [decide_eq_true_iff]; omega

/-! ### Lists in order -/
/-- Each ahead of all that follow. -/
def Rises (l : List Ky) : Prop := l.Pairwise ltK
theorem Rises.nodup {l : List Ky} (h : Rises l) : l.Nodup := List.Pairwise.imp (fun h => ltK_ne h) h
/-- Of a set of keys there is one list in order. -/
theorem rises_one : ∀ {l m : List Ky}, Rises l → Rises m → (∀ x, x ∈ l ↔ x ∈ m) → l = m
  | [], [], _, _, _ => rfl
  | [], y :: m, _, _, h => by have := (h y).2 (by simp); cases this
  | x :: l, [], _, _, h => by have := (h x).1 (by simp); cases this
  | x :: l, y :: m, hl, hm, h => by
    obtain ⟨h1, h2⟩ := List.pairwise_cons.1 hl
    obtain ⟨k1, k2⟩ := List.pairwise_cons.1 hm
    have e : x = y := by
      rcases List.mem_cons.1 ((h x).1 (by simp)) with e | hx
      · exact e
      · rcases List.mem_cons.1 ((h y).2 (by simp)) with e | hy
        · exact e.symm
        · exact absurd (h1 y hy) (ltK_asymm (k1 x hx))
    subst e
    rw [rises_one h2 k2 fun z => ?_]
    constructor
    · intro hz
      rcases List.mem_cons.1 ((h z).1 (by simp [hz])) with e | hz'
      · subst e; exact absurd (h1 z hz) (ltK_irrefl z)
      · exact hz'
    · intro hz
      rcases List.mem_cons.1 ((h z).2 (by simp [hz])) with e | hz'
      · subst e; exact absurd (k1 z hz) (ltK_irrefl z)
      · exact hz'
/-- What is sorted by 'not ahead of what precedes' and names no key twice rises. -/
theorem rises_of_sorted {l : List Ky} (h : l.Pairwise fun x y => ¬ ltK y x) (hn : l.Nodup) : Rises l := by
  refine List.Pairwise.imp₂ (R := fun x y => ¬ ltK y x) (S := fun x y => x ≠ y) (fun x y h1 h2 => ?_) h hn
  rcases ltK_total h2 with h3 | h3
  · exact h3
  · exact absurd h3 h1

/-! ### Flows in order, of whatever sort -/
section
variable {α : Type}
/-- Keys with what they stand for, in order. -/
abbrev Kl (α : Type) := List (Ky × α)
def keysL (l : Kl α) : List Ky := l.map (·.1)
def getL (l : Kl α) (k : Ky) : Option α := (l.find? fun p => decide (p.1 = k)).map (·.2)
def hasL (l : Kl α) (k : Ky) : Bool := (getL l k).isSome
def delL (l : Kl α) (k : Ky) : Kl α := l.filter fun p => decide (p.1 ≠ k)
def putL (l : Kl α) (k : Ky) (x : α) : Kl α := (l.filter fun p => lessK p.1 k) ++ (k, x) :: l.filter fun p => lessK k p.1
theorem getL_nil (k : Ky) : getL ([] : Kl α) k = none := rfl
theorem getL_cons (p : Ky × α) (l : Kl α) (k : Ky) : getL (p :: l) k = if p.1 = k then some p.2 else getL l k := by
  unfold getL
  rw [List.find?_cons]
  by_cases h : p.1 = k
  · simp [h]
  · simp [h]
theorem getL_mem {l : Kl α} {k : Ky} {x : α} (h : getL l k = some x) : (k, x) ∈ l := by
  induction l with
  | nil => cases h
  | cons p l ih =>
    rw [getL_cons] at h
    split at h
    · rename_i e; cases h; subst e; simp
    · simp [ih h]
theorem getL_of_mem {l : Kl α} (hr : Rises (keysL l)) {k : Ky} {x : α} (h : (k, x) ∈ l) : getL l k = some x := by
  induction l with
  | nil => cases h
  | cons p l ih =>
    obtain ⟨h1, h2⟩ := List.pairwise_cons.1 (show (p.1 :: keysL l).Pairwise ltK from hr)
    rw [getL_cons]
    rcases List.mem_cons.1 h with e | h'
    · subst e; simp
    · rw [if_neg, ih h2 h']
      intro e
      have := h1 k (List.mem_map.2 ⟨(k, x), h', rfl⟩)
      rw [e] at this
      exact ltK_irrefl _ this
theorem getL_none {l : Kl α} {k : Ky} : getL l k = none ↔ k ∉ keysL l := by
  induction l with
  | nil => simp [keysL, getL_nil]
  | cons p l ih =>
    rw [getL_cons]
    show _ ↔ k ∉ p.1 :: keysL l
    by_cases h : p.1 = k
    · simp [h]
    · rw [if_neg h, ih, List.mem_cons]
      constructor
      · rintro h1 (h2 | h2)
        · exact h h2.symm
        · exact h1 h2
      · exact fun h1 h2 => h1 (.inr h2)
theorem keysL_del (l : Kl α) (k : Ky) : keysL (delL l k) = (keysL l).filter fun x => decide (x ≠ k) := by
  unfold keysL delL; rw [List.filter_map]; rfl
theorem rises_del {l : Kl α} (h : Rises (keysL l)) (k : Ky) : Rises (keysL (delL l k)) := by
  rw [keysL_del]; exact List.Pairwise.filter _ h
theorem keysL_put (l : Kl α) (k : Ky) (x : α) : keysL (putL l k x) = ((keysL l).filter fun y => lessK y k) ++ k :: (keysL l).filter fun y => lessK k y := by
  unfold keysL putL; rw [List.map_append, List.map_cons, List.filter_map, List.filter_map]; rfl
theorem rises_put {l : Kl α} (h : Rises (keysL l)) (k : Ky) (x : α) : Rises (keysL (putL l k x)) := by
  rw [keysL_put]
  unfold Rises
  rw [List.pairwise_append, List.pairwise_cons]
  refine ⟨List.Pairwise.filter _ h, ⟨fun y hy => lessK_iff.1 (List.mem_filter.1 hy).2, List.Pairwise.filter _ h⟩, fun y hy z hz => ?_⟩
  have h1 := lessK_iff.1 (List.mem_filter.1 hy).2
  rcases List.mem_cons.1 hz with e | hz'
  · subst e; exact h1
  · exact ltK_trans h1 (lessK_iff.1 (List.mem_filter.1 hz').2)
theorem getL_filter (l : Kl α) (f : Ky → Bool) (k : Ky) : getL (l.filter fun p => f p.1) k = if f k = true then getL l k else none := by
  induction l with
  | nil => simp [getL_nil]
  | cons p l ih =>
    rw [List.filter_cons, getL_cons]
    by_cases hf : f p.1 = true
    · rw [if_pos hf, getL_cons]
      by_cases e : p.1 = k
      · subst e; simp [hf]
      · rw [if_neg e, if_neg e, ih]
    · rw [if_neg hf, ih]
      by_cases e : p.1 = k
      · subst e; simp [hf]
      · rw [if_neg e]
theorem getL_append (l m : Kl α) (k : Ky) : getL (l ++ m) k = (getL l k).or (getL m k) := by
  induction l with
  | nil => simp [getL_nil]
  | cons p l ih =>
    rw [List.cons_append, getL_cons, getL_cons, ih]
    split <;> simp
theorem getL_del (l : Kl α) (k y : Ky) : getL (delL l k) y = if y = k then none else getL l y := by
  unfold delL
  rw [getL_filter l (fun z => decide (z ≠ k)) y]
  by_cases h : y = k <;> simp [h]
theorem getL_put (l : Kl α) (k : Ky) (x : α) (y : Ky) : getL (putL l k x) y = if y = k then some x else getL l y := by
  unfold putL
  rw [getL_append, getL_cons, getL_filter l (fun z => lessK z k) y, getL_filter l (fun z => lessK k z) y]
  by_cases h : y = k
  · subst h
    have : lessK y y = false := lessK_not.2 (ltK_irrefl y)
    simp [this]
  · have h' : k ≠ y := fun e => h e.symm
    rcases ltK_total h with h1 | h1
    · have h2 := lessK_not.2 (ltK_asymm h1)
      simp [lessK_iff.2 h1, h2, h, h']
    · have h2 := lessK_not.2 (ltK_asymm h1)
      simp [lessK_iff.2 h1, h2, h, h']
theorem length_del {l : Kl α} (h : Rises (keysL l)) {k : Ky} {x : α} (hk : getL l k = some x) : (delL l k).length + 1 = l.length := by
  have hm := getL_mem hk
  induction l with
  | nil => cases hm
  | cons p l ih =>
    obtain ⟨h1, h2⟩ := List.pairwise_cons.1 (show (p.1 :: keysL l).Pairwise ltK from h)
    unfold delL
    rw [List.filter_cons]
    by_cases e : p.1 = k
    · have : (l.filter fun p => decide (p.1 ≠ k)) = l := by
        rw [List.filter_eq_self]
        intro q hq
        have := h1 q.1 (List.mem_map.2 ⟨q, hq, rfl⟩)
        rw [e] at this
        exact decide_eq_true (fun e' => by rw [e'] at this; exact ltK_irrefl _ this)
      rw [this, if_neg (by simp [e])]; simp
    · rw [if_pos (by simp [e])]
      rw [getL_cons, if_neg e] at hk
      have := ih h2 hk (getL_mem hk)
      unfold delL at this
      simp only [List.length_cons]; omega
theorem del_none {l : Kl α} {k : Ky} (hk : getL l k = none) : delL l k = l := by
  unfold delL
  rw [List.filter_eq_self]
  intro q hq
  have := getL_none.1 hk
  exact decide_eq_true (fun e => this (List.mem_map.2 ⟨q, hq, e⟩))
theorem parts_length (l : Kl α) (k : Ky) : (l.filter fun p => lessK p.1 k).length + (l.filter fun p => lessK k p.1).length = (delL l k).length := by
  induction l with
  | nil => rfl
  | cons p l ih =>
    unfold delL at ih ⊢
    rw [List.filter_cons, List.filter_cons, List.filter_cons]
    by_cases e : p.1 = k
    · have : lessK p.1 k = false := lessK_not.2 (by rw [e]; exact ltK_irrefl _)
      have h2 : lessK k p.1 = false := lessK_not.2 (by rw [e]; exact ltK_irrefl _)
      rw [this, h2]; simp [e]; simpa using ih
    · rcases ltK_total e with h1 | h1
      · rw [lessK_iff.2 h1, lessK_not.2 (ltK_asymm h1)]; simp [e]; simp at ih; omega
      · rw [lessK_iff.2 h1, lessK_not.2 (ltK_asymm h1)]; simp [e]; simp at ih; omega
theorem length_put_new {l : Kl α} {k : Ky} (hk : getL l k = none) (x : α) : (putL l k x).length = l.length + 1 := by
  have h1 := parts_length l k
  rw [del_none hk] at h1
  unfold putL
  simp only [List.length_append, List.length_cons]; omega
theorem length_put_old {l : Kl α} (h : Rises (keysL l)) {k : Ky} {y : α} (hk : getL l k = some y) (x : α) : (putL l k x).length = l.length := by
  have h1 := parts_length l k
  have h2 := length_del h hk
  unfold putL
  simp only [List.length_append, List.length_cons]; omega
/-- Two lists in order that answer alike are one. -/
theorem kl_one {l m : Kl α} (hl : Rises (keysL l)) (hm : Rises (keysL m)) (h : ∀ k, getL l k = getL m k) : l = m := by
  have hk : keysL l = keysL m := rises_one hl hm fun x => by
    have := h x
    constructor
    · intro hx
      have h1 : getL l x ≠ none := fun e => getL_none.1 e hx
      rw [this] at h1
      exact Classical.byContradiction fun h2 => h1 (getL_none.2 h2)
    · intro hx
      have h1 : getL m x ≠ none := fun e => getL_none.1 e hx
      rw [← this] at h1
      exact Classical.byContradiction fun h2 => h1 (getL_none.2 h2)
  have hlen : l.length = m.length := by have := congrArg List.length hk; simpa [keysL] using this
  refine List.ext_getElem hlen fun i h1 h2 => ?_
  have e1 : l[i].1 = m[i].1 := by
    have h3 : (keysL l)[i]? = (keysL m)[i]? := by rw [hk]
    unfold keysL at h3
    rw [List.getElem?_map, List.getElem?_map, List.getElem?_eq_getElem h1, List.getElem?_eq_getElem h2] at h3
    simpa using h3
  have g1 := getL_of_mem hl (k := l[i].1) (x := l[i].2) (List.getElem_mem h1)
  have g2 := getL_of_mem hm (k := m[i].1) (x := m[i].2) (List.getElem_mem h2)
  rw [h, e1, g2] at g1
  exact Prod.ext e1 (Option.some.inj g1).symm
end
end Go.Proofs.YtahgapkecabnjaaGreatDoor
/- Walks of the small functions of package trace and of its reference. -/
namespace Go.Proofs.YtahgapkecabnjaaGreatDoor
set_option linter.unusedSimpArgs false
set_option linter.unusedVariables false
open Go.RowKit

/-- A walk's end with one result. -/
theorem ret1 {v u : Value} {w w' : World} (h : v = u) (hw : w = w') : Ending.returned v = Ending.returned u ∧ w = w' := ⟨by rw [h], hw⟩

def kindF (f : Int) : Int :=
  if (Go.bits .and .u8 f 23 == 16) = true then 1 else if (Go.bits .and .u8 f 23 == 2) = true then 2 else if (Go.bits .and .u8 f 23 == 18) = true then 3
  else if (Go.bits .and .u8 f 23 == 17) = true then 4 else if (Go.bits .and .u8 f 23 == 4) = true then 5 else if (Go.bits .and .u8 f 23 == 20) = true then 5 else 0

set_option maxHeartbeats 400000 in
theorem kind_any (f : Int) (w : World) :
    Calls Tryz.prog 113 #[.int .u8 f] w fun e w' => e = .returned (.int .i64 (kindF f)) ∧ w' = w := by
  go_enter Tryz.func113, Tryz.ntmps113
  go_wp2
  all_goals
    go_ret
    exact ret1 (by simp [kindF, *]) rfl

def hasF (f g : Int) : Bool := (f / g) % 2 == 1

set_option maxHeartbeats 400000 in
theorem thas_any (f g : Int) (w : World) (hf : 0 ≤ f) (hf' : f ≤ 255) (hg : 1 ≤ g) :
    Calls Tryz.prog 120 #[.int .u8 f, .int .u8 g] w fun e w' => e = .returned (.bool (hasF f g)) ∧ w' = w := by
  have hq : 0 ≤ f / g := Int.ediv_nonneg hf (by omega)
  go_enter Tryz.func120, Tryz.ntmps120
  go_wp2
  go_ret
  exact ret1 (by simp [hasF]) rfl

def openF (f : Int) : Int × Bool := if (kindF f == 2) = true then (1, true) else (0, false)

set_option maxHeartbeats 400000 in
theorem open_any (f : Int) (w : World) :
    Calls Tryz.prog 111 #[.int .u8 f] w fun e w' => e = .returned (.tuple #[.int .i64 (openF f).1, .bool (openF f).2]) ∧ w' = w := by
  go_enter Tryz.func111, Tryz.ntmps111
  go_wp2_with (go_at_call 113; refine (kind_any _ _).mono ?_; rintro e w' ⟨rfl, rfl⟩)
  all_goals
    go_ret2
    exact ret1 (by simp [openF, *]) rfl

def refOpenF (f : Int) : Int × Bool := if hasF f 2 = true then if (!hasF f 16) = true then if (!hasF f 1) = true then if (!hasF f 4) = true then (1, true) else (0, false) else (0, false) else (0, false) else (0, false)

set_option maxHeartbeats 1000000 in
theorem refOpen_any (f : Int) (w : World) (hf : 0 ≤ f) (hf' : f ≤ 255) :
    Calls Tryz.prog 102 #[.int .u8 f] w fun e w' => e = .returned (.tuple #[.int .i64 (refOpenF f).1, .bool (refOpenF f).2]) ∧ w' = w := by
  go_enter Tryz.func102, Tryz.ntmps102
  go_wp2_with (go_at_call 120; refine (thas_any _ _ _ hf hf' (by omega)).mono ?_; rintro e w' ⟨rfl, rfl⟩)
  all_goals
    go_ret2
    exact ret1 (by simp [refOpenF, *]) rfl

def refNextF (state : Int) (reply : Bool) (f : Int) : Int × Bool :=
  if state < 1 ∨ 7 < state then (0, false)
  else if hasF f 4 = true then if hasF f 2 = true ∨ hasF f 1 = true then (0, false) else (7, true)
  else if hasF f 2 = true ∧ hasF f 1 = true ∨ state = 7 then (0, false)
  else if hasF f 2 = true then
    if 2 < state ∨ hasF f 16 ≠ reply then (0, false) else if hasF f 16 = true then (2, true) else (state, true)
  else if hasF f 16 = false ∨ state = 1 ∨ state = 2 ∧ reply = true then (0, false)
  else if hasF f 1 = false then if state = 2 then (3, true) else (state, true)
  else if state = 6 ∨ state = 4 ∧ reply = true ∨ state = 5 ∧ reply = false then (6, true)
  else if reply = true then (5, true) else (4, true)

set_option maxHeartbeats 4000000 in
theorem refNext_any (state : Int) (reply : Bool) (f : Int) (w : World) (hf : 0 ≤ f) (hf' : f ≤ 255) :
    Calls Tryz.prog 98 #[.int .i64 state, .bool reply, .int .u8 f] w fun e w' => e = .returned (.tuple #[.int .i64 (refNextF state reply f).1, .bool (refNextF state reply f).2]) ∧ w' = w := by
  go_enter Tryz.func98, Tryz.ntmps98
  go_wp2_with (go_at_call 120; refine (thas_any _ _ _ hf hf' (by omega)).mono ?_; rintro e w' ⟨rfl, rfl⟩)
  all_goals
    go_ret2
    refine ret1 ?_ rfl
    go_light
    simp only [Bool.not_eq_true, beq_iff_eq, beq_eq_false_iff_ne, ne_eq] at *
    unfold refNextF
    repeat' split
    all_goals first | rfl | (exfalso; simp_all; done) | (exfalso; simp_all; omega) | (simp_all; done)
end Go.Proofs.YtahgapkecabnjaaGreatDoor
/- Maps of the model as functions from keys to elements: the laws of look-up, store, delete, len and of a new map; and an invariant rule for a region that draws its order. -/
namespace Go.Proofs.YtahgapkecabnjaaGreatDoor
set_option linter.unusedSimpArgs false
set_option linter.unusedVariables false
open Go Go.RowKit Go.Maps Go.MapKept
open Go.ChangeMaps (setBlock)

/-- The entries 'es' under 'clock' are those of the function f. -/
structure MapIs (P : Program) (k : TypeId) (es : Array MapEntry) (clock : Nat) (f : Value → Option Value) : Prop where
  stamped : Stamped es clock
  keys : ∀ e ∈ es.toList, ∃ l, keyOf P k e.key = some l
  has : ∀ e ∈ es.toList, f e.key = some e.val
  only : ∀ v x, f v = some x → ∃ e ∈ es.toList, e.key = v ∧ e.val = x

/-- Block b is a map that holds just what f says. -/
def IsMap (w : World) (P : Program) (k : TypeId) (b : Nat) (f : Value → Option Value) : Prop :=
  ∃ es clock, w.heap[b]? = some (.map es clock) ∧ MapIs P k es clock f

open Classical in
noncomputable def upd (f : Value → Option Value) (k : Value) (x : Option Value) : Value → Option Value := fun v => if v = k then x else f v

theorem upd_same (f : Value → Option Value) (k : Value) (x : Option Value) : upd f k x k = x := by simp [upd]
theorem upd_other (f : Value → Option Value) {k v : Value} (x : Option Value) (h : v ≠ k) : upd f k x v = f v := by simp [upd, h]

theorem IsMap.congr {w : World} {P : Program} {k : TypeId} {b : Nat} {f g : Value → Option Value} (h : IsMap w P k b f) (e : ∀ v, f v = g v) : IsMap w P k b g := by
  rw [← funext e]; exact h

theorem IsMap.of_block {w w' : World} {P : Program} {k : TypeId} {b : Nat} {f : Value → Option Value} (h : IsMap w P k b f) (e : w'.heap[b]? = w.heap[b]?) : IsMap w' P k b f := by
  obtain ⟨es, c, hb, hm⟩ := h
  exact ⟨es, c, e.trans hb, hm⟩

theorem IsMap.lt {w : World} {P : Program} {k : TypeId} {b : Nat} {f : Value → Option Value} (h : IsMap w P k b f) : b < w.heap.size := by
  obtain ⟨es, c, hb, _⟩ := h
  exact (Array.getElem?_eq_some_iff.1 hb).1

theorem IsMap.below {w w' : World} {P : Program} {k : TypeId} {b B : Nat} {f : Value → Option Value} (h : IsMap w P k b f) (hb : Below B w w') (hB : b < B) : IsMap w' P k b f :=
  h.of_block (hb.block b hB)

theorem IsMap.alloc {w : World} {P : Program} {k : TypeId} {b : Nat} {f : Value → Option Value} (h : IsMap w P k b f) (o : Obj) : IsMap (w.alloc o) P k b f :=
  h.of_block (Below.heap_alloc w o b h.lt)

/-- A new map. -/
theorem IsMap.made (w : World) (P : Program) (k : TypeId) : IsMap (w.alloc (.map #[] 0)) P k w.heap.size (fun _ => none) :=
  ⟨#[], 0, (MapKept.heap_alloc w _).1, stamped_empty 0, by simp, by simp, by simp⟩

section
variable {P : Program} {k : TypeId} {w : World} {b : Nat} {f : Value → Option Value} {t e : TypeId}

theorem MapIs.none_of {es : Array MapEntry} {clock : Nat} (M : MapIs P k es clock f) {key : Value} (h : ∀ e ∈ es.toList, e.key ≠ key) : f key = none := by
  cases hf : f key with
  | none => rfl
  | some x =>
    obtain ⟨e, he, hk, _⟩ := M.only key x hf
    exact absurd hk (h e he)

/-- 'm[k]' and 'v, ok := m[k]'. -/
theorem IsMap.lookup (h : IsMap w P k b f) (K : Keyed P k) (ht : P.underlying t = some (.map k e)) {z : Value} (hz : (zeroValue e).run P w = .ok z w)
    {key : Value} {kl : Lit} (hkey : keyOf P k key = some kl) (c : Bool) :
    (Instr.lookup t (.map (some b)) key c).run P w = .ok (if c then .tuple #[(f key).getD z, .bool (f key).isSome] else (f key).getD z) w := by
  obtain ⟨es, clock, hb, M⟩ := h
  rcases K.find w hkey es.toList M.keys with ⟨h1, h2⟩ | ⟨j, e0, h1, h2, h3⟩
  · have := M.none_of h2
    simp [Instr.lookup, run_underlying ht, MapKept.run_getObj_map hb, K.check w _ hkey, h1, hz, Result.andThen, this]
  · have hm0 : e0 ∈ es.toList := List.mem_of_getElem? h2
    have := M.has e0 hm0
    rw [h3] at this
    simp [Instr.lookup, run_underlying ht, MapKept.run_getObj_map hb, K.check w _ hkey, h1, Result.andThen, this]

theorem set_heap_same {o : Obj} (hb : b < w.heap.size) : (setBlock w b o).heap[b]? = some o := by
  simp [setBlock, Array.getElem?_setIfInBounds, hb]
theorem set_heap_other {o : Obj} {i : Nat} (h : i ≠ b) : (setBlock w b o).heap[i]? = w.heap[i]? := by
  simp [setBlock, Array.getElem?_setIfInBounds, Ne.symm h]

/-- 'm[k] = v'. -/
theorem IsMap.update (h : IsMap w P k b f) (K : Keyed P k) (ht : P.underlying t = some (.map k e)) {key : Value} {kl : Lit} (hkey : keyOf P k key = some kl) (val : Value) :
    ∃ o, (Instr.mapUpdate t (.map (some b)) key val).run P w = .ok () (setBlock w b o) ∧ IsMap (setBlock w b o) P k b (upd f key (some val)) := by
  have hlt := h.lt
  obtain ⟨es, clock, hb, M⟩ := h
  rcases K.find w hkey es.toList M.keys with ⟨h1, h2⟩ | ⟨j, e0, h1, h2, h3⟩
  · refine ⟨.map (es.push ⟨key, val, clock⟩) (clock + 1), ?_, es.push ⟨key, val, clock⟩, clock + 1, set_heap_same hlt, stamped_push M.stamped h2, ?_, ?_, ?_⟩
    · simp [Instr.mapUpdate, run_underlying ht, MapKept.run_getObj_map hb, K.check w false hkey, h1, MapKept.run_setObj_map _ hb, Result.andThen, setBlock]
    · intro x hx
      simp only [Array.toList_push, List.mem_append, List.mem_singleton] at hx
      rcases hx with hx | rfl
      · exact M.keys x hx
      · exact ⟨_, hkey⟩
    · intro x hx
      simp only [Array.toList_push, List.mem_append, List.mem_singleton] at hx
      rcases hx with hx | rfl
      · rw [upd_other _ _ (h2 x hx)]; exact M.has x hx
      · exact upd_same _ _ _
    · intro v x hv
      by_cases hvk : v = key
      · subst hvk
        rw [upd_same] at hv
        refine ⟨⟨v, val, clock⟩, by simp, rfl, by simpa using hv⟩
      · rw [upd_other _ _ hvk] at hv
        obtain ⟨e1, he1, hh⟩ := M.only v x hv
        exact ⟨e1, by simp [he1], hh⟩
  · have hj : es[j]? = some e0 := by simpa using h2
    have hm0 : e0 ∈ es.toList := List.mem_of_getElem? h2
    have hjl : j < es.toList.length := (List.getElem?_eq_some_iff.1 h2).1
    have hkeyf : ∀ e', es[j]? = some e' → ({ e' with key := key, val := val } : MapEntry).key = e'.key := fun e' he' => by rw [hj] at he'; cases he'; exact h3.symm
    have hlist : (es.modify j (fun e' => { e' with key := key, val := val })).toList = es.toList.set j { e0 with key := key, val := val } := by rw [Array.toList_modify, ChangeMaps.modify_eq_set _ _ _ _ h2]
    have hpw := ((stamped_iff es clock).1 M.stamped).2.2
    have other : ∀ i (hi : i < es.toList.length), i ≠ j → es.toList[i].key ≠ key := by
      intro i hi hne hk
      rw [← h3] at hk
      have hej : es.toList[j] = e0 := by
        have := List.getElem?_eq_getElem hjl
        rw [h2] at this; exact (Option.some.inj this).symm
      rcases Nat.lt_or_gt_of_ne hne with hlt' | hgt
      · exact List.pairwise_iff_getElem.1 hpw i j hi hjl hlt' (by rw [hk, hej])
      · exact List.pairwise_iff_getElem.1 hpw j i hjl hi hgt (by rw [hk, hej])
    have who : ∀ x ∈ es.toList.set j { e0 with key := key, val := val }, x = { e0 with key := key, val := val } ∨ (x ∈ es.toList ∧ x.key ≠ key) := by
      intro x hx
      obtain ⟨i, hi, ex⟩ := List.getElem_of_mem hx
      rw [List.getElem_set] at ex
      split at ex
      · exact Or.inl ex.symm
      · rename_i hne
        have hi' : i < es.toList.length := by simpa using hi
        exact Or.inr ⟨ex ▸ List.getElem_mem hi', ex ▸ other i hi' (fun e1 => hne e1.symm)⟩
    refine ⟨.map (es.modify j (fun e' => { e' with key := key, val := val })) clock, ?_, es.modify j (fun e' => { e' with key := key, val := val }), clock, set_heap_same hlt,
      stamped_modify M.stamped _ _ (fun _ _ => rfl) (fun e' _ he' => hkeyf e' he'), ?_, ?_, ?_⟩
    · simp [Instr.mapUpdate, run_underlying ht, MapKept.run_getObj_map hb, K.check w false hkey, h1, hj, h3, K.stays w hkey, MapKept.run_setObj_map _ hb, Result.andThen, setBlock]
    · intro x hx
      rw [hlist] at hx
      rcases who x hx with rfl | ⟨hx', _⟩
      · exact ⟨_, hkey⟩
      · exact M.keys x hx'
    · intro x hx
      rw [hlist] at hx
      rcases who x hx with rfl | ⟨hx', hne⟩
      · exact upd_same _ _ _
      · rw [upd_other _ _ hne]; exact M.has x hx'
    · intro v x hv
      by_cases hvk : v = key
      · subst hvk
        rw [upd_same] at hv
        refine ⟨{ e0 with key := v, val := val }, ?_, rfl, by simpa using hv⟩
        rw [hlist]
        exact List.mem_iff_getElem.2 ⟨j, by simpa using hjl, by simp⟩
      · rw [upd_other _ _ hvk] at hv
        obtain ⟨e1, he1, hh⟩ := M.only v x hv
        refine ⟨e1, ?_, hh⟩
        rw [hlist]
        obtain ⟨i, hi, ei⟩ := List.getElem_of_mem he1
        have hij : i ≠ j := by
          rintro rfl
          apply hvk
          rw [← hh.1, ← ei, ← h3]
          have := List.getElem?_eq_getElem hi
          rw [h2] at this; rw [← Option.some.inj this]
        exact List.mem_iff_getElem.2 ⟨i, by simpa using hi, by rw [List.getElem_set, if_neg (Ne.symm hij)]; exact ei⟩
end

/-! ### Keys that are structs or arrays -/
theorem keyOf_wide {P : Program} {k : TypeId} {v : Value} (hwide : (match P.underlying k with | some (.array _ _) | some (.struct _) => true | _ => false) = true) (hT : P.keyType k = true) (hf : v.formed P k = true)
    (hne : (P.types.size != 0) = true) {ls : List Lit} (h : ∀ m, P.keyLits (m + 2) k v.cells.toList = some ls) : keyOf P k v = some (.string (keyBytes ls)) := by
  obtain ⟨m, hm⟩ := Nat.exists_eq_add_one_of_ne_zero (bne_iff_ne.1 hne)
  have h2 : P.keyLits (P.types.size + 1) k v.cells.toList = some ls := by rw [hm]; exact h m
  unfold keyOf
  split
  · simp [hT, hf, h2]
  · simp [hT, hf, h2]
  · rename_i h3 h4
    exfalso
    split at hwide
    · exact h3 _ _ ‹_›
    · exact h4 _ ‹_›
    · cases hwide

/-! ### Only one block has changed -/
structure OnlyB (b : Nat) (w w' : World) : Prop where
  os : w'.os = w.os
  tape : w'.tape = w.tape
  output : w'.output = w.output
  drawn : w'.drawn = w.drawn
  size : w'.heap.size = w.heap.size
  other : ∀ i, i ≠ b → w'.heap[i]? = w.heap[i]?

theorem OnlyB.refl (b : Nat) (w : World) : OnlyB b w w := ⟨rfl, rfl, rfl, rfl, rfl, fun _ _ => rfl⟩
theorem OnlyB.trans {b : Nat} {w1 w2 w3 : World} (h : OnlyB b w1 w2) (h' : OnlyB b w2 w3) : OnlyB b w1 w3 :=
  ⟨h'.os.trans h.os, h'.tape.trans h.tape, h'.output.trans h.output, h'.drawn.trans h.drawn, h'.size.trans h.size, fun i hi => (h'.other i hi).trans (h.other i hi)⟩
theorem OnlyB.set (w : World) (b : Nat) (o : Obj) : OnlyB b w (setBlock w b o) :=
  ⟨rfl, rfl, rfl, rfl, by simp [setBlock], fun _ hi => set_heap_other hi⟩
theorem OnlyB.below {B b : Nat} {w w' : World} (h : OnlyB b w w') (hb : B ≤ b) : Below B w w' :=
  ⟨h.os, h.tape, h.output, Nat.le_of_eq h.size.symm, fun i hi => h.other i (by omega)⟩

/-! ### The stores of a map's literal, in whatever order -/
section
variable {P : Program} {ops : Array Oper} {Q : Exit → Act → World → Prop} {md : Region.Mode} {k t e : TypeId} {b : Nat} {A : Act}

theorem ready_nil_of_all {L : Array Bool} (h : ∀ i, L.getD i true = true) : Region.ready md ops L = [] := by
  rw [List.eq_nil_iff_forall_not_mem]
  intro i hi
  have := (mem_ready.1 hi).1
  rw [h i] at this
  cases this

/-- ins: the operations' numbers, the keys, the elements. f: the map behind them all. -/
theorem wpAny_inserts (K : Keyed P k) (ht : P.underlying t = some (.map k e)) (f : Value → Option Value) (fuel : Nat) :
    ∀ (n : Nat) (ins : List (Nat × Value × Value)) (L : Array Bool) (f0 : Value → Option Value) (w : World), ins.length = n →
    (∀ x ∈ ins, ∃ o m ki ci, ops[x.1]? = some o ∧ o.op = .insert t m ki ci ∧ o.guard = none ∧ o.dst = none ∧ A.eval m = .map (some b) ∧ A.eval ki = x.2.1 ∧ A.eval ci = x.2.2 ∧ (∃ kl, keyOf P k x.2.1 = some kl) ∧ x.1 < L.size) →
    (ins.map (·.1)).Nodup →
    (∀ x ∈ ins, L.getD x.1 true = false ∧ x.1 ∈ Region.ready md ops L) →
    (∀ i, L.getD i true = false → i ∈ ins.map (·.1) ∨ ∃ o, ops[i]? = some o ∧ ∀ j ∈ ins.map (·.1), ∃ e ∈ o.after, Region.binds md e = true ∧ e.on = j) →
    IsMap w P k b f0 → (∀ x ∈ ins, f x.2.1 = some x.2.2) → (∀ v, (∀ x ∈ ins, v ≠ x.2.1) → f v = f0 v) →
    (∀ w' L', OnlyB b w w' → IsMap w' P k b f → L'.size = L.size → (∀ i, L'.getD i true = (L.getD i true || decide (i ∈ ins.map (·.1)))) → wpAny P md ops Q fuel L' A w') →
    wpAny P md ops Q (fuel + n) L A w
  | 0, ins, L, f0, w, hn, _, _, _, _, hm, _, hf0, H => by
    obtain rfl := List.eq_nil_of_length_eq_zero hn
    exact H w L (OnlyB.refl _ _) (hm.congr fun v => (hf0 v (by simp)).symm) rfl (by simp)
  | n + 1, ins, L, f0, w, hn, hops, hnd, hL, htail, hm, hf, hf0, H => by
    classical
    obtain ⟨x0, hx0⟩ : ∃ x, x ∈ ins := List.exists_mem_of_length_pos (by omega)
    show (Region.ready md ops L = [] → Q .normal A w) ∧ ∀ i ∈ Region.ready md ops L, wpOp P ops Q i (wpAny P md ops Q (fuel + n) (L.setIfInBounds i true)) A w
    refine ⟨fun h => ?_, fun i hi => ?_⟩
    · have := (hL x0 hx0).2
      rw [h] at this
      cases this
    · have hmem : i ∈ ins.map (·.1) := by
        rcases htail i (mem_ready.1 hi).1 with h | ⟨o, ho, h⟩
        · exact h
        · obtain ⟨ed, hed, hb, hon⟩ := h x0.1 (List.mem_map.2 ⟨x0, hx0, rfl⟩)
          obtain ⟨_, o', ho', hall⟩ := mem_ready.1 hi
          rw [ho] at ho'
          cases ho'
          have h1 := hall ed hed hb
          have h2 := (hL x0 hx0).1
          rw [hon] at h1
          have : x0.1 < L.size := by obtain ⟨_, _, _, _, _, _, _, _, _, _, _, _, h⟩ := hops x0 hx0; exact h
          simp [this] at h1 h2
          rw [h1] at h2
          cases h2
      obtain ⟨x, hx, rfl⟩ := List.mem_map.1 hmem
      obtain ⟨o, m, ki, ci, ho, hop, hg, hd, hem, hek, hec, ⟨kl, hkl⟩, hlt⟩ := hops x hx
      obtain ⟨ob, hrun, hm'⟩ := hm.update K ht hkl x.2.2
      have hperm := List.perm_cons_erase hx
      have hnd' : ((ins.erase x).map (·.1)).Nodup ∧ x.1 ∉ (ins.erase x).map (·.1) := by
        have := (hperm.map (·.1)).nodup_iff.1 hnd
        rw [List.map_cons, List.nodup_cons] at this
        exact ⟨this.2, this.1⟩
      have hmemE : ∀ i, i ∈ ins.map (·.1) ↔ i = x.1 ∨ i ∈ (ins.erase x).map (·.1) := fun i => by
        rw [(hperm.map (·.1)).mem_iff, List.map_cons, List.mem_cons]
      unfold wpOp
      simp only [ho]
      have hw : Region.wanted o (yielded ops A.tmps) = true := by simp [Region.wanted, hg]
      rw [if_pos hw]
      refine .inl ?_
      have hexec : (execOp A.eval o).run P w = .ok .skip (setBlock w b ob) := by
        simp [execOp, hop, hem, hek, hec, hrun, Result.andThen]
      unfold Oper.wp
      rw [hexec, Oper.upon_skip, hd]
      show wpAny P md ops Q (fuel + n) (L.setIfInBounds x.1 true) A (setBlock w b ob)
      have hset : ∀ i, (L.setIfInBounds x.1 true).getD i true = (L.getD i true || decide (i = x.1)) := fun i => by
        by_cases hi : i = x.1
        · subst hi; simp [hlt]
        · rw [getD_set_ne true (Ne.symm hi)]; simp [hi]
      refine wpAny_inserts K ht f fuel n (ins.erase x) (L.setIfInBounds x.1 true) (upd f0 x.2.1 (some x.2.2)) (setBlock w b ob) (by rw [List.length_erase_of_mem hx]; omega)
        (fun y hy => ?_) hnd'.1 (fun y hy => ?_) (fun i hi' => ?_) hm' (fun y hy => hf y (List.mem_of_mem_erase hy)) (fun v hv => ?_) (fun w' L' h1 h2 h3 h4 => ?_)
      · obtain ⟨o, m, ki, ci, h1, h2, h3, h4, h5, h6, h7, h8, h9⟩ := hops y (List.mem_of_mem_erase hy)
        exact ⟨o, m, ki, ci, h1, h2, h3, h4, h5, h6, h7, h8, by simpa using h9⟩
      · have hne : y.1 ≠ x.1 := fun e => hnd'.2 (List.mem_map.2 ⟨y, hy, e⟩)
        exact ⟨by rw [getD_set_ne true (Ne.symm hne)]; exact (hL y (List.mem_of_mem_erase hy)).1, ready_mono (hL y (List.mem_of_mem_erase hy)).2 hne⟩
      · rw [hset, Bool.or_eq_false_iff, decide_eq_false_iff_not] at hi'
        rcases htail i hi'.1 with h | ⟨o, h0, h⟩
        · exact .inl (((hmemE i).1 h).resolve_left hi'.2)
        · exact .inr ⟨o, h0, fun j hj => h j ((hmemE j).2 (.inr hj))⟩
      · by_cases hvx : v = x.2.1
        · subst hvx; rw [upd_same]; exact hf x hx
        · rw [upd_other _ _ hvx]
          refine hf0 v fun y hy => ?_
          rcases List.mem_cons.1 (hperm.mem_iff.1 hy) with rfl | hy'
          · exact hvx
          · exact hv y hy'
      · refine H w' L' ((OnlyB.set w b ob).trans h1) h2 (by rw [h3]; simp) (fun i => ?_)
        rw [h4, hset]
        by_cases hi1 : i = x.1
        · subst hi1; simp [(hmemE x.1).2 (.inl rfl)]
        · have : decide (i ∈ ins.map (·.1)) = decide (i ∈ (ins.erase x).map (·.1)) := by
            rw [decide_eq_decide, hmemE]; simp [hi1]
          rw [this]; simp [hi1]

/-- The checks of 'wpAny_inserts' as one closed Bool. -/
def insB (md : Region.Mode) (ops : Array Oper) (L : Array Bool) (idx : List Nat) : Bool :=
  ((List.range L.size).all fun i => L.getD i true || idx.contains i || (match ops[i]? with | some o => idx.all fun j => o.after.toList.any fun e => Region.binds md e && e.on == j | none => false)) &&
  (idx.all fun i => (Region.ready md ops L).contains i && !L.getD i true && decide (i < L.size)) && decide idx.Nodup

theorem wpAny_inserts' (K : Keyed P k) (ht : P.underlying t = some (.map k e)) (f : Value → Option Value) (fuel : Nat) (ins : List (Nat × Value × Value)) (L : Array Bool) (f0 : Value → Option Value) (w : World)
    (hops : ∀ x ∈ ins, ∃ o m ki ci, ops[x.1]? = some o ∧ o.op = .insert t m ki ci ∧ o.guard = none ∧ o.dst = none ∧ A.eval m = .map (some b) ∧ A.eval ki = x.2.1 ∧ A.eval ci = x.2.2 ∧ (∃ kl, keyOf P k x.2.1 = some kl))
    (hB : insB md ops L (ins.map (·.1)) = true)
    (hm : IsMap w P k b f0) (hf : ∀ x ∈ ins, f x.2.1 = some x.2.2) (hf0 : ∀ v, (∀ x ∈ ins, v ≠ x.2.1) → f v = f0 v)
    (H : ∀ w', OnlyB b w w' → IsMap w' P k b f → wpAny P md ops Q fuel ((List.range L.size).map fun i => L.getD i true || (ins.map (·.1)).contains i).toArray A w') :
    wpAny P md ops Q (fuel + ins.length) L A w := by
  simp only [insB, Bool.and_eq_true, List.all_eq_true, decide_eq_true_eq] at hB
  obtain ⟨⟨h1, h2⟩, h3⟩ := hB
  refine wpAny_inserts K ht f fuel ins.length ins L f0 w rfl (fun x hx => ?_) h3 (fun x hx => ?_) (fun i hi => ?_) hm hf hf0 (fun w' L' g1 g2 g3 g4 => ?_)
  · obtain ⟨o, m, ki, ci, e1, e2, e3, e4, e5, e6, e7, e8⟩ := hops x hx
    exact ⟨o, m, ki, ci, e1, e2, e3, e4, e5, e6, e7, e8, (h2 x.1 (List.mem_map.2 ⟨x, hx, rfl⟩)).2⟩
  · have := h2 x.1 (List.mem_map.2 ⟨x, hx, rfl⟩)
    exact ⟨by simpa using this.1.2, by simpa using this.1.1⟩
  · by_cases hlt : i < L.size
    · have := h1 i (List.mem_range.2 hlt)
      rw [hi, Bool.false_or, Bool.or_eq_true] at this
      rcases this with h | h
      · exact .inl (by simpa using h)
      · split at h
        · rename_i o ho
          refine .inr ⟨o, ho, fun j hj => ?_⟩
          rw [List.all_eq_true] at h
          have := h j hj
          rw [List.any_eq_true] at this
          obtain ⟨ed, hed, hb⟩ := this
          rw [Bool.and_eq_true, beq_iff_eq] at hb
          exact ⟨ed, by simpa using hed, hb.1, hb.2⟩
        · cases h
    · simp [Nat.not_lt.1 hlt] at hi
  · have he : L' = ((List.range L.size).map fun i => L.getD i true || (ins.map (·.1)).contains i).toArray := by
      apply Array.ext
      · simp [g3]
      · intro i hi1 hi2
        have := g4 i
        have e1 : L'.getD i true = L'[i] := by simp [hi1]
        rw [e1] at this
        rw [this, List.getElem_toArray, List.getElem_map, List.getElem_range, Bool.eq_iff_iff]
        simp
    rw [he]
    exact H w' g1 g2
end
end Go.Proofs.YtahgapkecabnjaaGreatDoor
/- The walk of trace.moves: a map's literal in any order, then two loops that store. -/
namespace Go.Proofs.YtahgapkecabnjaaGreatDoor
set_option linter.unusedSimpArgs false
set_option linter.unusedVariables false
open Go Go.RowKit Go.Maps Go.MapKept
open Go.ChangeMaps (setBlock)

def mkey (s : Int) (r : Bool) (k : Int) : Value := .agg #[.int .i64 s, .bool r, .int .i64 k]

theorem mkey_keyed : Keyed Tryz.prog 159 := Keyed.of_law (deep_law_laid (by kernel_rfl) (m := 3) (by decide) (of_decide_eq_true (by kernel_rfl)) (by kernel_rfl) (by kernel_rfl))

theorem types_pos : (Tryz.prog.types.size != 0) = true := by kernel_rfl
theorem cells_int : Tryz.prog.cellsOf 3 = 1 := by kernel_rfl
theorem cells_bool : Tryz.prog.cellsOf 4 = 1 := by kernel_rfl
theorem cells_move : Tryz.prog.cellsOf 159 = 3 := by kernel_rfl
theorem keyType_move : Tryz.prog.keyType 159 = true := by kernel_rfl

theorem mkey_key {s k : Int} (r : Bool) (hs : (Lit.int .i64 s).wf = true) (hk : (Lit.int .i64 k).wf = true) : ∃ kl, keyOf Tryz.prog 159 (mkey s r k) = some kl :=
  ⟨_, keyOf_wide (by rw [Tryz.underlying159]) keyType_move (by simp [mkey, Value.formed, Tryz.underlying159, cells_move]) types_pos
    (ls := [.int .i64 s, .bool r, .int .i64 k]) fun m => by
      simp [mkey, Value.cells, Program.keyLits, cells_move, cells_int, cells_bool, Tryz.underlying159, Tryz.underlying3, Tryz.underlying4, hs, hk]⟩

/-- The literal's table. -/
def baseL : List ((Int × Bool × Int) × Int) := [((1, false, 2), 1), ((1, true, 3), 2), ((2, false, 2), 2), ((2, true, 3), 2), ((2, false, 1), 3), ((2, false, 4), 4), ((3, false, 4), 4), ((3, true, 4), 5), ((4, false, 4), 4), ((4, true, 4), 6), ((5, false, 4), 6), ((5, true, 4), 5), ((6, false, 4), 6), ((6, true, 4), 6)]
def baseT (s : Int) (r : Bool) (k : Int) : Option Int := (baseL.find? fun x => decide (x.1 = (s, r, k))).map (·.2)

/-- Block b is a map that holds just the table g. -/
def HoldsT (w : World) (b : Nat) (g : Int → Bool → Int → Option Int) : Prop := ∃ f, IsMap w Tryz.prog 159 b f ∧ ∀ s r k, f (mkey s r k) = (g s r k).map (.int .i64)

def litL : List (Nat × Value × Value) := [(2, mkey 1 false 2, .int .i64 1), (4, mkey 1 true 3, .int .i64 2), (6, mkey 2 false 2, .int .i64 2), (8, mkey 2 true 3, .int .i64 2), (10, mkey 2 false 1, .int .i64 3), (12, mkey 2 false 4, .int .i64 4), (14, mkey 3 false 4, .int .i64 4), (16, mkey 3 true 4, .int .i64 5), (18, mkey 4 false 4, .int .i64 4), (20, mkey 4 true 4, .int .i64 6), (22, mkey 5 false 4, .int .i64 6), (24, mkey 5 true 4, .int .i64 5), (26, mkey 6 false 4, .int .i64 6), (28, mkey 6 true 4, .int .i64 6)]
open Classical in
noncomputable def litF : Value → Option Value := fun v => (baseL.find? fun x => decide (mkey x.1.1 x.1.2.1 x.1.2.2 = v)).map fun x => .int .i64 x.2
theorem mkey_inj {s r k s' r' k'} : mkey s r k = mkey s' r' k' ↔ s = s' ∧ r = r' ∧ k = k' := by simp [mkey]
theorem litF_mkey (s : Int) (r : Bool) (k : Int) : litF (mkey s r k) = (baseT s r k).map (.int .i64) := by
  classical
  unfold litF baseT
  have : (fun x : (Int × Bool × Int) × Int => decide (mkey x.1.1 x.1.2.1 x.1.2.2 = mkey s r k)) = fun x => decide (x.1 = (s, r, k)) := by
    funext x
    obtain ⟨⟨a, b, c⟩, d⟩ := x
    rw [decide_eq_decide]
    simp [mkey_inj]
  rw [Option.map_map, this]
  rfl
theorem litF_some : ∀ x ∈ litL, litF x.2.1 = some x.2.2 := by
  unfold litL
  repeat (refine List.forall_mem_cons.2 ⟨by show litF (mkey _ _ _) = _; rw [litF_mkey]; rfl, ?_⟩)
  simp
theorem litF_none (v : Value) (h : ∀ x ∈ litL, v ≠ x.2.1) : litF v = none := by
  unfold litF
  rw [Option.map_eq_none_iff, List.find?_eq_none]
  simp only [litL, List.forall_mem_cons] at h
  simp only [baseL, List.forall_mem_cons, decide_eq_true_eq]
  simp only [ne_eq, eq_comm (a := v)] at h
  simpa using h
/-- The table behind i rounds over the replies. -/
def done_ (i : Nat) (r : Bool) : Bool := if r then decide (2 ≤ i) else decide (1 ≤ i)
def stage (i : Nat) (s : Int) (r : Bool) (k : Int) : Option Int :=
  if k = 1 ∧ 3 ≤ s ∧ s ≤ 6 ∧ done_ i r = true then some s else if k = 5 ∧ 1 ≤ s ∧ s ≤ 7 ∧ done_ i r = true then some 7 else baseT s r k
def stage1 (i : Nat) (b : Bool) (j : Int) (s : Int) (r : Bool) (k : Int) : Option Int := if k = 1 ∧ 3 ≤ s ∧ s < j ∧ r = b then some s else stage i s r k
def stage2 (i : Nat) (b : Bool) (j : Int) (s : Int) (r : Bool) (k : Int) : Option Int := if k = 5 ∧ 1 ≤ s ∧ s < j ∧ r = b then some 7 else stage1 i b 7 s r k
theorem stage_zero (s : Int) (r : Bool) (k : Int) : stage 0 s r k = baseT s r k := by
  have h : done_ 0 r = false := by cases r <;> rfl
  unfold stage; rw [if_neg (by simp [h]), if_neg (by simp [h])]
theorem stage1_start (i : Nat) (b : Bool) (s : Int) (r : Bool) (k : Int) : stage1 i b 3 s r k = stage i s r k := by
  unfold stage1; rw [if_neg (by omega)]
theorem stage2_start (i : Nat) (b : Bool) (s : Int) (r : Bool) (k : Int) : stage2 i b 1 s r k = stage1 i b 7 s r k := by
  unfold stage2; rw [if_neg (by omega)]
theorem stage1_step (i : Nat) (b : Bool) (j : Int) (hj : 3 ≤ j) (s : Int) (r : Bool) (k : Int) : (if s = j ∧ r = b ∧ k = 1 then some j else stage1 i b j s r k) = stage1 i b (j + 1) s r k := by
  unfold stage1
  by_cases h : s = j ∧ r = b ∧ k = 1
  · obtain ⟨rfl, rfl, rfl⟩ := h
    rw [if_pos ⟨rfl, rfl, rfl⟩, if_pos ⟨rfl, hj, by omega, rfl⟩]
  · rw [if_neg h]
    by_cases h2 : k = 1 ∧ 3 ≤ s ∧ s < j ∧ r = b
    · rw [if_pos h2, if_pos ⟨h2.1, h2.2.1, by omega, h2.2.2.2⟩]
    · rw [if_neg h2, if_neg]
      rintro ⟨h3, h4, h5, h6⟩
      by_cases hs : s = j
      · exact h ⟨hs, h6, h3⟩
      · exact h2 ⟨h3, h4, by omega, h6⟩
theorem stage2_step (i : Nat) (b : Bool) (j : Int) (hj : 1 ≤ j) (s : Int) (r : Bool) (k : Int) : (if s = j ∧ r = b ∧ k = 5 then some 7 else stage2 i b j s r k) = stage2 i b (j + 1) s r k := by
  unfold stage2
  by_cases h : s = j ∧ r = b ∧ k = 5
  · obtain ⟨rfl, rfl, rfl⟩ := h
    rw [if_pos ⟨rfl, rfl, rfl⟩, if_pos ⟨rfl, hj, by omega, rfl⟩]
  · rw [if_neg h]
    by_cases h2 : k = 5 ∧ 1 ≤ s ∧ s < j ∧ r = b
    · rw [if_pos h2, if_pos ⟨h2.1, h2.2.1, by omega, h2.2.2.2⟩]
    · rw [if_neg h2, if_neg]
      rintro ⟨h3, h4, h5, h6⟩
      by_cases hs : s = j
      · exact h ⟨hs, h6, h3⟩
      · exact h2 ⟨h3, h4, by omega, h6⟩
theorem stage_next (i : Nat) (b : Bool) (hb : (i = 0 ∧ b = false) ∨ (i = 1 ∧ b = true)) (s : Int) (r : Bool) (k : Int) : stage2 i b 8 s r k = stage (i + 1) s r k := by
  unfold stage2 stage1 stage
  rcases hb with ⟨rfl, rfl⟩ | ⟨rfl, rfl⟩ <;> cases r <;> simp [done_] <;>
  · by_cases hk : k = 1
    · subst hk; simp; repeat' split
      all_goals first | rfl | omega
    · by_cases hk5 : k = 5
      · subst hk5; simp; repeat' split
        all_goals first | rfl | omega
      · simp [hk, hk5]

theorem HoldsT.congr {w : World} {b : Nat} {g g' : Int → Bool → Int → Option Int} (h : HoldsT w b g) (e : ∀ s r k, g s r k = g' s r k) : HoldsT w b g' := by
  obtain ⟨f, hm, hf⟩ := h
  exact ⟨f, hm, fun s r k => by rw [hf, e]⟩
theorem HoldsT.of_block {w w' : World} {b : Nat} {g : Int → Bool → Int → Option Int} (h : HoldsT w b g) (e : w'.heap[b]? = w.heap[b]?) : HoldsT w' b g := by
  obtain ⟨f, hm, hf⟩ := h
  exact ⟨f, hm.of_block e, hf⟩
theorem HoldsT.put {w : World} {b : Nat} {g : Int → Bool → Int → Option Int} (h : HoldsT w b g) {s : Int} (r : Bool) {k : Int} (v : Int) (hs : (Lit.int .i64 s).wf = true) (hk : (Lit.int .i64 k).wf = true) :
    ∃ o, (Instr.mapUpdate 155 (.map (some b)) (.agg #[.int .i64 s, .bool r, .int .i64 k]) (.int .i64 v)).run Tryz.prog w = .ok () (setBlock w b o) ∧
      HoldsT (setBlock w b o) b (fun s' r' k' => if s' = s ∧ r' = r ∧ k' = k then some v else g s' r' k') := by
  obtain ⟨f, hm, hf⟩ := h
  obtain ⟨kl, hkl⟩ := mkey_key r hs hk
  obtain ⟨o, hrun, hm'⟩ := hm.update mkey_keyed Tryz.underlying155 hkl (.int .i64 v)
  refine ⟨o, hrun, _, hm', fun s' r' k' => ?_⟩
  by_cases he : s' = s ∧ r' = r ∧ k' = k
  · obtain ⟨rfl, rfl, rfl⟩ := he
    rw [upd_same]; dsimp only; rw [if_pos ⟨rfl, rfl, rfl⟩]; rfl
  · rw [upd_other _ _ (fun h => he (mkey_inj.1 h))]; dsimp only; rw [if_neg he, hf]

end Go.Proofs.YtahgapkecabnjaaGreatDoor
/- The walk of trace.moves. -/
namespace Go.Proofs.YtahgapkecabnjaaGreatDoor
set_option linter.unusedSimpArgs false
set_option linter.unusedVariables false
open Go Go.RowKit Go.Maps Go.MapKept
open Go.ChangeMaps (setBlock)

/-- What else stands while the loops go. -/
def Rest (w : World) (b0 : Nat) (wr : World) : Prop := Below b0 w wr ∧ wr.heap.size = b0 + 2 ∧ wr.cell? ⟨b0 + 1, 0, none⟩ = some (.bool false) ∧ wr.cell? ⟨b0 + 1, 1, none⟩ = some (.bool true)
theorem Rest.set {w : World} {b0 : Nat} {wr : World} (h : Rest w b0 wr) (o : Obj) : Rest w b0 (setBlock wr b0 o) := by
  obtain ⟨h1, h2, h3, h4⟩ := h
  have hO := OnlyB.set wr b0 o
  exact ⟨h1.trans (hO.below (Nat.le_refl _)), hO.size.trans h2, (World.cell?_of_block (w := wr) (hO.other _ (by show b0 + 1 ≠ b0; omega))).trans h3, (World.cell?_of_block (w := wr) (hO.other _ (by show b0 + 1 ≠ b0; omega))).trans h4⟩

def MovesPost (w : World) (e : Ending) (w' : World) : Prop := ∃ b, e = .returned (.map (some b)) ∧ HoldsT w' b (stage 2) ∧ Below w.heap.size w w'

set_option maxHeartbeats 4000000 in
set_option maxRecDepth 100000 in
theorem moves_any (w : World) : Calls Tryz.prog 112 #[] w (MovesPost w) := by
  have hmm := @run_makeMap Tryz.prog
  go_enter Tryz.func112, Tryz.ntmps112
  go_wp2
  refine wp_region_any (by kernel_rfl) ?_
  refine wpAny_take (i := 1) (v := mkey 1 false 2) rfl (by kernel_rfl) (by kernel_rfl) (by kernel_rfl) (fun _ _ _ h => h) (Or.inl ⟨by rfl, fun w => by go_simp; rfl⟩) ?_
  refine wpAny_take (i := 3) (v := mkey 1 true 3) rfl (by kernel_rfl) (by kernel_rfl) (by kernel_rfl) (fun _ _ _ h => h) (Or.inl ⟨by rfl, fun w => by go_simp; rfl⟩) ?_
  refine wpAny_take (i := 5) (v := mkey 2 false 2) rfl (by kernel_rfl) (by kernel_rfl) (by kernel_rfl) (fun _ _ _ h => h) (Or.inl ⟨by rfl, fun w => by go_simp; rfl⟩) ?_
  refine wpAny_take (i := 7) (v := mkey 2 true 3) rfl (by kernel_rfl) (by kernel_rfl) (by kernel_rfl) (fun _ _ _ h => h) (Or.inl ⟨by rfl, fun w => by go_simp; rfl⟩) ?_
  refine wpAny_take (i := 9) (v := mkey 2 false 1) rfl (by kernel_rfl) (by kernel_rfl) (by kernel_rfl) (fun _ _ _ h => h) (Or.inl ⟨by rfl, fun w => by go_simp; rfl⟩) ?_
  refine wpAny_take (i := 11) (v := mkey 2 false 4) rfl (by kernel_rfl) (by kernel_rfl) (by kernel_rfl) (fun _ _ _ h => h) (Or.inl ⟨by rfl, fun w => by go_simp; rfl⟩) ?_
  refine wpAny_take (i := 13) (v := mkey 3 false 4) rfl (by kernel_rfl) (by kernel_rfl) (by kernel_rfl) (fun _ _ _ h => h) (Or.inl ⟨by rfl, fun w => by go_simp; rfl⟩) ?_
  refine wpAny_take (i := 15) (v := mkey 3 true 4) rfl (by kernel_rfl) (by kernel_rfl) (by kernel_rfl) (fun _ _ _ h => h) (Or.inl ⟨by rfl, fun w => by go_simp; rfl⟩) ?_
  refine wpAny_take (i := 17) (v := mkey 4 false 4) rfl (by kernel_rfl) (by kernel_rfl) (by kernel_rfl) (fun _ _ _ h => h) (Or.inl ⟨by rfl, fun w => by go_simp; rfl⟩) ?_
  refine wpAny_take (i := 19) (v := mkey 4 true 4) rfl (by kernel_rfl) (by kernel_rfl) (by kernel_rfl) (fun _ _ _ h => h) (Or.inl ⟨by rfl, fun w => by go_simp; rfl⟩) ?_
  refine wpAny_take (i := 21) (v := mkey 5 false 4) rfl (by kernel_rfl) (by kernel_rfl) (by kernel_rfl) (fun _ _ _ h => h) (Or.inl ⟨by rfl, fun w => by go_simp; rfl⟩) ?_
  refine wpAny_take (i := 23) (v := mkey 5 true 4) rfl (by kernel_rfl) (by kernel_rfl) (by kernel_rfl) (fun _ _ _ h => h) (Or.inl ⟨by rfl, fun w => by go_simp; rfl⟩) ?_
  refine wpAny_take (i := 25) (v := mkey 6 false 4) rfl (by kernel_rfl) (by kernel_rfl) (by kernel_rfl) (fun _ _ _ h => h) (Or.inl ⟨by rfl, fun w => by go_simp; rfl⟩) ?_
  refine wpAny_take (i := 27) (v := mkey 6 true 4) rfl (by kernel_rfl) (by kernel_rfl) (by kernel_rfl) (fun _ _ _ h => h) (Or.inl ⟨by rfl, fun w => by go_simp; rfl⟩) ?_
  refine wpAny_ready (rs := [0]) (by kernel_rfl) (by simp) ?_
  refine AllReady.cons rfl (fun K hK => ?_) AllReady.nil
  go_simp
  refine hK _ _ ?_
  clear hK K
  refine wpAny_inserts' (b := w.heap.size) mkey_keyed Tryz.underlying155 litF 2 litL _ (fun _ => none) _ ?_ (by kernel_rfl) ((IsMap.made w _ _).of_block rfl) litF_some litF_none (fun w1 ho hm => ?_)
  · unfold litL
    repeat (refine List.forall_mem_cons.2 ⟨⟨_, _, _, _, rfl, rfl, rfl, rfl, rfl, rfl, rfl, mkey_key _ (by decide) (by decide)⟩, ?_⟩)
    simp
  refine wpAny_take (i := 29) (v := .map (some w.heap.size)) rfl (by kernel_rfl) (by kernel_rfl) (by kernel_rfl) (fun _ _ _ h => h) (Or.inl ⟨by rfl, fun w => by go_simp⟩) ?_
  refine wpAny_take (i := 30) (v := .map (some w.heap.size)) rfl (by kernel_rfl) (by kernel_rfl) (by kernel_rfl) (fun _ _ _ h => h) (Or.inl ⟨by rfl, fun w => by go_simp⟩) ?_
  refine wpAny_done (by kernel_rfl) ?_ _
  have hb1 : Below w.heap.size w w1 := ((Below.refl _ w).alloc (Nat.le_refl _) (.map #[] 0)).drew.trans (ho.below (Nat.le_refl _))
  have hs1 : w1.heap.size = w.heap.size + 1 := by rw [ho.size]; simp
  have hT : HoldsT w1 w.heap.size baseT := ⟨litF, hm, litF_mkey⟩
  have hle : w.heap.size ≤ w.heap.size := Nat.le_refl _
  clear hm ho hmm
  generalize hbb : w.heap.size = b0 at *
  have hbb' := Lib.hid hbb
  clear hbb
  go_wp2
  have hc0 : (w1.alloc (.cells #[.bool false, .bool true] 4)).cell? ⟨b0 + 1, 0, none⟩ = some (.bool false) := by rw [← hs1]; simp
  have hc1 : (w1.alloc (.cells #[.bool false, .bool true] 4)).cell? ⟨b0 + 1, 1, none⟩ = some (.bool true) := by rw [← hs1]; simp
  have hs2 : (w1.alloc (.cells #[.bool false, .bool true] 4)).heap.size = b0 + 2 := by simp [hs1]
  have hT2 : HoldsT (w1.alloc (.cells #[.bool false, .bool true] 4)) b0 (stage 0) := (hT.of_block (Below.heap_alloc _ _ _ (by omega))).congr fun s r k => (stage_zero s r k).symm
  have hb2 : Below b0 w (w1.alloc (.cells #[.bool false, .bool true] 4)) := hb1.alloc (by omega) _
  generalize w1.alloc (.cells #[.bool false, .bool true] 4) = w2 at *
  clear hT hb1 hs1 w1
  go_loopw [24] (fun n wr => ∃ i : Nat, i ≤ 2 ∧ n = .int .i64 i ∧ HoldsT wr b0 (stage i) ∧ Below b0 w wr ∧ wr.heap.size = b0 + 2 ∧ wr.cell? ⟨b0 + 1, 0, none⟩ = some (.bool false) ∧ wr.cell? ⟨b0 + 1, 1, none⟩ = some (.bool true)) (fun n _ => 2 - (intOf n).toNat)
  case atStart => exact ⟨0, by omega, rfl, hT2, hb2, hs2, hc0, hc1⟩
  case round =>
    clear hT2 hb2 hs2 hc0 hc1
    obtain ⟨i, hi, rfl, hT, hb, hs, hc0, hc1⟩ := hrel
    by_cases hi2 : i < 2
    · have hb01 : ∃ b : Bool, ((i = 0 ∧ b = false) ∨ (i = 1 ∧ b = true)) ∧ wr.cell? ⟨b0 + 1, i, none⟩ = some (.bool b) := by
        obtain rfl | rfl : i = 0 ∨ i = 1 := by omega
        · exact ⟨false, .inl ⟨rfl, rfl⟩, hc0⟩
        · exact ⟨true, .inr ⟨rfl, rfl⟩, hc1⟩
      obtain ⟨b, hib, hcb⟩ := hb01
      have hR : Rest w b0 wr := ⟨hb, hs, hc0, hc1⟩
      have hT1 : HoldsT wr b0 (stage1 i b 3) := hT.congr fun s r k => (stage1_start i b s r k).symm
      clear hb hs hc0 hc1 hT
      have hIB := Lib.hid hib
      clear hib
      go_wp2
      go_loopw [4] (fun n wr => ∃ j : Nat, 3 ≤ j ∧ j ≤ 7 ∧ n = .int .i64 j ∧ HoldsT wr b0 (stage1 i b j) ∧ Rest w b0 wr) (fun n _ => 7 - (intOf n).toNat)
      case atStart => exact ⟨3, by omega, by omega, rfl, hT1, hR⟩
      case round =>
        clear hT1 hR hcb
        obtain ⟨j, hj3, hj7, rfl, hT, hR⟩ := hrel
        by_cases hlt : j < 7
        · obtain ⟨o, hrun, hT'⟩ := hT.put (s := (j : Int)) b (k := 1) j (WalkArith.wf_i64 (by omega)) (by decide)
          go_wp2
          go_roundw
          case rel => exact ⟨j + 1, by omega, by omega, by go_num, hT'.congr (stage1_step i b j (by omega)), hR.set o⟩
          case measure => simp [intOf]; omega
        · obtain rfl : j = 7 := by omega
          have hT1 : HoldsT wr b0 (stage2 i b 1) := hT.congr fun s r k => (stage2_start i b s r k).symm
          clear hT
          go_wp2
          go_loopw [5] (fun n wr => ∃ j : Nat, 1 ≤ j ∧ j ≤ 8 ∧ n = .int .i64 j ∧ HoldsT wr b0 (stage2 i b j) ∧ Rest w b0 wr) (fun n _ => 8 - (intOf n).toNat)
          case atStart => exact ⟨1, by omega, by omega, rfl, hT1, hR⟩
          case round =>
            clear hT1 hR
            obtain ⟨j, hj3, hj7, rfl, hT, hR⟩ := hrel
            by_cases hlt : j < 8
            · obtain ⟨o, hrun, hT'⟩ := hT.put (s := (j : Int)) b (k := 5) 7 (WalkArith.wf_i64 (by omega)) (by decide)
              go_wp2
              go_roundw
              case rel => exact ⟨j + 1, by omega, by omega, by go_num, hT'.congr (stage2_step i b j (by omega)), hR.set o⟩
              case measure => simp [intOf]; omega
            · obtain rfl : j = 8 := by omega
              go_wp2
              go_roundw
              case rel => exact ⟨i + 1, by omega, by go_num, hT.congr (stage_next i b hIB.out), hR.1, hR.2.1, hR.2.2.1, hR.2.2.2⟩
              case measure => simp [intOf]; omega
    · obtain rfl : i = 2 := by omega
      go_wp2
      go_ret
      exact ⟨b0, rfl, hT, by rw [hbb'.out]; exact hb⟩
end Go.Proofs.YtahgapkecabnjaaGreatDoor
