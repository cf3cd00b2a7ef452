/- Walks of fsm.Next, of the reference's Open and Next, and the fixed fact. -/
import Derived.Test.YtpmhlcnnbkicaaaFsmA
namespace Go.Proofs.Ytpmhlcnnbkicaaa
set_option linter.unusedSimpArgs false
set_option linter.unusedVariables false
open Go Go.RowKit

theorem below_box {w w1 : World} {o : Obj} (h : Below (w.alloc o).heap.size (w.alloc o) w1) : Below w.heap.size w w1 :=
  ((Below.refl _ w).alloc (Nat.le_refl _) o).trans (h.mono (by simp))

def fnextF (s : Int) (r : Bool) (p : Pk) : Int × Bool :=
  if (p.proto == 6) = true then nextF s r p.flags
  else if (s == 8) = false ∧ (s == 9) = false then (0, false)
  else if goesF r p = false then (0, false) else if r = true then (9, true) else (s, true)

def PairPost (q : Int × Bool) (w : World) (e : Ending) (w' : World) : Prop := e = .returned (.tuple #[.int .i64 q.1, .bool q.2]) ∧ Below w.heap.size w w'

theorem pair_end {q : Int × Bool} {t : Int} {ok : Bool} {w w' : World} (h : q = (t, ok)) (hb : Below w.heap.size w w') : PairPost q w (.returned (.tuple #[.int .i64 t, .bool ok])) w' := by
  subst h; exact ⟨rfl, hb⟩

set_option maxHeartbeats 2000000 in
theorem fnext_any (s : Int) (r : Bool) (p : Pk) (w : World) (hs : (Lit.int .i64 s).wf = true) :
    Calls Try.prog 23 #[.int .i64 s, .bool r, .agg (pkC p)] w (PairPost (fnextF s r p) w) := by
  by_cases h6 : (p.proto == 6) = true
  · obtain ⟨t, ok, e⟩ : ∃ t ok, nextF s r p.flags = (t, ok) := ⟨_, _, rfl⟩
    have hf : fnextF s r p = (t, ok) := by unfold fnextF; rw [if_pos h6, e]
    have E := Lib.hid e
    have HF := Lib.hid hf
    clear e hf
    unfold pkC
    go_enter Try.func23, Try.ntmps23
    go_wp2_with fail
    refine (next_val s r p.flags t ok _ hs E.out).mono ?_
    rintro e w1 ⟨rfl, h1⟩
    go_wp2_with fail
    go_ret2
    exact pair_end HF.out (below_box h1)
  · have h6 : (p.proto == 6) = false := by simpa using h6
    obtain ⟨g, eg⟩ : ∃ g, goesF r p = g := ⟨_, rfl⟩
    have hf : fnextF s r p = (if (s == 8) = false ∧ (s == 9) = false then (0, false) else if g = false then (0, false) else if r = true then (9, true) else (s, true)) := by unfold fnextF; rw [if_neg (by simp [h6]), eg]
    have HF := Lib.hid hf
    have EG := Lib.hid eg
    clear hf eg
    have goes_val : ∀ W, Calls Try.prog 59 #[.bool r, .agg (pkC p)] W fun e w' => e = .returned (.bool g) ∧ Below W.heap.size W w' := fun W => by
      have := goes_any r p W
      rw [EG.out] at this
      exact this
    have GV := Lib.hid goes_val
    clear goes_val
    unfold pkC
    by_cases h8 : s = 8 ∨ s = 9
    · have hf2 : fnextF s r p = (if g = false then (0, false) else if r = true then (9, true) else (s, true)) := by
        rw [HF.out, if_neg]
        rcases h8 with rfl | rfl <;> simp
      have HF2 := Lib.hid hf2
      clear hf2 HF
      have hb : ((s == 8) = true ∧ (s != 8) = false) ∨ ((s == 9) = true ∧ (s != 9) = false ∧ (s == 8) = false ∧ (s != 8) = true) := by
        rcases h8 with rfl | rfl <;> simp
      clear h8
      rcases hb with ⟨h1, h2⟩ | ⟨h1, h2, h3, h4⟩
      all_goals
        cases g <;> cases r
        all_goals
          go_enter Try.func23, Try.ntmps23
          go_wp2_with fail
          refine (GV.out _).mono ?_
          rintro e w1 ⟨rfl, hw1⟩
          go_wp2_with fail
          go_ret2
          exact pair_end (by rw [HF2.out]; rfl) (below_box hw1)
    · have hf2 : fnextF s r p = (0, false) := by
        rw [HF.out, if_pos]
        simp only [beq_eq_false_iff_ne]
        omega
      have HF2 := Lib.hid hf2
      have h1 : (s == 8) = false := beq_eq_false_iff_ne.2 (by omega)
      have h2 : (s == 9) = false := beq_eq_false_iff_ne.2 (by omega)
      have h3 : (s != 8) = true := by rw [bne_iff_ne]; omega
      have h4 : (s != 9) = true := by rw [bne_iff_ne]; omega
      clear hf2 HF h8
      go_enter Try.func23, Try.ntmps23
      go_wp2_with fail
      go_ret2
      exact pair_end HF2.out ((Below.refl _ _).alloc (Nat.le_refl _) _)

set_option maxHeartbeats 2000000 in
theorem refFopen_any (p : Pk) (w : World) (hf : 0 ≤ p.flags) (hf' : p.flags ≤ 255) :
    Calls Try.prog 22 #[.agg (pkC p)] w (PairPost (fopenF p) w) := by
  by_cases h6 : (p.proto == 6) = true
  · obtain ⟨t, ok, e⟩ : ∃ t ok, openF p.flags = (t, ok) := ⟨_, _, rfl⟩
    have e' : refOpenF p.flags = (t, ok) := by rw [← openF_eq _ hf hf']; exact e
    have hfo : fopenF p = (t, ok) := by unfold fopenF; rw [if_pos h6, e]
    have E := Lib.hid e'
    have HF := Lib.hid hfo
    clear e e' hfo
    unfold pkC
    go_enter Try.func22, Try.ntmps22
    go_wp2_with fail
    refine (refOpen_any p.flags _ hf hf').mono ?_
    rw [E.out]
    rintro e w1 ⟨rfl, rfl⟩
    go_wp2_with fail
    go_ret2
    exact pair_end HF.out ((Below.refl _ _).alloc (Nat.le_refl _) _)
  · have h6 : (p.proto == 6) = false := by simpa using h6
    have hfo : fopenF p = (if (p.proto == 17) = true then (8, true) else if (p.proto == 1) = true then if (p.kind == 8) = true then (8, true) else (0, false) else (0, false)) := by unfold fopenF; rw [if_neg (by simp [h6])]
    have HF := Lib.hid hfo
    clear hfo
    unfold pkC
    go_enter Try.func22, Try.ntmps22
    go_wp2_with fail
    all_goals
      go_ret2
      refine pair_end ?_ ((Below.refl _ _).alloc (Nat.le_refl _) _)
      rw [HF.out]
      go_light
      simp_all

def refFnextF (s : Int) (r : Bool) (p : Pk) : Int × Bool := fnextF s r p

set_option maxHeartbeats 2000000 in
theorem refFnext_any (s : Int) (r : Bool) (p : Pk) (w : World) (hf : 0 ≤ p.flags) (hf' : p.flags ≤ 255) :
    Calls Try.prog 24 #[.int .i64 s, .bool r, .agg (pkC p)] w (PairPost (fnextF s r p) w) := by
  by_cases h6 : (p.proto == 6) = true
  · obtain ⟨t, ok, e⟩ : ∃ t ok, nextF s r p.flags = (t, ok) := ⟨_, _, rfl⟩
    have e' : refNextF s r p.flags = (t, ok) := by rw [← nextF_eq s r _ hf hf']; exact e
    have hfo : fnextF s r p = (t, ok) := by unfold fnextF; rw [if_pos h6, e]
    have E := Lib.hid e'
    have HF := Lib.hid hfo
    clear e e' hfo
    unfold pkC
    go_enter Try.func24, Try.ntmps24
    go_wp2_with fail
    refine (refNext_any s r p.flags _ hf hf').mono ?_
    rw [E.out]
    rintro e w1 ⟨rfl, rfl⟩
    go_wp2_with fail
    go_ret2
    exact pair_end HF.out ((Below.refl _ _).alloc (Nat.le_refl _) _)
  · have h6 : (p.proto == 6) = false := by simpa using h6
    have hfo : fnextF s r p = (if (s == 8) = false ∧ (s == 9) = false then (0, false) else if goesF r p = false then (0, false) else if r = true then (9, true) else (s, true)) := by unfold fnextF; rw [if_neg (by simp [h6])]
    have HF := Lib.hid hfo
    clear hfo
    unfold pkC
    cases r
    all_goals
      go_enter Try.func24, Try.ntmps24
      go_wp2_with fail
      all_goals
        go_ret2
        refine pair_end ?_ ((Below.refl _ _).alloc (Nat.le_refl _) _)
        have hF := HF.out
        clear HF
        go_light
        simp_all [goesF]
end Go.Proofs.Ytpmhlcnnbkicaaa
