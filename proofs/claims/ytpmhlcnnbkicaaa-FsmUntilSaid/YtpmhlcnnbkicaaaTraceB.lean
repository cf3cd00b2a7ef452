/- The walk of trace.moves: a map's literal in any order, then two loops that store. -/
import Derived.Test.YtpmhlcnnbkicaaaMapF
import Derived.RegionTactic
import Derived.DeepKeys4
import Derived.Test.YtpmhlcnnbkicaaaProg
import Derived.Outline
namespace Go.Proofs.Ytpmhlcnnbkicaaa
set_option linter.unusedSimpArgs false
set_option linter.unusedVariables false
open Go Go.RowKit Go.Maps Go.MapKept
open Go.ChangeMaps (setBlock)

def mkey (s : Int) (r : Bool) (k : Int) : Value := .agg #[.int .i64 s, .bool r, .int .i64 k]

theorem mkey_keyed : Keyed Try.prog 86 := Keyed.of_law (deep_law_laid (by kernel_rfl) (m := 3) (by decide) (of_decide_eq_true (by kernel_rfl)) (by kernel_rfl) (by kernel_rfl))

theorem types_pos : (Try.prog.types.size != 0) = true := by kernel_rfl
theorem cells_int : Try.prog.cellsOf 3 = 1 := by kernel_rfl
theorem cells_bool : Try.prog.cellsOf 4 = 1 := by kernel_rfl
theorem cells_move : Try.prog.cellsOf 86 = 3 := by kernel_rfl
theorem keyType_move : Try.prog.keyType 86 = true := by kernel_rfl

theorem mkey_key {s k : Int} (r : Bool) (hs : (Lit.int .i64 s).wf = true) (hk : (Lit.int .i64 k).wf = true) : ∃ kl, keyOf Try.prog 86 (mkey s r k) = some kl :=
  ⟨_, keyOf_wide (by rw [Try.underlying86]) keyType_move (by simp [mkey, Value.formed, Try.underlying86, cells_move]) types_pos
    (ls := [.int .i64 s, .bool r, .int .i64 k]) fun m => by
      simp [mkey, Value.cells, Program.keyLits, cells_move, cells_int, cells_bool, Try.underlying86, Try.underlying3, Try.underlying4, hs, hk]⟩

/-- The literal's table. -/
def baseL : List ((Int × Bool × Int) × Int) := [((1, false, 2), 1), ((1, true, 3), 2), ((2, false, 2), 2), ((2, true, 3), 2), ((2, false, 1), 3), ((2, false, 4), 4), ((3, false, 4), 4), ((3, true, 4), 5), ((4, false, 4), 4), ((4, true, 4), 6), ((5, false, 4), 6), ((5, true, 4), 5), ((6, false, 4), 6), ((6, true, 4), 6)]
def baseT (s : Int) (r : Bool) (k : Int) : Option Int := (baseL.find? fun x => decide (x.1 = (s, r, k))).map (·.2)

/-- Block b is a map that holds just the table g. -/
def HoldsT (w : World) (b : Nat) (g : Int → Bool → Int → Option Int) : Prop := ∃ f, IsMap w Try.prog 86 b f ∧ ∀ s r k, f (mkey s r k) = (g s r k).map (.int .i64)

def litL : List (Nat × Value × Value) := [(2, mkey 1 false 2, .int .i64 1), (4, mkey 1 true 3, .int .i64 2), (6, mkey 2 false 2, .int .i64 2), (8, mkey 2 true 3, .int .i64 2), (10, mkey 2 false 1, .int .i64 3), (12, mkey 2 false 4, .int .i64 4), (14, mkey 3 false 4, .int .i64 4), (16, mkey 3 true 4, .int .i64 5), (18, mkey 4 false 4, .int .i64 4), (20, mkey 4 true 4, .int .i64 6), (22, mkey 5 false 4, .int .i64 6), (24, mkey 5 true 4, .int .i64 5), (26, mkey 6 false 4, .int .i64 6), (28, mkey 6 true 4, .int .i64 6)]
open Classical in
noncomputable def litF : Value → Option Value := fun v => (baseL.find? fun x => decide (mkey x.1.1 x.1.2.1 x.1.2.2 = v)).map fun x => .int .i64 x.2
theorem mkey_inj {s r k s' r' k'} : mkey s r k = mkey s' r' k' ↔ s = s' ∧ r = r' ∧ k = k' := by simp [mkey]
theorem litF_mkey (s : Int) (r : Bool) (k : Int) : litF (mkey s r k) = (baseT s r k).map (.int .i64) := by
  classical
  unfold litF baseT
  have : (fun x : (Int × Bool × Int) × Int => decide (mkey x.1.1 x.1.2.1 x.1.2.2 = mkey s r k)) = fun x => decide (x.1 = (s, r, k)) := by
    funext x
    obtain ⟨⟨a, b, c⟩, d⟩ := x
    rw [decide_eq_decide]
    simp [mkey_inj]
  rw [Option.map_map, this]
  rfl
theorem litF_some : ∀ x ∈ litL, litF x.2.1 = some x.2.2 := by
  unfold litL
  repeat (refine List.forall_mem_cons.2 ⟨by show litF (mkey _ _ _) = _; rw [litF_mkey]; rfl, ?_⟩)
  simp
theorem litF_none (v : Value) (h : ∀ x ∈ litL, v ≠ x.2.1) : litF v = none := by
  unfold litF
  rw [Option.map_eq_none_iff, List.find?_eq_none]
  simp only [litL, List.forall_mem_cons] at h
  simp only [baseL, List.forall_mem_cons, decide_eq_true_eq]
  simp only [ne_eq, eq_comm (a := v)] at h
  simpa using h
/-- The table behind i rounds over the replies. -/
def done_ (i : Nat) (r : Bool) : Bool := if r then decide (2 ≤ i) else decide (1 ≤ i)
def stage (i : Nat) (s : Int) (r : Bool) (k : Int) : Option Int :=
  if k = 1 ∧ 3 ≤ s ∧ s ≤ 6 ∧ done_ i r = true then some s else if k = 5 ∧ 1 ≤ s ∧ s ≤ 7 ∧ done_ i r = true then some 7 else baseT s r k
def stage1 (i : Nat) (b : Bool) (j : Int) (s : Int) (r : Bool) (k : Int) : Option Int := if k = 1 ∧ 3 ≤ s ∧ s < j ∧ r = b then some s else stage i s r k
def stage2 (i : Nat) (b : Bool) (j : Int) (s : Int) (r : Bool) (k : Int) : Option Int := if k = 5 ∧ 1 ≤ s ∧ s < j ∧ r = b then some 7 else stage1 i b 7 s r k
theorem stage_zero (s : Int) (r : Bool) (k : Int) : stage 0 s r k = baseT s r k := by
  have h : done_ 0 r = false := by cases r <;> rfl
  unfold stage; rw [if_neg (by simp [h]), if_neg (by simp [h])]
theorem stage1_start (i : Nat) (b : Bool) (s : Int) (r : Bool) (k : Int) : stage1 i b 3 s r k = stage i s r k := by
  unfold stage1; rw [if_neg (by omega)]
theorem stage2_start (i : Nat) (b : Bool) (s : Int) (r : Bool) (k : Int) : stage2 i b 1 s r k = stage1 i b 7 s r k := by
  unfold stage2; rw [if_neg (by omega)]
theorem stage1_step (i : Nat) (b : Bool) (j : Int) (hj : 3 ≤ j) (s : Int) (r : Bool) (k : Int) : (if s = j ∧ r = b ∧ k = 1 then some j else stage1 i b j s r k) = stage1 i b (j + 1) s r k := by
  unfold stage1
  by_cases h : s = j ∧ r = b ∧ k = 1
  · obtain ⟨rfl, rfl, rfl⟩ := h
    rw [if_pos ⟨rfl, rfl, rfl⟩, if_pos ⟨rfl, hj, by omega, rfl⟩]
  · rw [if_neg h]
    by_cases h2 : k = 1 ∧ 3 ≤ s ∧ s < j ∧ r = b
    · rw [if_pos h2, if_pos ⟨h2.1, h2.2.1, by omega, h2.2.2.2⟩]
    · rw [if_neg h2, if_neg]
      rintro ⟨h3, h4, h5, h6⟩
      by_cases hs : s = j
      · exact h ⟨hs, h6, h3⟩
      · exact h2 ⟨h3, h4, by omega, h6⟩
theorem stage2_step (i : Nat) (b : Bool) (j : Int) (hj : 1 ≤ j) (s : Int) (r : Bool) (k : Int) : (if s = j ∧ r = b ∧ k = 5 then some 7 else stage2 i b j s r k) = stage2 i b (j + 1) s r k := by
  unfold stage2
  by_cases h : s = j ∧ r = b ∧ k = 5
  · obtain ⟨rfl, rfl, rfl⟩ := h
    rw [if_pos ⟨rfl, rfl, rfl⟩, if_pos ⟨rfl, hj, by omega, rfl⟩]
  · rw [if_neg h]
    by_cases h2 : k = 5 ∧ 1 ≤ s ∧ s < j ∧ r = b
    · rw [if_pos h2, if_pos ⟨h2.1, h2.2.1, by omega, h2.2.2.2⟩]
    · rw [if_neg h2, if_neg]
      rintro ⟨h3, h4, h5, h6⟩
      by_cases hs : s = j
      · exact h ⟨hs, h6, h3⟩
      · exact h2 ⟨h3, h4, by omega, h6⟩
theorem stage_next (i : Nat) (b : Bool) (hb : (i = 0 ∧ b = false) ∨ (i = 1 ∧ b = true)) (s : Int) (r : Bool) (k : Int) : stage2 i b 8 s r k = stage (i + 1) s r k := by
  unfold stage2 stage1 stage
  rcases hb with ⟨rfl, rfl⟩ | ⟨rfl, rfl⟩ <;> cases r <;> simp [done_] <;>
  · by_cases hk : k = 1
    · subst hk; simp; repeat' split
      all_goals first | rfl | omega
    · by_cases hk5 : k = 5
      · subst hk5; simp; repeat' split
        all_goals first | rfl | omega
      · simp [hk, hk5]

theorem HoldsT.congr {w : World} {b : Nat} {g g' : Int → Bool → Int → Option Int} (h : HoldsT w b g) (e : ∀ s r k, g s r k = g' s r k) : HoldsT w b g' := by
  obtain ⟨f, hm, hf⟩ := h
  exact ⟨f, hm, fun s r k => by rw [hf, e]⟩
theorem HoldsT.of_block {w w' : World} {b : Nat} {g : Int → Bool → Int → Option Int} (h : HoldsT w b g) (e : w'.heap[b]? = w.heap[b]?) : HoldsT w' b g := by
  obtain ⟨f, hm, hf⟩ := h
  exact ⟨f, hm.of_block e, hf⟩
theorem HoldsT.put {w : World} {b : Nat} {g : Int → Bool → Int → Option Int} (h : HoldsT w b g) {s : Int} (r : Bool) {k : Int} (v : Int) (hs : (Lit.int .i64 s).wf = true) (hk : (Lit.int .i64 k).wf = true) :
    ∃ o, (Instr.mapUpdate 83 (.map (some b)) (.agg #[.int .i64 s, .bool r, .int .i64 k]) (.int .i64 v)).run Try.prog w = .ok () (setBlock w b o) ∧
      HoldsT (setBlock w b o) b (fun s' r' k' => if s' = s ∧ r' = r ∧ k' = k then some v else g s' r' k') := by
  obtain ⟨f, hm, hf⟩ := h
  obtain ⟨kl, hkl⟩ := mkey_key r hs hk
  obtain ⟨o, hrun, hm'⟩ := hm.update mkey_keyed Try.underlying83 hkl (.int .i64 v)
  refine ⟨o, hrun, _, hm', fun s' r' k' => ?_⟩
  by_cases he : s' = s ∧ r' = r ∧ k' = k
  · obtain ⟨rfl, rfl, rfl⟩ := he
    rw [upd_same]; dsimp only; rw [if_pos ⟨rfl, rfl, rfl⟩]; rfl
  · rw [upd_other _ _ (fun h => he (mkey_inj.1 h))]; dsimp only; rw [if_neg he, hf]

end Go.Proofs.Ytpmhlcnnbkicaaa
