/- trace.Next. -/
import Derived.Test.YtpmhlcnnbkicaaaTraceA
import Derived.Test.YtpmhlcnnbkicaaaTraceC
import Derived.Deep.QuietTactic
import Derived.BigQuiet
namespace Go.Proofs.Ytpmhlcnnbkicaaa
set_option linter.unusedSimpArgs false
set_option linter.unusedVariables false
open Go Go.RowKit Go.Maps Go.MapKept

theorem kindF_range (f : Int) : 0 ≤ kindF f ∧ kindF f ≤ 5 := by
  unfold kindF
  repeat' split
  all_goals omega

theorem HoldsT.look {w : World} {b : Nat} {g : Int → Bool → Int → Option Int} (h : HoldsT w b g) {s : Int} (r : Bool) {k : Int} (hs : (Lit.int .i64 s).wf = true) (hk : (Lit.int .i64 k).wf = true) :
    (Instr.lookup 83 (.map (some b)) (.agg #[.int .i64 s, .bool r, .int .i64 k]) true).run Try.prog w = .ok (.tuple #[.int .i64 ((g s r k).getD 0), .bool (g s r k).isSome]) w := by
  obtain ⟨f, hm, hf⟩ := h
  obtain ⟨kl, hkl⟩ := mkey_key r hs hk
  have := hm.lookup mkey_keyed Try.underlying83 (z := .int .i64 0) (by kernel_rfl) hkl true
  rw [hf] at this
  cases hg : g s r k <;> simpa [hg, mkey] using this

def nextF (s : Int) (r : Bool) (f : Int) : Int × Bool := ((stage 2 s r (kindF f)).getD 0, (stage 2 s r (kindF f)).isSome)

def NextPost (s : Int) (r : Bool) (f : Int) (w : World) (e : Ending) (w' : World) : Prop :=
  e = .returned (.tuple #[.int .i64 (nextF s r f).1, .bool (nextF s r f).2]) ∧ Below w.heap.size w w'

set_option maxHeartbeats 1000000 in
theorem next_any (s : Int) (r : Bool) (f : Int) (w : World) (hs : (Lit.int .i64 s).wf = true) :
    Calls Try.prog 18 #[.int .i64 s, .bool r, .int .u8 f] w (NextPost s r f w) := by
  have hk := kindF_range f
  go_enter Try.func18, Try.ntmps18
  go_wp2_with fail
  refine (moves_any _).mono ?_
  rintro e w1 ⟨b, rfl, hT, hb⟩
  have hl := hT.look r (k := kindF f) hs (WalkArith.wf_i64 (by omega))
  go_wp2_with (go_at_call 56; refine (kind_any _ _).mono ?_; rintro e w' ⟨rfl, rfl⟩)
  go_ret2
  exact ⟨rfl, hb⟩

/-! ### The fixed fact and the law's own function -/
theorem openF_syn : openF 2 = (1, true) := by decide
theorem below_then {w w1 w2 : World} (h : Below w.heap.size w w1) (k : Below w1.heap.size w1 w2) : Below w.heap.size w w2 := h.trans (k.mono h.size)

theorem next_val (s : Int) (r : Bool) (f t : Int) (ok : Bool) (w : World) (hs : (Lit.int .i64 s).wf = true) (h : nextF s r f = (t, ok)) :
    Calls Try.prog 18 #[.int .i64 s, .bool r, .int .u8 f] w fun e w' => e = .returned (.tuple #[.int .i64 t, .bool ok]) ∧ Below w.heap.size w w' :=
  (next_any s r f w hs).mono fun e w' hp => by unfold NextPost at hp; rw [h] at hp; exact hp
theorem open_val (f t : Int) (ok : Bool) (w : World) (h : openF f = (t, ok)) :
    Calls Try.prog 16 #[.int .u8 f] w fun e w' => e = .returned (.tuple #[.int .i64 t, .bool ok]) ∧ w' = w :=
  (open_any f w).mono fun e w' hp => by rw [h] at hp; exact hp

set_option maxHeartbeats 1000000 in
theorem awake16_any (w : World) :
    Calls Try.prog 20 #[] w fun e w' => e = .returned (.bool true) ∧ Below w.heap.size w w' := by
  go_enter Try.func20, Try.ntmps20
  go_wp2_with (go_at_call 16; refine (open_val 2 1 true _ (by decide)).mono ?_; rintro e w' ⟨rfl, rfl⟩)
  refine (next_val 1 true 18 2 true _ (by decide) (by decide)).mono ?_
  rintro e w1 ⟨rfl, h1⟩
  go_wp2_with fail
  refine (next_val 2 false 24 3 true _ (by decide) (by decide)).mono ?_
  rintro e w2 ⟨rfl, h2⟩
  go_wp2_with fail
  refine (next_val 3 true 17 5 true _ (by decide) (by decide)).mono ?_
  rintro e w3 ⟨rfl, h3⟩
  go_wp2_with fail
  refine (next_val 5 false 17 6 true _ (by decide) (by decide)).mono ?_
  rintro e w4 ⟨rfl, h4⟩
  go_wp2_with fail
  refine (next_val 1 false 16 0 false _ (by decide) (by decide)).mono ?_
  rintro e w5 ⟨rfl, h5⟩
  go_wp2_with fail
  go_ret
  exact ⟨rfl, below_then (below_then (below_then (below_then h1 h2) h3) h4) h5⟩

/-- The plain law: Next of the program is Next of the reference, state by state. -/
theorem has_eq (f g : Int) : hasF f g = (f / g % 2 == 1) := rfl

theorem moves_law_flags : ∀ f : Fin 256, openF f.val = refOpenF f.val := by decide +kernel
theorem openF_eq (f : Int) (h0 : 0 ≤ f) (h1 : f ≤ 255) : openF f = refOpenF f := by
  obtain ⟨n, rfl⟩ := Int.eq_ofNat_of_zero_le h0
  exact moves_law_flags ⟨n, by omega⟩
theorem next_law_small : ∀ (s : Fin 9) (r : Bool) (f : Fin 256), nextF s.val r f.val = refNextF s.val r f.val := by decide +kernel
theorem stage_out (s : Int) (r : Bool) (k : Int) (h : s < 1 ∨ 7 < s) : stage 2 s r k = none := by
  unfold stage
  rw [if_neg (by omega), if_neg (by omega)]
  simp only [baseT, Option.map_eq_none_iff, List.find?_eq_none, baseL, List.forall_mem_cons, decide_eq_true_eq, Prod.mk.injEq]
  repeat (refine ⟨by omega, ?_⟩)
  simp
theorem nextF_eq (s : Int) (r : Bool) (f : Int) (h0 : 0 ≤ f) (h1 : f ≤ 255) : nextF s r f = refNextF s r f := by
  by_cases hs : s < 1 ∨ 7 < s
  · unfold nextF refNextF
    rw [stage_out s r _ hs, if_pos hs]; rfl
  · obtain ⟨n, rfl⟩ := Int.eq_ofNat_of_zero_le h0
    obtain ⟨m, rfl⟩ := Int.eq_ofNat_of_zero_le (show 0 ≤ s by omega)
    exact next_law_small ⟨m, by omega⟩ r ⟨n, by omega⟩
end Go.Proofs.Ytpmhlcnnbkicaaa
