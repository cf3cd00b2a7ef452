/- The walk of the law TraceShakes. -/
import Derived.Test.YtpmhlcnnbkicaaaTraceF
import Derived.WalkSmall
namespace Go.Proofs.Ytpmhlcnnbkicaaa
set_option linter.unusedSimpArgs false
set_option linter.unusedVariables false
open Go Go.RowKit

/-- What holds between the steps. -/
def shInv (t : Int) (an sh : Bool) : Bool := (decide (1 ≤ t ∧ t ≤ 7)) && (!(decide (3 ≤ t ∧ t ≤ 6)) || sh) && (!(t == 2) || an)

theorem shakes_small : ∀ (s : Fin 8) (z : Fin 256) (an sh : Bool), shInv s.val an sh = true → (nextF s.val (zReply z.val) (zFlags z.val)).2 = true →
    shInv (nextF s.val (zReply z.val) (zFlags z.val)).1 (an || (zReply z.val && (Go.bits .and .u8 (zFlags z.val) 23 == 18)))
      (sh || ((an || (zReply z.val && (Go.bits .and .u8 (zFlags z.val) 23 == 18))) && !(zReply z.val) && (Go.bits .and .u8 (zFlags z.val) 22 == 16))) = true := by decide +kernel

theorem shakes_law (t z n : Int) (an sh r A S : Bool) (f : Int) (hi : shInv t an sh = true) (hz0 : 0 ≤ z) (hz : z ≤ 255) (hr : (Go.bits .and .u8 z 64 == 64) = r) (hf : Go.bits .and .u8 z 63 = f)
    (hA : (Go.bits .and .u8 f 23 == 18) = A) (hS : (Go.bits .and .u8 f 22 == 16) = S) (h : nextF t r f = (n, true)) :
    shInv n (an || (r && A)) (sh || ((an || (r && A)) && !r && S)) = true := by
  have ht : 1 ≤ t ∧ t ≤ 7 := by simp only [shInv, Bool.and_eq_true, decide_eq_true_eq] at hi; exact hi.1.1
  obtain ⟨s, rfl⟩ := Int.eq_ofNat_of_zero_le (show 0 ≤ t by omega)
  obtain ⟨m, rfl⟩ := Int.eq_ofNat_of_zero_le hz0
  have := shakes_small ⟨s, by omega⟩ ⟨m, by omega⟩ an sh hi
  dsimp only [zReply, zFlags] at this
  rw [hr, hf, hA, hS, h] at this
  exact this rfl

set_option maxHeartbeats 8000000 in
set_option maxRecDepth 100000 in
theorem traceShakes_walk (a : Option Addr) (len cap : Nat) (zs : List Int) (w : World) (hz : RdInts w .u8 a len zs) :
    Calls Try.prog 5 #[.slice a len cap] w fun e w' => e = .returned (.bool true) ∧ Below w.heap.size w w' := by
  have hlen : len ≤ 9223372036854775807 := hz.2.1
  have HZ := Lib.hid hz
  clear hz
  go_enter Try.func5, Try.ntmps5
  go_wp2_with (go_at_call 16; refine (open_val 2 1 true _ (by decide)).mono ?_; rintro e w' ⟨rfl, rfl⟩)
  go_loopw [3, 5, 6, 7] (fun s va vs n wr => ∃ (t : Int) (an sh : Bool) (j : Nat), Hid (shInv t an sh = true) ∧ j ≤ len ∧ j ≤ 200 ∧ s = .int .i64 t ∧ va = .bool an ∧ vs = .bool sh ∧ n = .int .i64 j ∧ Below w'.heap.size w' wr) (fun _ _ _ n _ => len - (intOf n).toNat)
  case atStart => exact ⟨1, false, false, 0, Lib.hid (by decide), by omega, by omega, rfl, rfl, rfl, rfl, Below.refl _ _⟩
  case round =>
    obtain ⟨t, an, sh, j, HI, hj, hj2, rfl, rfl, rfl, rfl, hb⟩ := hrel
    have hout : ∀ wr : World, Below w'.heap.size w' wr → Calls Try.prog 20 #[] wr fun e w2 => e = .returned (.bool true) ∧ Below w'.heap.size w' w2 := fun wr hb =>
      (awake16_any wr).mono fun e w2 ⟨he, h2⟩ => ⟨he, hb.trans (h2.mono hb.size)⟩
    have HO := Lib.hid hout
    clear hout
    by_cases hl1 : j < len
    · by_cases hl2 : j < 200
      · obtain ⟨ad, rfl, hc, hwz⟩ := HZ.out.at_ hl1
        have hcr := (hb.cell (World.block_lt_of_cell? w' _ hc)).trans hc
        clear hc
        generalize zs.getD j 0 = z at hcr hwz
        obtain ⟨hz0, hz1⟩ := wf_u8 hwz
        have ht : 1 ≤ t ∧ t ≤ 7 := by have hi := HI.out; simp only [shInv, Bool.and_eq_true, decide_eq_true_eq] at hi; exact hi.1.1
        obtain ⟨r, hr⟩ : ∃ r, (Go.bits .and .u8 z 64 == 64) = r := ⟨_, rfl⟩
        obtain ⟨f, hf⟩ : ∃ f, Go.bits .and .u8 z 63 = f := ⟨_, rfl⟩
        obtain ⟨A, hA⟩ : ∃ A, (Go.bits .and .u8 f 23 == 18) = A := ⟨_, rfl⟩
        obtain ⟨S, hS⟩ : ∃ S, (Go.bits .and .u8 f 22 == 16) = S := ⟨_, rfl⟩
        obtain ⟨n, ok, e⟩ : ∃ n ok, nextF t r f = (n, ok) := ⟨_, _, rfl⟩
        have L : ok = true → shInv n (an || (r && A)) (sh || ((an || (r && A)) && !r && S)) = true := fun h => shakes_law t z n an sh r A S f HI.out hz0 hz1 hr hf hA hS (h ▸ e)
        have E := Lib.hid e
        have HL := Lib.hid L
        clear e hwz L
        go_wp2
        go_quiet (fail)
        cases ok with
        | false =>
          go_wp2_with (go_at_call 18; refine (next_val t r f n false _ (WalkArith.wf_i64 (by omega)) E.out).mono ?_; rintro e w1 ⟨rfl, h1⟩)
          have hb1 : Below w'.heap.size w' w1 := (below_drewN hb nq).trans (h1.mono hb.size)
          go_roundw
          case rel => exact ⟨t, an, sh, j + 1, HI, by omega, by omega, rfl, rfl, rfl, by go_num, hb1⟩
          case measure => simp [intOf]; omega
        | true =>
          have HL1 := Lib.hid (HL.out rfl)
          have HB := Lib.hid hb
          clear HL HI
          cases an <;> cases sh <;> cases r <;> cases A <;> cases S
          all_goals
            have h3 := HL1.out
            simp only [shInv, Bool.and_eq_true, Bool.or_eq_true, Bool.not_eq_true', decide_eq_true_eq, decide_eq_false_iff_not, beq_eq_false_iff_ne, Bool.true_or, Bool.false_or, Bool.or_true, Bool.or_false, Bool.true_and, Bool.and_true, Bool.false_and, Bool.and_false, Bool.not_true, Bool.not_false, Bool.false_eq_true, or_false, or_true, and_true] at h3
            have H3 := Lib.hid h3
            clear h3
            go_wp2_with (go_at_call 18; refine (next_val t _ f n true _ (WalkArith.wf_i64 (by omega)) E.out).mono ?_; rintro e w1 ⟨rfl, h1⟩)
            all_goals
              first
                | (go_roundw
                   case rel => exact ⟨n, _, _, j + 1, HL1, by omega, by omega, rfl, rfl, rfl, by go_num, (below_drewN HB.out nq).trans (h1.mono HB.out.size)⟩
                   case measure => simp [intOf]; omega)
                | (obtain rfl : n = 2 := by assumption
                   go_roundw
                   case rel => exact ⟨2, _, _, j + 1, HL1, by omega, by omega, rfl, rfl, rfl, by go_num, (below_drewN HB.out nq).trans (h1.mono HB.out.size)⟩
                   case measure => simp [intOf]; omega)
                | (exfalso; have h3 := H3.out; omega)
      · go_wp2_with (go_at_call 20; refine (HO.out _ hb).mono ?_; rintro e w2 ⟨rfl, h2⟩)
        go_ret
        exact ⟨rfl, h2⟩
    · go_wp2_with (go_at_call 20; refine (HO.out _ hb).mono ?_; rintro e w2 ⟨rfl, h2⟩)
      go_ret
      exact ⟨rfl, h2⟩
end Go.Proofs.Ytpmhlcnnbkicaaa
