/- The walks of the laws TraceRuns and TraceShakes. -/
import Derived.Test.YtpmhlcnnbkicaaaTraceE
import Derived.Deep.RegionHeld3
import Derived.ProofKit
import Derived.OpenShut
namespace Go.Proofs.Ytpmhlcnnbkicaaa
set_option linter.unusedSimpArgs false
set_option linter.unusedVariables false
open Go Go.RowKit

/-- A slice of whole numbers that came in. -/
def RdInts (w : World) (k : IntKind) (a : Option Addr) (len : Nat) (zs : List Int) : Prop :=
  zs.length = len ∧ len ≤ maxLen ∧ (∀ j, j < len → ∃ ad, a = some ad ∧ w.cell? (ad.add j) = some (.int k (zs.getD j 0))) ∧ ∀ n ∈ zs, (Lit.int k n).wf = true

theorem RdInts.at_ {w : World} {k : IntKind} {a : Option Addr} {len : Nat} {zs : List Int} (h : RdInts w k a len zs) {j : Nat} (hj : j < len) :
    ∃ ad, a = some ad ∧ w.cell? (ad.add j) = some (.int k (zs.getD j 0)) ∧ (Lit.int k (zs.getD j 0)).wf = true := by
  obtain ⟨h1, _, h3, h4⟩ := h
  obtain ⟨ad, e, hc⟩ := h3 j hj
  refine ⟨ad, e, hc, h4 _ ?_⟩
  rw [List.getD_eq_getElem?_getD, List.getElem?_eq_getElem (by omega)]
  exact List.getElem_mem _

def zReply (z : Int) : Bool := Go.bits .and .u8 z 64 == 64
def zFlags (z : Int) : Int := Go.bits .and .u8 z 63

theorem runs_small : ∀ (s : Fin 8) (z : Fin 256), 1 ≤ s.val → (if (nextF s.val (zReply z.val) (zFlags z.val)).2 = true
    then ((s.val : Int) ≤ (nextF s.val (zReply z.val) (zFlags z.val)).1 ∧ (nextF s.val (zReply z.val) (zFlags z.val)).1 ≤ 7 ∧ ((s.val : Int) < 4 ∨ 4 ≤ (nextF s.val (zReply z.val) (zFlags z.val)).1) ∧ ((s.val : Int) ≠ 7 ∨ Go.bits .and .u8 (z.val : Int) 4 ≠ 0))
    else (nextF s.val (zReply z.val) (zFlags z.val)).1 = 0) := by decide +kernel

theorem runs_law (t z n : Int) (ok : Bool) (ht1 : 1 ≤ t) (ht7 : t ≤ 7) (hz0 : 0 ≤ z) (hz : z ≤ 255) (h : nextF t (zReply z) (zFlags z) = (n, ok)) :
    (ok = true → t ≤ n ∧ n ≤ 7 ∧ (t < 4 ∨ 4 ≤ n) ∧ (t = 7 → (Go.bits .and .u8 z 4 == 0) = false)) ∧ (ok = false → n = 0) := by
  obtain ⟨s, rfl⟩ := Int.eq_ofNat_of_zero_le (show 0 ≤ t by omega)
  obtain ⟨m, rfl⟩ := Int.eq_ofNat_of_zero_le hz0
  have := runs_small ⟨s, by omega⟩ ⟨m, by omega⟩ (by show 1 ≤ s; omega)
  dsimp only at this
  rw [h] at this
  cases ok with
  | true =>
    simp only [if_true] at this
    refine ⟨fun _ => ⟨this.1, this.2.1, this.2.2.1, fun h7 => ?_⟩, fun h => by cases h⟩
    rcases this.2.2.2 with h | h
    · exact absurd h7 h
    · exact beq_eq_false_iff_ne.2 h
  | false =>
    simp only [Bool.false_eq_true, if_false] at this
    exact ⟨fun h => (by cases h), fun _ => this⟩

set_option maxHeartbeats 4000000 in
set_option maxRecDepth 100000 in
theorem traceRuns_walk (a : Option Addr) (len cap : Nat) (zs : List Int) (w : World) (hz : RdInts w .u8 a len zs) :
    Calls Try.prog 4 #[.slice a len cap] w fun e w' => e = .returned (.bool true) ∧ Below w.heap.size w w' := by
  have hlen : len ≤ 9223372036854775807 := hz.2.1
  have HZ := Lib.hid hz
  clear hz
  go_enter Try.func4, Try.ntmps4
  go_wp2_with (go_at_call 16; refine (open_val 2 1 true _ (by decide)).mono ?_; rintro e w' ⟨rfl, rfl⟩)
  go_loopw [3, 5] (fun s n wr => ∃ (t : Int) (j : Nat), 1 ≤ t ∧ t ≤ 7 ∧ j ≤ len ∧ j ≤ 200 ∧ s = .int .i64 t ∧ n = .int .i64 j ∧ Below w'.heap.size w' wr) (fun _ n _ => len - (intOf n).toNat)
  case atStart => exact ⟨1, 0, by omega, by omega, by omega, by omega, rfl, rfl, Below.refl _ _⟩
  case round =>
    obtain ⟨t, j, ht1, ht7, hj, hj2, rfl, rfl, hb⟩ := hrel
    have hout : ∀ wr : World, Below w'.heap.size w' wr → Calls Try.prog 20 #[] wr fun e w2 => e = .returned (.bool true) ∧ Below w'.heap.size w' w2 := fun wr hb =>
      (awake16_any wr).mono fun e w2 ⟨he, h2⟩ => ⟨he, hb.trans (h2.mono hb.size)⟩
    have HO := Lib.hid hout
    clear hout
    by_cases hl1 : j < len
    · by_cases hl2 : j < 200
      · obtain ⟨ad, rfl, hc, hwz⟩ := HZ.out.at_ hl1
        have hcr := (hb.cell (World.block_lt_of_cell? w' _ hc)).trans hc
        clear hc
        generalize zs.getD j 0 = z at hcr hwz
        obtain ⟨hz0, hz1⟩ := wf_u8 hwz
        obtain ⟨n, ok, e⟩ : ∃ n ok, nextF t (zReply z) (zFlags z) = (n, ok) := ⟨_, _, rfl⟩
        obtain ⟨L1, L2⟩ := runs_law t z n ok ht1 ht7 hz0 hz1 e
        have E := Lib.hid e
        clear e hwz
        have HL1 := Lib.hid L1
        have HL2 := Lib.hid L2
        clear L1 L2
        go_wp2
        go_region_held3 (fun w' => w'.cell? (ad.add j) = some (.int .u8 z)) (first | exact hcr | exact hcr1)
          (first | (go_at_call 18; refine (next_val t (zReply z) (zFlags z) n ok _ (WalkArith.wf_i64 (by omega)) E.out).mono ?_; rintro e w1 ⟨rfl, h1⟩; have hcr1 := (h1.cell (World.block_lt_of_cell? _ _ hcr)).trans hcr))
        have hb1 : Below w'.heap.size w' w1 := hb.drew.trans (h1.mono hb.size)
        clear h1 hb hcr
        cases ok with
        | false =>
          obtain rfl := HL2.out rfl
          go_wp2
          go_roundw
          case rel => exact ⟨t, j + 1, ht1, ht7, by omega, by omega, rfl, by go_num, hb1⟩
          case measure => simp [intOf]; omega
        | true =>
          obtain ⟨hn1, hn7, h4, h7⟩ := HL1.out rfl
          by_cases ht4 : 4 ≤ t
          · have hn4 : 4 ≤ n := by omega
            by_cases h77 : t = 7
            · have hb7 := h7 h77
              have ht77 : (t == 7) = true := beq_iff_eq.2 h77
              clear h7 h77
              go_wp2
              go_roundw
              case rel => exact ⟨n, j + 1, by omega, hn7, by omega, by omega, rfl, by go_num, hb1⟩
              case measure => simp [intOf]; omega
            · have ht77 : (t == 7) = false := beq_eq_false_iff_ne.2 h77
              clear h7
              go_wp2
              go_roundw
              case rel => exact ⟨n, j + 1, by omega, hn7, by omega, by omega, rfl, by go_num, hb1⟩
              case measure => simp [intOf]; omega
          · have ht77 : (t == 7) = false := beq_eq_false_iff_ne.2 (by omega)
            clear h7
            go_wp2
            go_roundw
            case rel => exact ⟨n, j + 1, by omega, hn7, by omega, by omega, rfl, by go_num, hb1⟩
            case measure => simp [intOf]; omega
      · go_wp2_with (go_at_call 20; refine (HO.out _ hb).mono ?_; rintro e w2 ⟨rfl, h2⟩)
        go_ret
        exact ⟨rfl, h2⟩
    · go_wp2_with (go_at_call 20; refine (HO.out _ hb).mono ?_; rintro e w2 ⟨rfl, h2⟩)
      go_ret
      exact ⟨rfl, h2⟩

/-- A slice of whole numbers among the arguments, opened. -/
theorem rd_of_open {H : Type} {enc : TypeId × Value → H} {P : Program} {W : World} {base b : Nat} {held : Bool} {t e : TypeId} {k : IntKind} {v : Value} {d : DataW H} {p : List MemPlace}
    (ht : P.underlying t = some (.slice e)) (he : P.underlying e = some (.int k)) (hc : P.cellsOf e = 1) (hv : Value.okWide P W .any base t v) (h : DataW.Trod enc P W b (fun _ => true) held t v d p) :
    ∃ a len cap zs, v = .slice a len cap ∧ RdInts W k a len zs := by
  obtain ⟨a, len, cap, rfl⟩ := WideShapes.okWide_slice ht hv
  obtain ⟨fuel, hf⟩ := h
  rcases ChangeShapes.open_ints ht he hc hf with ⟨hcs, _⟩ | ⟨x, l, c, zs, hcs, _, hl, hm, hz, _, hcell, hwz⟩
  · simp [Value.cells] at hcs
    obtain ⟨rfl, rfl, rfl⟩ := hcs
    exact ⟨none, 0, 0, [], rfl, rfl, by decide, fun j hj => absurd hj (by omega), by simp⟩
  · simp [Value.cells] at hcs
    obtain ⟨rfl, rfl, rfl⟩ := hcs
    have hz' : zs.length = cap := by simpa using hz
    refine ⟨some x, len, cap, zs.take len, rfl, by simp; omega, Nat.le_trans hl hm, fun j hj => ⟨x, rfl, ?_⟩, fun n hn => hwz n (List.mem_of_mem_take hn)⟩
    rw [hcell j (by omega)]
    simp [List.getD_eq_getElem?_getD, List.getElem?_take, hj]
end Go.Proofs.Ytpmhlcnnbkicaaa
