/- The walk of RaceOrders. Printed by gen_races.py. -/
import Derived.Test.YtccbiolgdamnpaaRaceQ
namespace Go.Proofs.Ytccbiolgdamnpaa
set_option linter.unusedSimpArgs false
set_option linter.unusedVariables false
open Go Go.RowKit

theorem wf_u8 {z : Int} (h : (Lit.int .u8 z).wf = true) : 0 ≤ z ∧ z ≤ 255 := by
  have h2 : IntKind.u8.min ≤ z ∧ z ≤ IntKind.u8.max := by simpa [Lit.wf] using h
  exact ⟨(show IntKind.u8.min = 0 from rfl) ▸ h2.1, (show IntKind.u8.max = 255 from rfl) ▸ h2.2⟩
theorem rem_nat {z : Int} (h : 0 ≤ z ∧ z ≤ 255) {n : Nat} (hn : 0 < n) : ∃ x : Nat, z.tmod (n : Int) = x ∧ x < n := by
  obtain ⟨k, rfl⟩ := Int.eq_ofNat_of_zero_le h.1
  refine ⟨k % n, ?_, Nat.mod_lt _ hn⟩
  rw [Int.tmod_eq_emod_of_nonneg (by omega)]; omega
theorem before_trans {L : List Ac} {x y z : Nat} (hz : z < L.length) (h1 : beforeB L x y = true) (h2 : beforeB L y z = true) : beforeB L x z = true := by
  rw [beforeB_iff, Int.toNat_natCast, Int.toNat_natCast] at *
  exact ⟨by omega, by omega, by omega, h1.2.2.2.trans h2.2.2.2⟩
theorem before_thread {L : List Ac} {x y : Nat} (h : x < y) (hy : y < L.length) (ht : (ac L x).th = (ac L y).th) : beforeB L x y = true := by
  rw [beforeB_yes h hy, hbB_iff]; exact HB.one h (rt_iff.2 (.inl ht))
theorem before_lt {L : List Ac} {x y : Nat} (h : ¬ x < y) : beforeB L x y = false := beforeB_no (.inr (.inl (by omega)))

set_option maxHeartbeats 4000000 in
set_option maxRecDepth 100000 in
theorem raceOrders_walk (s : Option Addr) (len cap : Nat) (a b c : Int) (w : World) (hz : RdLog w s len cap) (ha : (Lit.int .u8 a).wf = true) (hb : (Lit.int .u8 b).wf = true) (hc : (Lit.int .u8 c).wf = true) :
    Calls Try.prog 4 #[.slice s len cap, .int .u8 a, .int .u8 b, .int .u8 c] w fun e w' => e = .returned (.bool true) ∧ Below w.heap.size w w' := by
  have HZ := Lib.hid hz
  clear hz
  go_enter Try.func4, Try.ntmps4
  go_wp2_with fail
  refine (short_any s len cap w HZ.out.le HZ.out.cap HZ.out.some_).mono ?_
  rintro e w1 ⟨rfl, hw⟩
  rw [hw]
  clear hw w1
  obtain ⟨L, hl, h60, hL⟩ := HZ.out.short
  have HL := Lib.hid hL
  rw [hl]
  clear hL hl HZ
  by_cases h0 : L.length = 0
  · rw [h0]
    go_wp2_with fail
    refine (awake_any w).mono ?_
    rintro e w3 ⟨rfl, hb3⟩
    have HB3 := Lib.hid hb3
    clear hb3
    go_wp2_with fail
    go_ret
    exact ⟨rfl, HB3.out⟩
  obtain ⟨a0, a1⟩ := wf_u8 ha
  obtain ⟨b0, b1⟩ := wf_u8 hb
  obtain ⟨c0, c1⟩ := wf_u8 hc
  obtain ⟨x, ex, hx⟩ := rem_nat ⟨a0, a1⟩ (n := L.length) (by omega)
  obtain ⟨y, ey, hy⟩ := rem_nat ⟨b0, b1⟩ (n := L.length) (by omega)
  obtain ⟨z, ez, hzL⟩ := rem_nat ⟨c0, c1⟩ (n := L.length) (by omega)
  have hne : ((L.length : Int) == 0) = false := beq_eq_false_iff_ne.2 (by omega)
  have hne2 : ¬ ((L.length : Int) = 0) := by omega
  have wa : IntKind.i64.wrap a = a := IntWalk.i64_in _ (by omega)
  have wb : IntKind.i64.wrap b = b := IntWalk.i64_in _ (by omega)
  have wc : IntKind.i64.wrap c = c := IntWalk.i64_in _ (by omega)
  have wx : IntKind.i64.wrap (x : Int) = x := IntWalk.i64_in _ (by omega)
  have wy : IntKind.i64.wrap (y : Int) = y := IntWalk.i64_in _ (by omega)
  have wz : IntKind.i64.wrap (z : Int) = z := IntWalk.i64_in _ (by omega)
  clear ha hb hc
  go_wp2_with fail
  refine WQ.enter w (Since.refl _) (by kernel_rfl) (by kernel_rfl) ?_
  refine WQ.val (by rfl) (fun v hv => by go_simp; first | done | with_reducible rfl | (rw [if_neg (by omega)])) ?_; simp only [Act.put, List.setIfInBounds_toArray, List.set_cons_zero, List.set_cons_succ]
  refine WQ.val (by rfl) (fun v hv => by go_simp; first | done | with_reducible rfl | (rw [if_neg (by omega)])) ?_; simp only [Act.put, List.setIfInBounds_toArray, List.set_cons_zero, List.set_cons_succ]
  refine WQ.val (by rfl) (fun v hv => by go_simp; first | done | with_reducible rfl | (rw [if_neg (by omega)])) ?_; simp only [Act.put, List.setIfInBounds_toArray, List.set_cons_zero, List.set_cons_succ]
  refine WQ.val (by rfl) (fun v hv => by go_simp; first | done | with_reducible rfl | (rw [if_neg (by omega)])) ?_; simp only [Act.put, List.setIfInBounds_toArray, List.set_cons_zero, List.set_cons_succ]
  refine WQ.val (by rfl) (fun v hv => by go_simp; first | done | with_reducible rfl | (rw [if_neg (by omega)])) ?_; simp only [Act.put, List.setIfInBounds_toArray, List.set_cons_zero, List.set_cons_succ]
  refine WQ.val (by rfl) (fun v hv => by go_simp; first | done | with_reducible rfl | (rw [if_neg (by omega)])) ?_; simp only [Act.put, List.setIfInBounds_toArray, List.set_cons_zero, List.set_cons_succ]
  refine WQ.val (by rfl) (fun v hv => by go_simp; first | done | with_reducible rfl | (rw [if_neg (by omega)])) ?_; simp only [Act.put, List.setIfInBounds_toArray, List.set_cons_zero, List.set_cons_succ]
  refine WQ.val (by rfl) (fun v hv => by go_simp; first | done | with_reducible rfl | (rw [if_neg (by omega)])) ?_; simp only [Act.put, List.setIfInBounds_toArray, List.set_cons_zero, List.set_cons_succ]
  refine WQ.val (by rfl) (fun v hv => by go_simp; first | done | with_reducible rfl | (rw [if_neg (by omega)])) ?_; simp only [Act.put, List.setIfInBounds_toArray, List.set_cons_zero, List.set_cons_succ]
  refine WQ.val (by rfl) (fun v hv => by go_simp; first | done | with_reducible rfl | (rw [if_neg (by omega)])) ?_; simp only [Act.put, List.setIfInBounds_toArray, List.set_cons_zero, List.set_cons_succ]
  refine WQ.val (by rfl) (fun v hv => by go_simp; first | done | with_reducible rfl | (rw [if_neg (by omega)])) ?_; simp only [Act.put, List.setIfInBounds_toArray, List.set_cons_zero, List.set_cons_succ]
  refine WQ.val (by rfl) (fun v hv => by go_simp; first | done | with_reducible rfl | (rw [if_neg (by omega)])) ?_; simp only [Act.put, List.setIfInBounds_toArray, List.set_cons_zero, List.set_cons_succ]
  refine WQ.val (by rfl) (fun v hv => by go_simp; first | done | with_reducible rfl | (rw [if_neg (by omega)])) ?_; simp only [Act.put, List.setIfInBounds_toArray, List.set_cons_zero, List.set_cons_succ]
  refine WQ.val (by rfl) (fun v hv => by go_simp; first | done | with_reducible rfl | (rw [if_neg (by omega)])) ?_; simp only [Act.put, List.setIfInBounds_toArray, List.set_cons_zero, List.set_cons_succ]
  refine WQ.val (by rfl) (fun v hv => by go_simp; first | done | with_reducible rfl | (rw [if_neg (by omega)])) ?_; simp only [Act.put, List.setIfInBounds_toArray, List.set_cons_zero, List.set_cons_succ]
  refine WQ.val (by rfl) (fun v hv => by go_simp; first | done | with_reducible rfl | (rw [if_neg (by omega)])) ?_; simp only [Act.put, List.setIfInBounds_toArray, List.set_cons_zero, List.set_cons_succ]
  refine WQ.val (by rfl) (fun v hv => by go_simp; first | done | with_reducible rfl | (rw [if_neg (by omega)])) ?_; simp only [Act.put, List.setIfInBounds_toArray, List.set_cons_zero, List.set_cons_succ]
  refine WQ.val (by rfl) (fun v hv => by go_simp; first | done | with_reducible rfl | (rw [if_neg (by omega)])) ?_; simp only [Act.put, List.setIfInBounds_toArray, List.set_cons_zero, List.set_cons_succ]
  refine WQ.done ?_
  intro w0 hw0
  have HB0 : Hid (Below w.heap.size w w0) := Lib.hid hw0
  clear hw0 wa wb wc wx wy wz a0 a1 b0 b1 c0 c1 ex ey ez hne hne2
  have hx1 : (x : Int) < (L.length : Int) := by omega
  have hy1 : (y : Int) < (L.length : Int) := by omega
  by_cases hxy : x < y
  · have hxi : (x : Int) < (y : Int) := by omega
    by_cases hth : (ac L x).th = (ac L y).th
    · have HTH := Lib.hid hth
      have HXY := Lib.hid (before_thread hxy hy hth)
      clear hth
      rcases hyz : beforeB L y z with _ | _
      · have HYZ := Lib.hid hyz
        clear hyz
        go_wp2_with fail
        refine (before_is (L := L) (x := (x : Int)) (y := (y : Int)) (HL.out.below HB0.out (Nat.le_refl _)) (by omega) rfl HXY.out).mono ?_
        rintro e w1 ⟨rfl, hb1⟩
        have HB1 := Lib.hid (HB0.out.trans (hb1.mono HB0.out.size))
        clear hb1
        go_wp2_with fail
        refine (before_is (L := L) (x := (y : Int)) (y := (z : Int)) (HL.out.below HB1.out (Nat.le_refl _)) (by omega) rfl HYZ.out).mono ?_
        rintro e w2 ⟨rfl, hb2⟩
        have HB2 := Lib.hid (HB1.out.trans (hb2.mono HB1.out.size))
        clear hb2
        go_wp2_with fail
        have hl5 := (HL.out.below HB2.out (Nat.le_refl _))
        generalize hg5 : w2 = w5 at *
        have HL5 := Lib.hid hl5
        clear hl5 hg5
        have hcon : ∀ v, Since w5 v → Calls Try.prog 10 #[.slice s L.length cap, .int .i64 x, .int .i64 y] v fun e w' => e = .returned (.bool true) ∧ Below v.heap.size v w' := fun v hv => before_is (L := L) (HL5.out.below hv (Nat.le_refl _)) (by omega) rfl HXY.out
        obtain ⟨_, ad, hs1, c0, _, _⟩ := HL5.out.at_ x (by omega)
        obtain ⟨_, ad', hs2, d0, _, _⟩ := HL5.out.at_ y (by omega)
        obtain rfl := Option.some.inj (hs1.symm.trans hs2)
        subst hs1
        clear hs2
        generalize (ac L x).th = xt at *
        generalize (ac L y).th = yt at *
        obtain rfl := HTH.out
        refine WQ.enter w5 (Since.refl _) (by kernel_rfl) (by kernel_rfl) ?_
        refine WQ.val (by rfl) (fun v hv => by have k0 := hv.cell c0; have k1 := hv.cell d0; go_simp; first | done | with_reducible rfl | (rw [if_neg (by omega)])) ?_; simp only [Act.put, List.setIfInBounds_toArray, List.set_cons_zero, List.set_cons_succ]
        refine WQ.val (by rfl) (fun v hv => by have k0 := hv.cell c0; have k1 := hv.cell d0; go_simp; first | done | with_reducible rfl | (rw [if_neg (by omega)])) ?_; simp only [Act.put, List.setIfInBounds_toArray, List.set_cons_zero, List.set_cons_succ]
        refine WQ.val (by rfl) (fun v hv => by have k0 := hv.cell c0; have k1 := hv.cell d0; go_simp; first | done | with_reducible rfl | (rw [if_neg (by omega)])) ?_; simp only [Act.put, List.setIfInBounds_toArray, List.set_cons_zero, List.set_cons_succ]
        refine WQ.val (by rfl) (fun v hv => by have k0 := hv.cell c0; have k1 := hv.cell d0; go_simp; first | done | with_reducible rfl | (rw [if_neg (by omega)])) ?_; simp only [Act.put, List.setIfInBounds_toArray, List.set_cons_zero, List.set_cons_succ]
        refine WQ.val (by rfl) (fun v hv => by have k0 := hv.cell c0; have k1 := hv.cell d0; go_simp; first | done | with_reducible rfl | (rw [if_neg (by omega)])) ?_; simp only [Act.put, List.setIfInBounds_toArray, List.set_cons_zero, List.set_cons_succ]
        refine WQ.val (by rfl) (fun v hv => by have k0 := hv.cell c0; have k1 := hv.cell d0; go_simp; first | done | with_reducible rfl | (rw [if_neg (by omega)])) ?_; simp only [Act.put, List.setIfInBounds_toArray, List.set_cons_zero, List.set_cons_succ]
        refine WQ.val (by rfl) (fun v hv => by have k0 := hv.cell c0; have k1 := hv.cell d0; go_simp; first | done | with_reducible rfl | (rw [if_neg (by omega)])) ?_; simp only [Act.put, List.setIfInBounds_toArray, List.set_cons_zero, List.set_cons_succ]
        refine WQ.val (by rfl) (fun v hv => by have k0 := hv.cell c0; have k1 := hv.cell d0; go_simp; first | done | with_reducible rfl | (rw [if_neg (by omega)])) ?_; simp only [Act.put, List.setIfInBounds_toArray, List.set_cons_zero, List.set_cons_succ]
        refine WQ.val (by rfl) (fun v hv => by have k0 := hv.cell c0; have k1 := hv.cell d0; go_simp; first | done | with_reducible rfl | (rw [if_neg (by omega)])) ?_; simp only [Act.put, List.setIfInBounds_toArray, List.set_cons_zero, List.set_cons_succ]
        refine WQ.val (by rfl) (fun v hv => by have k0 := hv.cell c0; have k1 := hv.cell d0; go_simp; first | done | with_reducible rfl | (rw [if_neg (by omega)])) ?_; simp only [Act.put, List.setIfInBounds_toArray, List.set_cons_zero, List.set_cons_succ]
        refine WQ.val (by rfl) (fun v hv => by have k0 := hv.cell c0; have k1 := hv.cell d0; go_simp; first | done | with_reducible rfl | (rw [if_neg (by omega)])) ?_; simp only [Act.put, List.setIfInBounds_toArray, List.set_cons_zero, List.set_cons_succ]
        refine WQ.val (by rfl) (fun v hv => by have k0 := hv.cell c0; have k1 := hv.cell d0; go_simp; first | done | with_reducible rfl | (rw [if_neg (by omega)])) ?_; simp only [Act.put, List.setIfInBounds_toArray, List.set_cons_zero, List.set_cons_succ]
        refine WQ.val (by rfl) (fun v hv => by have k0 := hv.cell c0; have k1 := hv.cell d0; go_simp; first | done | with_reducible rfl | (rw [if_neg (by omega)])) ?_; simp only [Act.put, List.setIfInBounds_toArray, List.set_cons_zero, List.set_cons_succ]
        refine WQ.val (by rfl) (fun v hv => by have k0 := hv.cell c0; have k1 := hv.cell d0; go_simp; first | done | with_reducible rfl | (rw [if_neg (by omega)])) ?_; simp only [Act.put, List.setIfInBounds_toArray, List.set_cons_zero, List.set_cons_succ]
        refine WQ.val (by rfl) (fun v hv => by have k0 := hv.cell c0; have k1 := hv.cell d0; go_simp; first | done | with_reducible rfl | (rw [if_neg (by omega)])) ?_; simp only [Act.put, List.setIfInBounds_toArray, List.set_cons_zero, List.set_cons_succ]
        refine WQ.val (by rfl) (fun v hv => by have k0 := hv.cell c0; have k1 := hv.cell d0; go_simp; first | done | with_reducible rfl | (rw [if_neg (by omega)])) ?_; simp only [Act.put, List.setIfInBounds_toArray, List.set_cons_zero, List.set_cons_succ]
        refine WQ.val (by rfl) (fun v hv => by have k0 := hv.cell c0; have k1 := hv.cell d0; go_simp; first | done | with_reducible rfl | (rw [if_neg (by omega)])) ?_; simp only [Act.put, List.setIfInBounds_toArray, List.set_cons_zero, List.set_cons_succ]
        refine WQ.val (by rfl) (fun v hv => by have k0 := hv.cell c0; have k1 := hv.cell d0; go_simp; first | done | with_reducible rfl | (rw [if_neg (by omega)])) ?_; simp only [Act.put, List.setIfInBounds_toArray, List.set_cons_zero, List.set_cons_succ]
        refine WQ.val (by rfl) (fun v hv => by have k0 := hv.cell c0; have k1 := hv.cell d0; go_simp; first | done | with_reducible rfl | (rw [if_neg (by omega)])) ?_; simp only [Act.put, List.setIfInBounds_toArray, List.set_cons_zero, List.set_cons_succ]
        refine WQ.val (by rfl) (fun v hv => by have k0 := hv.cell c0; have k1 := hv.cell d0; go_simp; first | done | with_reducible rfl | (rw [if_neg (by omega)])) ?_; simp only [Act.put, List.setIfInBounds_toArray, List.set_cons_zero, List.set_cons_succ]
        refine WQ.call (f := 10) (args := #[.slice (some ad) L.length cap, .int .i64 x, .int .i64 y]) (by rfl) (fun v hv => by go_simp) (fun v hv => (hcon v hv).mono (fun e v' ⟨he, hb⟩ => ⟨he, hv.step hb⟩)) ?_; simp only [Act.put, List.setIfInBounds_toArray, List.set_cons_zero, List.set_cons_succ]
        refine WQ.val (by rfl) (fun v hv => by have k0 := hv.cell c0; have k1 := hv.cell d0; go_simp; first | done | with_reducible rfl | (rw [if_neg (by omega)])) ?_; simp only [Act.put, List.setIfInBounds_toArray, List.set_cons_zero, List.set_cons_succ]
        refine WQ.val (by rfl) (fun v hv => by have k0 := hv.cell c0; have k1 := hv.cell d0; go_simp; first | done | with_reducible rfl | (rw [if_neg (by omega)])) ?_; simp only [Act.put, List.setIfInBounds_toArray, List.set_cons_zero, List.set_cons_succ]
        refine WQ.val (by rfl) (fun v hv => by have k0 := hv.cell c0; have k1 := hv.cell d0; go_simp; first | done | with_reducible rfl | (rw [if_neg (by omega)])) ?_; simp only [Act.put, List.setIfInBounds_toArray, List.set_cons_zero, List.set_cons_succ]
        refine WQ.val (by rfl) (fun v hv => by have k0 := hv.cell c0; have k1 := hv.cell d0; go_simp; first | done | with_reducible rfl | (rw [if_neg (by omega)])) ?_; simp only [Act.put, List.setIfInBounds_toArray, List.set_cons_zero, List.set_cons_succ]
        refine WQ.val (by rfl) (fun v hv => by have k0 := hv.cell c0; have k1 := hv.cell d0; go_simp; first | done | with_reducible rfl | (rw [if_neg (by omega)])) ?_; simp only [Act.put, List.setIfInBounds_toArray, List.set_cons_zero, List.set_cons_succ]
        refine WQ.val (by rfl) (fun v hv => by have k0 := hv.cell c0; have k1 := hv.cell d0; go_simp; first | done | with_reducible rfl | (rw [if_neg (by omega)])) ?_; simp only [Act.put, List.setIfInBounds_toArray, List.set_cons_zero, List.set_cons_succ]
        refine WQ.call (f := 10) (args := #[.slice (some ad) L.length cap, .int .i64 x, .int .i64 y]) (by rfl) (fun v hv => by go_simp) (fun v hv => (hcon v hv).mono (fun e v' ⟨he, hb⟩ => ⟨he, hv.step hb⟩)) ?_; simp only [Act.put, List.setIfInBounds_toArray, List.set_cons_zero, List.set_cons_succ]
        refine WQ.val (by rfl) (fun v hv => by have k0 := hv.cell c0; have k1 := hv.cell d0; go_simp; first | done | with_reducible rfl | (rw [if_neg (by omega)])) ?_; simp only [Act.put, List.setIfInBounds_toArray, List.set_cons_zero, List.set_cons_succ]
        refine WQ.val (by rfl) (fun v hv => by have k0 := hv.cell c0; have k1 := hv.cell d0; go_simp; first | done | with_reducible rfl | (rw [if_neg (by omega)])) ?_; simp only [Act.put, List.setIfInBounds_toArray, List.set_cons_zero, List.set_cons_succ]
        refine WQ.val (by rfl) (fun v hv => by have k0 := hv.cell c0; have k1 := hv.cell d0; go_simp; first | done | with_reducible rfl | (rw [if_neg (by omega)])) ?_; simp only [Act.put, List.setIfInBounds_toArray, List.set_cons_zero, List.set_cons_succ]
        refine WQ.val (by rfl) (fun v hv => by have k0 := hv.cell c0; have k1 := hv.cell d0; go_simp; first | done | with_reducible rfl | (rw [if_neg (by omega)])) ?_; simp only [Act.put, List.setIfInBounds_toArray, List.set_cons_zero, List.set_cons_succ]
        refine WQ.val (by rfl) (fun v hv => by have k0 := hv.cell c0; have k1 := hv.cell d0; go_simp; first | done | with_reducible rfl | (rw [if_neg (by omega)])) ?_; simp only [Act.put, List.setIfInBounds_toArray, List.set_cons_zero, List.set_cons_succ]
        refine WQ.val (by rfl) (fun v hv => by have k0 := hv.cell c0; have k1 := hv.cell d0; go_simp; first | done | with_reducible rfl | (rw [if_neg (by omega)])) ?_; simp only [Act.put, List.setIfInBounds_toArray, List.set_cons_zero, List.set_cons_succ]
        refine WQ.done ?_
        intro w6 hw6
        have HB6 := Lib.hid (HB2.out.trans (Below.mono hw6 HB2.out.size))
        clear c0 d0 hcon
        go_wp2_with fail
        refine (awake_any w6).mono ?_
        rintro e w7 ⟨rfl, hb7⟩
        have HB7 := Lib.hid (HB6.out.trans (hb7.mono HB6.out.size))
        clear hb7
        go_wp2_with fail
        go_ret
        exact ⟨rfl, HB7.out⟩
      · have HYZ := Lib.hid hyz
        have HXZ := Lib.hid (before_trans hzL HXY.out hyz)
        clear hyz
        go_wp2_with fail
        refine (before_is (L := L) (x := (x : Int)) (y := (y : Int)) (HL.out.below HB0.out (Nat.le_refl _)) (by omega) rfl HXY.out).mono ?_
        rintro e w1 ⟨rfl, hb1⟩
        have HB1 := Lib.hid (HB0.out.trans (hb1.mono HB0.out.size))
        clear hb1
        go_wp2_with fail
        refine (before_is (L := L) (x := (y : Int)) (y := (z : Int)) (HL.out.below HB1.out (Nat.le_refl _)) (by omega) rfl HYZ.out).mono ?_
        rintro e w2 ⟨rfl, hb2⟩
        have HB2 := Lib.hid (HB1.out.trans (hb2.mono HB1.out.size))
        clear hb2
        go_wp2_with fail
        refine (before_is (L := L) (x := (x : Int)) (y := (z : Int)) (HL.out.below HB2.out (Nat.le_refl _)) (by omega) rfl HXZ.out).mono ?_
        rintro e w3 ⟨rfl, hb3⟩
        have HB3 := Lib.hid (HB2.out.trans (hb3.mono HB2.out.size))
        clear hb3
        go_wp2_with fail
        have hl5 := (HL.out.below HB3.out (Nat.le_refl _))
        generalize hg5 : w3 = w5 at *
        have HL5 := Lib.hid hl5
        clear hl5 hg5
        have hcon : ∀ v, Since w5 v → Calls Try.prog 10 #[.slice s L.length cap, .int .i64 x, .int .i64 y] v fun e w' => e = .returned (.bool true) ∧ Below v.heap.size v w' := fun v hv => before_is (L := L) (HL5.out.below hv (Nat.le_refl _)) (by omega) rfl HXY.out
        obtain ⟨_, ad, hs1, c0, _, _⟩ := HL5.out.at_ x (by omega)
        obtain ⟨_, ad', hs2, d0, _, _⟩ := HL5.out.at_ y (by omega)
        obtain rfl := Option.some.inj (hs1.symm.trans hs2)
        subst hs1
        clear hs2
        generalize (ac L x).th = xt at *
        generalize (ac L y).th = yt at *
        obtain rfl := HTH.out
        refine WQ.enter w5 (Since.refl _) (by kernel_rfl) (by kernel_rfl) ?_
        refine WQ.val (by rfl) (fun v hv => by have k0 := hv.cell c0; have k1 := hv.cell d0; go_simp; first | done | with_reducible rfl | (rw [if_neg (by omega)])) ?_; simp only [Act.put, List.setIfInBounds_toArray, List.set_cons_zero, List.set_cons_succ]
        refine WQ.val (by rfl) (fun v hv => by have k0 := hv.cell c0; have k1 := hv.cell d0; go_simp; first | done | with_reducible rfl | (rw [if_neg (by omega)])) ?_; simp only [Act.put, List.setIfInBounds_toArray, List.set_cons_zero, List.set_cons_succ]
        refine WQ.val (by rfl) (fun v hv => by have k0 := hv.cell c0; have k1 := hv.cell d0; go_simp; first | done | with_reducible rfl | (rw [if_neg (by omega)])) ?_; simp only [Act.put, List.setIfInBounds_toArray, List.set_cons_zero, List.set_cons_succ]
        refine WQ.val (by rfl) (fun v hv => by have k0 := hv.cell c0; have k1 := hv.cell d0; go_simp; first | done | with_reducible rfl | (rw [if_neg (by omega)])) ?_; simp only [Act.put, List.setIfInBounds_toArray, List.set_cons_zero, List.set_cons_succ]
        refine WQ.val (by rfl) (fun v hv => by have k0 := hv.cell c0; have k1 := hv.cell d0; go_simp; first | done | with_reducible rfl | (rw [if_neg (by omega)])) ?_; simp only [Act.put, List.setIfInBounds_toArray, List.set_cons_zero, List.set_cons_succ]
        refine WQ.val (by rfl) (fun v hv => by have k0 := hv.cell c0; have k1 := hv.cell d0; go_simp; first | done | with_reducible rfl | (rw [if_neg (by omega)])) ?_; simp only [Act.put, List.setIfInBounds_toArray, List.set_cons_zero, List.set_cons_succ]
        refine WQ.val (by rfl) (fun v hv => by have k0 := hv.cell c0; have k1 := hv.cell d0; go_simp; first | done | with_reducible rfl | (rw [if_neg (by omega)])) ?_; simp only [Act.put, List.setIfInBounds_toArray, List.set_cons_zero, List.set_cons_succ]
        refine WQ.val (by rfl) (fun v hv => by have k0 := hv.cell c0; have k1 := hv.cell d0; go_simp; first | done | with_reducible rfl | (rw [if_neg (by omega)])) ?_; simp only [Act.put, List.setIfInBounds_toArray, List.set_cons_zero, List.set_cons_succ]
        refine WQ.val (by rfl) (fun v hv => by have k0 := hv.cell c0; have k1 := hv.cell d0; go_simp; first | done | with_reducible rfl | (rw [if_neg (by omega)])) ?_; simp only [Act.put, List.setIfInBounds_toArray, List.set_cons_zero, List.set_cons_succ]
        refine WQ.val (by rfl) (fun v hv => by have k0 := hv.cell c0; have k1 := hv.cell d0; go_simp; first | done | with_reducible rfl | (rw [if_neg (by omega)])) ?_; simp only [Act.put, List.setIfInBounds_toArray, List.set_cons_zero, List.set_cons_succ]
        refine WQ.val (by rfl) (fun v hv => by have k0 := hv.cell c0; have k1 := hv.cell d0; go_simp; first | done | with_reducible rfl | (rw [if_neg (by omega)])) ?_; simp only [Act.put, List.setIfInBounds_toArray, List.set_cons_zero, List.set_cons_succ]
        refine WQ.val (by rfl) (fun v hv => by have k0 := hv.cell c0; have k1 := hv.cell d0; go_simp; first | done | with_reducible rfl | (rw [if_neg (by omega)])) ?_; simp only [Act.put, List.setIfInBounds_toArray, List.set_cons_zero, List.set_cons_succ]
        refine WQ.val (by rfl) (fun v hv => by have k0 := hv.cell c0; have k1 := hv.cell d0; go_simp; first | done | with_reducible rfl | (rw [if_neg (by omega)])) ?_; simp only [Act.put, List.setIfInBounds_toArray, List.set_cons_zero, List.set_cons_succ]
        refine WQ.val (by rfl) (fun v hv => by have k0 := hv.cell c0; have k1 := hv.cell d0; go_simp; first | done | with_reducible rfl | (rw [if_neg (by omega)])) ?_; simp only [Act.put, List.setIfInBounds_toArray, List.set_cons_zero, List.set_cons_succ]
        refine WQ.val (by rfl) (fun v hv => by have k0 := hv.cell c0; have k1 := hv.cell d0; go_simp; first | done | with_reducible rfl | (rw [if_neg (by omega)])) ?_; simp only [Act.put, List.setIfInBounds_toArray, List.set_cons_zero, List.set_cons_succ]
        refine WQ.val (by rfl) (fun v hv => by have k0 := hv.cell c0; have k1 := hv.cell d0; go_simp; first | done | with_reducible rfl | (rw [if_neg (by omega)])) ?_; simp only [Act.put, List.setIfInBounds_toArray, List.set_cons_zero, List.set_cons_succ]
        refine WQ.val (by rfl) (fun v hv => by have k0 := hv.cell c0; have k1 := hv.cell d0; go_simp; first | done | with_reducible rfl | (rw [if_neg (by omega)])) ?_; simp only [Act.put, List.setIfInBounds_toArray, List.set_cons_zero, List.set_cons_succ]
        refine WQ.val (by rfl) (fun v hv => by have k0 := hv.cell c0; have k1 := hv.cell d0; go_simp; first | done | with_reducible rfl | (rw [if_neg (by omega)])) ?_; simp only [Act.put, List.setIfInBounds_toArray, List.set_cons_zero, List.set_cons_succ]
        refine WQ.val (by rfl) (fun v hv => by have k0 := hv.cell c0; have k1 := hv.cell d0; go_simp; first | done | with_reducible rfl | (rw [if_neg (by omega)])) ?_; simp only [Act.put, List.setIfInBounds_toArray, List.set_cons_zero, List.set_cons_succ]
        refine WQ.val (by rfl) (fun v hv => by have k0 := hv.cell c0; have k1 := hv.cell d0; go_simp; first | done | with_reducible rfl | (rw [if_neg (by omega)])) ?_; simp only [Act.put, List.setIfInBounds_toArray, List.set_cons_zero, List.set_cons_succ]
        refine WQ.call (f := 10) (args := #[.slice (some ad) L.length cap, .int .i64 x, .int .i64 y]) (by rfl) (fun v hv => by go_simp) (fun v hv => (hcon v hv).mono (fun e v' ⟨he, hb⟩ => ⟨he, hv.step hb⟩)) ?_; simp only [Act.put, List.setIfInBounds_toArray, List.set_cons_zero, List.set_cons_succ]
        refine WQ.val (by rfl) (fun v hv => by have k0 := hv.cell c0; have k1 := hv.cell d0; go_simp; first | done | with_reducible rfl | (rw [if_neg (by omega)])) ?_; simp only [Act.put, List.setIfInBounds_toArray, List.set_cons_zero, List.set_cons_succ]
        refine WQ.val (by rfl) (fun v hv => by have k0 := hv.cell c0; have k1 := hv.cell d0; go_simp; first | done | with_reducible rfl | (rw [if_neg (by omega)])) ?_; simp only [Act.put, List.setIfInBounds_toArray, List.set_cons_zero, List.set_cons_succ]
        refine WQ.val (by rfl) (fun v hv => by have k0 := hv.cell c0; have k1 := hv.cell d0; go_simp; first | done | with_reducible rfl | (rw [if_neg (by omega)])) ?_; simp only [Act.put, List.setIfInBounds_toArray, List.set_cons_zero, List.set_cons_succ]
        refine WQ.val (by rfl) (fun v hv => by have k0 := hv.cell c0; have k1 := hv.cell d0; go_simp; first | done | with_reducible rfl | (rw [if_neg (by omega)])) ?_; simp only [Act.put, List.setIfInBounds_toArray, List.set_cons_zero, List.set_cons_succ]
        refine WQ.val (by rfl) (fun v hv => by have k0 := hv.cell c0; have k1 := hv.cell d0; go_simp; first | done | with_reducible rfl | (rw [if_neg (by omega)])) ?_; simp only [Act.put, List.setIfInBounds_toArray, List.set_cons_zero, List.set_cons_succ]
        refine WQ.val (by rfl) (fun v hv => by have k0 := hv.cell c0; have k1 := hv.cell d0; go_simp; first | done | with_reducible rfl | (rw [if_neg (by omega)])) ?_; simp only [Act.put, List.setIfInBounds_toArray, List.set_cons_zero, List.set_cons_succ]
        refine WQ.call (f := 10) (args := #[.slice (some ad) L.length cap, .int .i64 x, .int .i64 y]) (by rfl) (fun v hv => by go_simp) (fun v hv => (hcon v hv).mono (fun e v' ⟨he, hb⟩ => ⟨he, hv.step hb⟩)) ?_; simp only [Act.put, List.setIfInBounds_toArray, List.set_cons_zero, List.set_cons_succ]
        refine WQ.val (by rfl) (fun v hv => by have k0 := hv.cell c0; have k1 := hv.cell d0; go_simp; first | done | with_reducible rfl | (rw [if_neg (by omega)])) ?_; simp only [Act.put, List.setIfInBounds_toArray, List.set_cons_zero, List.set_cons_succ]
        refine WQ.val (by rfl) (fun v hv => by have k0 := hv.cell c0; have k1 := hv.cell d0; go_simp; first | done | with_reducible rfl | (rw [if_neg (by omega)])) ?_; simp only [Act.put, List.setIfInBounds_toArray, List.set_cons_zero, List.set_cons_succ]
        refine WQ.val (by rfl) (fun v hv => by have k0 := hv.cell c0; have k1 := hv.cell d0; go_simp; first | done | with_reducible rfl | (rw [if_neg (by omega)])) ?_; simp only [Act.put, List.setIfInBounds_toArray, List.set_cons_zero, List.set_cons_succ]
        refine WQ.val (by rfl) (fun v hv => by have k0 := hv.cell c0; have k1 := hv.cell d0; go_simp; first | done | with_reducible rfl | (rw [if_neg (by omega)])) ?_; simp only [Act.put, List.setIfInBounds_toArray, List.set_cons_zero, List.set_cons_succ]
        refine WQ.val (by rfl) (fun v hv => by have k0 := hv.cell c0; have k1 := hv.cell d0; go_simp; first | done | with_reducible rfl | (rw [if_neg (by omega)])) ?_; simp only [Act.put, List.setIfInBounds_toArray, List.set_cons_zero, List.set_cons_succ]
        refine WQ.val (by rfl) (fun v hv => by have k0 := hv.cell c0; have k1 := hv.cell d0; go_simp; first | done | with_reducible rfl | (rw [if_neg (by omega)])) ?_; simp only [Act.put, List.setIfInBounds_toArray, List.set_cons_zero, List.set_cons_succ]
        refine WQ.done ?_
        intro w6 hw6
        have HB6 := Lib.hid (HB3.out.trans (Below.mono hw6 HB3.out.size))
        clear c0 d0 hcon
        go_wp2_with fail
        refine (awake_any w6).mono ?_
        rintro e w7 ⟨rfl, hb7⟩
        have HB7 := Lib.hid (HB6.out.trans (hb7.mono HB6.out.size))
        clear hb7
        go_wp2_with fail
        go_ret
        exact ⟨rfl, HB7.out⟩
    · have HTH : Hid (((ac L x).th == (ac L y).th) = false) := Lib.hid (beq_eq_false_iff_ne.2 hth)
      clear hth
      rcases hq : beforeB L x y with _ | _
      · have HXY := Lib.hid hq
        clear hq
        go_wp2_with fail
        refine (before_is (L := L) (x := (x : Int)) (y := (y : Int)) (HL.out.below HB0.out (Nat.le_refl _)) (by omega) rfl HXY.out).mono ?_
        rintro e w1 ⟨rfl, hb1⟩
        have HB1 := Lib.hid (HB0.out.trans (hb1.mono HB0.out.size))
        clear hb1
        go_wp2_with fail
        have hl5 := (HL.out.below HB1.out (Nat.le_refl _))
        generalize hg5 : w1 = w5 at *
        have HL5 := Lib.hid hl5
        clear hl5 hg5
        have hcon : ∀ v, Since w5 v → Calls Try.prog 10 #[.slice s L.length cap, .int .i64 x, .int .i64 y] v fun e w' => e = .returned (.bool false) ∧ Below v.heap.size v w' := fun v hv => before_is (L := L) (HL5.out.below hv (Nat.le_refl _)) (by omega) rfl HXY.out
        obtain ⟨_, ad, hs1, c0, _, _⟩ := HL5.out.at_ x (by omega)
        obtain ⟨_, ad', hs2, d0, _, _⟩ := HL5.out.at_ y (by omega)
        obtain rfl := Option.some.inj (hs1.symm.trans hs2)
        subst hs1
        clear hs2
        generalize (ac L x).th = xt at *
        generalize (ac L y).th = yt at *
        have hth := HTH.out
        refine WQ.enter w5 (Since.refl _) (by kernel_rfl) (by kernel_rfl) ?_
        refine WQ.val (by rfl) (fun v hv => by have k0 := hv.cell c0; have k1 := hv.cell d0; go_simp; first | done | with_reducible rfl | (rw [if_neg (by omega)])) ?_; simp only [Act.put, List.setIfInBounds_toArray, List.set_cons_zero, List.set_cons_succ]
        refine WQ.val (by rfl) (fun v hv => by have k0 := hv.cell c0; have k1 := hv.cell d0; go_simp; first | done | with_reducible rfl | (rw [if_neg (by omega)])) ?_; simp only [Act.put, List.setIfInBounds_toArray, List.set_cons_zero, List.set_cons_succ]
        refine WQ.val (by rfl) (fun v hv => by have k0 := hv.cell c0; have k1 := hv.cell d0; go_simp; first | done | with_reducible rfl | (rw [if_neg (by omega)])) ?_; simp only [Act.put, List.setIfInBounds_toArray, List.set_cons_zero, List.set_cons_succ]
        refine WQ.val (by rfl) (fun v hv => by have k0 := hv.cell c0; have k1 := hv.cell d0; go_simp; first | done | with_reducible rfl | (rw [if_neg (by omega)])) ?_; simp only [Act.put, List.setIfInBounds_toArray, List.set_cons_zero, List.set_cons_succ]
        refine WQ.val (by rfl) (fun v hv => by have k0 := hv.cell c0; have k1 := hv.cell d0; go_simp; first | done | with_reducible rfl | (rw [if_neg (by omega)])) ?_; simp only [Act.put, List.setIfInBounds_toArray, List.set_cons_zero, List.set_cons_succ]
        refine WQ.val (by rfl) (fun v hv => by have k0 := hv.cell c0; have k1 := hv.cell d0; go_simp; first | done | with_reducible rfl | (rw [if_neg (by omega)])) ?_; simp only [Act.put, List.setIfInBounds_toArray, List.set_cons_zero, List.set_cons_succ]
        refine WQ.val (by rfl) (fun v hv => by have k0 := hv.cell c0; have k1 := hv.cell d0; go_simp; first | done | with_reducible rfl | (rw [if_neg (by omega)])) ?_; simp only [Act.put, List.setIfInBounds_toArray, List.set_cons_zero, List.set_cons_succ]
        refine WQ.val (by rfl) (fun v hv => by have k0 := hv.cell c0; have k1 := hv.cell d0; go_simp; first | done | with_reducible rfl | (rw [if_neg (by omega)])) ?_; simp only [Act.put, List.setIfInBounds_toArray, List.set_cons_zero, List.set_cons_succ]
        refine WQ.val (by rfl) (fun v hv => by have k0 := hv.cell c0; have k1 := hv.cell d0; go_simp; first | done | with_reducible rfl | (rw [if_neg (by omega)])) ?_; simp only [Act.put, List.setIfInBounds_toArray, List.set_cons_zero, List.set_cons_succ]
        refine WQ.val (by rfl) (fun v hv => by have k0 := hv.cell c0; have k1 := hv.cell d0; go_simp; first | done | with_reducible rfl | (rw [if_neg (by omega)])) ?_; simp only [Act.put, List.setIfInBounds_toArray, List.set_cons_zero, List.set_cons_succ]
        refine WQ.val (by rfl) (fun v hv => by have k0 := hv.cell c0; have k1 := hv.cell d0; go_simp; first | done | with_reducible rfl | (rw [if_neg (by omega)])) ?_; simp only [Act.put, List.setIfInBounds_toArray, List.set_cons_zero, List.set_cons_succ]
        refine WQ.val (by rfl) (fun v hv => by have k0 := hv.cell c0; have k1 := hv.cell d0; go_simp; first | done | with_reducible rfl | (rw [if_neg (by omega)])) ?_; simp only [Act.put, List.setIfInBounds_toArray, List.set_cons_zero, List.set_cons_succ]
        refine WQ.val (by rfl) (fun v hv => by have k0 := hv.cell c0; have k1 := hv.cell d0; go_simp; first | done | with_reducible rfl | (rw [if_neg (by omega)])) ?_; simp only [Act.put, List.setIfInBounds_toArray, List.set_cons_zero, List.set_cons_succ]
        refine WQ.val (by rfl) (fun v hv => by have k0 := hv.cell c0; have k1 := hv.cell d0; go_simp; first | done | with_reducible rfl | (rw [if_neg (by omega)])) ?_; simp only [Act.put, List.setIfInBounds_toArray, List.set_cons_zero, List.set_cons_succ]
        refine WQ.val (by rfl) (fun v hv => by have k0 := hv.cell c0; have k1 := hv.cell d0; go_simp; first | done | with_reducible rfl | (rw [if_neg (by omega)])) ?_; simp only [Act.put, List.setIfInBounds_toArray, List.set_cons_zero, List.set_cons_succ]
        refine WQ.val (by rfl) (fun v hv => by have k0 := hv.cell c0; have k1 := hv.cell d0; go_simp; first | done | with_reducible rfl | (rw [if_neg (by omega)])) ?_; simp only [Act.put, List.setIfInBounds_toArray, List.set_cons_zero, List.set_cons_succ]
        refine WQ.val (by rfl) (fun v hv => by have k0 := hv.cell c0; have k1 := hv.cell d0; go_simp; first | done | with_reducible rfl | (rw [if_neg (by omega)])) ?_; simp only [Act.put, List.setIfInBounds_toArray, List.set_cons_zero, List.set_cons_succ]
        refine WQ.off (by rfl) ?_; simp only [Act.put, List.setIfInBounds_toArray, List.set_cons_zero, List.set_cons_succ]
        refine WQ.off (by rfl) ?_; simp only [Act.put, List.setIfInBounds_toArray, List.set_cons_zero, List.set_cons_succ]
        refine WQ.off (by rfl) ?_; simp only [Act.put, List.setIfInBounds_toArray, List.set_cons_zero, List.set_cons_succ]
        refine WQ.off (by rfl) ?_; simp only [Act.put, List.setIfInBounds_toArray, List.set_cons_zero, List.set_cons_succ]
        refine WQ.off (by rfl) ?_; simp only [Act.put, List.setIfInBounds_toArray, List.set_cons_zero, List.set_cons_succ]
        refine WQ.val (by rfl) (fun v hv => by have k0 := hv.cell c0; have k1 := hv.cell d0; go_simp; first | done | with_reducible rfl | (rw [if_neg (by omega)])) ?_; simp only [Act.put, List.setIfInBounds_toArray, List.set_cons_zero, List.set_cons_succ]
        refine WQ.val (by rfl) (fun v hv => by have k0 := hv.cell c0; have k1 := hv.cell d0; go_simp; first | done | with_reducible rfl | (rw [if_neg (by omega)])) ?_; simp only [Act.put, List.setIfInBounds_toArray, List.set_cons_zero, List.set_cons_succ]
        refine WQ.val (by rfl) (fun v hv => by have k0 := hv.cell c0; have k1 := hv.cell d0; go_simp; first | done | with_reducible rfl | (rw [if_neg (by omega)])) ?_; simp only [Act.put, List.setIfInBounds_toArray, List.set_cons_zero, List.set_cons_succ]
        refine WQ.val (by rfl) (fun v hv => by have k0 := hv.cell c0; have k1 := hv.cell d0; go_simp; first | done | with_reducible rfl | (rw [if_neg (by omega)])) ?_; simp only [Act.put, List.setIfInBounds_toArray, List.set_cons_zero, List.set_cons_succ]
        refine WQ.val (by rfl) (fun v hv => by have k0 := hv.cell c0; have k1 := hv.cell d0; go_simp; first | done | with_reducible rfl | (rw [if_neg (by omega)])) ?_; simp only [Act.put, List.setIfInBounds_toArray, List.set_cons_zero, List.set_cons_succ]
        refine WQ.call (f := 10) (args := #[.slice (some ad) L.length cap, .int .i64 x, .int .i64 y]) (by rfl) (fun v hv => by go_simp) (fun v hv => (hcon v hv).mono (fun e v' ⟨he, hb⟩ => ⟨he, hv.step hb⟩)) ?_; simp only [Act.put, List.setIfInBounds_toArray, List.set_cons_zero, List.set_cons_succ]
        refine WQ.val (by rfl) (fun v hv => by have k0 := hv.cell c0; have k1 := hv.cell d0; go_simp; first | done | with_reducible rfl | (rw [if_neg (by omega)])) ?_; simp only [Act.put, List.setIfInBounds_toArray, List.set_cons_zero, List.set_cons_succ]
        refine WQ.off (by rfl) ?_; simp only [Act.put, List.setIfInBounds_toArray, List.set_cons_zero, List.set_cons_succ]
        refine WQ.off (by rfl) ?_; simp only [Act.put, List.setIfInBounds_toArray, List.set_cons_zero, List.set_cons_succ]
        refine WQ.off (by rfl) ?_; simp only [Act.put, List.setIfInBounds_toArray, List.set_cons_zero, List.set_cons_succ]
        refine WQ.val (by rfl) (fun v hv => by have k0 := hv.cell c0; have k1 := hv.cell d0; go_simp; first | done | with_reducible rfl | (rw [if_neg (by omega)])) ?_; simp only [Act.put, List.setIfInBounds_toArray, List.set_cons_zero, List.set_cons_succ]
        refine WQ.val (by rfl) (fun v hv => by have k0 := hv.cell c0; have k1 := hv.cell d0; go_simp; first | done | with_reducible rfl | (rw [if_neg (by omega)])) ?_; simp only [Act.put, List.setIfInBounds_toArray, List.set_cons_zero, List.set_cons_succ]
        refine WQ.done ?_
        intro w6 hw6
        have HB6 := Lib.hid (HB1.out.trans (Below.mono hw6 HB1.out.size))
        clear c0 d0 hcon
        go_wp2_with fail
        refine (awake_any w6).mono ?_
        rintro e w7 ⟨rfl, hb7⟩
        have HB7 := Lib.hid (HB6.out.trans (hb7.mono HB6.out.size))
        clear hb7
        go_wp2_with fail
        go_ret
        exact ⟨rfl, HB7.out⟩
      · have HXY := Lib.hid hq
        clear hq
        rcases hyz : beforeB L y z with _ | _
        · have HYZ := Lib.hid hyz
          clear hyz
          go_wp2_with fail
          refine (before_is (L := L) (x := (x : Int)) (y := (y : Int)) (HL.out.below HB0.out (Nat.le_refl _)) (by omega) rfl HXY.out).mono ?_
          rintro e w1 ⟨rfl, hb1⟩
          have HB1 := Lib.hid (HB0.out.trans (hb1.mono HB0.out.size))
          clear hb1
          go_wp2_with fail
          refine (before_is (L := L) (x := (y : Int)) (y := (z : Int)) (HL.out.below HB1.out (Nat.le_refl _)) (by omega) rfl HYZ.out).mono ?_
          rintro e w2 ⟨rfl, hb2⟩
          have HB2 := Lib.hid (HB1.out.trans (hb2.mono HB1.out.size))
          clear hb2
          go_wp2_with fail
          have hl5 := (HL.out.below HB2.out (Nat.le_refl _))
          generalize hg5 : w2 = w5 at *
          have HL5 := Lib.hid hl5
          clear hl5 hg5
          have hcon : ∀ v, Since w5 v → Calls Try.prog 10 #[.slice s L.length cap, .int .i64 x, .int .i64 y] v fun e w' => e = .returned (.bool true) ∧ Below v.heap.size v w' := fun v hv => before_is (L := L) (HL5.out.below hv (Nat.le_refl _)) (by omega) rfl HXY.out
          obtain ⟨_, ad, hs1, c0, _, _⟩ := HL5.out.at_ x (by omega)
          obtain ⟨_, ad', hs2, d0, _, _⟩ := HL5.out.at_ y (by omega)
          obtain rfl := Option.some.inj (hs1.symm.trans hs2)
          subst hs1
          clear hs2
          generalize (ac L x).th = xt at *
          generalize (ac L y).th = yt at *
          have hth := HTH.out
          refine WQ.enter w5 (Since.refl _) (by kernel_rfl) (by kernel_rfl) ?_
          refine WQ.val (by rfl) (fun v hv => by have k0 := hv.cell c0; have k1 := hv.cell d0; go_simp; first | done | with_reducible rfl | (rw [if_neg (by omega)])) ?_; simp only [Act.put, List.setIfInBounds_toArray, List.set_cons_zero, List.set_cons_succ]
          refine WQ.val (by rfl) (fun v hv => by have k0 := hv.cell c0; have k1 := hv.cell d0; go_simp; first | done | with_reducible rfl | (rw [if_neg (by omega)])) ?_; simp only [Act.put, List.setIfInBounds_toArray, List.set_cons_zero, List.set_cons_succ]
          refine WQ.val (by rfl) (fun v hv => by have k0 := hv.cell c0; have k1 := hv.cell d0; go_simp; first | done | with_reducible rfl | (rw [if_neg (by omega)])) ?_; simp only [Act.put, List.setIfInBounds_toArray, List.set_cons_zero, List.set_cons_succ]
          refine WQ.val (by rfl) (fun v hv => by have k0 := hv.cell c0; have k1 := hv.cell d0; go_simp; first | done | with_reducible rfl | (rw [if_neg (by omega)])) ?_; simp only [Act.put, List.setIfInBounds_toArray, List.set_cons_zero, List.set_cons_succ]
          refine WQ.val (by rfl) (fun v hv => by have k0 := hv.cell c0; have k1 := hv.cell d0; go_simp; first | done | with_reducible rfl | (rw [if_neg (by omega)])) ?_; simp only [Act.put, List.setIfInBounds_toArray, List.set_cons_zero, List.set_cons_succ]
          refine WQ.val (by rfl) (fun v hv => by have k0 := hv.cell c0; have k1 := hv.cell d0; go_simp; first | done | with_reducible rfl | (rw [if_neg (by omega)])) ?_; simp only [Act.put, List.setIfInBounds_toArray, List.set_cons_zero, List.set_cons_succ]
          refine WQ.val (by rfl) (fun v hv => by have k0 := hv.cell c0; have k1 := hv.cell d0; go_simp; first | done | with_reducible rfl | (rw [if_neg (by omega)])) ?_; simp only [Act.put, List.setIfInBounds_toArray, List.set_cons_zero, List.set_cons_succ]
          refine WQ.val (by rfl) (fun v hv => by have k0 := hv.cell c0; have k1 := hv.cell d0; go_simp; first | done | with_reducible rfl | (rw [if_neg (by omega)])) ?_; simp only [Act.put, List.setIfInBounds_toArray, List.set_cons_zero, List.set_cons_succ]
          refine WQ.val (by rfl) (fun v hv => by have k0 := hv.cell c0; have k1 := hv.cell d0; go_simp; first | done | with_reducible rfl | (rw [if_neg (by omega)])) ?_; simp only [Act.put, List.setIfInBounds_toArray, List.set_cons_zero, List.set_cons_succ]
          refine WQ.val (by rfl) (fun v hv => by have k0 := hv.cell c0; have k1 := hv.cell d0; go_simp; first | done | with_reducible rfl | (rw [if_neg (by omega)])) ?_; simp only [Act.put, List.setIfInBounds_toArray, List.set_cons_zero, List.set_cons_succ]
          refine WQ.val (by rfl) (fun v hv => by have k0 := hv.cell c0; have k1 := hv.cell d0; go_simp; first | done | with_reducible rfl | (rw [if_neg (by omega)])) ?_; simp only [Act.put, List.setIfInBounds_toArray, List.set_cons_zero, List.set_cons_succ]
          refine WQ.val (by rfl) (fun v hv => by have k0 := hv.cell c0; have k1 := hv.cell d0; go_simp; first | done | with_reducible rfl | (rw [if_neg (by omega)])) ?_; simp only [Act.put, List.setIfInBounds_toArray, List.set_cons_zero, List.set_cons_succ]
          refine WQ.val (by rfl) (fun v hv => by have k0 := hv.cell c0; have k1 := hv.cell d0; go_simp; first | done | with_reducible rfl | (rw [if_neg (by omega)])) ?_; simp only [Act.put, List.setIfInBounds_toArray, List.set_cons_zero, List.set_cons_succ]
          refine WQ.val (by rfl) (fun v hv => by have k0 := hv.cell c0; have k1 := hv.cell d0; go_simp; first | done | with_reducible rfl | (rw [if_neg (by omega)])) ?_; simp only [Act.put, List.setIfInBounds_toArray, List.set_cons_zero, List.set_cons_succ]
          refine WQ.val (by rfl) (fun v hv => by have k0 := hv.cell c0; have k1 := hv.cell d0; go_simp; first | done | with_reducible rfl | (rw [if_neg (by omega)])) ?_; simp only [Act.put, List.setIfInBounds_toArray, List.set_cons_zero, List.set_cons_succ]
          refine WQ.val (by rfl) (fun v hv => by have k0 := hv.cell c0; have k1 := hv.cell d0; go_simp; first | done | with_reducible rfl | (rw [if_neg (by omega)])) ?_; simp only [Act.put, List.setIfInBounds_toArray, List.set_cons_zero, List.set_cons_succ]
          refine WQ.val (by rfl) (fun v hv => by have k0 := hv.cell c0; have k1 := hv.cell d0; go_simp; first | done | with_reducible rfl | (rw [if_neg (by omega)])) ?_; simp only [Act.put, List.setIfInBounds_toArray, List.set_cons_zero, List.set_cons_succ]
          refine WQ.off (by rfl) ?_; simp only [Act.put, List.setIfInBounds_toArray, List.set_cons_zero, List.set_cons_succ]
          refine WQ.off (by rfl) ?_; simp only [Act.put, List.setIfInBounds_toArray, List.set_cons_zero, List.set_cons_succ]
          refine WQ.off (by rfl) ?_; simp only [Act.put, List.setIfInBounds_toArray, List.set_cons_zero, List.set_cons_succ]
          refine WQ.off (by rfl) ?_; simp only [Act.put, List.setIfInBounds_toArray, List.set_cons_zero, List.set_cons_succ]
          refine WQ.off (by rfl) ?_; simp only [Act.put, List.setIfInBounds_toArray, List.set_cons_zero, List.set_cons_succ]
          refine WQ.val (by rfl) (fun v hv => by have k0 := hv.cell c0; have k1 := hv.cell d0; go_simp; first | done | with_reducible rfl | (rw [if_neg (by omega)])) ?_; simp only [Act.put, List.setIfInBounds_toArray, List.set_cons_zero, List.set_cons_succ]
          refine WQ.val (by rfl) (fun v hv => by have k0 := hv.cell c0; have k1 := hv.cell d0; go_simp; first | done | with_reducible rfl | (rw [if_neg (by omega)])) ?_; simp only [Act.put, List.setIfInBounds_toArray, List.set_cons_zero, List.set_cons_succ]
          refine WQ.val (by rfl) (fun v hv => by have k0 := hv.cell c0; have k1 := hv.cell d0; go_simp; first | done | with_reducible rfl | (rw [if_neg (by omega)])) ?_; simp only [Act.put, List.setIfInBounds_toArray, List.set_cons_zero, List.set_cons_succ]
          refine WQ.val (by rfl) (fun v hv => by have k0 := hv.cell c0; have k1 := hv.cell d0; go_simp; first | done | with_reducible rfl | (rw [if_neg (by omega)])) ?_; simp only [Act.put, List.setIfInBounds_toArray, List.set_cons_zero, List.set_cons_succ]
          refine WQ.val (by rfl) (fun v hv => by have k0 := hv.cell c0; have k1 := hv.cell d0; go_simp; first | done | with_reducible rfl | (rw [if_neg (by omega)])) ?_; simp only [Act.put, List.setIfInBounds_toArray, List.set_cons_zero, List.set_cons_succ]
          refine WQ.call (f := 10) (args := #[.slice (some ad) L.length cap, .int .i64 x, .int .i64 y]) (by rfl) (fun v hv => by go_simp) (fun v hv => (hcon v hv).mono (fun e v' ⟨he, hb⟩ => ⟨he, hv.step hb⟩)) ?_; simp only [Act.put, List.setIfInBounds_toArray, List.set_cons_zero, List.set_cons_succ]
          refine WQ.val (by rfl) (fun v hv => by have k0 := hv.cell c0; have k1 := hv.cell d0; go_simp; first | done | with_reducible rfl | (rw [if_neg (by omega)])) ?_; simp only [Act.put, List.setIfInBounds_toArray, List.set_cons_zero, List.set_cons_succ]
          refine WQ.val (by rfl) (fun v hv => by have k0 := hv.cell c0; have k1 := hv.cell d0; go_simp; first | done | with_reducible rfl | (rw [if_neg (by omega)])) ?_; simp only [Act.put, List.setIfInBounds_toArray, List.set_cons_zero, List.set_cons_succ]
          refine WQ.val (by rfl) (fun v hv => by have k0 := hv.cell c0; have k1 := hv.cell d0; go_simp; first | done | with_reducible rfl | (rw [if_neg (by omega)])) ?_; simp only [Act.put, List.setIfInBounds_toArray, List.set_cons_zero, List.set_cons_succ]
          refine WQ.val (by rfl) (fun v hv => by have k0 := hv.cell c0; have k1 := hv.cell d0; go_simp; first | done | with_reducible rfl | (rw [if_neg (by omega)])) ?_; simp only [Act.put, List.setIfInBounds_toArray, List.set_cons_zero, List.set_cons_succ]
          refine WQ.val (by rfl) (fun v hv => by have k0 := hv.cell c0; have k1 := hv.cell d0; go_simp; first | done | with_reducible rfl | (rw [if_neg (by omega)])) ?_; simp only [Act.put, List.setIfInBounds_toArray, List.set_cons_zero, List.set_cons_succ]
          refine WQ.val (by rfl) (fun v hv => by have k0 := hv.cell c0; have k1 := hv.cell d0; go_simp; first | done | with_reducible rfl | (rw [if_neg (by omega)])) ?_; simp only [Act.put, List.setIfInBounds_toArray, List.set_cons_zero, List.set_cons_succ]
          refine WQ.done ?_
          intro w6 hw6
          have HB6 := Lib.hid (HB2.out.trans (Below.mono hw6 HB2.out.size))
          clear c0 d0 hcon
          go_wp2_with fail
          refine (awake_any w6).mono ?_
          rintro e w7 ⟨rfl, hb7⟩
          have HB7 := Lib.hid (HB6.out.trans (hb7.mono HB6.out.size))
          clear hb7
          go_wp2_with fail
          go_ret
          exact ⟨rfl, HB7.out⟩
        · have HYZ := Lib.hid hyz
          have HXZ := Lib.hid (before_trans hzL HXY.out hyz)
          clear hyz
          go_wp2_with fail
          refine (before_is (L := L) (x := (x : Int)) (y := (y : Int)) (HL.out.below HB0.out (Nat.le_refl _)) (by omega) rfl HXY.out).mono ?_
          rintro e w1 ⟨rfl, hb1⟩
          have HB1 := Lib.hid (HB0.out.trans (hb1.mono HB0.out.size))
          clear hb1
          go_wp2_with fail
          refine (before_is (L := L) (x := (y : Int)) (y := (z : Int)) (HL.out.below HB1.out (Nat.le_refl _)) (by omega) rfl HYZ.out).mono ?_
          rintro e w2 ⟨rfl, hb2⟩
          have HB2 := Lib.hid (HB1.out.trans (hb2.mono HB1.out.size))
          clear hb2
          go_wp2_with fail
          refine (before_is (L := L) (x := (x : Int)) (y := (z : Int)) (HL.out.below HB2.out (Nat.le_refl _)) (by omega) rfl HXZ.out).mono ?_
          rintro e w3 ⟨rfl, hb3⟩
          have HB3 := Lib.hid (HB2.out.trans (hb3.mono HB2.out.size))
          clear hb3
          go_wp2_with fail
          have hl5 := (HL.out.below HB3.out (Nat.le_refl _))
          generalize hg5 : w3 = w5 at *
          have HL5 := Lib.hid hl5
          clear hl5 hg5
          have hcon : ∀ v, Since w5 v → Calls Try.prog 10 #[.slice s L.length cap, .int .i64 x, .int .i64 y] v fun e w' => e = .returned (.bool true) ∧ Below v.heap.size v w' := fun v hv => before_is (L := L) (HL5.out.below hv (Nat.le_refl _)) (by omega) rfl HXY.out
          obtain ⟨_, ad, hs1, c0, _, _⟩ := HL5.out.at_ x (by omega)
          obtain ⟨_, ad', hs2, d0, _, _⟩ := HL5.out.at_ y (by omega)
          obtain rfl := Option.some.inj (hs1.symm.trans hs2)
          subst hs1
          clear hs2
          generalize (ac L x).th = xt at *
          generalize (ac L y).th = yt at *
          have hth := HTH.out
          refine WQ.enter w5 (Since.refl _) (by kernel_rfl) (by kernel_rfl) ?_
          refine WQ.val (by rfl) (fun v hv => by have k0 := hv.cell c0; have k1 := hv.cell d0; go_simp; first | done | with_reducible rfl | (rw [if_neg (by omega)])) ?_; simp only [Act.put, List.setIfInBounds_toArray, List.set_cons_zero, List.set_cons_succ]
          refine WQ.val (by rfl) (fun v hv => by have k0 := hv.cell c0; have k1 := hv.cell d0; go_simp; first | done | with_reducible rfl | (rw [if_neg (by omega)])) ?_; simp only [Act.put, List.setIfInBounds_toArray, List.set_cons_zero, List.set_cons_succ]
          refine WQ.val (by rfl) (fun v hv => by have k0 := hv.cell c0; have k1 := hv.cell d0; go_simp; first | done | with_reducible rfl | (rw [if_neg (by omega)])) ?_; simp only [Act.put, List.setIfInBounds_toArray, List.set_cons_zero, List.set_cons_succ]
          refine WQ.val (by rfl) (fun v hv => by have k0 := hv.cell c0; have k1 := hv.cell d0; go_simp; first | done | with_reducible rfl | (rw [if_neg (by omega)])) ?_; simp only [Act.put, List.setIfInBounds_toArray, List.set_cons_zero, List.set_cons_succ]
          refine WQ.val (by rfl) (fun v hv => by have k0 := hv.cell c0; have k1 := hv.cell d0; go_simp; first | done | with_reducible rfl | (rw [if_neg (by omega)])) ?_; simp only [Act.put, List.setIfInBounds_toArray, List.set_cons_zero, List.set_cons_succ]
          refine WQ.val (by rfl) (fun v hv => by have k0 := hv.cell c0; have k1 := hv.cell d0; go_simp; first | done | with_reducible rfl | (rw [if_neg (by omega)])) ?_; simp only [Act.put, List.setIfInBounds_toArray, List.set_cons_zero, List.set_cons_succ]
          refine WQ.val (by rfl) (fun v hv => by have k0 := hv.cell c0; have k1 := hv.cell d0; go_simp; first | done | with_reducible rfl | (rw [if_neg (by omega)])) ?_; simp only [Act.put, List.setIfInBounds_toArray, List.set_cons_zero, List.set_cons_succ]
          refine WQ.val (by rfl) (fun v hv => by have k0 := hv.cell c0; have k1 := hv.cell d0; go_simp; first | done | with_reducible rfl | (rw [if_neg (by omega)])) ?_; simp only [Act.put, List.setIfInBounds_toArray, List.set_cons_zero, List.set_cons_succ]
          refine WQ.val (by rfl) (fun v hv => by have k0 := hv.cell c0; have k1 := hv.cell d0; go_simp; first | done | with_reducible rfl | (rw [if_neg (by omega)])) ?_; simp only [Act.put, List.setIfInBounds_toArray, List.set_cons_zero, List.set_cons_succ]
          refine WQ.val (by rfl) (fun v hv => by have k0 := hv.cell c0; have k1 := hv.cell d0; go_simp; first | done | with_reducible rfl | (rw [if_neg (by omega)])) ?_; simp only [Act.put, List.setIfInBounds_toArray, List.set_cons_zero, List.set_cons_succ]
          refine WQ.val (by rfl) (fun v hv => by have k0 := hv.cell c0; have k1 := hv.cell d0; go_simp; first | done | with_reducible rfl | (rw [if_neg (by omega)])) ?_; simp only [Act.put, List.setIfInBounds_toArray, List.set_cons_zero, List.set_cons_succ]
          refine WQ.val (by rfl) (fun v hv => by have k0 := hv.cell c0; have k1 := hv.cell d0; go_simp; first | done | with_reducible rfl | (rw [if_neg (by omega)])) ?_; simp only [Act.put, List.setIfInBounds_toArray, List.set_cons_zero, List.set_cons_succ]
          refine WQ.val (by rfl) (fun v hv => by have k0 := hv.cell c0; have k1 := hv.cell d0; go_simp; first | done | with_reducible rfl | (rw [if_neg (by omega)])) ?_; simp only [Act.put, List.setIfInBounds_toArray, List.set_cons_zero, List.set_cons_succ]
          refine WQ.val (by rfl) (fun v hv => by have k0 := hv.cell c0; have k1 := hv.cell d0; go_simp; first | done | with_reducible rfl | (rw [if_neg (by omega)])) ?_; simp only [Act.put, List.setIfInBounds_toArray, List.set_cons_zero, List.set_cons_succ]
          refine WQ.val (by rfl) (fun v hv => by have k0 := hv.cell c0; have k1 := hv.cell d0; go_simp; first | done | with_reducible rfl | (rw [if_neg (by omega)])) ?_; simp only [Act.put, List.setIfInBounds_toArray, List.set_cons_zero, List.set_cons_succ]
          refine WQ.val (by rfl) (fun v hv => by have k0 := hv.cell c0; have k1 := hv.cell d0; go_simp; first | done | with_reducible rfl | (rw [if_neg (by omega)])) ?_; simp only [Act.put, List.setIfInBounds_toArray, List.set_cons_zero, List.set_cons_succ]
          refine WQ.val (by rfl) (fun v hv => by have k0 := hv.cell c0; have k1 := hv.cell d0; go_simp; first | done | with_reducible rfl | (rw [if_neg (by omega)])) ?_; simp only [Act.put, List.setIfInBounds_toArray, List.set_cons_zero, List.set_cons_succ]
          refine WQ.off (by rfl) ?_; simp only [Act.put, List.setIfInBounds_toArray, List.set_cons_zero, List.set_cons_succ]
          refine WQ.off (by rfl) ?_; simp only [Act.put, List.setIfInBounds_toArray, List.set_cons_zero, List.set_cons_succ]
          refine WQ.off (by rfl) ?_; simp only [Act.put, List.setIfInBounds_toArray, List.set_cons_zero, List.set_cons_succ]
          refine WQ.off (by rfl) ?_; simp only [Act.put, List.setIfInBounds_toArray, List.set_cons_zero, List.set_cons_succ]
          refine WQ.off (by rfl) ?_; simp only [Act.put, List.setIfInBounds_toArray, List.set_cons_zero, List.set_cons_succ]
          refine WQ.val (by rfl) (fun v hv => by have k0 := hv.cell c0; have k1 := hv.cell d0; go_simp; first | done | with_reducible rfl | (rw [if_neg (by omega)])) ?_; simp only [Act.put, List.setIfInBounds_toArray, List.set_cons_zero, List.set_cons_succ]
          refine WQ.val (by rfl) (fun v hv => by have k0 := hv.cell c0; have k1 := hv.cell d0; go_simp; first | done | with_reducible rfl | (rw [if_neg (by omega)])) ?_; simp only [Act.put, List.setIfInBounds_toArray, List.set_cons_zero, List.set_cons_succ]
          refine WQ.val (by rfl) (fun v hv => by have k0 := hv.cell c0; have k1 := hv.cell d0; go_simp; first | done | with_reducible rfl | (rw [if_neg (by omega)])) ?_; simp only [Act.put, List.setIfInBounds_toArray, List.set_cons_zero, List.set_cons_succ]
          refine WQ.val (by rfl) (fun v hv => by have k0 := hv.cell c0; have k1 := hv.cell d0; go_simp; first | done | with_reducible rfl | (rw [if_neg (by omega)])) ?_; simp only [Act.put, List.setIfInBounds_toArray, List.set_cons_zero, List.set_cons_succ]
          refine WQ.val (by rfl) (fun v hv => by have k0 := hv.cell c0; have k1 := hv.cell d0; go_simp; first | done | with_reducible rfl | (rw [if_neg (by omega)])) ?_; simp only [Act.put, List.setIfInBounds_toArray, List.set_cons_zero, List.set_cons_succ]
          refine WQ.call (f := 10) (args := #[.slice (some ad) L.length cap, .int .i64 x, .int .i64 y]) (by rfl) (fun v hv => by go_simp) (fun v hv => (hcon v hv).mono (fun e v' ⟨he, hb⟩ => ⟨he, hv.step hb⟩)) ?_; simp only [Act.put, List.setIfInBounds_toArray, List.set_cons_zero, List.set_cons_succ]
          refine WQ.val (by rfl) (fun v hv => by have k0 := hv.cell c0; have k1 := hv.cell d0; go_simp; first | done | with_reducible rfl | (rw [if_neg (by omega)])) ?_; simp only [Act.put, List.setIfInBounds_toArray, List.set_cons_zero, List.set_cons_succ]
          refine WQ.val (by rfl) (fun v hv => by have k0 := hv.cell c0; have k1 := hv.cell d0; go_simp; first | done | with_reducible rfl | (rw [if_neg (by omega)])) ?_; simp only [Act.put, List.setIfInBounds_toArray, List.set_cons_zero, List.set_cons_succ]
          refine WQ.val (by rfl) (fun v hv => by have k0 := hv.cell c0; have k1 := hv.cell d0; go_simp; first | done | with_reducible rfl | (rw [if_neg (by omega)])) ?_; simp only [Act.put, List.setIfInBounds_toArray, List.set_cons_zero, List.set_cons_succ]
          refine WQ.val (by rfl) (fun v hv => by have k0 := hv.cell c0; have k1 := hv.cell d0; go_simp; first | done | with_reducible rfl | (rw [if_neg (by omega)])) ?_; simp only [Act.put, List.setIfInBounds_toArray, List.set_cons_zero, List.set_cons_succ]
          refine WQ.val (by rfl) (fun v hv => by have k0 := hv.cell c0; have k1 := hv.cell d0; go_simp; first | done | with_reducible rfl | (rw [if_neg (by omega)])) ?_; simp only [Act.put, List.setIfInBounds_toArray, List.set_cons_zero, List.set_cons_succ]
          refine WQ.val (by rfl) (fun v hv => by have k0 := hv.cell c0; have k1 := hv.cell d0; go_simp; first | done | with_reducible rfl | (rw [if_neg (by omega)])) ?_; simp only [Act.put, List.setIfInBounds_toArray, List.set_cons_zero, List.set_cons_succ]
          refine WQ.done ?_
          intro w6 hw6
          have HB6 := Lib.hid (HB3.out.trans (Below.mono hw6 HB3.out.size))
          clear c0 d0 hcon
          go_wp2_with fail
          refine (awake_any w6).mono ?_
          rintro e w7 ⟨rfl, hb7⟩
          have HB7 := Lib.hid (HB6.out.trans (hb7.mono HB6.out.size))
          clear hb7
          go_wp2_with fail
          go_ret
          exact ⟨rfl, HB7.out⟩
  · have hxi : ¬ (x : Int) < (y : Int) := by omega
    have HXY := Lib.hid (before_lt (L := L) hxy)
    have HTH : Hid True := Lib.hid trivial
    go_wp2_with fail
    refine (before_is (L := L) (x := (x : Int)) (y := (y : Int)) (HL.out.below HB0.out (Nat.le_refl _)) (by omega) rfl HXY.out).mono ?_
    rintro e w1 ⟨rfl, hb1⟩
    have HB1 := Lib.hid (HB0.out.trans (hb1.mono HB0.out.size))
    clear hb1
    go_wp2_with fail
    have hl5 := (HL.out.below HB1.out (Nat.le_refl _))
    generalize hg5 : w1 = w5 at *
    have HL5 := Lib.hid hl5
    clear hl5 hg5
    have hcon : ∀ v, Since w5 v → Calls Try.prog 10 #[.slice s L.length cap, .int .i64 x, .int .i64 y] v fun e w' => e = .returned (.bool false) ∧ Below v.heap.size v w' := fun v hv => before_is (L := L) (HL5.out.below hv (Nat.le_refl _)) (by omega) rfl HXY.out
    obtain ⟨_, ad, hs1, c0, _, _⟩ := HL5.out.at_ x (by omega)
    obtain ⟨_, ad', hs2, d0, _, _⟩ := HL5.out.at_ y (by omega)
    obtain rfl := Option.some.inj (hs1.symm.trans hs2)
    subst hs1
    clear hs2
    generalize (ac L x).th = xt at *
    generalize (ac L y).th = yt at *
    have hth := HTH.out
    refine WQ.enter w5 (Since.refl _) (by kernel_rfl) (by kernel_rfl) ?_
    refine WQ.val (by rfl) (fun v hv => by have k0 := hv.cell c0; have k1 := hv.cell d0; go_simp; first | done | with_reducible rfl | (rw [if_neg (by omega)])) ?_; simp only [Act.put, List.setIfInBounds_toArray, List.set_cons_zero, List.set_cons_succ]
    refine WQ.val (by rfl) (fun v hv => by have k0 := hv.cell c0; have k1 := hv.cell d0; go_simp; first | done | with_reducible rfl | (rw [if_neg (by omega)])) ?_; simp only [Act.put, List.setIfInBounds_toArray, List.set_cons_zero, List.set_cons_succ]
    refine WQ.val (by rfl) (fun v hv => by have k0 := hv.cell c0; have k1 := hv.cell d0; go_simp; first | done | with_reducible rfl | (rw [if_neg (by omega)])) ?_; simp only [Act.put, List.setIfInBounds_toArray, List.set_cons_zero, List.set_cons_succ]
    refine WQ.val (by rfl) (fun v hv => by have k0 := hv.cell c0; have k1 := hv.cell d0; go_simp; first | done | with_reducible rfl | (rw [if_neg (by omega)])) ?_; simp only [Act.put, List.setIfInBounds_toArray, List.set_cons_zero, List.set_cons_succ]
    refine WQ.off (by rfl) ?_; simp only [Act.put, List.setIfInBounds_toArray, List.set_cons_zero, List.set_cons_succ]
    refine WQ.off (by rfl) ?_; simp only [Act.put, List.setIfInBounds_toArray, List.set_cons_zero, List.set_cons_succ]
    refine WQ.off (by rfl) ?_; simp only [Act.put, List.setIfInBounds_toArray, List.set_cons_zero, List.set_cons_succ]
    refine WQ.off (by rfl) ?_; simp only [Act.put, List.setIfInBounds_toArray, List.set_cons_zero, List.set_cons_succ]
    refine WQ.off (by rfl) ?_; simp only [Act.put, List.setIfInBounds_toArray, List.set_cons_zero, List.set_cons_succ]
    refine WQ.off (by rfl) ?_; simp only [Act.put, List.setIfInBounds_toArray, List.set_cons_zero, List.set_cons_succ]
    refine WQ.off (by rfl) ?_; simp only [Act.put, List.setIfInBounds_toArray, List.set_cons_zero, List.set_cons_succ]
    refine WQ.off (by rfl) ?_; simp only [Act.put, List.setIfInBounds_toArray, List.set_cons_zero, List.set_cons_succ]
    refine WQ.off (by rfl) ?_; simp only [Act.put, List.setIfInBounds_toArray, List.set_cons_zero, List.set_cons_succ]
    refine WQ.off (by rfl) ?_; simp only [Act.put, List.setIfInBounds_toArray, List.set_cons_zero, List.set_cons_succ]
    refine WQ.off (by rfl) ?_; simp only [Act.put, List.setIfInBounds_toArray, List.set_cons_zero, List.set_cons_succ]
    refine WQ.val (by rfl) (fun v hv => by have k0 := hv.cell c0; have k1 := hv.cell d0; go_simp; first | done | with_reducible rfl | (rw [if_neg (by omega)])) ?_; simp only [Act.put, List.setIfInBounds_toArray, List.set_cons_zero, List.set_cons_succ]
    refine WQ.val (by rfl) (fun v hv => by have k0 := hv.cell c0; have k1 := hv.cell d0; go_simp; first | done | with_reducible rfl | (rw [if_neg (by omega)])) ?_; simp only [Act.put, List.setIfInBounds_toArray, List.set_cons_zero, List.set_cons_succ]
    refine WQ.off (by rfl) ?_; simp only [Act.put, List.setIfInBounds_toArray, List.set_cons_zero, List.set_cons_succ]
    refine WQ.off (by rfl) ?_; simp only [Act.put, List.setIfInBounds_toArray, List.set_cons_zero, List.set_cons_succ]
    refine WQ.off (by rfl) ?_; simp only [Act.put, List.setIfInBounds_toArray, List.set_cons_zero, List.set_cons_succ]
    refine WQ.off (by rfl) ?_; simp only [Act.put, List.setIfInBounds_toArray, List.set_cons_zero, List.set_cons_succ]
    refine WQ.off (by rfl) ?_; simp only [Act.put, List.setIfInBounds_toArray, List.set_cons_zero, List.set_cons_succ]
    refine WQ.val (by rfl) (fun v hv => by have k0 := hv.cell c0; have k1 := hv.cell d0; go_simp; first | done | with_reducible rfl | (rw [if_neg (by omega)])) ?_; simp only [Act.put, List.setIfInBounds_toArray, List.set_cons_zero, List.set_cons_succ]
    refine WQ.val (by rfl) (fun v hv => by have k0 := hv.cell c0; have k1 := hv.cell d0; go_simp; first | done | with_reducible rfl | (rw [if_neg (by omega)])) ?_; simp only [Act.put, List.setIfInBounds_toArray, List.set_cons_zero, List.set_cons_succ]
    refine WQ.val (by rfl) (fun v hv => by have k0 := hv.cell c0; have k1 := hv.cell d0; go_simp; first | done | with_reducible rfl | (rw [if_neg (by omega)])) ?_; simp only [Act.put, List.setIfInBounds_toArray, List.set_cons_zero, List.set_cons_succ]
    refine WQ.val (by rfl) (fun v hv => by have k0 := hv.cell c0; have k1 := hv.cell d0; go_simp; first | done | with_reducible rfl | (rw [if_neg (by omega)])) ?_; simp only [Act.put, List.setIfInBounds_toArray, List.set_cons_zero, List.set_cons_succ]
    refine WQ.val (by rfl) (fun v hv => by have k0 := hv.cell c0; have k1 := hv.cell d0; go_simp; first | done | with_reducible rfl | (rw [if_neg (by omega)])) ?_; simp only [Act.put, List.setIfInBounds_toArray, List.set_cons_zero, List.set_cons_succ]
    refine WQ.call (f := 10) (args := #[.slice (some ad) L.length cap, .int .i64 x, .int .i64 y]) (by rfl) (fun v hv => by go_simp) (fun v hv => (hcon v hv).mono (fun e v' ⟨he, hb⟩ => ⟨he, hv.step hb⟩)) ?_; simp only [Act.put, List.setIfInBounds_toArray, List.set_cons_zero, List.set_cons_succ]
    refine WQ.val (by rfl) (fun v hv => by have k0 := hv.cell c0; have k1 := hv.cell d0; go_simp; first | done | with_reducible rfl | (rw [if_neg (by omega)])) ?_; simp only [Act.put, List.setIfInBounds_toArray, List.set_cons_zero, List.set_cons_succ]
    refine WQ.off (by rfl) ?_; simp only [Act.put, List.setIfInBounds_toArray, List.set_cons_zero, List.set_cons_succ]
    refine WQ.off (by rfl) ?_; simp only [Act.put, List.setIfInBounds_toArray, List.set_cons_zero, List.set_cons_succ]
    refine WQ.off (by rfl) ?_; simp only [Act.put, List.setIfInBounds_toArray, List.set_cons_zero, List.set_cons_succ]
    refine WQ.val (by rfl) (fun v hv => by have k0 := hv.cell c0; have k1 := hv.cell d0; go_simp; first | done | with_reducible rfl | (rw [if_neg (by omega)])) ?_; simp only [Act.put, List.setIfInBounds_toArray, List.set_cons_zero, List.set_cons_succ]
    refine WQ.val (by rfl) (fun v hv => by have k0 := hv.cell c0; have k1 := hv.cell d0; go_simp; first | done | with_reducible rfl | (rw [if_neg (by omega)])) ?_; simp only [Act.put, List.setIfInBounds_toArray, List.set_cons_zero, List.set_cons_succ]
    refine WQ.done ?_
    intro w6 hw6
    have HB6 := Lib.hid (HB1.out.trans (Below.mono hw6 HB1.out.size))
    clear c0 d0 hcon
    go_wp2_with fail
    refine (awake_any w6).mono ?_
    rintro e w7 ⟨rfl, hb7⟩
    have HB7 := Lib.hid (HB6.out.trans (hb7.mono HB6.out.size))
    clear hb7
    go_wp2_with fail
    go_ret
    exact ⟨rfl, HB7.out⟩
end Go.Proofs.Ytccbiolgdamnpaa
