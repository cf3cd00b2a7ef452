/- The walk of the law AddrHalves. -/
import Derived.Test.YtgajmepmjbmdoaaDoorAddrI
namespace Go.Proofs.YtgajmepmjbmdoaaDoor
set_option linter.unusedSimpArgs false
set_option linter.unusedVariables false
open Go Go.RowKit

theorem bor_half (a k : Nat) (ha : a < 4294967296) (hk : k ≤ 31) (h : a % 2 ^ (k + 1) = 0) : bits .or .u32 (a : Int) ((2 : Int) ^ k % 4294967296) = ((a + 2 ^ k : Nat) : Int) := by
  have hp : 2 ^ k ≤ 2 ^ 31 := Nat.pow_le_pow_right (by omega) hk
  have e : (2 : Int) ^ k % 4294967296 = ((2 ^ k : Nat) : Int) := by
    have e1 : ((2 : Int) ^ k) = ((2 ^ k : Nat) : Int) := by simp
    rw [e1]; omega
  rw [e, u32_or_nat _ _ ha (by omega)]
  congr 1
  obtain ⟨q, rfl⟩ := Nat.dvd_of_mod_eq_zero h
  have hlt : 2 ^ k < 2 ^ (k + 1) := Nat.pow_lt_pow_right (by omega) (by omega)
  rw [← Nat.two_pow_add_eq_or_of_lt hlt]

theorem half_at (a n b : Nat) (hn : n ≤ 31) (ha : a < 4294967296) (hb : b < 4294967296) (h : mayNet a n = true) :
    a + 2 ^ (31 - n) < 4294967296 ∧ hasNet a (n + 1 : Nat) a = true ∧ hasNet (a + 2 ^ (31 - n)) (n + 1 : Nat) (a + 2 ^ (31 - n)) = true ∧
    ((hasNet a n b = true ∧ hasNet a (n + 1 : Nat) b = true ∧ hasNet (a + 2 ^ (31 - n)) (n + 1 : Nat) b = false) ∨ (hasNet a n b = true ∧ hasNet a (n + 1 : Nat) b = false ∧ hasNet (a + 2 ^ (31 - n)) (n + 1 : Nat) b = true) ∨
     (hasNet a n b = false ∧ hasNet a (n + 1 : Nat) b = false ∧ hasNet (a + 2 ^ (31 - n)) (n + 1 : Nat) b = false)) := by
  obtain ⟨h1, h2, h3, h4, h5⟩ := half_law a b n hn ha hb h
  refine ⟨h3, by unfold hasNet; rw [h1]; simp, by unfold hasNet; rw [h2]; simp, ?_⟩
  rw [h4]
  revert h5
  cases hasNet a (n + 1 : Nat) b <;> cases hasNet (a + 2 ^ (31 - n)) (n + 1 : Nat) b <;> simp
theorem has_self (a : Nat) (n : Int) : hasNet a n a = mayNet a n := by unfold hasNet; simp

set_option maxHeartbeats 4000000 in
set_option maxRecDepth 100000 in
theorem addrHalves_walk (a : Nat) (n : Int) (b : Nat) (w : World) (ha : a < 4294967296) (hn : (Lit.int .i64 n).wf = true) (hb : b < 4294967296) (hT : Tabs w) :
    Calls Tryd.prog 6 #[.agg #[.int .u32 a, .int .i64 n], .int .u32 b] w fun e w' => e = .returned (.bool true) ∧ Below w.heap.size w w' := by
  have HN := Lib.hid hn
  have HT0 := Lib.hid (hT.below ((Below.refl _ _).alloc (Nat.le_refl _) (.cells #[.int .u32 a, .int .i64 n] 30)))
  have HB0 := Lib.hid ((Below.refl w.heap.size w).alloc (Nat.le_refl _) (.cells #[.int .u32 a, .int .i64 n] 30))
  have N0 := NetOwn.new w a n 30
  have HA := Lib.hid (fun v (hT : Tabs v) => awake03_any v hT)
  clear hT hn
  by_cases h0 : n < 0
  · go_enter Tryd.func6, Tryd.ntmps6
    go_wp2_with fail
    refine (HA.out _ HT0.out).mono ?_
    rintro e w1 ⟨rfl, h1⟩
    have HB1 := Lib.hid (below_then HB0.out h1)
    clear h1
    go_wp2_with fail
    go_ret
    exact ⟨rfl, HB1.out⟩
  · by_cases h31 : 31 < n
    · go_enter Tryd.func6, Tryd.ntmps6
      go_wp2_with fail
      refine (HA.out _ HT0.out).mono ?_
      rintro e w1 ⟨rfl, h1⟩
      have HB1 := Lib.hid (below_then HB0.out h1)
      clear h1
      go_wp2_with fail
      go_ret
      exact ⟨rfl, HB1.out⟩
    · have g0 : 0 ≤ n := by omega
      have g1 : n ≤ 31 := by omega
      clear h0 h31
      cases hm : mayNet a n with
      | false =>
        have HH := Lib.hid (fun v => has_val a n a a a false v rfl rfl ha ha (by rw [has_self, hm]))
        clear hm
        go_enter Tryd.func6, Tryd.ntmps6
        go_wp2_with fail
        refine (HH.out _).mono ?_
        rintro e w1 ⟨rfl, h1⟩
        have HT1 := Lib.hid (HT0.out.below h1)
        have HB1 := Lib.hid (below_then HB0.out h1)
        clear h1
        go_wp2_with fail
        refine (HA.out _ HT1.out).mono ?_
        rintro e w2 ⟨rfl, h2⟩
        have HB2 := Lib.hid (below_then HB1.out h2)
        clear h2
        go_wp2_with fail
        go_ret
        exact ⟨rfl, HB2.out⟩
      | true =>
        obtain ⟨j, rfl⟩ := Int.eq_ofNat_of_zero_le g0
        obtain ⟨k1, k2, k3, k4⟩ := half_at a j b (by omega) ha hb hm
        have hd : a % 2 ^ ((31 - j) + 1) = 0 := by
          unfold mayNet at hm
          rw [decide_eq_true_iff] at hm
          have := hm.2.2
          rwa [show (32 - (j : Int)).toNat = (31 - j) + 1 by omega] at this
        have HOR := Lib.hid (bor_half a (31 - j) ha (by omega) hd)
        have HH := Lib.hid (fun v => has_val a j a a a true v rfl rfl ha ha (by rw [has_self, hm]))
        obtain ⟨c, hc⟩ : ∃ c, a + 2 ^ (31 - j) = c := ⟨_, rfl⟩
        have hc' : ((a : Int) + 2 ^ (31 - j)) = (c : Int) := by rw [← hc]; simp
        rw [hc] at k1 k3 k4 HOR
        have L1 := Lib.hid (fun v => has_val a ((j + 1 : Nat) : Int) a a a true v rfl rfl ha ha k2)
        have H1 := Lib.hid (fun v => has_val c ((j + 1 : Nat) : Int) c c c true v rfl rfl k1 k1 k3)
        have HC := Lib.hid hc
        have HC' := Lib.hid hc'
        have K1 := Lib.hid k1
        have K4 := Lib.hid k4
        clear hd hm k1 k2 k3 k4 hc hc' g0
        go_enter Tryd.func6, Tryd.ntmps6
        go_wp2_with fail
        refine (HH.out _).mono ?_
        rintro e w1 ⟨rfl, h1⟩
        have HT1 := Lib.hid (HT0.out.below h1)
        have HB1 := Lib.hid (below_then HB0.out h1)
        have N1 := N0.below h1
        obtain ⟨n0, n1, _, _⟩ := id N1
        have hlt1 : w.heap.size < w1.heap.size := by have := h1.size; simp at this; omega
        clear h1 N0
        go_wp2_with fail
        rw [HOR.out]
        have M3 := NetOwn.new (w1.alloc (.cells #[.int .u32 a, .int .i64 ((j : Int) + 1)] 30)) c ((j : Int) + 1) 30
        have L3 := (NetOwn.new w1 a ((j : Int) + 1) 30).box (.cells #[.int .u32 c, .int .i64 ((j : Int) + 1)] 30)
        have N3 := (N1.box (.cells #[.int .u32 a, .int .i64 ((j : Int) + 1)] 30)).box (.cells #[.int .u32 c, .int .i64 ((j : Int) + 1)] 30)
        have B3 : Below w1.heap.size w1 ((w1.alloc (.cells #[.int .u32 a, .int .i64 ((j : Int) + 1)] 30)).alloc (.cells #[.int .u32 c, .int .i64 ((j : Int) + 1)] 30)) := ((Below.refl _ _).alloc (Nat.le_refl _) _).alloc (by simp) _
        have HB3 := Lib.hid (below_then HB1.out B3)
        have HT3 := Lib.hid (HT1.out.below B3)
        have ehs : (w1.alloc (.cells #[.int .u32 a, .int .i64 ((j : Int) + 1)] 30)).heap.size = w1.heap.size + 1 := by simp
        rw [ehs] at M3
        generalize (w1.alloc (.cells #[.int .u32 a, .int .i64 ((j : Int) + 1)] 30)).alloc (.cells #[.int .u32 c, .int .i64 ((j : Int) + 1)] 30) = w3 at *
        clear n0 n1 N1 B3 ehs
        obtain ⟨n0, n1, _, _⟩ := N3
        obtain ⟨l0, l1, _, _⟩ := L3
        obtain ⟨m0, m1, _, _⟩ := M3
        have k4 := K4.out
        rw [show ((j + 1 : Nat) : Int) = (j : Int) + 1 by omega] at k4 L1 H1
        rcases k4 with ⟨q1, q2, q3⟩ | ⟨q1, q2, q3⟩ | ⟨q1, q2, q3⟩
        · have QN := Lib.hid (fun v => has_val a j b a b true v rfl rfl ha hb q1)
          have QL := Lib.hid (fun v => has_val a ((j : Int) + 1) b a b true v rfl rfl ha hb q2)
          have QH := Lib.hid (fun v => has_val c ((j : Int) + 1) b c b false v rfl rfl K1.out hb q3)
          clear q1 q2 q3
          refine WQ.enter w3 (Since.refl _) (by kernel_rfl) (by kernel_rfl) ?_
          refine WQ.call (f := 15) (args := #[]) (by rfl) (fun v hv => by go_simp) (fun v hv => (HA.out v (HT3.out.below hv)).mono (fun e v' ⟨he, hb⟩ => ⟨he, hv.step hb⟩)) ?_; simp only [Act.put, List.setIfInBounds_toArray, List.set_cons_zero, List.set_cons_succ]
          refine WQ.val (by rfl) (fun v hv => by have k0 := hv.cell n0; have k1 := hv.cell n1; have k2 := hv.cell l0; have k3 := hv.cell l1; have k4 := hv.cell m0; have k5 := hv.cell m1; go_simp; first | done | with_reducible rfl | (rw [if_neg (by omega)])) ?_; simp only [Act.put, List.setIfInBounds_toArray, List.set_cons_zero, List.set_cons_succ]
          refine WQ.val (by rfl) (fun v hv => by have k0 := hv.cell n0; have k1 := hv.cell n1; have k2 := hv.cell l0; have k3 := hv.cell l1; have k4 := hv.cell m0; have k5 := hv.cell m1; go_simp; first | done | with_reducible rfl | (rw [if_neg (by omega)])) ?_; simp only [Act.put, List.setIfInBounds_toArray, List.set_cons_zero, List.set_cons_succ]
          refine WQ.val (by rfl) (fun v hv => by have k0 := hv.cell n0; have k1 := hv.cell n1; have k2 := hv.cell l0; have k3 := hv.cell l1; have k4 := hv.cell m0; have k5 := hv.cell m1; go_simp; first | done | with_reducible rfl | (rw [if_neg (by omega)])) ?_; simp only [Act.put, List.setIfInBounds_toArray, List.set_cons_zero, List.set_cons_succ]
          refine WQ.call (f := 20) (args := #[.agg #[.int .u32 a, .int .i64 j], .int .u32 b]) (by rfl) (fun v hv => by go_simp) (fun v hv => (QN.out v).mono (fun e v' ⟨he, hb⟩ => ⟨he, hv.step hb⟩)) ?_; simp only [Act.put, List.setIfInBounds_toArray, List.set_cons_zero, List.set_cons_succ]
          refine WQ.val (by rfl) (fun v hv => by have k0 := hv.cell n0; have k1 := hv.cell n1; have k2 := hv.cell l0; have k3 := hv.cell l1; have k4 := hv.cell m0; have k5 := hv.cell m1; go_simp; first | done | with_reducible rfl | (rw [if_neg (by omega)])) ?_; simp only [Act.put, List.setIfInBounds_toArray, List.set_cons_zero, List.set_cons_succ]
          refine WQ.val (by rfl) (fun v hv => by have k0 := hv.cell n0; have k1 := hv.cell n1; have k2 := hv.cell l0; have k3 := hv.cell l1; have k4 := hv.cell m0; have k5 := hv.cell m1; go_simp; first | done | with_reducible rfl | (rw [if_neg (by omega)])) ?_; simp only [Act.put, List.setIfInBounds_toArray, List.set_cons_zero, List.set_cons_succ]
          refine WQ.call (f := 20) (args := #[.agg #[.int .u32 a, .int .i64 ((j : Int) + 1)], .int .u32 b]) (by rfl) (fun v hv => by go_simp) (fun v hv => (QL.out v).mono (fun e v' ⟨he, hb⟩ => ⟨he, hv.step hb⟩)) ?_; simp only [Act.put, List.setIfInBounds_toArray, List.set_cons_zero, List.set_cons_succ]
          refine WQ.val (by rfl) (fun v hv => by have k0 := hv.cell n0; have k1 := hv.cell n1; have k2 := hv.cell l0; have k3 := hv.cell l1; have k4 := hv.cell m0; have k5 := hv.cell m1; go_simp; first | done | with_reducible rfl | (rw [if_neg (by omega)])) ?_; simp only [Act.put, List.setIfInBounds_toArray, List.set_cons_zero, List.set_cons_succ]
          refine WQ.off (by rfl) ?_; simp only [Act.put, List.setIfInBounds_toArray, List.set_cons_zero, List.set_cons_succ]
          refine WQ.off (by rfl) ?_; simp only [Act.put, List.setIfInBounds_toArray, List.set_cons_zero, List.set_cons_succ]
          refine WQ.off (by rfl) ?_; simp only [Act.put, List.setIfInBounds_toArray, List.set_cons_zero, List.set_cons_succ]
          refine WQ.val (by rfl) (fun v hv => by have k0 := hv.cell n0; have k1 := hv.cell n1; have k2 := hv.cell l0; have k3 := hv.cell l1; have k4 := hv.cell m0; have k5 := hv.cell m1; go_simp; first | done | with_reducible rfl | (rw [if_neg (by omega)])) ?_; simp only [Act.put, List.setIfInBounds_toArray, List.set_cons_zero, List.set_cons_succ]
          refine WQ.val (by rfl) (fun v hv => by have k0 := hv.cell n0; have k1 := hv.cell n1; have k2 := hv.cell l0; have k3 := hv.cell l1; have k4 := hv.cell m0; have k5 := hv.cell m1; go_simp; first | done | with_reducible rfl | (rw [if_neg (by omega)])) ?_; simp only [Act.put, List.setIfInBounds_toArray, List.set_cons_zero, List.set_cons_succ]
          refine WQ.val (by rfl) (fun v hv => by have k0 := hv.cell n0; have k1 := hv.cell n1; have k2 := hv.cell l0; have k3 := hv.cell l1; have k4 := hv.cell m0; have k5 := hv.cell m1; go_simp; first | done | with_reducible rfl | (rw [if_neg (by omega)])) ?_; simp only [Act.put, List.setIfInBounds_toArray, List.set_cons_zero, List.set_cons_succ]
          refine WQ.val (by rfl) (fun v hv => by have k0 := hv.cell n0; have k1 := hv.cell n1; have k2 := hv.cell l0; have k3 := hv.cell l1; have k4 := hv.cell m0; have k5 := hv.cell m1; go_simp; first | done | with_reducible rfl | (rw [if_neg (by omega)])) ?_; simp only [Act.put, List.setIfInBounds_toArray, List.set_cons_zero, List.set_cons_succ]
          refine WQ.val (by rfl) (fun v hv => by have k0 := hv.cell n0; have k1 := hv.cell n1; have k2 := hv.cell l0; have k3 := hv.cell l1; have k4 := hv.cell m0; have k5 := hv.cell m1; go_simp; first | done | with_reducible rfl | (rw [if_neg (by omega)])) ?_; simp only [Act.put, List.setIfInBounds_toArray, List.set_cons_zero, List.set_cons_succ]
          refine WQ.val (by rfl) (fun v hv => by have k0 := hv.cell n0; have k1 := hv.cell n1; have k2 := hv.cell l0; have k3 := hv.cell l1; have k4 := hv.cell m0; have k5 := hv.cell m1; go_simp; first | done | with_reducible rfl | (rw [if_neg (by omega)])) ?_; simp only [Act.put, List.setIfInBounds_toArray, List.set_cons_zero, List.set_cons_succ]
          refine WQ.call (f := 20) (args := #[.agg #[.int .u32 a, .int .i64 ((j : Int) + 1)], .int .u32 b]) (by rfl) (fun v hv => by go_simp) (fun v hv => (QL.out v).mono (fun e v' ⟨he, hb⟩ => ⟨he, hv.step hb⟩)) ?_; simp only [Act.put, List.setIfInBounds_toArray, List.set_cons_zero, List.set_cons_succ]
          refine WQ.val (by rfl) (fun v hv => by have k0 := hv.cell n0; have k1 := hv.cell n1; have k2 := hv.cell l0; have k3 := hv.cell l1; have k4 := hv.cell m0; have k5 := hv.cell m1; go_simp; first | done | with_reducible rfl | (rw [if_neg (by omega)])) ?_; simp only [Act.put, List.setIfInBounds_toArray, List.set_cons_zero, List.set_cons_succ]
          refine WQ.val (by rfl) (fun v hv => by have k0 := hv.cell n0; have k1 := hv.cell n1; have k2 := hv.cell l0; have k3 := hv.cell l1; have k4 := hv.cell m0; have k5 := hv.cell m1; go_simp; first | done | with_reducible rfl | (rw [if_neg (by omega)])) ?_; simp only [Act.put, List.setIfInBounds_toArray, List.set_cons_zero, List.set_cons_succ]
          refine WQ.val (by rfl) (fun v hv => by have k0 := hv.cell n0; have k1 := hv.cell n1; have k2 := hv.cell l0; have k3 := hv.cell l1; have k4 := hv.cell m0; have k5 := hv.cell m1; go_simp; first | done | with_reducible rfl | (rw [if_neg (by omega)])) ?_; simp only [Act.put, List.setIfInBounds_toArray, List.set_cons_zero, List.set_cons_succ]
          refine WQ.call (f := 20) (args := #[.agg #[.int .u32 c, .int .i64 ((j : Int) + 1)], .int .u32 b]) (by rfl) (fun v hv => by go_simp) (fun v hv => (QH.out v).mono (fun e v' ⟨he, hb⟩ => ⟨he, hv.step hb⟩)) ?_; simp only [Act.put, List.setIfInBounds_toArray, List.set_cons_zero, List.set_cons_succ]
          refine WQ.val (by rfl) (fun v hv => by have k0 := hv.cell n0; have k1 := hv.cell n1; have k2 := hv.cell l0; have k3 := hv.cell l1; have k4 := hv.cell m0; have k5 := hv.cell m1; go_simp; first | done | with_reducible rfl | (rw [if_neg (by omega)])) ?_; simp only [Act.put, List.setIfInBounds_toArray, List.set_cons_zero, List.set_cons_succ]
          refine WQ.val (by rfl) (fun v hv => by have k0 := hv.cell n0; have k1 := hv.cell n1; have k2 := hv.cell l0; have k3 := hv.cell l1; have k4 := hv.cell m0; have k5 := hv.cell m1; go_simp; first | done | with_reducible rfl | (rw [if_neg (by omega)])) ?_; simp only [Act.put, List.setIfInBounds_toArray, List.set_cons_zero, List.set_cons_succ]
          refine WQ.val (by rfl) (fun v hv => by have k0 := hv.cell n0; have k1 := hv.cell n1; have k2 := hv.cell l0; have k3 := hv.cell l1; have k4 := hv.cell m0; have k5 := hv.cell m1; go_simp; first | done | with_reducible rfl | (rw [if_neg (by omega)])) ?_; simp only [Act.put, List.setIfInBounds_toArray, List.set_cons_zero, List.set_cons_succ]
          refine WQ.val (by rfl) (fun v hv => by have k0 := hv.cell n0; have k1 := hv.cell n1; have k2 := hv.cell l0; have k3 := hv.cell l1; have k4 := hv.cell m0; have k5 := hv.cell m1; go_simp; first | done | with_reducible rfl | (rw [if_neg (by omega)])) ?_; simp only [Act.put, List.setIfInBounds_toArray, List.set_cons_zero, List.set_cons_succ]
          refine WQ.val (by rfl) (fun v hv => by have k0 := hv.cell n0; have k1 := hv.cell n1; have k2 := hv.cell l0; have k3 := hv.cell l1; have k4 := hv.cell m0; have k5 := hv.cell m1; go_simp; first | done | with_reducible rfl | (rw [if_neg (by omega)])) ?_; simp only [Act.put, List.setIfInBounds_toArray, List.set_cons_zero, List.set_cons_succ]
          refine WQ.val (by rfl) (fun v hv => by have k0 := hv.cell n0; have k1 := hv.cell n1; have k2 := hv.cell l0; have k3 := hv.cell l1; have k4 := hv.cell m0; have k5 := hv.cell m1; go_simp; first | done | with_reducible rfl | (rw [if_neg (by omega)])) ?_; simp only [Act.put, List.setIfInBounds_toArray, List.set_cons_zero, List.set_cons_succ]
          refine WQ.val (by rfl) (fun v hv => by have k0 := hv.cell n0; have k1 := hv.cell n1; have k2 := hv.cell l0; have k3 := hv.cell l1; have k4 := hv.cell m0; have k5 := hv.cell m1; go_simp; first | done | with_reducible rfl | (rw [if_neg (by omega)])) ?_; simp only [Act.put, List.setIfInBounds_toArray, List.set_cons_zero, List.set_cons_succ]
          refine WQ.call (f := 20) (args := #[.agg #[.int .u32 a, .int .i64 ((j : Int) + 1)], .int .u32 a]) (by rfl) (fun v hv => by go_simp) (fun v hv => (L1.out v).mono (fun e v' ⟨he, hb⟩ => ⟨he, hv.step hb⟩)) ?_; simp only [Act.put, List.setIfInBounds_toArray, List.set_cons_zero, List.set_cons_succ]
          refine WQ.val (by rfl) (fun v hv => by have k0 := hv.cell n0; have k1 := hv.cell n1; have k2 := hv.cell l0; have k3 := hv.cell l1; have k4 := hv.cell m0; have k5 := hv.cell m1; go_simp; first | done | with_reducible rfl | (rw [if_neg (by omega)])) ?_; simp only [Act.put, List.setIfInBounds_toArray, List.set_cons_zero, List.set_cons_succ]
          refine WQ.val (by rfl) (fun v hv => by have k0 := hv.cell n0; have k1 := hv.cell n1; have k2 := hv.cell l0; have k3 := hv.cell l1; have k4 := hv.cell m0; have k5 := hv.cell m1; go_simp; first | done | with_reducible rfl | (rw [if_neg (by omega)])) ?_; simp only [Act.put, List.setIfInBounds_toArray, List.set_cons_zero, List.set_cons_succ]
          refine WQ.val (by rfl) (fun v hv => by have k0 := hv.cell n0; have k1 := hv.cell n1; have k2 := hv.cell l0; have k3 := hv.cell l1; have k4 := hv.cell m0; have k5 := hv.cell m1; go_simp; first | done | with_reducible rfl | (rw [if_neg (by omega)])) ?_; simp only [Act.put, List.setIfInBounds_toArray, List.set_cons_zero, List.set_cons_succ]
          refine WQ.val (by rfl) (fun v hv => by have k0 := hv.cell n0; have k1 := hv.cell n1; have k2 := hv.cell l0; have k3 := hv.cell l1; have k4 := hv.cell m0; have k5 := hv.cell m1; go_simp; first | done | with_reducible rfl | (rw [if_neg (by omega)])) ?_; simp only [Act.put, List.setIfInBounds_toArray, List.set_cons_zero, List.set_cons_succ]
          refine WQ.val (by rfl) (fun v hv => by have k0 := hv.cell n0; have k1 := hv.cell n1; have k2 := hv.cell l0; have k3 := hv.cell l1; have k4 := hv.cell m0; have k5 := hv.cell m1; go_simp; first | done | with_reducible rfl | (rw [if_neg (by omega)])) ?_; simp only [Act.put, List.setIfInBounds_toArray, List.set_cons_zero, List.set_cons_succ]
          refine WQ.call (f := 20) (args := #[.agg #[.int .u32 c, .int .i64 ((j : Int) + 1)], .int .u32 c]) (by rfl) (fun v hv => by go_simp) (fun v hv => (H1.out v).mono (fun e v' ⟨he, hb⟩ => ⟨he, hv.step hb⟩)) ?_; simp only [Act.put, List.setIfInBounds_toArray, List.set_cons_zero, List.set_cons_succ]
          refine WQ.val (by rfl) (fun v hv => by have k0 := hv.cell n0; have k1 := hv.cell n1; have k2 := hv.cell l0; have k3 := hv.cell l1; have k4 := hv.cell m0; have k5 := hv.cell m1; go_simp; first | done | with_reducible rfl | (rw [if_neg (by omega)])) ?_; simp only [Act.put, List.setIfInBounds_toArray, List.set_cons_zero, List.set_cons_succ]
          refine WQ.val (by rfl) (fun v hv => by have k0 := hv.cell n0; have k1 := hv.cell n1; have k2 := hv.cell l0; have k3 := hv.cell l1; have k4 := hv.cell m0; have k5 := hv.cell m1; go_simp; first | done | with_reducible rfl | (rw [if_neg (by omega)])) ?_; simp only [Act.put, List.setIfInBounds_toArray, List.set_cons_zero, List.set_cons_succ]
          refine WQ.done ?_
          intro w5 hw5
          have HB5 := Lib.hid (below_then HB3.out hw5)
          clear hw5 n0 n1 l0 l1 m0 m1
          go_wp2_with fail
          go_ret
          exact ⟨by first | rfl | (simp; done), HB5.out⟩
        · have QN := Lib.hid (fun v => has_val a j b a b true v rfl rfl ha hb q1)
          have QL := Lib.hid (fun v => has_val a ((j : Int) + 1) b a b false v rfl rfl ha hb q2)
          have QH := Lib.hid (fun v => has_val c ((j : Int) + 1) b c b true v rfl rfl K1.out hb q3)
          clear q1 q2 q3
          refine WQ.enter w3 (Since.refl _) (by kernel_rfl) (by kernel_rfl) ?_
          refine WQ.call (f := 15) (args := #[]) (by rfl) (fun v hv => by go_simp) (fun v hv => (HA.out v (HT3.out.below hv)).mono (fun e v' ⟨he, hb⟩ => ⟨he, hv.step hb⟩)) ?_; simp only [Act.put, List.setIfInBounds_toArray, List.set_cons_zero, List.set_cons_succ]
          refine WQ.val (by rfl) (fun v hv => by have k0 := hv.cell n0; have k1 := hv.cell n1; have k2 := hv.cell l0; have k3 := hv.cell l1; have k4 := hv.cell m0; have k5 := hv.cell m1; go_simp; first | done | with_reducible rfl | (rw [if_neg (by omega)])) ?_; simp only [Act.put, List.setIfInBounds_toArray, List.set_cons_zero, List.set_cons_succ]
          refine WQ.val (by rfl) (fun v hv => by have k0 := hv.cell n0; have k1 := hv.cell n1; have k2 := hv.cell l0; have k3 := hv.cell l1; have k4 := hv.cell m0; have k5 := hv.cell m1; go_simp; first | done | with_reducible rfl | (rw [if_neg (by omega)])) ?_; simp only [Act.put, List.setIfInBounds_toArray, List.set_cons_zero, List.set_cons_succ]
          refine WQ.val (by rfl) (fun v hv => by have k0 := hv.cell n0; have k1 := hv.cell n1; have k2 := hv.cell l0; have k3 := hv.cell l1; have k4 := hv.cell m0; have k5 := hv.cell m1; go_simp; first | done | with_reducible rfl | (rw [if_neg (by omega)])) ?_; simp only [Act.put, List.setIfInBounds_toArray, List.set_cons_zero, List.set_cons_succ]
          refine WQ.call (f := 20) (args := #[.agg #[.int .u32 a, .int .i64 j], .int .u32 b]) (by rfl) (fun v hv => by go_simp) (fun v hv => (QN.out v).mono (fun e v' ⟨he, hb⟩ => ⟨he, hv.step hb⟩)) ?_; simp only [Act.put, List.setIfInBounds_toArray, List.set_cons_zero, List.set_cons_succ]
          refine WQ.val (by rfl) (fun v hv => by have k0 := hv.cell n0; have k1 := hv.cell n1; have k2 := hv.cell l0; have k3 := hv.cell l1; have k4 := hv.cell m0; have k5 := hv.cell m1; go_simp; first | done | with_reducible rfl | (rw [if_neg (by omega)])) ?_; simp only [Act.put, List.setIfInBounds_toArray, List.set_cons_zero, List.set_cons_succ]
          refine WQ.val (by rfl) (fun v hv => by have k0 := hv.cell n0; have k1 := hv.cell n1; have k2 := hv.cell l0; have k3 := hv.cell l1; have k4 := hv.cell m0; have k5 := hv.cell m1; go_simp; first | done | with_reducible rfl | (rw [if_neg (by omega)])) ?_; simp only [Act.put, List.setIfInBounds_toArray, List.set_cons_zero, List.set_cons_succ]
          refine WQ.call (f := 20) (args := #[.agg #[.int .u32 a, .int .i64 ((j : Int) + 1)], .int .u32 b]) (by rfl) (fun v hv => by go_simp) (fun v hv => (QL.out v).mono (fun e v' ⟨he, hb⟩ => ⟨he, hv.step hb⟩)) ?_; simp only [Act.put, List.setIfInBounds_toArray, List.set_cons_zero, List.set_cons_succ]
          refine WQ.val (by rfl) (fun v hv => by have k0 := hv.cell n0; have k1 := hv.cell n1; have k2 := hv.cell l0; have k3 := hv.cell l1; have k4 := hv.cell m0; have k5 := hv.cell m1; go_simp; first | done | with_reducible rfl | (rw [if_neg (by omega)])) ?_; simp only [Act.put, List.setIfInBounds_toArray, List.set_cons_zero, List.set_cons_succ]
          refine WQ.val (by rfl) (fun v hv => by have k0 := hv.cell n0; have k1 := hv.cell n1; have k2 := hv.cell l0; have k3 := hv.cell l1; have k4 := hv.cell m0; have k5 := hv.cell m1; go_simp; first | done | with_reducible rfl | (rw [if_neg (by omega)])) ?_; simp only [Act.put, List.setIfInBounds_toArray, List.set_cons_zero, List.set_cons_succ]
          refine WQ.val (by rfl) (fun v hv => by have k0 := hv.cell n0; have k1 := hv.cell n1; have k2 := hv.cell l0; have k3 := hv.cell l1; have k4 := hv.cell m0; have k5 := hv.cell m1; go_simp; first | done | with_reducible rfl | (rw [if_neg (by omega)])) ?_; simp only [Act.put, List.setIfInBounds_toArray, List.set_cons_zero, List.set_cons_succ]
          refine WQ.call (f := 20) (args := #[.agg #[.int .u32 c, .int .i64 ((j : Int) + 1)], .int .u32 b]) (by rfl) (fun v hv => by go_simp) (fun v hv => (QH.out v).mono (fun e v' ⟨he, hb⟩ => ⟨he, hv.step hb⟩)) ?_; simp only [Act.put, List.setIfInBounds_toArray, List.set_cons_zero, List.set_cons_succ]
          refine WQ.val (by rfl) (fun v hv => by have k0 := hv.cell n0; have k1 := hv.cell n1; have k2 := hv.cell l0; have k3 := hv.cell l1; have k4 := hv.cell m0; have k5 := hv.cell m1; go_simp; first | done | with_reducible rfl | (rw [if_neg (by omega)])) ?_; simp only [Act.put, List.setIfInBounds_toArray, List.set_cons_zero, List.set_cons_succ]
          refine WQ.val (by rfl) (fun v hv => by have k0 := hv.cell n0; have k1 := hv.cell n1; have k2 := hv.cell l0; have k3 := hv.cell l1; have k4 := hv.cell m0; have k5 := hv.cell m1; go_simp; first | done | with_reducible rfl | (rw [if_neg (by omega)])) ?_; simp only [Act.put, List.setIfInBounds_toArray, List.set_cons_zero, List.set_cons_succ]
          refine WQ.val (by rfl) (fun v hv => by have k0 := hv.cell n0; have k1 := hv.cell n1; have k2 := hv.cell l0; have k3 := hv.cell l1; have k4 := hv.cell m0; have k5 := hv.cell m1; go_simp; first | done | with_reducible rfl | (rw [if_neg (by omega)])) ?_; simp only [Act.put, List.setIfInBounds_toArray, List.set_cons_zero, List.set_cons_succ]
          refine WQ.val (by rfl) (fun v hv => by have k0 := hv.cell n0; have k1 := hv.cell n1; have k2 := hv.cell l0; have k3 := hv.cell l1; have k4 := hv.cell m0; have k5 := hv.cell m1; go_simp; first | done | with_reducible rfl | (rw [if_neg (by omega)])) ?_; simp only [Act.put, List.setIfInBounds_toArray, List.set_cons_zero, List.set_cons_succ]
          refine WQ.val (by rfl) (fun v hv => by have k0 := hv.cell n0; have k1 := hv.cell n1; have k2 := hv.cell l0; have k3 := hv.cell l1; have k4 := hv.cell m0; have k5 := hv.cell m1; go_simp; first | done | with_reducible rfl | (rw [if_neg (by omega)])) ?_; simp only [Act.put, List.setIfInBounds_toArray, List.set_cons_zero, List.set_cons_succ]
          refine WQ.val (by rfl) (fun v hv => by have k0 := hv.cell n0; have k1 := hv.cell n1; have k2 := hv.cell l0; have k3 := hv.cell l1; have k4 := hv.cell m0; have k5 := hv.cell m1; go_simp; first | done | with_reducible rfl | (rw [if_neg (by omega)])) ?_; simp only [Act.put, List.setIfInBounds_toArray, List.set_cons_zero, List.set_cons_succ]
          refine WQ.call (f := 20) (args := #[.agg #[.int .u32 a, .int .i64 ((j : Int) + 1)], .int .u32 b]) (by rfl) (fun v hv => by go_simp) (fun v hv => (QL.out v).mono (fun e v' ⟨he, hb⟩ => ⟨he, hv.step hb⟩)) ?_; simp only [Act.put, List.setIfInBounds_toArray, List.set_cons_zero, List.set_cons_succ]
          refine WQ.val (by rfl) (fun v hv => by have k0 := hv.cell n0; have k1 := hv.cell n1; have k2 := hv.cell l0; have k3 := hv.cell l1; have k4 := hv.cell m0; have k5 := hv.cell m1; go_simp; first | done | with_reducible rfl | (rw [if_neg (by omega)])) ?_; simp only [Act.put, List.setIfInBounds_toArray, List.set_cons_zero, List.set_cons_succ]
          refine WQ.off (by rfl) ?_; simp only [Act.put, List.setIfInBounds_toArray, List.set_cons_zero, List.set_cons_succ]
          refine WQ.off (by rfl) ?_; simp only [Act.put, List.setIfInBounds_toArray, List.set_cons_zero, List.set_cons_succ]
          refine WQ.off (by rfl) ?_; simp only [Act.put, List.setIfInBounds_toArray, List.set_cons_zero, List.set_cons_succ]
          refine WQ.val (by rfl) (fun v hv => by have k0 := hv.cell n0; have k1 := hv.cell n1; have k2 := hv.cell l0; have k3 := hv.cell l1; have k4 := hv.cell m0; have k5 := hv.cell m1; go_simp; first | done | with_reducible rfl | (rw [if_neg (by omega)])) ?_; simp only [Act.put, List.setIfInBounds_toArray, List.set_cons_zero, List.set_cons_succ]
          refine WQ.val (by rfl) (fun v hv => by have k0 := hv.cell n0; have k1 := hv.cell n1; have k2 := hv.cell l0; have k3 := hv.cell l1; have k4 := hv.cell m0; have k5 := hv.cell m1; go_simp; first | done | with_reducible rfl | (rw [if_neg (by omega)])) ?_; simp only [Act.put, List.setIfInBounds_toArray, List.set_cons_zero, List.set_cons_succ]
          refine WQ.val (by rfl) (fun v hv => by have k0 := hv.cell n0; have k1 := hv.cell n1; have k2 := hv.cell l0; have k3 := hv.cell l1; have k4 := hv.cell m0; have k5 := hv.cell m1; go_simp; first | done | with_reducible rfl | (rw [if_neg (by omega)])) ?_; simp only [Act.put, List.setIfInBounds_toArray, List.set_cons_zero, List.set_cons_succ]
          refine WQ.val (by rfl) (fun v hv => by have k0 := hv.cell n0; have k1 := hv.cell n1; have k2 := hv.cell l0; have k3 := hv.cell l1; have k4 := hv.cell m0; have k5 := hv.cell m1; go_simp; first | done | with_reducible rfl | (rw [if_neg (by omega)])) ?_; simp only [Act.put, List.setIfInBounds_toArray, List.set_cons_zero, List.set_cons_succ]
          refine WQ.val (by rfl) (fun v hv => by have k0 := hv.cell n0; have k1 := hv.cell n1; have k2 := hv.cell l0; have k3 := hv.cell l1; have k4 := hv.cell m0; have k5 := hv.cell m1; go_simp; first | done | with_reducible rfl | (rw [if_neg (by omega)])) ?_; simp only [Act.put, List.setIfInBounds_toArray, List.set_cons_zero, List.set_cons_succ]
          refine WQ.val (by rfl) (fun v hv => by have k0 := hv.cell n0; have k1 := hv.cell n1; have k2 := hv.cell l0; have k3 := hv.cell l1; have k4 := hv.cell m0; have k5 := hv.cell m1; go_simp; first | done | with_reducible rfl | (rw [if_neg (by omega)])) ?_; simp only [Act.put, List.setIfInBounds_toArray, List.set_cons_zero, List.set_cons_succ]
          refine WQ.val (by rfl) (fun v hv => by have k0 := hv.cell n0; have k1 := hv.cell n1; have k2 := hv.cell l0; have k3 := hv.cell l1; have k4 := hv.cell m0; have k5 := hv.cell m1; go_simp; first | done | with_reducible rfl | (rw [if_neg (by omega)])) ?_; simp only [Act.put, List.setIfInBounds_toArray, List.set_cons_zero, List.set_cons_succ]
          refine WQ.call (f := 20) (args := #[.agg #[.int .u32 a, .int .i64 ((j : Int) + 1)], .int .u32 a]) (by rfl) (fun v hv => by go_simp) (fun v hv => (L1.out v).mono (fun e v' ⟨he, hb⟩ => ⟨he, hv.step hb⟩)) ?_; simp only [Act.put, List.setIfInBounds_toArray, List.set_cons_zero, List.set_cons_succ]
          refine WQ.val (by rfl) (fun v hv => by have k0 := hv.cell n0; have k1 := hv.cell n1; have k2 := hv.cell l0; have k3 := hv.cell l1; have k4 := hv.cell m0; have k5 := hv.cell m1; go_simp; first | done | with_reducible rfl | (rw [if_neg (by omega)])) ?_; simp only [Act.put, List.setIfInBounds_toArray, List.set_cons_zero, List.set_cons_succ]
          refine WQ.val (by rfl) (fun v hv => by have k0 := hv.cell n0; have k1 := hv.cell n1; have k2 := hv.cell l0; have k3 := hv.cell l1; have k4 := hv.cell m0; have k5 := hv.cell m1; go_simp; first | done | with_reducible rfl | (rw [if_neg (by omega)])) ?_; simp only [Act.put, List.setIfInBounds_toArray, List.set_cons_zero, List.set_cons_succ]
          refine WQ.val (by rfl) (fun v hv => by have k0 := hv.cell n0; have k1 := hv.cell n1; have k2 := hv.cell l0; have k3 := hv.cell l1; have k4 := hv.cell m0; have k5 := hv.cell m1; go_simp; first | done | with_reducible rfl | (rw [if_neg (by omega)])) ?_; simp only [Act.put, List.setIfInBounds_toArray, List.set_cons_zero, List.set_cons_succ]
          refine WQ.val (by rfl) (fun v hv => by have k0 := hv.cell n0; have k1 := hv.cell n1; have k2 := hv.cell l0; have k3 := hv.cell l1; have k4 := hv.cell m0; have k5 := hv.cell m1; go_simp; first | done | with_reducible rfl | (rw [if_neg (by omega)])) ?_; simp only [Act.put, List.setIfInBounds_toArray, List.set_cons_zero, List.set_cons_succ]
          refine WQ.val (by rfl) (fun v hv => by have k0 := hv.cell n0; have k1 := hv.cell n1; have k2 := hv.cell l0; have k3 := hv.cell l1; have k4 := hv.cell m0; have k5 := hv.cell m1; go_simp; first | done | with_reducible rfl | (rw [if_neg (by omega)])) ?_; simp only [Act.put, List.setIfInBounds_toArray, List.set_cons_zero, List.set_cons_succ]
          refine WQ.call (f := 20) (args := #[.agg #[.int .u32 c, .int .i64 ((j : Int) + 1)], .int .u32 c]) (by rfl) (fun v hv => by go_simp) (fun v hv => (H1.out v).mono (fun e v' ⟨he, hb⟩ => ⟨he, hv.step hb⟩)) ?_; simp only [Act.put, List.setIfInBounds_toArray, List.set_cons_zero, List.set_cons_succ]
          refine WQ.val (by rfl) (fun v hv => by have k0 := hv.cell n0; have k1 := hv.cell n1; have k2 := hv.cell l0; have k3 := hv.cell l1; have k4 := hv.cell m0; have k5 := hv.cell m1; go_simp; first | done | with_reducible rfl | (rw [if_neg (by omega)])) ?_; simp only [Act.put, List.setIfInBounds_toArray, List.set_cons_zero, List.set_cons_succ]
          refine WQ.val (by rfl) (fun v hv => by have k0 := hv.cell n0; have k1 := hv.cell n1; have k2 := hv.cell l0; have k3 := hv.cell l1; have k4 := hv.cell m0; have k5 := hv.cell m1; go_simp; first | done | with_reducible rfl | (rw [if_neg (by omega)])) ?_; simp only [Act.put, List.setIfInBounds_toArray, List.set_cons_zero, List.set_cons_succ]
          refine WQ.done ?_
          intro w5 hw5
          have HB5 := Lib.hid (below_then HB3.out hw5)
          clear hw5 n0 n1 l0 l1 m0 m1
          go_wp2_with fail
          go_ret
          exact ⟨by first | rfl | (simp; done), HB5.out⟩
        · have QN := Lib.hid (fun v => has_val a j b a b false v rfl rfl ha hb q1)
          have QL := Lib.hid (fun v => has_val a ((j : Int) + 1) b a b false v rfl rfl ha hb q2)
          have QH := Lib.hid (fun v => has_val c ((j : Int) + 1) b c b false v rfl rfl K1.out hb q3)
          clear q1 q2 q3
          refine WQ.enter w3 (Since.refl _) (by kernel_rfl) (by kernel_rfl) ?_
          refine WQ.call (f := 15) (args := #[]) (by rfl) (fun v hv => by go_simp) (fun v hv => (HA.out v (HT3.out.below hv)).mono (fun e v' ⟨he, hb⟩ => ⟨he, hv.step hb⟩)) ?_; simp only [Act.put, List.setIfInBounds_toArray, List.set_cons_zero, List.set_cons_succ]
          refine WQ.val (by rfl) (fun v hv => by have k0 := hv.cell n0; have k1 := hv.cell n1; have k2 := hv.cell l0; have k3 := hv.cell l1; have k4 := hv.cell m0; have k5 := hv.cell m1; go_simp; first | done | with_reducible rfl | (rw [if_neg (by omega)])) ?_; simp only [Act.put, List.setIfInBounds_toArray, List.set_cons_zero, List.set_cons_succ]
          refine WQ.val (by rfl) (fun v hv => by have k0 := hv.cell n0; have k1 := hv.cell n1; have k2 := hv.cell l0; have k3 := hv.cell l1; have k4 := hv.cell m0; have k5 := hv.cell m1; go_simp; first | done | with_reducible rfl | (rw [if_neg (by omega)])) ?_; simp only [Act.put, List.setIfInBounds_toArray, List.set_cons_zero, List.set_cons_succ]
          refine WQ.val (by rfl) (fun v hv => by have k0 := hv.cell n0; have k1 := hv.cell n1; have k2 := hv.cell l0; have k3 := hv.cell l1; have k4 := hv.cell m0; have k5 := hv.cell m1; go_simp; first | done | with_reducible rfl | (rw [if_neg (by omega)])) ?_; simp only [Act.put, List.setIfInBounds_toArray, List.set_cons_zero, List.set_cons_succ]
          refine WQ.call (f := 20) (args := #[.agg #[.int .u32 a, .int .i64 j], .int .u32 b]) (by rfl) (fun v hv => by go_simp) (fun v hv => (QN.out v).mono (fun e v' ⟨he, hb⟩ => ⟨he, hv.step hb⟩)) ?_; simp only [Act.put, List.setIfInBounds_toArray, List.set_cons_zero, List.set_cons_succ]
          refine WQ.val (by rfl) (fun v hv => by have k0 := hv.cell n0; have k1 := hv.cell n1; have k2 := hv.cell l0; have k3 := hv.cell l1; have k4 := hv.cell m0; have k5 := hv.cell m1; go_simp; first | done | with_reducible rfl | (rw [if_neg (by omega)])) ?_; simp only [Act.put, List.setIfInBounds_toArray, List.set_cons_zero, List.set_cons_succ]
          refine WQ.val (by rfl) (fun v hv => by have k0 := hv.cell n0; have k1 := hv.cell n1; have k2 := hv.cell l0; have k3 := hv.cell l1; have k4 := hv.cell m0; have k5 := hv.cell m1; go_simp; first | done | with_reducible rfl | (rw [if_neg (by omega)])) ?_; simp only [Act.put, List.setIfInBounds_toArray, List.set_cons_zero, List.set_cons_succ]
          refine WQ.call (f := 20) (args := #[.agg #[.int .u32 a, .int .i64 ((j : Int) + 1)], .int .u32 b]) (by rfl) (fun v hv => by go_simp) (fun v hv => (QL.out v).mono (fun e v' ⟨he, hb⟩ => ⟨he, hv.step hb⟩)) ?_; simp only [Act.put, List.setIfInBounds_toArray, List.set_cons_zero, List.set_cons_succ]
          refine WQ.val (by rfl) (fun v hv => by have k0 := hv.cell n0; have k1 := hv.cell n1; have k2 := hv.cell l0; have k3 := hv.cell l1; have k4 := hv.cell m0; have k5 := hv.cell m1; go_simp; first | done | with_reducible rfl | (rw [if_neg (by omega)])) ?_; simp only [Act.put, List.setIfInBounds_toArray, List.set_cons_zero, List.set_cons_succ]
          refine WQ.val (by rfl) (fun v hv => by have k0 := hv.cell n0; have k1 := hv.cell n1; have k2 := hv.cell l0; have k3 := hv.cell l1; have k4 := hv.cell m0; have k5 := hv.cell m1; go_simp; first | done | with_reducible rfl | (rw [if_neg (by omega)])) ?_; simp only [Act.put, List.setIfInBounds_toArray, List.set_cons_zero, List.set_cons_succ]
          refine WQ.val (by rfl) (fun v hv => by have k0 := hv.cell n0; have k1 := hv.cell n1; have k2 := hv.cell l0; have k3 := hv.cell l1; have k4 := hv.cell m0; have k5 := hv.cell m1; go_simp; first | done | with_reducible rfl | (rw [if_neg (by omega)])) ?_; simp only [Act.put, List.setIfInBounds_toArray, List.set_cons_zero, List.set_cons_succ]
          refine WQ.call (f := 20) (args := #[.agg #[.int .u32 c, .int .i64 ((j : Int) + 1)], .int .u32 b]) (by rfl) (fun v hv => by go_simp) (fun v hv => (QH.out v).mono (fun e v' ⟨he, hb⟩ => ⟨he, hv.step hb⟩)) ?_; simp only [Act.put, List.setIfInBounds_toArray, List.set_cons_zero, List.set_cons_succ]
          refine WQ.val (by rfl) (fun v hv => by have k0 := hv.cell n0; have k1 := hv.cell n1; have k2 := hv.cell l0; have k3 := hv.cell l1; have k4 := hv.cell m0; have k5 := hv.cell m1; go_simp; first | done | with_reducible rfl | (rw [if_neg (by omega)])) ?_; simp only [Act.put, List.setIfInBounds_toArray, List.set_cons_zero, List.set_cons_succ]
          refine WQ.val (by rfl) (fun v hv => by have k0 := hv.cell n0; have k1 := hv.cell n1; have k2 := hv.cell l0; have k3 := hv.cell l1; have k4 := hv.cell m0; have k5 := hv.cell m1; go_simp; first | done | with_reducible rfl | (rw [if_neg (by omega)])) ?_; simp only [Act.put, List.setIfInBounds_toArray, List.set_cons_zero, List.set_cons_succ]
          refine WQ.val (by rfl) (fun v hv => by have k0 := hv.cell n0; have k1 := hv.cell n1; have k2 := hv.cell l0; have k3 := hv.cell l1; have k4 := hv.cell m0; have k5 := hv.cell m1; go_simp; first | done | with_reducible rfl | (rw [if_neg (by omega)])) ?_; simp only [Act.put, List.setIfInBounds_toArray, List.set_cons_zero, List.set_cons_succ]
          refine WQ.val (by rfl) (fun v hv => by have k0 := hv.cell n0; have k1 := hv.cell n1; have k2 := hv.cell l0; have k3 := hv.cell l1; have k4 := hv.cell m0; have k5 := hv.cell m1; go_simp; first | done | with_reducible rfl | (rw [if_neg (by omega)])) ?_; simp only [Act.put, List.setIfInBounds_toArray, List.set_cons_zero, List.set_cons_succ]
          refine WQ.val (by rfl) (fun v hv => by have k0 := hv.cell n0; have k1 := hv.cell n1; have k2 := hv.cell l0; have k3 := hv.cell l1; have k4 := hv.cell m0; have k5 := hv.cell m1; go_simp; first | done | with_reducible rfl | (rw [if_neg (by omega)])) ?_; simp only [Act.put, List.setIfInBounds_toArray, List.set_cons_zero, List.set_cons_succ]
          refine WQ.val (by rfl) (fun v hv => by have k0 := hv.cell n0; have k1 := hv.cell n1; have k2 := hv.cell l0; have k3 := hv.cell l1; have k4 := hv.cell m0; have k5 := hv.cell m1; go_simp; first | done | with_reducible rfl | (rw [if_neg (by omega)])) ?_; simp only [Act.put, List.setIfInBounds_toArray, List.set_cons_zero, List.set_cons_succ]
          refine WQ.call (f := 20) (args := #[.agg #[.int .u32 a, .int .i64 ((j : Int) + 1)], .int .u32 b]) (by rfl) (fun v hv => by go_simp) (fun v hv => (QL.out v).mono (fun e v' ⟨he, hb⟩ => ⟨he, hv.step hb⟩)) ?_; simp only [Act.put, List.setIfInBounds_toArray, List.set_cons_zero, List.set_cons_succ]
          refine WQ.val (by rfl) (fun v hv => by have k0 := hv.cell n0; have k1 := hv.cell n1; have k2 := hv.cell l0; have k3 := hv.cell l1; have k4 := hv.cell m0; have k5 := hv.cell m1; go_simp; first | done | with_reducible rfl | (rw [if_neg (by omega)])) ?_; simp only [Act.put, List.setIfInBounds_toArray, List.set_cons_zero, List.set_cons_succ]
          refine WQ.off (by rfl) ?_; simp only [Act.put, List.setIfInBounds_toArray, List.set_cons_zero, List.set_cons_succ]
          refine WQ.off (by rfl) ?_; simp only [Act.put, List.setIfInBounds_toArray, List.set_cons_zero, List.set_cons_succ]
          refine WQ.off (by rfl) ?_; simp only [Act.put, List.setIfInBounds_toArray, List.set_cons_zero, List.set_cons_succ]
          refine WQ.val (by rfl) (fun v hv => by have k0 := hv.cell n0; have k1 := hv.cell n1; have k2 := hv.cell l0; have k3 := hv.cell l1; have k4 := hv.cell m0; have k5 := hv.cell m1; go_simp; first | done | with_reducible rfl | (rw [if_neg (by omega)])) ?_; simp only [Act.put, List.setIfInBounds_toArray, List.set_cons_zero, List.set_cons_succ]
          refine WQ.val (by rfl) (fun v hv => by have k0 := hv.cell n0; have k1 := hv.cell n1; have k2 := hv.cell l0; have k3 := hv.cell l1; have k4 := hv.cell m0; have k5 := hv.cell m1; go_simp; first | done | with_reducible rfl | (rw [if_neg (by omega)])) ?_; simp only [Act.put, List.setIfInBounds_toArray, List.set_cons_zero, List.set_cons_succ]
          refine WQ.val (by rfl) (fun v hv => by have k0 := hv.cell n0; have k1 := hv.cell n1; have k2 := hv.cell l0; have k3 := hv.cell l1; have k4 := hv.cell m0; have k5 := hv.cell m1; go_simp; first | done | with_reducible rfl | (rw [if_neg (by omega)])) ?_; simp only [Act.put, List.setIfInBounds_toArray, List.set_cons_zero, List.set_cons_succ]
          refine WQ.val (by rfl) (fun v hv => by have k0 := hv.cell n0; have k1 := hv.cell n1; have k2 := hv.cell l0; have k3 := hv.cell l1; have k4 := hv.cell m0; have k5 := hv.cell m1; go_simp; first | done | with_reducible rfl | (rw [if_neg (by omega)])) ?_; simp only [Act.put, List.setIfInBounds_toArray, List.set_cons_zero, List.set_cons_succ]
          refine WQ.val (by rfl) (fun v hv => by have k0 := hv.cell n0; have k1 := hv.cell n1; have k2 := hv.cell l0; have k3 := hv.cell l1; have k4 := hv.cell m0; have k5 := hv.cell m1; go_simp; first | done | with_reducible rfl | (rw [if_neg (by omega)])) ?_; simp only [Act.put, List.setIfInBounds_toArray, List.set_cons_zero, List.set_cons_succ]
          refine WQ.val (by rfl) (fun v hv => by have k0 := hv.cell n0; have k1 := hv.cell n1; have k2 := hv.cell l0; have k3 := hv.cell l1; have k4 := hv.cell m0; have k5 := hv.cell m1; go_simp; first | done | with_reducible rfl | (rw [if_neg (by omega)])) ?_; simp only [Act.put, List.setIfInBounds_toArray, List.set_cons_zero, List.set_cons_succ]
          refine WQ.val (by rfl) (fun v hv => by have k0 := hv.cell n0; have k1 := hv.cell n1; have k2 := hv.cell l0; have k3 := hv.cell l1; have k4 := hv.cell m0; have k5 := hv.cell m1; go_simp; first | done | with_reducible rfl | (rw [if_neg (by omega)])) ?_; simp only [Act.put, List.setIfInBounds_toArray, List.set_cons_zero, List.set_cons_succ]
          refine WQ.call (f := 20) (args := #[.agg #[.int .u32 a, .int .i64 ((j : Int) + 1)], .int .u32 a]) (by rfl) (fun v hv => by go_simp) (fun v hv => (L1.out v).mono (fun e v' ⟨he, hb⟩ => ⟨he, hv.step hb⟩)) ?_; simp only [Act.put, List.setIfInBounds_toArray, List.set_cons_zero, List.set_cons_succ]
          refine WQ.val (by rfl) (fun v hv => by have k0 := hv.cell n0; have k1 := hv.cell n1; have k2 := hv.cell l0; have k3 := hv.cell l1; have k4 := hv.cell m0; have k5 := hv.cell m1; go_simp; first | done | with_reducible rfl | (rw [if_neg (by omega)])) ?_; simp only [Act.put, List.setIfInBounds_toArray, List.set_cons_zero, List.set_cons_succ]
          refine WQ.val (by rfl) (fun v hv => by have k0 := hv.cell n0; have k1 := hv.cell n1; have k2 := hv.cell l0; have k3 := hv.cell l1; have k4 := hv.cell m0; have k5 := hv.cell m1; go_simp; first | done | with_reducible rfl | (rw [if_neg (by omega)])) ?_; simp only [Act.put, List.setIfInBounds_toArray, List.set_cons_zero, List.set_cons_succ]
          refine WQ.val (by rfl) (fun v hv => by have k0 := hv.cell n0; have k1 := hv.cell n1; have k2 := hv.cell l0; have k3 := hv.cell l1; have k4 := hv.cell m0; have k5 := hv.cell m1; go_simp; first | done | with_reducible rfl | (rw [if_neg (by omega)])) ?_; simp only [Act.put, List.setIfInBounds_toArray, List.set_cons_zero, List.set_cons_succ]
          refine WQ.val (by rfl) (fun v hv => by have k0 := hv.cell n0; have k1 := hv.cell n1; have k2 := hv.cell l0; have k3 := hv.cell l1; have k4 := hv.cell m0; have k5 := hv.cell m1; go_simp; first | done | with_reducible rfl | (rw [if_neg (by omega)])) ?_; simp only [Act.put, List.setIfInBounds_toArray, List.set_cons_zero, List.set_cons_succ]
          refine WQ.val (by rfl) (fun v hv => by have k0 := hv.cell n0; have k1 := hv.cell n1; have k2 := hv.cell l0; have k3 := hv.cell l1; have k4 := hv.cell m0; have k5 := hv.cell m1; go_simp; first | done | with_reducible rfl | (rw [if_neg (by omega)])) ?_; simp only [Act.put, List.setIfInBounds_toArray, List.set_cons_zero, List.set_cons_succ]
          refine WQ.call (f := 20) (args := #[.agg #[.int .u32 c, .int .i64 ((j : Int) + 1)], .int .u32 c]) (by rfl) (fun v hv => by go_simp) (fun v hv => (H1.out v).mono (fun e v' ⟨he, hb⟩ => ⟨he, hv.step hb⟩)) ?_; simp only [Act.put, List.setIfInBounds_toArray, List.set_cons_zero, List.set_cons_succ]
          refine WQ.val (by rfl) (fun v hv => by have k0 := hv.cell n0; have k1 := hv.cell n1; have k2 := hv.cell l0; have k3 := hv.cell l1; have k4 := hv.cell m0; have k5 := hv.cell m1; go_simp; first | done | with_reducible rfl | (rw [if_neg (by omega)])) ?_; simp only [Act.put, List.setIfInBounds_toArray, List.set_cons_zero, List.set_cons_succ]
          refine WQ.val (by rfl) (fun v hv => by have k0 := hv.cell n0; have k1 := hv.cell n1; have k2 := hv.cell l0; have k3 := hv.cell l1; have k4 := hv.cell m0; have k5 := hv.cell m1; go_simp; first | done | with_reducible rfl | (rw [if_neg (by omega)])) ?_; simp only [Act.put, List.setIfInBounds_toArray, List.set_cons_zero, List.set_cons_succ]
          refine WQ.done ?_
          intro w5 hw5
          have HB5 := Lib.hid (below_then HB3.out hw5)
          clear hw5 n0 n1 l0 l1 m0 m1
          go_wp2_with fail
          go_ret
          exact ⟨by first | rfl | (simp; done), HB5.out⟩
end Go.Proofs.YtgajmepmjbmdoaaDoor
