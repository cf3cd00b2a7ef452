/- The walk of the law AddrTells. -/
import Derived.Test.YtgajmepmjbmdoaaDoorAddrI
namespace Go.Proofs.YtgajmepmjbmdoaaDoor
set_option linter.unusedSimpArgs false
set_option linter.unusedVariables false
open Go Go.RowKit

theorem refShow_val (a : Nat) (n i : Int) (l : List UInt8) (c : Int) (w : World) (hi : i = a) (ha : a < 4294967296) (h : showF a n = (l, c)) :
    Calls Tryd.prog 17 #[.agg #[.int .u32 i, .int .i64 n]] w fun e w' => e = .returned (.tuple #[str l, .int .i64 c]) ∧ Below w.heap.size w w' := by
  subst hi
  exact (refShow_any a n w ha).mono fun e w' hp => by unfold StrPost at hp; rw [h] at hp; exact hp
theorem refPrint_val (a : Nat) (i : Int) (l : List UInt8) (w : World) (hi : i = a) (ha : a < 4294967296) (h : showAddr a = l) :
    Calls Tryd.prog 19 #[.int .u32 i] w fun e w' => e = .returned (str l) ∧ Below w.heap.size w w' := by
  subst hi h; exact refPrint_any a w ha
theorem refHas_val (a : Nat) (n : Int) (b : Nat) (i j : Int) (r : Bool) (w : World) (hi : i = a) (hj : j = b) (ha : a < 4294967296) (hb : b < 4294967296) (hr : hasNet a n b = r) :
    Calls Tryd.prog 21 #[.agg #[.int .u32 i, .int .i64 n], .int .u32 j] w fun e w' => e = .returned (.bool r) ∧ Below w.heap.size w w' := by
  subst hi hj hr; exact refHas_any a n b w ha hb

set_option maxHeartbeats 4000000 in
set_option maxRecDepth 100000 in
theorem addrTells_walk (b : Nat) (a : Nat) (n : Int) (w : World) (hb : b < 4294967296) (ha : a < 4294967296) (hn : (Lit.int .i64 n).wf = true) (hT : Tabs w) :
    Calls Tryd.prog 4 #[.int .u32 b, .agg #[.int .u32 a, .int .i64 n]] w fun e w' => e = .returned (.bool true) ∧ Below w.heap.size w w' := by
  have HN := Lib.hid hn
  have HT0 := Lib.hid (hT.below ((Below.refl _ _).alloc (Nat.le_refl _) (.cells #[.int .u32 a, .int .i64 n] 30)))
  have HB0 := Lib.hid ((Below.refl w.heap.size w).alloc (Nat.le_refl _) (.cells #[.int .u32 a, .int .i64 n] 30))
  have N0 := NetOwn.new w a n 30
  obtain ⟨⟨l, c⟩, hs⟩ : ∃ q, showF a n = q := ⟨_, rfl⟩
  obtain ⟨d, hp⟩ : ∃ q, showAddr b = q := ⟨_, rfl⟩
  obtain ⟨r, hr⟩ : ∃ q, hasNet a n b = q := ⟨_, rfl⟩
  have hdl := show_len b
  have hll : l.length ≤ 60 := by
    have : showF a n = (l, c) := hs
    unfold showF showNet at this
    by_cases hm : mayNet a n = true
    · rw [if_pos hm] at this
      simp only at this
      injection this with e1 e2
      subst e1
      split
      · decide
      · have := show_len a
        have h3 := dec_len_le 2 n.toNat (by have := (may_range hm).2; omega) (by omega)
        simp; omega
    · rw [if_neg hm] at this
      simp only at this
      injection this with e1 e2
      subst e1; simp
  have HS := Lib.hid (fun v (hT : Tabs v) => show_val a n a l c v rfl ha hT hs)
  have HRS := Lib.hid (fun v => refShow_val a n a l c v rfl ha hs)
  have HP := Lib.hid (fun v (hT : Tabs v) => print_val b b d v rfl hb hT hp)
  have HRP := Lib.hid (fun v => refPrint_val b b d v rfl hb hp)
  have HH := Lib.hid (fun v => has_val a n b a b r v rfl rfl ha hb hr)
  have HRH := Lib.hid (fun v => refHas_val a n b a b r v rfl rfl ha hb hr)
  rw [hp] at hdl
  clear hs hp hr hT hn
  go_enter Tryd.func4, Tryd.ntmps4
  go_wp2_with fail
  refine (HS.out _ HT0.out).mono ?_
  rintro e w1 ⟨rfl, h1⟩
  have HT1 := Lib.hid (HT0.out.below h1)
  have HB1 := Lib.hid (below_then HB0.out h1)
  have N1 := N0.below h1
  obtain ⟨n0, n1, _, _⟩ := id N1
  clear h1 N0
  go_wp2_with fail
  refine (HRS.out _).mono ?_
  rintro e w2 ⟨rfl, h2⟩
  have HT2 := Lib.hid (HT1.out.below h2)
  have HB2 := Lib.hid (below_then HB1.out h2)
  have N2 := N1.below h2
  clear n0 n1
  obtain ⟨c0, c1, _, _⟩ := id N2
  have HA := Lib.hid (fun v (hT : Tabs v) => awake03_any v hT)
  clear h2 N1 N2
  go_wp2_with fail
  refine WQ.enter w2 (Since.refl _) (by kernel_rfl) (by kernel_rfl) ?_
  refine WQ.call (f := 15) (args := #[]) (by rfl) (fun v hv => by go_simp) (fun v hv => (HA.out v (HT2.out.below hv)).mono (fun e v' ⟨he, hb⟩ => ⟨he, hv.step hb⟩)) ?_; simp only [Act.put, List.setIfInBounds_toArray, List.set_cons_zero, List.set_cons_succ]
  refine WQ.val (by rfl) (fun v hv => by have k0 := hv.cell c0; have k1 := hv.cell c1; go_simp; first | done | with_reducible rfl | (rw [if_neg (by omega)])) ?_; simp only [Act.put, List.setIfInBounds_toArray, List.set_cons_zero, List.set_cons_succ]
  refine WQ.val (by rfl) (fun v hv => by have k0 := hv.cell c0; have k1 := hv.cell c1; go_simp; first | done | with_reducible rfl | (rw [if_neg (by omega)])) ?_; simp only [Act.put, List.setIfInBounds_toArray, List.set_cons_zero, List.set_cons_succ]
  refine WQ.call (f := 18) (args := #[.int .u32 b]) (by rfl) (fun v hv => by go_simp) (fun v hv => (HP.out v (HT2.out.below hv)).mono (fun e v' ⟨he, hb⟩ => ⟨he, hv.step hb⟩)) ?_; simp only [Act.put, List.setIfInBounds_toArray, List.set_cons_zero, List.set_cons_succ]
  refine WQ.val (by rfl) (fun v hv => by have k0 := hv.cell c0; have k1 := hv.cell c1; go_simp; first | done | with_reducible rfl | (rw [if_neg (by omega)])) ?_; simp only [Act.put, List.setIfInBounds_toArray, List.set_cons_zero, List.set_cons_succ]
  refine WQ.call (f := 19) (args := #[.int .u32 b]) (by rfl) (fun v hv => by go_simp) (fun v hv => (HRP.out v).mono (fun e v' ⟨he, hb⟩ => ⟨he, hv.step hb⟩)) ?_; simp only [Act.put, List.setIfInBounds_toArray, List.set_cons_zero, List.set_cons_succ]
  refine WQ.val (by rfl) (fun v hv => by have k0 := hv.cell c0; have k1 := hv.cell c1; go_simp; first | done | with_reducible rfl | (rw [if_neg (by omega)])) ?_; simp only [Act.put, List.setIfInBounds_toArray, List.set_cons_zero, List.set_cons_succ]
  refine WQ.val (by rfl) (fun v hv => by have k0 := hv.cell c0; have k1 := hv.cell c1; go_simp; first | done | with_reducible rfl | (rw [if_neg (by omega)])) ?_; simp only [Act.put, List.setIfInBounds_toArray, List.set_cons_zero, List.set_cons_succ]
  refine WQ.val (by rfl) (fun v hv => by have k0 := hv.cell c0; have k1 := hv.cell c1; go_simp; first | done | with_reducible rfl | (rw [if_neg (by omega)])) ?_; simp only [Act.put, List.setIfInBounds_toArray, List.set_cons_zero, List.set_cons_succ]
  refine WQ.val (by rfl) (fun v hv => by have k0 := hv.cell c0; have k1 := hv.cell c1; go_simp; first | done | with_reducible rfl | (rw [if_neg (by omega)])) ?_; simp only [Act.put, List.setIfInBounds_toArray, List.set_cons_zero, List.set_cons_succ]
  refine WQ.val (by rfl) (fun v hv => by have k0 := hv.cell c0; have k1 := hv.cell c1; go_simp; first | done | with_reducible rfl | (rw [if_neg (by omega)])) ?_; simp only [Act.put, List.setIfInBounds_toArray, List.set_cons_zero, List.set_cons_succ]
  refine WQ.val (by rfl) (fun v hv => by have k0 := hv.cell c0; have k1 := hv.cell c1; go_simp; first | done | with_reducible rfl | (rw [if_neg (by omega)])) ?_; simp only [Act.put, List.setIfInBounds_toArray, List.set_cons_zero, List.set_cons_succ]
  refine WQ.val (by rfl) (fun v hv => by have k0 := hv.cell c0; have k1 := hv.cell c1; go_simp; first | done | with_reducible rfl | (rw [if_neg (by omega)])) ?_; simp only [Act.put, List.setIfInBounds_toArray, List.set_cons_zero, List.set_cons_succ]
  refine WQ.val (by rfl) (fun v hv => by have k0 := hv.cell c0; have k1 := hv.cell c1; go_simp; first | done | with_reducible rfl | (rw [if_neg (by omega)])) ?_; simp only [Act.put, List.setIfInBounds_toArray, List.set_cons_zero, List.set_cons_succ]
  refine WQ.val (by rfl) (fun v hv => by have k0 := hv.cell c0; have k1 := hv.cell c1; go_simp; first | done | with_reducible rfl | (rw [if_neg (by omega)])) ?_; simp only [Act.put, List.setIfInBounds_toArray, List.set_cons_zero, List.set_cons_succ]
  refine WQ.val (by rfl) (fun v hv => by have k0 := hv.cell c0; have k1 := hv.cell c1; go_simp; first | done | with_reducible rfl | (rw [if_neg (by omega)])) ?_; simp only [Act.put, List.setIfInBounds_toArray, List.set_cons_zero, List.set_cons_succ]
  refine WQ.val (by rfl) (fun v hv => by have k0 := hv.cell c0; have k1 := hv.cell c1; go_simp; first | done | with_reducible rfl | (rw [if_neg (by omega)])) ?_; simp only [Act.put, List.setIfInBounds_toArray, List.set_cons_zero, List.set_cons_succ]
  refine WQ.val (by rfl) (fun v hv => by have k0 := hv.cell c0; have k1 := hv.cell c1; go_simp; first | done | with_reducible rfl | (rw [if_neg (by omega)])) ?_; simp only [Act.put, List.setIfInBounds_toArray, List.set_cons_zero, List.set_cons_succ]
  refine WQ.val (by rfl) (fun v hv => by have k0 := hv.cell c0; have k1 := hv.cell c1; go_simp; first | done | with_reducible rfl | (rw [if_neg (by omega)])) ?_; simp only [Act.put, List.setIfInBounds_toArray, List.set_cons_zero, List.set_cons_succ]
  refine WQ.val (by rfl) (fun v hv => by have k0 := hv.cell c0; have k1 := hv.cell c1; go_simp; first | done | with_reducible rfl | (rw [if_neg (by omega)])) ?_; simp only [Act.put, List.setIfInBounds_toArray, List.set_cons_zero, List.set_cons_succ]
  refine WQ.val (by rfl) (fun v hv => by have k0 := hv.cell c0; have k1 := hv.cell c1; go_simp; first | done | with_reducible rfl | (rw [if_neg (by omega)])) ?_; simp only [Act.put, List.setIfInBounds_toArray, List.set_cons_zero, List.set_cons_succ]
  refine WQ.call (f := 20) (args := #[.agg #[.int .u32 a, .int .i64 n], .int .u32 b]) (by rfl) (fun v hv => by go_simp) (fun v hv => (HH.out v).mono (fun e v' ⟨he, hb⟩ => ⟨he, hv.step hb⟩)) ?_; simp only [Act.put, List.setIfInBounds_toArray, List.set_cons_zero, List.set_cons_succ]
  refine WQ.val (by rfl) (fun v hv => by have k0 := hv.cell c0; have k1 := hv.cell c1; go_simp; first | done | with_reducible rfl | (rw [if_neg (by omega)])) ?_; simp only [Act.put, List.setIfInBounds_toArray, List.set_cons_zero, List.set_cons_succ]
  refine WQ.val (by rfl) (fun v hv => by have k0 := hv.cell c0; have k1 := hv.cell c1; go_simp; first | done | with_reducible rfl | (rw [if_neg (by omega)])) ?_; simp only [Act.put, List.setIfInBounds_toArray, List.set_cons_zero, List.set_cons_succ]
  refine WQ.call (f := 21) (args := #[.agg #[.int .u32 a, .int .i64 n], .int .u32 b]) (by rfl) (fun v hv => by go_simp) (fun v hv => (HRH.out v).mono (fun e v' ⟨he, hb⟩ => ⟨he, hv.step hb⟩)) ?_; simp only [Act.put, List.setIfInBounds_toArray, List.set_cons_zero, List.set_cons_succ]
  refine WQ.val (by rfl) (fun v hv => by have k0 := hv.cell c0; have k1 := hv.cell c1; go_simp; first | done | with_reducible rfl | (rw [if_neg (by omega)])) ?_; simp only [Act.put, List.setIfInBounds_toArray, List.set_cons_zero, List.set_cons_succ]
  refine WQ.val (by rfl) (fun v hv => by have k0 := hv.cell c0; have k1 := hv.cell c1; go_simp; first | done | with_reducible rfl | (rw [if_neg (by omega)])) ?_; simp only [Act.put, List.setIfInBounds_toArray, List.set_cons_zero, List.set_cons_succ]
  refine WQ.val (by rfl) (fun v hv => by have k0 := hv.cell c0; have k1 := hv.cell c1; go_simp; first | done | with_reducible rfl | (rw [if_neg (by omega)])) ?_; simp only [Act.put, List.setIfInBounds_toArray, List.set_cons_zero, List.set_cons_succ]
  refine WQ.done ?_
  intro w5 hw5
  have HB5 := Lib.hid (below_then HB2.out hw5)
  clear hw5 c0 c1
  go_wp2_with fail
  go_ret
  exact ⟨by first | rfl | (simp; done), HB5.out⟩
end Go.Proofs.YtgajmepmjbmdoaaDoor
