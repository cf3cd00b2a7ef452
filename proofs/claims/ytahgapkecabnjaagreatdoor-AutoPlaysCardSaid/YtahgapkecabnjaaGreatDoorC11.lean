/- Walks of packages field, gate and flow. Printed by gen_gatea.py. -/
import Derived.Test.YtahgapkecabnjaaGreatDoorC10
import Derived.Test.YtahgapkecabnjaaGreatDoorC03
import Derived.Test.YtahgapkecabnjaaGreatDoorC04
import Derived.Laws.ShiftsVar
import Derived.Laws.ShiftsVarLaws
import Derived.Laws.BitsLemmas
import Derived.Laws.Bits
import Derived.Laws.BitsAllLaws
namespace Go.Proofs.YtahgapkecabnjaaGreatDoor
set_option linter.unusedSimpArgs false
set_option linter.unusedVariables false
open Go Go.RowKit

set_option maxHeartbeats 2000000 in
theorem fmay_any (a s : Int) (w : World) (h1 : 0 ≤ a) (h2 : 1 ≤ s) (h3 : a + s ≤ 64) :
    Calls Tryz.prog 103 #[.int .i64 a, .int .i64 s] w fun e w' => e = .returned (.bool true) ∧ w' = w := by
  have h4 : s ≤ 64 := by omega
  have h5 : a ≤ 64 - s := by omega
  go_enter Tryz.func103, Tryz.ntmps103
  go_wp2
  all_goals first
    | (exfalso; omega)
    | (go_ret; exact ⟨by simp_all, rfl⟩)
theorem mask_num {k : Nat} (h3 : k ≤ 64) : (18446744073709551615 : Int) / 2 ^ (64 - k) = ((2 ^ k - 1 : Nat) : Int) := by
  have hk : 2 ^ (64 - k) * 2 ^ k = 2 ^ 64 := by rw [← Nat.pow_add, show 64 - k + k = 64 by omega]
  have h64 : (2 : Nat) ^ 64 = 18446744073709551616 := by decide
  have hp : 0 < 2 ^ (64 - k) := Nat.two_pow_pos _
  have hq : 0 < 2 ^ k := Nat.two_pow_pos _
  have hn : 18446744073709551615 / 2 ^ (64 - k) = 2 ^ k - 1 := by
    have h1 : 18446744073709551615 = 2 ^ (64 - k) * (2 ^ k - 1) + (2 ^ (64 - k) - 1) := by
      rw [Nat.mul_sub, hk, h64]
      have : 2 ^ (64 - k) ≤ 2 ^ 64 := Nat.pow_le_pow_right (by omega) (by omega)
      rw [h64] at this
      omega
    rw [h1, Nat.mul_add_div hp, Nat.div_eq_of_lt (by omega)]
    omega
  have e2 : (18446744073709551615 : Int) / 2 ^ (64 - k) = ((18446744073709551615 / 2 ^ (64 - k) : Nat) : Int) := by simp
  rw [e2, hn]
set_option maxHeartbeats 2000000 in
theorem mask_any (i : Int) (s : Nat) (w : World) (hi : i = s) (h2 : 1 ≤ s) (h3 : s ≤ 64) :
    Calls Tryz.prog 104 #[.int .i64 i] w fun e w' => e = .returned (.int .u64 ((2 ^ s - 1 : Nat) : Int)) ∧ w' = w := by
  subst hi
  have h4 : ¬ (64 < s) := by omega
  have HM := Lib.hid (mask_num h3)
  go_enter Tryz.func104, Tryz.ntmps104
  go_wp2
  go_ret
  exact ⟨congrArg (fun b => Ending.returned (.int .u64 b)) HM.out, rfl⟩
theorem pow_lt64 {s : Nat} (h : s ≤ 64) : 2 ^ s - 1 < 18446744073709551616 := by
  have : 2 ^ s ≤ 2 ^ 64 := Nat.pow_le_pow_right (by omega) h
  have h64 : (2 : Nat) ^ 64 = 18446744073709551616 := by decide
  omega
set_option maxHeartbeats 4000000 in
set_option maxRecDepth 100000 in
theorem get_any (v a s n : Nat) (ia is_ : Int) (w : World) (ha : ia = a) (hs : is_ = s) (h2 : 1 ≤ s) (h3 : a + s ≤ 64) (hv : U64 v) (hn : getN v a s = n) :
    Calls Tryz.prog 77 #[.int .u64 v, .int .i64 ia, .int .i64 is_] w fun e w' => e = .returned (.int .u64 n) ∧ Below w.heap.size w w' := by
  subst hn ha hs
  have MA := Lib.hid (fun W => fmay_any a s W (by omega) (by omega) (by omega))
  have MK := Lib.hid (fun W => (mask_any s s W rfl h2 (by omega)).mono fun e w' h => (show e = .returned (.int .u64 ((2 ^ s - 1 : Nat) : Int)) ∧ Below W.heap.size W w' from ⟨h.1, by rw [h.2]; exact Below.refl _ _⟩))
  have h4 : ¬ (64 ≤ a) := by omega
  have h5 : a ≤ 64 := by omega
  have hq := Nat.div_le_self v (2 ^ a)
  have HB := Lib.hid (u64_and_nat (v / 2 ^ a) (2 ^ s - 1) (by unfold U64 at hv; omega) (pow_lt64 (by omega)))
  rw [nat_get, show ((v / 2 ^ a : Nat) : Int) = (v : Int) / 2 ^ a by simp] at HB
  generalize 2 ^ s - 1 = m at *
  go_enter Tryz.func77, Tryz.ntmps77
  go_wp2_with fail
  refine (MA.out _).mono ?_
  rintro e w' ⟨rfl, rfl⟩
  go_wp2_with fail
  refine WQ.enter w' (Since.refl _) (by kernel_rfl) (by kernel_rfl) ?_
  refine WQ.val (by rfl) (fun v hv => by go_simp; first | done | with_reducible rfl | (rw [if_neg (by omega)])) ?_; simp only [Act.put, List.setIfInBounds_toArray, List.set_cons_zero, List.set_cons_succ]
  refine WQ.val (by rfl) (fun v hv => by go_simp; first | done | with_reducible rfl | (rw [if_neg (by omega)])) ?_; simp only [Act.put, List.setIfInBounds_toArray, List.set_cons_zero, List.set_cons_succ]
  refine WQ.val (by rfl) (fun v hv => by go_simp; first | done | with_reducible rfl | (rw [if_neg (by omega)])) ?_; simp only [Act.put, List.setIfInBounds_toArray, List.set_cons_zero, List.set_cons_succ]
  refine WQ.val (by rfl) (fun v hv => by go_simp; first | done | with_reducible rfl | (rw [if_neg (by omega)])) ?_; simp only [Act.put, List.setIfInBounds_toArray, List.set_cons_zero, List.set_cons_succ]
  refine WQ.call (f := 104) (args := #[.int .i64 s]) (by rfl) (fun v hv => by go_simp) (fun v hv => (MK.out v).mono (fun e v' ⟨he, hb⟩ => ⟨he, hv.step hb⟩)) ?_; simp only [Act.put, List.setIfInBounds_toArray, List.set_cons_zero, List.set_cons_succ]
  refine WQ.val (by rfl) (fun v hv => by go_simp; first | done | with_reducible rfl | (rw [if_neg (by omega)])) ?_; simp only [Act.put, List.setIfInBounds_toArray, List.set_cons_zero, List.set_cons_succ]
  refine WQ.val (by rfl) (fun v hv => by go_simp; first | done | with_reducible rfl | (rw [if_neg (by omega)])) ?_; simp only [Act.put, List.setIfInBounds_toArray, List.set_cons_zero, List.set_cons_succ]
  refine WQ.done ?_
  intro w5 hw5
  go_wp2_with fail
  go_ret
  exact ⟨congrArg (fun b => Ending.returned (.int .u64 b)) HB.out, hw5⟩
set_option maxHeartbeats 4000000 in
set_option maxRecDepth 100000 in
theorem put_any (v a s x n : Nat) (ia is_ xi : Int) (w : World) (ha : ia = a) (hs : is_ = s) (hxi : xi = x) (h2 : 1 ≤ s) (h3 : a + s ≤ 64) (hv : U64 v) (hx : U64 x) (hn : putN v a s x = n) :
    Calls Tryz.prog 91 #[.int .u64 v, .int .i64 ia, .int .i64 is_, .int .u64 xi] w fun e w' => e = .returned (.int .u64 n) ∧ Below w.heap.size w w' := by
  subst hn ha hs hxi
  have MA := Lib.hid (fun W => fmay_any a s W (by omega) (by omega) (by omega))
  have MK := Lib.hid (fun W => mask_any s s W rfl h2 (by omega))
  have h4 : ¬ (64 ≤ a) := by omega
  have h5 : a ≤ 64 := by omega
  have hml : (2 ^ s - 1) * 2 ^ a < 18446744073709551616 := by
    have h1 : (2 ^ s - 1) * 2 ^ a < 2 ^ s * 2 ^ a := Nat.mul_lt_mul_of_pos_right (by have := Nat.two_pow_pos s; omega) (Nat.two_pow_pos a)
    have h2 : 2 ^ s * 2 ^ a = 2 ^ (a + s) := by rw [← Nat.pow_add, Nat.add_comm]
    have h3 : 2 ^ (a + s) ≤ 2 ^ 64 := Nat.pow_le_pow_right (by omega) h3
    have h64 : (2 : Nat) ^ 64 = 18446744073709551616 := by decide
    omega
  have HB1 := Lib.hid (u64_andNot_nat v ((2 ^ s - 1) * 2 ^ a) hv hml)
  have HB2 := Lib.hid (u64_and_nat (x * 2 ^ a % 18446744073709551616) ((2 ^ s - 1) * 2 ^ a) (Nat.mod_lt _ (by decide)) hml)
  have HB3 := Lib.hid (u64_or_nat (v &&& (18446744073709551615 - (2 ^ s - 1) * 2 ^ a)) (x * 2 ^ a % 18446744073709551616 &&& (2 ^ s - 1) * 2 ^ a) (Nat.lt_of_le_of_lt Nat.and_le_left hv) (Nat.lt_of_le_of_lt Nat.and_le_left (Nat.mod_lt _ (by decide))))
  have HP := Lib.hid (nat_put (v := x) (show v < 2 ^ 64 from hv) h3)
  have HM : Hid (((2 ^ s - 1 : Nat) : Int) * 2 ^ a % 18446744073709551616 = (((2 ^ s - 1) * 2 ^ a : Nat) : Int)) := Lib.hid (by
    have e : ((2 ^ s - 1 : Nat) : Int) * 2 ^ a = (((2 ^ s - 1) * 2 ^ a : Nat) : Int) := by simp
    rw [e]; omega)
  have HX : Hid ((x : Int) * 2 ^ a % 18446744073709551616 = ((x * 2 ^ a % 18446744073709551616 : Nat) : Int)) := Lib.hid (by simp)
  generalize 2 ^ s - 1 = m at *
  go_enter Tryz.func91, Tryz.ntmps91
  go_wp2_with fail
  refine (MA.out _).mono ?_
  rintro e w' ⟨rfl, rfl⟩
  go_wp2_with fail
  refine (MK.out _).mono ?_
  rintro e w' ⟨rfl, rfl⟩
  go_wp2_with fail
  go_ret
  refine ⟨congrArg (fun b => Ending.returned (.int .u64 b)) ?_, Below.refl _ _⟩
  have hw : ∀ n : Int, IntKind.u64.wrap n = n % 18446744073709551616 := fun n => by simp [IntKind.wrap, IntKind.bits, IntKind.signed]
  rw [hw, hw, HM.out, HX.out, HB1.out, HB2.out, HB3.out]
  exact congrArg (fun n : Nat => (n : Int)) HP.out
def gateV (v : Nat) : Value := .agg #[.int .i64 (verW v), .int .i64 (cntW v), .int .i64 (clkW v)]
def flowV (v : Nat) : Value := .agg #[.int .i64 (stW v), .int .i64 (seqW v), .int .i64 (untW v)]
theorem w64 {n : Nat} (h : n ≤ 1099511627775) : IntKind.i64.wrap (n : Int) = n := by
  rw [IntKind.wrap_i64]; omega
set_option maxHeartbeats 4000000 in
set_option maxRecDepth 100000 in
theorem gunpack_any (v : Nat) (w : World) (hv : U64 v) :
    Calls Tryz.prog 57 #[.int .u64 v] w fun e w' => e = .returned (gateV v) ∧ Below w.heap.size w w' := by
  obtain ⟨-, p1, p2, p3⟩ := gate_parts hv
  have G1 := Lib.hid (fun W => get_any v 52 12 (verW v) 52 12 W rfl rfl (by decide) (by decide) hv (get_ver hv))
  have G2 := Lib.hid (fun W => get_any v 40 12 (cntW v) 40 12 W rfl rfl (by decide) (by decide) hv (get_cnt v))
  have G3 := Lib.hid (fun W => get_any v 0 40 (clkW v) 0 40 W rfl rfl (by decide) (by decide) hv (get_clk v))
  have w1 := w64 (n := verW v) (by omega)
  have w2 := w64 (n := cntW v) (by omega)
  have w3 := w64 (n := clkW v) (by omega)
  unfold gateV
  generalize verW v = x at *
  generalize cntW v = y at *
  generalize clkW v = z at *
  go_enter Tryz.func57, Tryz.ntmps57
  go_wp2_with fail
  have HB0 : Hid (Below w.heap.size w (w.alloc (.cells #[.int .i64 0, .int .i64 0, .int .i64 0] 64))) := Lib.hid ((Below.refl _ w).alloc (Nat.le_refl _) _)
  have x0 : (w.alloc (.cells #[.int .i64 0, .int .i64 0, .int .i64 0] 64)).cell? ⟨w.heap.size, 0, none⟩ = some (.int .i64 0) := by simp
  have x1 : (w.alloc (.cells #[.int .i64 0, .int .i64 0, .int .i64 0] 64)).cell? ⟨w.heap.size, 1, none⟩ = some (.int .i64 0) := by simp
  have x2 : (w.alloc (.cells #[.int .i64 0, .int .i64 0, .int .i64 0] 64)).cell? ⟨w.heap.size, 2, none⟩ = some (.int .i64 0) := by simp
  have xf : Hid (∀ j, (w.alloc (.cells #[.int .i64 0, .int .i64 0, .int .i64 0] 64)).frozen? ⟨w.heap.size, j, none⟩ = false) := Lib.hid (fun j => by simp [go_sem])
  have xs : (w.alloc (.cells #[.int .i64 0, .int .i64 0, .int .i64 0] 64)).heap.size = w.heap.size + 1 := by simp
  generalize w.alloc (.cells #[.int .i64 0, .int .i64 0, .int .i64 0] 64) = wx at *
  refine (G1.out _).mono ?_
  rintro e w5 ⟨rfl, h5⟩
  have HS := Lib.hid h5
  clear h5
  go_wp2_with fail
  refine (G2.out _).mono ?_
  rintro e w6 ⟨rfl, h6⟩
  have HS2 := Lib.hid (below_then HS.out h6)
  clear h6 HS
  go_wp2_with fail
  refine (G3.out _).mono ?_
  rintro e w7 ⟨rfl, h7⟩
  have HS3 := Lib.hid (below_then HS2.out h7)
  clear h7 HS2
  have y0 := Since.cell HS3.out x0
  have y1 := Since.cell HS3.out x1
  have y2 := Since.cell HS3.out x2
  have f0 := (Below.frozen HS3.out (p := ⟨w.heap.size, 0, none⟩) (by rw [xs]; simp only; omega)).trans (xf.out 0)
  have f1 := (Below.frozen HS3.out (p := ⟨w.heap.size, 1, none⟩) (by rw [xs]; simp only; omega)).trans (xf.out 1)
  have f2 := (Below.frozen HS3.out (p := ⟨w.heap.size, 2, none⟩) (by rw [xs]; simp only; omega)).trans (xf.out 2)
  have HBE : Hid (Below w.heap.size w (((w7.setCell ⟨w.heap.size, 0, none⟩ (.int .i64 x)).setCell ⟨w.heap.size, 1, none⟩ (.int .i64 y)).setCell ⟨w.heap.size, 2, none⟩ (.int .i64 z))) := Lib.hid ((((below_then HB0.out HS3.out).setCell (p := ⟨w.heap.size, 0, none⟩) (Nat.le_refl _) _).setCell (p := ⟨w.heap.size, 1, none⟩) (Nat.le_refl _) _).setCell (p := ⟨w.heap.size, 2, none⟩) (Nat.le_refl _) _)
  clear x0 x1 x2 xf xs HS3
  go_wp2_with fail
  exact bodyPost_ret (v := .agg #[.int .i64 x, .int .i64 y, .int .i64 z]) (by simp [results, Tryz.results57, go_sem, *]) rfl ⟨rfl, HBE.out⟩
end Go.Proofs.YtahgapkecabnjaaGreatDoor
/- Walks of gate.Tick, Enter, Leave, Swap and of flow.Unpack. Printed by gen_gateb.py. -/
namespace Go.Proofs.YtahgapkecabnjaaGreatDoor
set_option linter.unusedSimpArgs false
set_option linter.unusedVariables false
open Go Go.RowKit

set_option maxHeartbeats 4000000 in
set_option maxRecDepth 100000 in
theorem funpack_any (v : Nat) (w : World) (hv : U64 v) :
    Calls Tryz.prog 40 #[.int .u64 v] w fun e w' => e = .returned (flowV v) ∧ Below w.heap.size w w' := by
  obtain ⟨-, p1, p2, p3⟩ := flow_parts hv
  have G1 := Lib.hid (fun W => get_any v 60 4 (stW v) 60 4 W rfl rfl (by decide) (by decide) hv (get_st hv))
  have G2 := Lib.hid (fun W => get_any v 40 20 (seqW v) 40 20 W rfl rfl (by decide) (by decide) hv (get_seq v))
  have G3 := Lib.hid (fun W => get_any v 0 40 (untW v) 0 40 W rfl rfl (by decide) (by decide) hv (get_unt v))
  have w1 := w64 (n := stW v) (by omega)
  have w2 := w64 (n := seqW v) (by omega)
  have w3 := w64 (n := untW v) (by omega)
  unfold flowV
  generalize stW v = x at *
  generalize seqW v = y at *
  generalize untW v = z at *
  go_enter Tryz.func40, Tryz.ntmps40
  go_wp2_with fail
  have HB0 : Hid (Below w.heap.size w (w.alloc (.cells #[.int .i64 0, .int .i64 0, .int .i64 0] 50))) := Lib.hid ((Below.refl _ w).alloc (Nat.le_refl _) _)
  have x0 : (w.alloc (.cells #[.int .i64 0, .int .i64 0, .int .i64 0] 50)).cell? ⟨w.heap.size, 0, none⟩ = some (.int .i64 0) := by simp
  have x1 : (w.alloc (.cells #[.int .i64 0, .int .i64 0, .int .i64 0] 50)).cell? ⟨w.heap.size, 1, none⟩ = some (.int .i64 0) := by simp
  have x2 : (w.alloc (.cells #[.int .i64 0, .int .i64 0, .int .i64 0] 50)).cell? ⟨w.heap.size, 2, none⟩ = some (.int .i64 0) := by simp
  have xf : Hid (∀ j, (w.alloc (.cells #[.int .i64 0, .int .i64 0, .int .i64 0] 50)).frozen? ⟨w.heap.size, j, none⟩ = false) := Lib.hid (fun j => by simp [go_sem])
  have xs : (w.alloc (.cells #[.int .i64 0, .int .i64 0, .int .i64 0] 50)).heap.size = w.heap.size + 1 := by simp
  generalize w.alloc (.cells #[.int .i64 0, .int .i64 0, .int .i64 0] 50) = wx at *
  refine (G1.out _).mono ?_
  rintro e w5 ⟨rfl, h5⟩
  have HS := Lib.hid h5
  clear h5
  go_wp2_with fail
  refine (G2.out _).mono ?_
  rintro e w6 ⟨rfl, h6⟩
  have HS2 := Lib.hid (below_then HS.out h6)
  clear h6 HS
  go_wp2_with fail
  refine (G3.out _).mono ?_
  rintro e w7 ⟨rfl, h7⟩
  have HS3 := Lib.hid (below_then HS2.out h7)
  clear h7 HS2
  have y0 := Since.cell HS3.out x0
  have y1 := Since.cell HS3.out x1
  have y2 := Since.cell HS3.out x2
  have f0 := (Below.frozen HS3.out (p := ⟨w.heap.size, 0, none⟩) (by rw [xs]; simp only; omega)).trans (xf.out 0)
  have f1 := (Below.frozen HS3.out (p := ⟨w.heap.size, 1, none⟩) (by rw [xs]; simp only; omega)).trans (xf.out 1)
  have f2 := (Below.frozen HS3.out (p := ⟨w.heap.size, 2, none⟩) (by rw [xs]; simp only; omega)).trans (xf.out 2)
  have HBE : Hid (Below w.heap.size w (((w7.setCell ⟨w.heap.size, 0, none⟩ (.int .i64 x)).setCell ⟨w.heap.size, 1, none⟩ (.int .i64 y)).setCell ⟨w.heap.size, 2, none⟩ (.int .i64 z))) := Lib.hid ((((below_then HB0.out HS3.out).setCell (p := ⟨w.heap.size, 0, none⟩) (Nat.le_refl _) _).setCell (p := ⟨w.heap.size, 1, none⟩) (Nat.le_refl _) _).setCell (p := ⟨w.heap.size, 2, none⟩) (Nat.le_refl _) _)
  clear x0 x1 x2 xf xs HS3
  go_wp2_with fail
  exact bodyPost_ret (v := .agg #[.int .i64 x, .int .i64 y, .int .i64 z]) (by simp [results, Tryz.results40, go_sem, *]) rfl ⟨rfl, HBE.out⟩
theorem gunpack_val (v a b c : Nat) (w : World) (hv : U64 v) (h1 : verW v = a) (h2 : cntW v = b) (h3 : clkW v = c) :
    Calls Tryz.prog 57 #[.int .u64 v] w fun e w' => e = .returned (.agg #[.int .i64 a, .int .i64 b, .int .i64 c]) ∧ Below w.heap.size w w' := by
  subst h1 h2 h3; exact gunpack_any v w hv
theorem funpack_val (v a b c : Nat) (w : World) (hv : U64 v) (h1 : stW v = a) (h2 : seqW v = b) (h3 : untW v = c) :
    Calls Tryz.prog 40 #[.int .u64 v] w fun e w' => e = .returned (.agg #[.int .i64 a, .int .i64 b, .int .i64 c]) ∧ Below w.heap.size w w' := by
  subst h1 h2 h3; exact funpack_any v w hv
theorem field_gate0 (a b c : Int) : ∀ w, (Instr.field 64 (.agg #[.int .i64 a, .int .i64 b, .int .i64 c]) 0).run Tryz.prog w = .ok (.int .i64 a) w := fun w => by kernel_rfl
theorem field_gate1 (a b c : Int) : ∀ w, (Instr.field 64 (.agg #[.int .i64 a, .int .i64 b, .int .i64 c]) 1).run Tryz.prog w = .ok (.int .i64 b) w := fun w => by kernel_rfl
theorem field_gate2 (a b c : Int) : ∀ w, (Instr.field 64 (.agg #[.int .i64 a, .int .i64 b, .int .i64 c]) 2).run Tryz.prog w = .ok (.int .i64 c) w := fun w => by kernel_rfl
theorem wrapU (n : Int) : IntKind.u64.wrap n = n % 18446744073709551616 := by simp [IntKind.wrap, IntKind.bits, IntKind.signed]
set_option maxHeartbeats 4000000 in
set_option maxRecDepth 100000 in
theorem gtick_any (v r : Nat) (n : Int) (w : World) (hv : U64 v) (hr : tickW v n = r) :
    Calls Tryz.prog 59 #[.int .u64 v, .int .i64 n] w fun e w' => e = .returned (.int .u64 r) ∧ Below w.heap.size w w' := by
  subst hr
  have hle := goesBy_le hv n
  have HP := Lib.hid (fun xi h W => put_any v 0 40 (clkW v + goesBy v n) _ 0 40 xi W rfl rfl h (by decide) (by decide) hv (by unfold U64; omega) (put_clk hv n))
  have hd : (goesBy v n : Int) = min (max n 0) (1099511627775 - (clkW v : Int)) := by unfold goesBy; have := (gate_parts hv).2.2.2; omega
  have hc := (gate_parts hv).2.2.2
  have GU := Lib.hid (fun W => gunpack_val v _ _ _ W hv rfl rfl rfl)
  generalize goesBy v n = d at *
  generalize verW v = x at *
  generalize cntW v = y at *
  generalize clkW v = z at *
  generalize tickW v n = res at *
  have HD := Lib.hid hd
  clear hd
  have fd := field_gate2 x y z
  go_enter Tryz.func59, Tryz.ntmps59
  go_wp2_with fail
  refine (GU.out _).mono ?_
  rintro e w1 ⟨rfl, h1⟩
  have HB1 := Lib.hid h1
  clear h1
  rcases (show (n < 0 ∧ d = 0) ∨ (¬ n < 0 ∧ ¬ 1099511627775 - (z : Int) < n ∧ (d : Int) = n) ∨ (¬ n < 0 ∧ 1099511627775 - (z : Int) < n ∧ (z : Int) + d = 1099511627775) by have := HD.out; omega) with ⟨n1, n2⟩ | ⟨n1, n2, n3⟩ | ⟨n1, n2, n3⟩
  all_goals
    go_wp2_with fail
    all_goals first
      | (exfalso; omega)
      | (refine (HP.out _ (by omega) _).mono ?_
         rintro e w2 ⟨rfl, h2⟩
         have HB2 := Lib.hid (below_then HB1.out h2)
         clear h2
         go_wp2_with fail
         go_ret
         exact ⟨rfl, HB2.out⟩)
set_option maxHeartbeats 4000000 in
set_option maxRecDepth 100000 in
theorem genter_any (v : Nat) (limit : Int) (w : World) (hv : U64 v) :
    Calls Tryz.prog 87 #[.int .u64 v, .int .i64 limit] w fun e w' => e = .returned (.tuple #[.int .u64 (enterW v limit : Nat), .bool (roomW v limit)]) ∧ Below w.heap.size w w' := by
  have GU := Lib.hid (fun W => gunpack_val v _ _ _ W hv rfl rfl rfl)
  by_cases hq : (cntW v : Int) < min limit 4095
  · have hok : roomW v limit = true := decide_eq_true hq
    have e : enterW v limit = v + 1099511627776 := by unfold enterW; rw [if_pos hok]
    have h0 : 0 ≤ (v : Int) + 1099511627776 ∧ (v : Int) + 1099511627776 < 18446744073709551616 := by unfold cntW at hq; unfold U64 at hv; omega
    have e2 : ((v + 1099511627776 : Nat) : Int) = (v : Int) + 1099511627776 := by omega
    rw [e, hok, e2]
    clear e e2 hok
    clear hv
    generalize verW v = x at *
    generalize cntW v = y at *
    generalize clkW v = z at *
    obtain ⟨k0, k1⟩ := h0
    have wr : IntKind.u64.wrap ((v : Int) + 1099511627776) = (v : Int) + 1099511627776 := by rw [wrapU]; omega
    generalize (v : Int) = vi at *
    have fd := field_gate1 x y z
    go_enter Tryz.func87, Tryz.ntmps87
    go_wp2_with fail
    refine (GU.out _).mono ?_
    rintro e w1 ⟨rfl, h1⟩
    have HB1 := Lib.hid h1
    clear h1
    go_wp2_with fail
    all_goals first
      | (exfalso; omega)
      | (go_ret2; exact ⟨by first | rfl | simp_all, HB1.out⟩)
  · have hok : roomW v limit = false := decide_eq_false hq
    have e : enterW v limit = v := by unfold enterW; rw [hok]; rfl
    rw [e, hok]
    clear e hok
    clear hv
    generalize verW v = x at *
    generalize cntW v = y at *
    generalize clkW v = z at *
    generalize (v : Int) = vi at *
    have fd := field_gate1 x y z
    go_enter Tryz.func87, Tryz.ntmps87
    go_wp2_with fail
    refine (GU.out _).mono ?_
    rintro e w1 ⟨rfl, h1⟩
    have HB1 := Lib.hid h1
    clear h1
    go_wp2_with fail
    all_goals first
      | (exfalso; omega)
      | (go_ret2; exact ⟨by first | rfl | simp_all, HB1.out⟩)
set_option maxHeartbeats 4000000 in
set_option maxRecDepth 100000 in
theorem gleave_any (v : Nat) (w : World) (hv : U64 v) :
    Calls Tryz.prog 80 #[.int .u64 v] w fun e w' => e = .returned (.tuple #[.int .u64 (leaveW v : Nat), .bool (leaveOk v)]) ∧ Below w.heap.size w w' := by
  have GU := Lib.hid (fun W => gunpack_val v _ _ _ W hv rfl rfl rfl)
  by_cases hq : cntW v ≠ 0
  · have hok : leaveOk v = true := decide_eq_true hq
    have e : leaveW v = v - 1099511627776 := by unfold leaveW; rw [if_pos hok]
    have h0 : 0 ≤ (v : Int) - 1099511627776 ∧ (v : Int) - 1099511627776 < 18446744073709551616 := by have := leave_ge hv (decide_eq_true hq); unfold U64 at hv; omega
    have e2 : ((v - 1099511627776 : Nat) : Int) = (v : Int) - 1099511627776 := by have := leave_ge hv (decide_eq_true hq); omega
    rw [e, hok, e2]
    clear e e2 hok
    clear hv
    generalize verW v = x at *
    generalize cntW v = y at *
    generalize clkW v = z at *
    obtain ⟨k0, k1⟩ := h0
    have wr : IntKind.u64.wrap ((v : Int) - 1099511627776) = (v : Int) - 1099511627776 := by rw [wrapU]; omega
    generalize (v : Int) = vi at *
    have fd := field_gate1 x y z
    go_enter Tryz.func80, Tryz.ntmps80
    go_wp2_with fail
    refine (GU.out _).mono ?_
    rintro e w1 ⟨rfl, h1⟩
    have HB1 := Lib.hid h1
    clear h1
    go_wp2_with fail
    all_goals first
      | (exfalso; omega)
      | (go_ret2; exact ⟨by first | rfl | simp_all, HB1.out⟩)
  · have hok : leaveOk v = false := decide_eq_false hq
    have e : leaveW v = v := by unfold leaveW; rw [hok]; rfl
    rw [e, hok]
    clear e hok
    clear hv
    generalize verW v = x at *
    generalize cntW v = y at *
    generalize clkW v = z at *
    generalize (v : Int) = vi at *
    have fd := field_gate1 x y z
    go_enter Tryz.func80, Tryz.ntmps80
    go_wp2_with fail
    refine (GU.out _).mono ?_
    rintro e w1 ⟨rfl, h1⟩
    have HB1 := Lib.hid h1
    clear h1
    go_wp2_with fail
    all_goals first
      | (exfalso; omega)
      | (go_ret2; exact ⟨by first | rfl | simp_all, HB1.out⟩)
set_option maxHeartbeats 4000000 in
set_option maxRecDepth 100000 in
theorem gswap_any (v : Nat) (w : World) (hv : U64 v) :
    Calls Tryz.prog 58 #[.int .u64 v] w fun e w' => e = .returned (.tuple #[.int .u64 (swapW v : Nat), .bool (swapOk v)]) ∧ Below w.heap.size w w' := by
  have GU := Lib.hid (fun W => gunpack_val v _ _ _ W hv rfl rfl rfl)
  by_cases hq : verW v ≠ 4095
  · have hok : swapOk v = true := decide_eq_true hq
    have e : swapW v = v + 4503599627370496 := by unfold swapW; rw [if_pos hok]
    have h0 : 0 ≤ (v : Int) + 4503599627370496 ∧ (v : Int) + 4503599627370496 < 18446744073709551616 := by unfold verW at hq; unfold U64 at hv; omega
    have e2 : ((v + 4503599627370496 : Nat) : Int) = (v : Int) + 4503599627370496 := by omega
    rw [e, hok, e2]
    clear e e2 hok
    clear hv
    generalize verW v = x at *
    generalize cntW v = y at *
    generalize clkW v = z at *
    obtain ⟨k0, k1⟩ := h0
    have wr : IntKind.u64.wrap ((v : Int) + 4503599627370496) = (v : Int) + 4503599627370496 := by rw [wrapU]; omega
    generalize (v : Int) = vi at *
    have fd := field_gate0 x y z
    go_enter Tryz.func58, Tryz.ntmps58
    go_wp2_with fail
    refine (GU.out _).mono ?_
    rintro e w1 ⟨rfl, h1⟩
    have HB1 := Lib.hid h1
    clear h1
    go_wp2_with fail
    all_goals first
      | (exfalso; omega)
      | (go_ret2; exact ⟨by first | rfl | simp_all, HB1.out⟩)
  · have hok : swapOk v = false := decide_eq_false hq
    have e : swapW v = v := by unfold swapW; rw [hok]; rfl
    rw [e, hok]
    clear e hok
    clear hv
    generalize verW v = x at *
    generalize cntW v = y at *
    generalize clkW v = z at *
    generalize (v : Int) = vi at *
    have fd := field_gate0 x y z
    go_enter Tryz.func58, Tryz.ntmps58
    go_wp2_with fail
    refine (GU.out _).mono ?_
    rintro e w1 ⟨rfl, h1⟩
    have HB1 := Lib.hid h1
    clear h1
    go_wp2_with fail
    all_goals first
      | (exfalso; omega)
      | (go_ret2; exact ⟨by first | rfl | simp_all, HB1.out⟩)
end Go.Proofs.YtahgapkecabnjaaGreatDoor
/- The engine's small questions: clock. -/
namespace Go.Proofs.YtahgapkecabnjaaGreatDoor
set_option linter.unusedSimpArgs false
set_option linter.unusedVariables false
open Go Go.RowKit Go.Shelf Go.Lib

set_option maxHeartbeats 4000000 in
set_option maxRecDepth 100000 in
theorem clock_any {w : World} {ba : Nat} {F : Nat → Prop} {s : St} (h : AutoAt w ba F s) (hg : U64 s.g) :
    Calls Tryz.prog 46 #[.pointer (some ⟨ba, 0, none⟩)] w fun e w' => e = .returned (.int .i64 (clkW s.g : Nat)) ∧ Below w.heap.size w w' := by
  obtain ⟨rv, mb, f, vs, h⟩ := h
  have hc : w.cell? ⟨ba, 18, none⟩ = some (.int .u64 (s.g : Nat)) := h.cell rfl
  have HG := Lib.hid (gunpack_any s.g w hg)
  clear h
  go_enter Tryz.func46, Tryz.ntmps46
  go_wp2_with fail
  refine HG.out.mono ?_
  rintro e w2 ⟨rfl, h2⟩
  unfold gateV
  have f2 := field_gate2 (verW s.g) (cntW s.g) (clkW s.g)
  go_wp2_with fail

  go_ret
  exact ⟨rfl, h2⟩
set_option maxHeartbeats 4000000 in
set_option maxRecDepth 100000 in
theorem gateOf_any {w : World} {ba : Nat} {F : Nat → Prop} {s : St} (h : AutoAt w ba F s) (hg : U64 s.g) :
    Calls Tryz.prog 22 #[.pointer (some ⟨ba, 0, none⟩)] w fun e w' => e = .returned (gateV s.g) ∧ Below w.heap.size w w' := by
  have HB0 : Hid (Below w.heap.size w (w.alloc (.cells #[.int .i64 0, .int .i64 0, .int .i64 0] 64))) := Lib.hid ((Below.refl _ w).alloc (Nat.le_refl _) _)
  have h1 := h.below HB0.out
  obtain ⟨rv, mb, f, vs, h⟩ := h1
  have hc : (w.alloc (.cells #[.int .i64 0, .int .i64 0, .int .i64 0] 64)).cell? ⟨ba, 18, none⟩ = some (.int .u64 (s.g : Nat)) := h.cell rfl
  have HG := Lib.hid (fun W => gunpack_any s.g W hg)
  clear h
  go_enter Tryz.func22, Tryz.ntmps22
  go_wp2_with fail
  refine (HG.out _).mono ?_
  rintro e w2 ⟨rfl, h2⟩
  have hbk : w2.heap[w.heap.size]? = some (.cells #[.int .i64 0, .int .i64 0, .int .i64 0] 64 (0, 0)) := (h2.block w.heap.size (by simp)).trans (World.alloc_heap_new w _)
  have k0 : w2.cell? ⟨w.heap.size, 0, none⟩ = some (.int .i64 0) := by simp [World.cell?, hbk]
  have k1 : w2.cell? ⟨w.heap.size, 1, none⟩ = some (.int .i64 0) := by simp [World.cell?, hbk]
  have k2 : w2.cell? ⟨w.heap.size, 2, none⟩ = some (.int .i64 0) := by simp [World.cell?, hbk]
  have g0 : w2.frozen? ⟨w.heap.size, 0, none⟩ = false := by simp [World.frozen?, hbk]
  have g1 : w2.frozen? ⟨w.heap.size, 1, none⟩ = false := by simp [World.frozen?, hbk]
  have g2 : w2.frozen? ⟨w.heap.size, 2, none⟩ = false := by simp [World.frozen?, hbk]
  have HBE : Hid (Below w.heap.size w (((w2.setCell ⟨w.heap.size, 0, none⟩ (.int .i64 (verW s.g))).setCell ⟨w.heap.size, 1, none⟩ (.int .i64 (cntW s.g))).setCell ⟨w.heap.size, 2, none⟩ (.int .i64 (clkW s.g)))) := Lib.hid ((((below_then HB0.out h2).setCell (p := ⟨w.heap.size, 0, none⟩) (Nat.le_refl _) _).setCell (p := ⟨w.heap.size, 1, none⟩) (Nat.le_refl _) _).setCell (p := ⟨w.heap.size, 2, none⟩) (Nat.le_refl _) _)
  clear h2 hbk
  unfold gateV
  go_wp2_with fail
  exact bodyPost_ret (v := .agg #[.int .i64 (verW s.g), .int .i64 (cntW s.g), .int .i64 (clkW s.g)]) (by simp [results, Tryz.results22, go_sem, *]) rfl ⟨rfl, HBE.out⟩
end Go.Proofs.YtahgapkecabnjaaGreatDoor
/- The engine: Tick, known. -/
namespace Go.Proofs.YtahgapkecabnjaaGreatDoor
set_option linter.unusedSimpArgs false
set_option linter.unusedVariables false
open Go Go.RowKit Go.Shelf Go.Lib

/-- Is it a verdict that is counted? -/
def knownF (n : Int) : Bool := decide (1 ≤ n) && decide (n ≤ 5)
set_option maxHeartbeats 1000000 in
theorem known_any (p : Option Addr) (n : Int) (w : World) :
    Calls Tryz.prog 41 #[.pointer p, .int .i64 n] w fun e w' => e = .returned (.bool (p.isSome && knownF n)) ∧ Below w.heap.size w w' := by
  have HV : Hid ((p.isSome && knownF n) = (p.isSome && (decide (1 ≤ n) && decide (n ≤ 5)))) := Lib.hid rfl
  generalize (p.isSome && knownF n) = res at *
  cases p with
  | none =>
    go_enter Tryz.func41, Tryz.ntmps41
    go_wp2_with fail
    go_ret
    exact ⟨by rw [HV.out]; rfl, Below.refl _ _⟩
  | some ad =>
    by_cases h1 : 1 ≤ n
    · by_cases h2 : n ≤ 5
      · go_enter Tryz.func41, Tryz.ntmps41
        go_wp2_with fail
        go_ret
        exact ⟨by rw [HV.out]; simp [h1, h2], Below.refl _ _⟩
      · go_enter Tryz.func41, Tryz.ntmps41
        go_wp2_with fail
        go_ret
        exact ⟨by rw [HV.out]; simp [h1, h2], Below.refl _ _⟩
    · have E1 := Lib.hid (decide_eq_false h1)
      go_enter Tryz.func41, Tryz.ntmps41
      go_wp2_with fail
      go_ret
      exact ⟨by rw [HV.out, E1.out]; rfl, Below.refl _ _⟩
theorem heap_set {w : World} {b o : Nat} {cs : Array Value} {t : TypeId} (v : Value) (h : w.heap[b]? = some (.cells cs t (0, 0))) : (w.setCell ⟨b, o, none⟩ v).heap[b]? = some (.cells (cs.setIfInBounds o v) t (0, 0)) := by
  obtain ⟨hlt, hk⟩ := Array.getElem?_eq_some_iff.1 h
  show (w.heap.modify b _)[b]? = _
  rw [Array.getElem?_eq_getElem (by rw [Array.size_modify]; exact hlt), Array.getElem_modify_self, hk]
  rfl
/-- The engine's gate word is stored anew. -/
theorem AutoW.setg {w : World} {ba mb : Nat} {F : Nat → Prop} {s : St} {rv : Value} {f : Value → Option Value} {vs : List Value} (h : AutoW w ba F s rv mb f vs) (g' : Nat) : AutoW (w.setCell ⟨ba, 18, none⟩ (.int .u64 (g' : Nat))) ba F { s with g := g' } rv mb f vs := by
  have hne : ∀ i, i ≠ ba → (w.setCell ⟨ba, 18, none⟩ (.int .u64 (g' : Nat))).heap[i]? = w.heap[i]? := fun i hi => Below.heap_setCell _ _ _ i hi
  have hrow : ∀ b, rv.ownBlock = some b → b ≠ ba := fun b e e2 => by
    subst e2
    obtain ⟨cur, hc⟩ := row_type h.row e
    rw [h.box] at hc
    injection hc with hc
    injection hc with _ hc
    exact absurd hc (by decide)
  have hmb : mb ≠ ba := fun e => by
    obtain ⟨es, ck, hm, _⟩ := h.fl.is
    rw [e, h.box] at hm
    cases hm
  refine ⟨heap_set _ h.box, row_of_block h.row (fun b e => hne b (hrow b e)), fun i rs hi => ?_, h.fl.of_block (hne mb hmb), h.fba, h.fmb, h.frv⟩
  obtain ⟨v, e, hv⟩ := h.inner i rs hi
  refine ⟨v, e, hv.keep (fun b eb => hne b (fun e2 => ?_)) (fun _ h => h)⟩
  subst e2
  obtain ⟨cur, hc⟩ := row_type hv.row eb
  rw [h.box] at hc
  injection hc with hc
  injection hc with _ hc
  exact absurd hc (by decide)
set_option maxHeartbeats 4000000 in
set_option maxRecDepth 100000 in
theorem tick_any {w : World} {ba : Nat} {F : Nat → Prop} {s : St} (n : Int) (h : AutoAt w ba F s) (hg : U64 s.g) :
    Calls Tryz.prog 24 #[.pointer (some ⟨ba, 0, none⟩), .int .i64 n] w fun e w' => (∃ v, e = .returned v) ∧ AutoAt w' ba F { s with g := tickW s.g n } ∧ Turn F w w' := by
  obtain ⟨rv, mb, f, vs, h⟩ := h
  have hc : w.cell? ⟨ba, 18, none⟩ = some (.int .u64 (s.g : Nat)) := h.cell rfl
  have HG := Lib.hid (gtick_any s.g (tickW s.g n) n w hg rfl)
  have HA := Lib.hid h
  clear h
  go_enter Tryz.func24, Tryz.ntmps24
  go_wp2_with fail
  refine HG.out.mono ?_
  rintro e w2 ⟨rfl, h2⟩
  have h3 := HA.out.of_turn (Turn.of_below (F := fun _ => False) h2) (fun _ _ h => h)
  have k0 : w2.cell? ⟨ba, 18, none⟩ = some (.int .u64 (s.g : Nat)) := h3.cell rfl
  have g0 := h3.free 18
  have HA2 := Lib.hid (h3.setg (tickW s.g n))
  have HT : Hid (Turn F w (w2.setCell ⟨ba, 18, none⟩ (.int .u64 (tickW s.g n : Nat)))) := Lib.hid ((Turn.of_below (F := F) h2).setCell _ _ (.inl HA.out.fba))
  clear h2 h3
  go_wp2_with fail
  go_end0
  exact ⟨⟨_, rfl⟩, ⟨rv, mb, f, vs, HA2.out⟩, HT.out⟩
end Go.Proofs.YtahgapkecabnjaaGreatDoor
/- The engine: Stat. -/
namespace Go.Proofs.YtahgapkecabnjaaGreatDoor
set_option linter.unusedSimpArgs false
set_option linter.unusedVariables false
open Go Go.RowKit Go.Shelf Go.Lib

def statF (s : St) (n : Int) : Nat := if knownF n = true then s.told n.toNat else 0
theorem told_cell {w : World} {ba mb : Nat} {F : Nat → Prop} {s : St} {rv : Value} {f : Value → Option Value} {vs : List Value} (h : AutoW w ba F s rv mb f vs) {m : Nat} (hm : m ≤ 5) : w.cell? ⟨ba, 21 + m, none⟩ = some (.int .u64 (s.told m : Nat)) := by
  refine h.cell ?_
  have : m = 0 ∨ m = 1 ∨ m = 2 ∨ m = 3 ∨ m = 4 ∨ m = 5 := by omega
  rcases this with h | h | h | h | h | h <;> subst h <;> rfl
set_option maxHeartbeats 4000000 in
set_option maxRecDepth 100000 in
theorem stat_any {w : World} {ba : Nat} {F : Nat → Prop} {s : St} (n : Int) (h : AutoAt w ba F s) :
    Calls Tryz.prog 16 #[.pointer (some ⟨ba, 0, none⟩), .int .i64 n] w fun e w' => e = .returned (.int .u64 (statF s n : Nat)) ∧ Below w.heap.size w w' := by
  obtain ⟨rv, mb, f, vs, h⟩ := h
  have HA := Lib.hid h
  clear h
  have HK := Lib.hid (known_any (some ⟨ba, 0, none⟩) n w)
  by_cases hk : knownF n = true
  · have hv : Hid (statF s n = s.told n.toNat) := Lib.hid (by unfold statF; rw [if_pos hk])
    rw [hk] at HK
    have hb : 1 ≤ n ∧ n ≤ 5 := by unfold knownF at hk; simpa using hk
    obtain ⟨m, rfl⟩ := Int.eq_ofNat_of_zero_le (show 0 ≤ n by omega)
    clear hk
    go_enter Tryz.func16, Tryz.ntmps16
    go_wp2_with fail
    refine HK.out.mono ?_
    rintro e w2 ⟨rfl, h2⟩
    have hc := told_cell (HA.out.of_turn (Turn.of_below (F := fun _ => False) h2) (fun _ _ h => h)) (m := m) (by omega)
    have HB := Lib.hid h2
    clear h2
    go_wp2_with fail
    go_ret
    exact ⟨by rw [hv.out]; rfl, HB.out⟩
  · have hv : Hid (statF s n = 0) := Lib.hid (by unfold statF; rw [if_neg hk])
    rw [Bool.not_eq_true] at hk
    rw [hk] at HK
    go_enter Tryz.func16, Tryz.ntmps16
    go_wp2_with fail
    refine HK.out.mono ?_
    rintro e w2 ⟨rfl, h2⟩
    have HB := Lib.hid h2
    clear h2
    go_wp2_with fail
    go_ret
    exact ⟨by rw [hv.out]; rfl, HB.out⟩
end Go.Proofs.YtahgapkecabnjaaGreatDoor
/- The engine: Count. Printed by gen_autof.py. -/
namespace Go.Proofs.YtahgapkecabnjaaGreatDoor
set_option linter.unusedSimpArgs false
set_option linter.unusedVariables false
open Go Go.RowKit Go.Shelf Go.Lib

/-- One more is told. -/
def countF (s : St) (n : Int) : St := if knownF n = true then { s with told := fun i => if i = n.toNat then (if s.told i = 18446744073709551615 then s.told i else s.told i + 1) else s.told i } else s
/-- A cell of the engine's box is stored anew. -/
theorem AutoW.put {w : World} {ba mb : Nat} {F : Nat → Prop} {s : St} {rv : Value} {f : Value → Option Value} {vs : List Value} (h : AutoW w ba F s rv mb f vs) (o : Nat) (x : Value) (s' : St) (hc : (autoC s rv mb).setIfInBounds o x = autoC s' rv mb) (hr : s'.rules = s.rules) (hf : s'.flows = s.flows) : AutoW (w.setCell ⟨ba, o, none⟩ x) ba F s' rv mb f vs := by
  have hne : ∀ i, i ≠ ba → (w.setCell ⟨ba, o, none⟩ x).heap[i]? = w.heap[i]? := fun i hi => Below.heap_setCell _ _ _ i hi
  have hrow : ∀ b, rv.ownBlock = some b → b ≠ ba := fun b e e2 => by
    subst e2
    obtain ⟨cur, hc⟩ := row_type h.row e
    rw [h.box] at hc
    injection hc with hc
    injection hc with _ hc
    exact absurd hc (by decide)
  have hmb : mb ≠ ba := fun e => by
    obtain ⟨es, ck, hm, _⟩ := h.fl.is
    rw [e, h.box] at hm
    cases hm
  refine ⟨by rw [← hc]; exact heap_set _ h.box, by rw [hr]; exact row_of_block h.row (fun b e => hne b (hrow b e)), fun i rs hi => ?_, by rw [hf]; exact h.fl.of_block (hne mb hmb), h.fba, h.fmb, h.frv⟩
  rw [hr] at hi
  obtain ⟨v, e, hv⟩ := h.inner i rs hi
  refine ⟨v, e, hv.keep (fun b eb => hne b (fun e2 => ?_)) (fun _ h => h)⟩
  subst e2
  obtain ⟨cur, hc⟩ := row_type hv.row eb
  rw [h.box] at hc
  injection hc with hc
  injection hc with _ hc
  exact absurd hc (by decide)
theorem told_put (s : St) (rv : Value) (mb m z : Nat) (hm : m ≤ 5) : (autoC s rv mb).setIfInBounds (21 + m) (.int .u64 (z : Nat)) = autoC { s with told := fun i => if i = m then z else s.told i } rv mb := by
  have : m = 0 ∨ m = 1 ∨ m = 2 ∨ m = 3 ∨ m = 4 ∨ m = 5 := by omega
  rcases this with h | h | h | h | h | h <;> subst h <;> rfl
set_option maxHeartbeats 4000000 in
set_option maxRecDepth 100000 in
theorem count_any {w : World} {ba : Nat} {F : Nat → Prop} {s : St} (n : Int) (h : AutoAt w ba F s) (ht : ∀ i, U64 (s.told i)) :
    Calls Tryz.prog 27 #[.pointer (some ⟨ba, 0, none⟩), .int .i64 n] w fun e w' => (∃ v, e = .returned v) ∧ AutoAt w' ba F (countF s n) ∧ Turn F w w' := by
  obtain ⟨rv, mb, f, vs, h⟩ := h
  have HA := Lib.hid h
  clear h
  have HK := Lib.hid (known_any (some ⟨ba, 0, none⟩) n w)
  by_cases hk : knownF n = true
  · rw [hk] at HK
    have hb : 1 ≤ n ∧ n ≤ 5 := by unfold knownF at hk; simpa using hk
    obtain ⟨m, rfl⟩ := Int.eq_ofNat_of_zero_le (show 0 ≤ n by omega)
    have HKN := Lib.hid hk
    clear hk
    go_enter Tryz.func27, Tryz.ntmps27
    go_wp2_with fail
    refine HK.out.mono ?_
    rintro e w2 ⟨rfl, h2⟩
    have HA2 := Lib.hid (HA.out.of_turn (Turn.of_below (F := fun _ => False) h2) (fun _ _ h => h))
    have c0 := told_cell HA2.out (m := m) (by omega)
    have f0 := HA2.out.free (21 + m)
    have HB := Lib.hid h2
    clear h2
    generalize ht0 : s.told m = tm at *
    have hu := ht m
    rw [ht0] at hu
    go_wp2_with fail
    refine WQ.last (Drew w2) ⟨1, rfl⟩ 19 2 (by rfl) (by kernel_rfl) (by kernel_rfl) ?_; simp only [List.take_succ_cons, List.take_zero]
    refine WQ.val (by rfl) (fun v hv => by have k0 := hv.cell c0; go_simp; first | done | with_reducible rfl | (rw [if_pos (by omega)])) ?_; simp only [Act.put, List.setIfInBounds_toArray, List.set_cons_zero, List.set_cons_succ]
    refine WQ.val (by rfl) (fun v hv => by have k0 := hv.cell c0; go_simp; first | done | with_reducible rfl | (rw [if_pos (by omega)])) ?_; simp only [Act.put, List.setIfInBounds_toArray, List.set_cons_zero, List.set_cons_succ]
    refine WQ.val (by rfl) (fun v hv => by have k0 := hv.cell c0; go_simp; first | done | with_reducible rfl | (rw [if_pos (by omega)])) ?_; simp only [Act.put, List.setIfInBounds_toArray, List.set_cons_zero, List.set_cons_succ]
    refine WQ.val (by rfl) (fun v hv => by have k0 := hv.cell c0; go_simp; first | done | with_reducible rfl | (rw [if_pos (by omega)])) ?_; simp only [Act.put, List.setIfInBounds_toArray, List.set_cons_zero, List.set_cons_succ]
    refine WQ.val (by rfl) (fun v hv => by have k0 := hv.cell c0; go_simp; first | done | with_reducible rfl | (rw [if_pos (by omega)])) ?_; simp only [Act.put, List.setIfInBounds_toArray, List.set_cons_zero, List.set_cons_succ]
    refine WQ.val (by rfl) (fun v hv => by have k0 := hv.cell c0; go_simp; first | done | with_reducible rfl | (rw [if_pos (by omega)])) ?_; simp only [Act.put, List.setIfInBounds_toArray, List.set_cons_zero, List.set_cons_succ]
    refine WQ.val (by rfl) (fun v hv => by have k0 := hv.cell c0; go_simp; first | done | with_reducible rfl | (rw [if_pos (by omega)])) ?_; simp only [Act.put, List.setIfInBounds_toArray, List.set_cons_zero, List.set_cons_succ]
    refine WQ.val (by rfl) (fun v hv => by have k0 := hv.cell c0; go_simp; first | done | with_reducible rfl | (rw [if_pos (by omega)])) ?_; simp only [Act.put, List.setIfInBounds_toArray, List.set_cons_zero, List.set_cons_succ]
    refine WQ.val (by rfl) (fun v hv => by have k0 := hv.cell c0; go_simp; first | done | with_reducible rfl | (rw [if_pos (by omega)])) ?_; simp only [Act.put, List.setIfInBounds_toArray, List.set_cons_zero, List.set_cons_succ]
    refine WQ.val (by rfl) (fun v hv => by have k0 := hv.cell c0; go_simp; first | done | with_reducible rfl | (rw [if_pos (by omega)])) ?_; simp only [Act.put, List.setIfInBounds_toArray, List.set_cons_zero, List.set_cons_succ]
    refine WQ.val (by rfl) (fun v hv => by have k0 := hv.cell c0; go_simp; first | done | with_reducible rfl | (rw [if_pos (by omega)])) ?_; simp only [Act.put, List.setIfInBounds_toArray, List.set_cons_zero, List.set_cons_succ]
    refine WQ.val (by rfl) (fun v hv => by have k0 := hv.cell c0; go_simp; first | done | with_reducible rfl | (rw [if_pos (by omega)])) ?_; simp only [Act.put, List.setIfInBounds_toArray, List.set_cons_zero, List.set_cons_succ]
    refine WQ.val (by rfl) (fun v hv => by have k0 := hv.cell c0; go_simp; first | done | with_reducible rfl | (rw [if_pos (by omega)])) ?_; simp only [Act.put, List.setIfInBounds_toArray, List.set_cons_zero, List.set_cons_succ]
    refine WQ.val (by rfl) (fun v hv => by have k0 := hv.cell c0; go_simp; first | done | with_reducible rfl | (rw [if_pos (by omega)])) ?_; simp only [Act.put, List.setIfInBounds_toArray, List.set_cons_zero, List.set_cons_succ]
    refine WQ.val (by rfl) (fun v hv => by have k0 := hv.cell c0; go_simp; first | done | with_reducible rfl | (rw [if_pos (by omega)])) ?_; simp only [Act.put, List.setIfInBounds_toArray, List.set_cons_zero, List.set_cons_succ]
    refine WQ.val (by rfl) (fun v hv => by have k0 := hv.cell c0; go_simp; first | done | with_reducible rfl | (rw [if_pos (by omega)])) ?_; simp only [Act.put, List.setIfInBounds_toArray, List.set_cons_zero, List.set_cons_succ]
    refine WQ.val (by rfl) (fun v hv => by have k0 := hv.cell c0; go_simp; first | done | with_reducible rfl | (rw [if_pos (by omega)])) ?_; simp only [Act.put, List.setIfInBounds_toArray, List.set_cons_zero, List.set_cons_succ]
    refine WQ.val (by rfl) (fun v hv => by have k0 := hv.cell c0; go_simp; first | done | with_reducible rfl | (rw [if_pos (by omega)])) ?_; simp only [Act.put, List.setIfInBounds_toArray, List.set_cons_zero, List.set_cons_succ]
    refine WQ.val (by rfl) (fun v hv => by have k0 := hv.cell c0; go_simp; first | done | with_reducible rfl | (rw [if_pos (by omega)])) ?_; simp only [Act.put, List.setIfInBounds_toArray, List.set_cons_zero, List.set_cons_succ]
    refine WQ.done ?_
    intro w5 hw5
    refine wpOp_one rfl (by rfl) ?_
    intro K' hK'
    obtain ⟨n5, rfl⟩ := hw5
    have k0 : (w2.drewN n5).cell? ⟨ba, 21 + m, none⟩ = some (.int .u64 (tm : Nat)) := c0
    have g0 : (w2.drewN n5).frozen? ⟨ba, 21 + m, none⟩ = false := f0
    clear c0 f0
    have hmx : max (tm : Int) (IntKind.u64.wrap ((tm : Int) + 1)) = ((if tm = 18446744073709551615 then tm else tm + 1 : Nat) : Int) := by
      rw [IntKind.wrap_u64]
      unfold U64 at hu
      split <;> omega
    have HZ : Hid (countF s (m : Int) = { s with told := fun i => if i = m then (if tm = 18446744073709551615 then tm else tm + 1) else s.told i }) := Lib.hid (by
      unfold countF
      rw [if_pos HKN.out]
      congr 1
      funext i
      by_cases hi : i = m
      · subst hi; simp [ht0]
      · simp [hi])
    generalize (if tm = 18446744073709551615 then tm else tm + 1) = z at *
    have HA5 : Hid (AutoW ((w2.drewN n5).setCell ⟨ba, 21 + m, none⟩ (.int .u64 (z : Nat))) ba F { s with told := fun i => if i = m then z else s.told i } rv mb f vs) := Lib.hid ((HA2.out.of_turn ((Turn.refl (fun _ => False) w2).drewN n5) (fun _ _ h => h)).put _ _ _ (told_put s rv mb m z (by omega)) rfl rfl)
    have HT5 : Hid (Turn F w ((w2.drewN n5).setCell ⟨ba, 21 + m, none⟩ (.int .u64 (z : Nat)))) := Lib.hid (((Turn.of_below (F := F) HB.out).drewN n5).setCell _ _ (.inl HA.out.fba))
    rw [hmx]
    clear hmx
    go_wp2_with fail
    go_end0
    exact ⟨⟨_, rfl⟩, ⟨rv, mb, f, vs, by rw [HZ.out]; exact HA5.out⟩, HT5.out⟩
  · have hv : Hid (countF s n = s) := Lib.hid (by unfold countF; rw [if_neg hk])
    rw [Bool.not_eq_true] at hk
    rw [hk] at HK
    go_enter Tryz.func27, Tryz.ntmps27
    go_wp2_with fail
    refine HK.out.mono ?_
    rintro e w2 ⟨rfl, h2⟩
    have HB := Lib.hid h2
    clear h2
    go_wp2_with fail
    go_end0
    exact ⟨⟨_, rfl⟩, by rw [hv.out]; exact ⟨rv, mb, f, vs, HA.out.of_turn (Turn.of_below (F := fun _ => False) HB.out) (fun _ _ h => h)⟩, Turn.of_below HB.out⟩
end Go.Proofs.YtahgapkecabnjaaGreatDoor
/- Walks of flow.Next and flow.Over. -/
namespace Go.Proofs.YtahgapkecabnjaaGreatDoor
set_option linter.unusedSimpArgs false
set_option linter.unusedVariables false
open Go Go.RowKit

theorem toNat_mod (to : Int) : (to % 18446744073709551616).toNat % 16 = (to % 16).toNat := by omega
theorem flowNext_three {v : Nat} (hv : U64 v) (to last : Int) :
    putN (putN (putN v 60 4 (to % 18446744073709551616).toNat) 40 20 (min (seqW v + 1) 1048575)) 0 40 (lastF last) = flowNext v to last := by
  rw [flowNext_put hv, toNat_mod]; rfl
set_option maxHeartbeats 8000000 in
set_option maxRecDepth 100000 in
theorem flowNext_any (v r : Nat) (to last : Int) (w : World) (hv : U64 v) (hr : flowNext v to last = r) :
    Calls Tryz.prog 56 #[.int .u64 v, .int .i64 to, .int .i64 last] w fun e w' => e = .returned (.int .u64 r) ∧ Below w.heap.size w w' := by
  subst hr
  have hT : U64 (to % 18446744073709551616).toNat := by unfold U64; omega
  have hS : U64 (min (seqW v + 1) 1048575) := by unfold U64; omega
  have hL : U64 (lastF last) := by unfold U64; have := lastF_le last; omega
  have h1 := putN_lt (v := (to % 18446744073709551616).toNat) hv (show 60 + 4 ≤ 64 by decide)
  have h2 := putN_lt (v := min (seqW v + 1) 1048575) h1 (show 40 + 20 ≤ 64 by decide)
  have P1 := Lib.hid (fun xi h W => put_any v 60 4 (to % 18446744073709551616).toNat _ 60 4 xi W rfl rfl h (by decide) (by decide) hv hT rfl)
  have P2 := Lib.hid (fun xi h W => put_any (putN v 60 4 (to % 18446744073709551616).toNat) 40 20 (min (seqW v + 1) 1048575) _ 40 20 xi W rfl rfl h (by decide) (by decide) h1 hS rfl)
  have P3 := Lib.hid (fun xi h W => put_any (putN (putN v 60 4 (to % 18446744073709551616).toNat) 40 20 (min (seqW v + 1) 1048575)) 0 40 (lastF last) _ 0 40 xi W rfl rfl h (by decide) (by decide) h2 hL rfl)
  rw [flowNext_three hv to last] at P3
  have GU := Lib.hid (fun W => funpack_val v _ _ _ W hv rfl rfl rfl)
  have HT : Hid (((to % 18446744073709551616).toNat : Int) = to % 18446744073709551616) := Lib.hid (by omega)
  have HS : Hid (((min (seqW v + 1) 1048575 : Nat) : Int) = min ((seqW v : Int) + 1) 1048575) := Lib.hid (by omega)
  have HL : Hid ((lastF last : Int) = max 0 (min last 1099511627775)) := Lib.hid (by unfold lastF; omega)
  have hseq := (flow_parts hv).2.2.1
  clear h1 h2 hT hS hL
  generalize putN (putN v 60 4 (to % 18446744073709551616).toNat) 40 20 (min (seqW v + 1) 1048575) = n2 at *
  generalize putN v 60 4 (to % 18446744073709551616).toNat = n1 at *
  generalize flowNext v to last = res at *
  generalize (to % 18446744073709551616).toNat = xt at *
  generalize min (seqW v + 1) 1048575 = xs at *
  generalize lastF last = xl at *
  generalize stW v = sx at *
  generalize seqW v = sy at *
  generalize untW v = sz at *
  generalize (v : Int) = vi at *
  clear hv
  go_enter Tryz.func56, Tryz.ntmps56
  go_wp2_with fail
  refine (GU.out _).mono ?_
  rintro e w1 ⟨rfl, h1⟩
  have HB1 : Hid (Below w.heap.size w (w1.alloc (.cells #[.int .i64 sx, .int .i64 sy, .int .i64 sz] 50))) := Lib.hid (Below.alloc h1 h1.size _)
  have x1 : (w1.alloc (.cells #[.int .i64 sx, .int .i64 sy, .int .i64 sz] 50)).cell? ⟨w1.heap.size, 1, none⟩ = some (.int .i64 sy) := by simp
  clear h1
  go_wp2_with fail
  generalize w1.alloc (.cells #[.int .i64 sx, .int .i64 sy, .int .i64 sz] 50) = wx at *
  generalize w1.heap.size = nb at *
  refine (P1.out _ (by have := HT.out; first | omega | (rw [wrapU]; omega)) _).mono ?_
  rintro e w2 ⟨rfl, h2⟩
  have HB2 := Lib.hid (below_then HB1.out h2)
  have x2 := Since.cell h2 x1
  clear h2 x1 HB1
  rcases (show (¬ 1048575 < (sy : Int) + 1 ∧ (xs : Int) = sy + 1) ∨ (1048575 < (sy : Int) + 1 ∧ (xs : Int) = 1048575) by have := HS.out; omega) with ⟨s1, s2⟩ | ⟨s1, s2⟩
  all_goals
    have S2 := Lib.hid s2
    clear s2
    go_wp2_with fail
    all_goals first
      | (exfalso; omega)
      | skip
    refine (P2.out _ (by have := S2.out; omega) _).mono ?_
    rintro e w3 ⟨rfl, h3⟩
    have HB3 := Lib.hid (below_then HB2.out h3)
    clear h3 x2
    rcases (show (¬ 0 < last ∧ ¬ 1099511627775 < last ∧ xl = 0) ∨ (0 < last ∧ ¬ 1099511627775 < last ∧ (xl : Int) = last) ∨ (0 < last ∧ 1099511627775 < last ∧ (xl : Int) = 1099511627775) by have := HL.out; omega) with ⟨l1, l2, l3⟩ | ⟨l1, l2, l3⟩ | ⟨l1, l2, l3⟩
    all_goals
      have L3 := Lib.hid l3
      clear l3
      go_wp2_with fail
      all_goals first
        | (exfalso; omega)
        | skip
      refine (P3.out _ (by have := L3.out; omega) _).mono ?_
      rintro e w4 ⟨rfl, h4⟩
      have HB4 := Lib.hid (below_then HB3.out h4)
      clear h4
      go_wp2_with fail
      go_ret
      exact ⟨rfl, HB4.out⟩
set_option maxHeartbeats 8000000 in
set_option maxRecDepth 100000 in
theorem flowOver_any (v : Nat) (c : Int) (w : World) (hv : U64 v) :
    Calls Tryz.prog 45 #[.int .u64 v, .int .i64 c] w fun e w' => e = .returned (.bool (overW v c)) ∧ Below w.heap.size w w' := by
  have GU := Lib.hid (fun W => funpack_val v _ _ _ W hv rfl rfl rfl)
  have HV : Hid (overW v c = decide (stW v = 0 ∨ stW v = 15 ∨ (untW v : Int) ≤ c ∨ seqW v = 1048575)) := Lib.hid rfl
  clear hv
  generalize overW v c = res at *
  generalize stW v = sx at *
  generalize seqW v = sy at *
  generalize untW v = sz at *
  generalize (v : Int) = vi at *
  go_enter Tryz.func45, Tryz.ntmps45
  go_wp2_with fail
  refine (GU.out _).mono ?_
  rintro e w1 ⟨rfl, h1⟩
  have HB1 := Lib.hid h1
  clear h1
  go_wp2_with fail
  all_goals
    go_ret
    refine ⟨?_, Below.alloc HB1.out HB1.out.size _⟩
    rw [HV.out]
    refine congrArg (fun b => Ending.returned (.bool b)) ?_
    rw [Bool.eq_iff_iff]
    simp [*]
    try omega
end Go.Proofs.YtahgapkecabnjaaGreatDoor
