/- Walks of the reference's end, Less and Of. Printed by gen_keyc.py. -/
import Derived.Test.YtahgapkecabnjaaGreatDoorC05
namespace Go.Proofs.YtahgapkecabnjaaGreatDoor
set_option linter.unusedSimpArgs false
set_option linter.unusedVariables false
open Go Go.RowKit

set_option maxHeartbeats 1000000 in
theorem end_any (a p n : Nat) (w : World) (h : endN a p = n) (ha : a < 4294967296) (hp : p < 65536) :
    Calls Tryz.prog 60 #[.int .u32 a, .int .u16 p] w fun e w' => e = .returned (.int .u64 n) ∧ Below w.heap.size w w' := by
  subst h
  go_enter Tryz.func60, Tryz.ntmps60
  go_wp2
  go_ret
  refine ⟨congrArg (fun b => Ending.returned (.int .u64 b)) ?_, Below.refl _ _⟩
  unfold endN
  first | (rw [Int.emod_eq_of_lt] <;> omega) | omega
set_option maxHeartbeats 16000000 in
set_option maxRecDepth 100000 in
theorem refLess_any (x y : Ky) (w : World) (hx : x.In) (hy : y.In) :
    Calls Tryz.prog 26 #[kyV x, kyV y] w fun e w' => e = .returned (.bool (lessK x y)) ∧ Below w.heap.size w w' := by
  have HL := Lib.hid (lessK_ends hx hy)
  obtain ⟨a0, a1, p0, p1, pr⟩ := x
  obtain ⟨b0, b1, q0, q1, qr⟩ := y
  obtain ⟨x1, x2, x3, x4, _⟩ := hx
  obtain ⟨y1, y2, y3, y4, _⟩ := hy
  simp only at HL x1 x2 x3 x4 y1 y2 y3 y4
  have E1 := Lib.hid (fun W n h => end_any a0 p0 n W h x1 x3)
  have E2 := Lib.hid (fun W n h => end_any b0 q0 n W h y1 y3)
  have E3 := Lib.hid (fun W n h => end_any a1 p1 n W h x2 x4)
  have E4 := Lib.hid (fun W n h => end_any b1 q1 n W h y2 y4)
  clear x1 x2 x3 x4 y1 y2 y3 y4
  generalize lessK ⟨a0, a1, p0, p1, pr⟩ ⟨b0, b1, q0, q1, qr⟩ = res at *
  generalize endN a0 p0 = e1 at *
  generalize endN b0 q0 = e2 at *
  generalize endN a1 p1 = e3 at *
  generalize endN b1 q1 = e4 at *
  have E1 := Lib.hid (fun W => E1.out W e1 rfl)
  have E2 := Lib.hid (fun W => E2.out W e2 rfl)
  have E3 := Lib.hid (fun W => E3.out W e3 rfl)
  have E4 := Lib.hid (fun W => E4.out W e4 rfl)
  unfold kyV kyC
  by_cases hp : pr = qr
  · subst hp
    go_enter Tryz.func26, Tryz.ntmps26
    go_wp2_with fail
    have HB0 : Hid (Below w.heap.size w ((w.alloc (.cells #[.int .u32 a0, .int .u32 a1, .int .u16 p0, .int .u16 p1, .int .u8 pr] 45)).alloc (.cells #[.int .u32 b0, .int .u32 b1, .int .u16 q0, .int .u16 q1, .int .u8 pr] 45))) := Lib.hid (((Below.refl _ w).alloc (Nat.le_refl _) _).alloc (by simp) _)
    have xk0 : ((w.alloc (.cells #[.int .u32 a0, .int .u32 a1, .int .u16 p0, .int .u16 p1, .int .u8 pr] 45)).alloc (.cells #[.int .u32 b0, .int .u32 b1, .int .u16 q0, .int .u16 q1, .int .u8 pr] 45)).cell? ⟨w.heap.size, 0, none⟩ = some (.int .u32 a0) := by simp
    have xm0 : ((w.alloc (.cells #[.int .u32 a0, .int .u32 a1, .int .u16 p0, .int .u16 p1, .int .u8 pr] 45)).alloc (.cells #[.int .u32 b0, .int .u32 b1, .int .u16 q0, .int .u16 q1, .int .u8 pr] 45)).cell? ⟨w.heap.size + 1, 0, none⟩ = some (.int .u32 b0) := by simp
    have xk1 : ((w.alloc (.cells #[.int .u32 a0, .int .u32 a1, .int .u16 p0, .int .u16 p1, .int .u8 pr] 45)).alloc (.cells #[.int .u32 b0, .int .u32 b1, .int .u16 q0, .int .u16 q1, .int .u8 pr] 45)).cell? ⟨w.heap.size, 1, none⟩ = some (.int .u32 a1) := by simp
    have xm1 : ((w.alloc (.cells #[.int .u32 a0, .int .u32 a1, .int .u16 p0, .int .u16 p1, .int .u8 pr] 45)).alloc (.cells #[.int .u32 b0, .int .u32 b1, .int .u16 q0, .int .u16 q1, .int .u8 pr] 45)).cell? ⟨w.heap.size + 1, 1, none⟩ = some (.int .u32 b1) := by simp
    have xk2 : ((w.alloc (.cells #[.int .u32 a0, .int .u32 a1, .int .u16 p0, .int .u16 p1, .int .u8 pr] 45)).alloc (.cells #[.int .u32 b0, .int .u32 b1, .int .u16 q0, .int .u16 q1, .int .u8 pr] 45)).cell? ⟨w.heap.size, 2, none⟩ = some (.int .u16 p0) := by simp
    have xm2 : ((w.alloc (.cells #[.int .u32 a0, .int .u32 a1, .int .u16 p0, .int .u16 p1, .int .u8 pr] 45)).alloc (.cells #[.int .u32 b0, .int .u32 b1, .int .u16 q0, .int .u16 q1, .int .u8 pr] 45)).cell? ⟨w.heap.size + 1, 2, none⟩ = some (.int .u16 q0) := by simp
    have xk3 : ((w.alloc (.cells #[.int .u32 a0, .int .u32 a1, .int .u16 p0, .int .u16 p1, .int .u8 pr] 45)).alloc (.cells #[.int .u32 b0, .int .u32 b1, .int .u16 q0, .int .u16 q1, .int .u8 pr] 45)).cell? ⟨w.heap.size, 3, none⟩ = some (.int .u16 p1) := by simp
    have xm3 : ((w.alloc (.cells #[.int .u32 a0, .int .u32 a1, .int .u16 p0, .int .u16 p1, .int .u8 pr] 45)).alloc (.cells #[.int .u32 b0, .int .u32 b1, .int .u16 q0, .int .u16 q1, .int .u8 pr] 45)).cell? ⟨w.heap.size + 1, 3, none⟩ = some (.int .u16 q1) := by simp
    generalize hwx : ((w.alloc (.cells #[.int .u32 a0, .int .u32 a1, .int .u16 p0, .int .u16 p1, .int .u8 pr] 45)).alloc (.cells #[.int .u32 b0, .int .u32 b1, .int .u16 q0, .int .u16 q1, .int .u8 pr] 45)) = wx at *
    generalize hn0 : w.heap.size = n0 at *
    refine WQ.enter wx (Since.refl _) (by kernel_rfl) (by kernel_rfl) ?_
    refine WQ.val (by rfl) (fun v hv => by have k0 := hv.cell xk0; have k1 := hv.cell xk2; have k2 := hv.cell xm0; have k3 := hv.cell xm2; go_simp; first | done | with_reducible rfl | (rw [if_neg (by omega)])) ?_; simp only [Act.put, List.setIfInBounds_toArray, List.set_cons_zero, List.set_cons_succ]
    refine WQ.val (by rfl) (fun v hv => by have k0 := hv.cell xk0; have k1 := hv.cell xk2; have k2 := hv.cell xm0; have k3 := hv.cell xm2; go_simp; first | done | with_reducible rfl | (rw [if_neg (by omega)])) ?_; simp only [Act.put, List.setIfInBounds_toArray, List.set_cons_zero, List.set_cons_succ]
    refine WQ.val (by rfl) (fun v hv => by have k0 := hv.cell xk0; have k1 := hv.cell xk2; have k2 := hv.cell xm0; have k3 := hv.cell xm2; go_simp; first | done | with_reducible rfl | (rw [if_neg (by omega)])) ?_; simp only [Act.put, List.setIfInBounds_toArray, List.set_cons_zero, List.set_cons_succ]
    refine WQ.val (by rfl) (fun v hv => by have k0 := hv.cell xk0; have k1 := hv.cell xk2; have k2 := hv.cell xm0; have k3 := hv.cell xm2; go_simp; first | done | with_reducible rfl | (rw [if_neg (by omega)])) ?_; simp only [Act.put, List.setIfInBounds_toArray, List.set_cons_zero, List.set_cons_succ]
    refine WQ.val (by rfl) (fun v hv => by have k0 := hv.cell xk0; have k1 := hv.cell xk2; have k2 := hv.cell xm0; have k3 := hv.cell xm2; go_simp; first | done | with_reducible rfl | (rw [if_neg (by omega)])) ?_; simp only [Act.put, List.setIfInBounds_toArray, List.set_cons_zero, List.set_cons_succ]
    refine WQ.val (by rfl) (fun v hv => by have k0 := hv.cell xk0; have k1 := hv.cell xk2; have k2 := hv.cell xm0; have k3 := hv.cell xm2; go_simp; first | done | with_reducible rfl | (rw [if_neg (by omega)])) ?_; simp only [Act.put, List.setIfInBounds_toArray, List.set_cons_zero, List.set_cons_succ]
    refine WQ.call (f := 60) (args := #[.int .u32 a0, .int .u16 p0]) (by rfl) (fun v hv => by go_simp) (fun v hv => (E1.out v).mono (fun e v' ⟨he, hb⟩ => ⟨he, hv.step hb⟩)) ?_; simp only [Act.put, List.setIfInBounds_toArray, List.set_cons_zero, List.set_cons_succ]
    refine WQ.val (by rfl) (fun v hv => by have k0 := hv.cell xk0; have k1 := hv.cell xk2; have k2 := hv.cell xm0; have k3 := hv.cell xm2; go_simp; first | done | with_reducible rfl | (rw [if_neg (by omega)])) ?_; simp only [Act.put, List.setIfInBounds_toArray, List.set_cons_zero, List.set_cons_succ]
    refine WQ.val (by rfl) (fun v hv => by have k0 := hv.cell xk0; have k1 := hv.cell xk2; have k2 := hv.cell xm0; have k3 := hv.cell xm2; go_simp; first | done | with_reducible rfl | (rw [if_neg (by omega)])) ?_; simp only [Act.put, List.setIfInBounds_toArray, List.set_cons_zero, List.set_cons_succ]
    refine WQ.val (by rfl) (fun v hv => by have k0 := hv.cell xk0; have k1 := hv.cell xk2; have k2 := hv.cell xm0; have k3 := hv.cell xm2; go_simp; first | done | with_reducible rfl | (rw [if_neg (by omega)])) ?_; simp only [Act.put, List.setIfInBounds_toArray, List.set_cons_zero, List.set_cons_succ]
    refine WQ.val (by rfl) (fun v hv => by have k0 := hv.cell xk0; have k1 := hv.cell xk2; have k2 := hv.cell xm0; have k3 := hv.cell xm2; go_simp; first | done | with_reducible rfl | (rw [if_neg (by omega)])) ?_; simp only [Act.put, List.setIfInBounds_toArray, List.set_cons_zero, List.set_cons_succ]
    refine WQ.val (by rfl) (fun v hv => by have k0 := hv.cell xk0; have k1 := hv.cell xk2; have k2 := hv.cell xm0; have k3 := hv.cell xm2; go_simp; first | done | with_reducible rfl | (rw [if_neg (by omega)])) ?_; simp only [Act.put, List.setIfInBounds_toArray, List.set_cons_zero, List.set_cons_succ]
    refine WQ.val (by rfl) (fun v hv => by have k0 := hv.cell xk0; have k1 := hv.cell xk2; have k2 := hv.cell xm0; have k3 := hv.cell xm2; go_simp; first | done | with_reducible rfl | (rw [if_neg (by omega)])) ?_; simp only [Act.put, List.setIfInBounds_toArray, List.set_cons_zero, List.set_cons_succ]
    refine WQ.call (f := 60) (args := #[.int .u32 b0, .int .u16 q0]) (by rfl) (fun v hv => by go_simp) (fun v hv => (E2.out v).mono (fun e v' ⟨he, hb⟩ => ⟨he, hv.step hb⟩)) ?_; simp only [Act.put, List.setIfInBounds_toArray, List.set_cons_zero, List.set_cons_succ]
    refine WQ.val (by rfl) (fun v hv => by have k0 := hv.cell xk0; have k1 := hv.cell xk2; have k2 := hv.cell xm0; have k3 := hv.cell xm2; go_simp; first | done | with_reducible rfl | (rw [if_neg (by omega)])) ?_; simp only [Act.put, List.setIfInBounds_toArray, List.set_cons_zero, List.set_cons_succ]
    refine WQ.val (by rfl) (fun v hv => by have k0 := hv.cell xk0; have k1 := hv.cell xk2; have k2 := hv.cell xm0; have k3 := hv.cell xm2; go_simp; first | done | with_reducible rfl | (rw [if_neg (by omega)])) ?_; simp only [Act.put, List.setIfInBounds_toArray, List.set_cons_zero, List.set_cons_succ]
    refine WQ.done ?_
    intro w5 hw5
    have HB5 : Hid (Below n0 w w5) := Lib.hid (by rw [← hn0]; rw [← hn0] at HB0; exact below_then HB0.out hw5)
    have zk1 := Since.cell hw5 xk1
    have zk3 := Since.cell hw5 xk3
    have zm1 := Since.cell hw5 xm1
    have zm3 := Since.cell hw5 xm3
    clear hw5 xk0 xk1 xk2 xk3 xm0 xm1 xm2 xm3
    by_cases he : e1 = e2
    · subst he
      have hV : Hid (res = decide (e3 < e4)) := Lib.hid (by rw [HL.out]; simp)
      go_wp2_with fail
      refine WQ.enter w5 (Since.refl _) (by kernel_rfl) (by kernel_rfl) ?_
      refine WQ.val (by rfl) (fun v hv => by have k0 := hv.cell zk1; have k1 := hv.cell zk3; have k2 := hv.cell zm1; have k3 := hv.cell zm3; go_simp; first | done | with_reducible rfl | (rw [if_neg (by omega)])) ?_; simp only [Act.put, List.setIfInBounds_toArray, List.set_cons_zero, List.set_cons_succ]
      refine WQ.val (by rfl) (fun v hv => by have k0 := hv.cell zk1; have k1 := hv.cell zk3; have k2 := hv.cell zm1; have k3 := hv.cell zm3; go_simp; first | done | with_reducible rfl | (rw [if_neg (by omega)])) ?_; simp only [Act.put, List.setIfInBounds_toArray, List.set_cons_zero, List.set_cons_succ]
      refine WQ.val (by rfl) (fun v hv => by have k0 := hv.cell zk1; have k1 := hv.cell zk3; have k2 := hv.cell zm1; have k3 := hv.cell zm3; go_simp; first | done | with_reducible rfl | (rw [if_neg (by omega)])) ?_; simp only [Act.put, List.setIfInBounds_toArray, List.set_cons_zero, List.set_cons_succ]
      refine WQ.val (by rfl) (fun v hv => by have k0 := hv.cell zk1; have k1 := hv.cell zk3; have k2 := hv.cell zm1; have k3 := hv.cell zm3; go_simp; first | done | with_reducible rfl | (rw [if_neg (by omega)])) ?_; simp only [Act.put, List.setIfInBounds_toArray, List.set_cons_zero, List.set_cons_succ]
      refine WQ.val (by rfl) (fun v hv => by have k0 := hv.cell zk1; have k1 := hv.cell zk3; have k2 := hv.cell zm1; have k3 := hv.cell zm3; go_simp; first | done | with_reducible rfl | (rw [if_neg (by omega)])) ?_; simp only [Act.put, List.setIfInBounds_toArray, List.set_cons_zero, List.set_cons_succ]
      refine WQ.val (by rfl) (fun v hv => by have k0 := hv.cell zk1; have k1 := hv.cell zk3; have k2 := hv.cell zm1; have k3 := hv.cell zm3; go_simp; first | done | with_reducible rfl | (rw [if_neg (by omega)])) ?_; simp only [Act.put, List.setIfInBounds_toArray, List.set_cons_zero, List.set_cons_succ]
      refine WQ.call (f := 60) (args := #[.int .u32 a1, .int .u16 p1]) (by rfl) (fun v hv => by go_simp) (fun v hv => (E3.out v).mono (fun e v' ⟨he, hb⟩ => ⟨he, hv.step hb⟩)) ?_; simp only [Act.put, List.setIfInBounds_toArray, List.set_cons_zero, List.set_cons_succ]
      refine WQ.val (by rfl) (fun v hv => by have k0 := hv.cell zk1; have k1 := hv.cell zk3; have k2 := hv.cell zm1; have k3 := hv.cell zm3; go_simp; first | done | with_reducible rfl | (rw [if_neg (by omega)])) ?_; simp only [Act.put, List.setIfInBounds_toArray, List.set_cons_zero, List.set_cons_succ]
      refine WQ.val (by rfl) (fun v hv => by have k0 := hv.cell zk1; have k1 := hv.cell zk3; have k2 := hv.cell zm1; have k3 := hv.cell zm3; go_simp; first | done | with_reducible rfl | (rw [if_neg (by omega)])) ?_; simp only [Act.put, List.setIfInBounds_toArray, List.set_cons_zero, List.set_cons_succ]
      refine WQ.val (by rfl) (fun v hv => by have k0 := hv.cell zk1; have k1 := hv.cell zk3; have k2 := hv.cell zm1; have k3 := hv.cell zm3; go_simp; first | done | with_reducible rfl | (rw [if_neg (by omega)])) ?_; simp only [Act.put, List.setIfInBounds_toArray, List.set_cons_zero, List.set_cons_succ]
      refine WQ.val (by rfl) (fun v hv => by have k0 := hv.cell zk1; have k1 := hv.cell zk3; have k2 := hv.cell zm1; have k3 := hv.cell zm3; go_simp; first | done | with_reducible rfl | (rw [if_neg (by omega)])) ?_; simp only [Act.put, List.setIfInBounds_toArray, List.set_cons_zero, List.set_cons_succ]
      refine WQ.val (by rfl) (fun v hv => by have k0 := hv.cell zk1; have k1 := hv.cell zk3; have k2 := hv.cell zm1; have k3 := hv.cell zm3; go_simp; first | done | with_reducible rfl | (rw [if_neg (by omega)])) ?_; simp only [Act.put, List.setIfInBounds_toArray, List.set_cons_zero, List.set_cons_succ]
      refine WQ.val (by rfl) (fun v hv => by have k0 := hv.cell zk1; have k1 := hv.cell zk3; have k2 := hv.cell zm1; have k3 := hv.cell zm3; go_simp; first | done | with_reducible rfl | (rw [if_neg (by omega)])) ?_; simp only [Act.put, List.setIfInBounds_toArray, List.set_cons_zero, List.set_cons_succ]
      refine WQ.call (f := 60) (args := #[.int .u32 b1, .int .u16 q1]) (by rfl) (fun v hv => by go_simp) (fun v hv => (E4.out v).mono (fun e v' ⟨he, hb⟩ => ⟨he, hv.step hb⟩)) ?_; simp only [Act.put, List.setIfInBounds_toArray, List.set_cons_zero, List.set_cons_succ]
      refine WQ.val (by rfl) (fun v hv => by have k0 := hv.cell zk1; have k1 := hv.cell zk3; have k2 := hv.cell zm1; have k3 := hv.cell zm3; go_simp; first | done | with_reducible rfl | (rw [if_neg (by omega)])) ?_; simp only [Act.put, List.setIfInBounds_toArray, List.set_cons_zero, List.set_cons_succ]
      refine WQ.val (by rfl) (fun v hv => by have k0 := hv.cell zk1; have k1 := hv.cell zk3; have k2 := hv.cell zm1; have k3 := hv.cell zm3; go_simp; first | done | with_reducible rfl | (rw [if_neg (by omega)])) ?_; simp only [Act.put, List.setIfInBounds_toArray, List.set_cons_zero, List.set_cons_succ]
      refine WQ.done ?_
      intro w6 hw6
      have HB6 : Hid (Below n0 w w6) := Lib.hid (HB5.out.trans (hw6.mono (by have := HB5.out.size; have := hn0; omega)))
      clear hw6 zk1 zk3 zm1 zm3
      go_wp2_with fail
      go_ret
      exact ⟨by (rw [hV.out]) <;> rfl, by rw [hn0]; exact HB6.out⟩
    · have hV : Hid (res = decide (e1 < e2)) := Lib.hid (by rw [HL.out]; simp [he])
      go_wp2_with fail
      go_ret
      exact ⟨by (rw [hV.out]) <;> rfl, by rw [hn0]; exact HB5.out⟩
  · have hV : Hid (res = decide (pr < qr)) := Lib.hid (by rw [HL.out]; simp [hp])
    go_enter Tryz.func26, Tryz.ntmps26
    go_wp2_with fail
    go_ret
    exact ⟨by (rw [hV.out]) <;> rfl, ((Below.refl _ w).alloc (Nat.le_refl _) _).alloc (by simp) _⟩
theorem of_ends {s d sp dp : Nat} (h1 : s < 4294967296) (h2 : d < 4294967296) (h3 : sp < 65536) (h4 : dp < 65536) :
    (endN d dp < endN s sp ↔ ((d : Int) < s ∨ (d : Int) = s ∧ (dp : Int) < sp)) ∧ endN s sp / 65536 = s ∧ endN s sp % 65536 = sp := by
  unfold endN; omega
set_option maxHeartbeats 16000000 in
set_option maxRecDepth 100000 in
theorem refOf_any (p : Pk) (w : World) (hp : PkIn p) :
    Calls Tryz.prog 70 #[.agg (pkC p)] w fun e w' => e = .returned (.tuple #[kyV (keyF p).1, .bool (keyF p).2]) ∧ Below w.heap.size w w' := by
  obtain ⟨proto, src, dst, sport, dport, flags, kind⟩ := p
  obtain ⟨h1, h2, h3, h4, h5, h6, h7⟩ := hp
  simp only at h1 h2 h3 h4 h5 h6 h7
  obtain ⟨proto, rfl⟩ := Int.eq_ofNat_of_zero_le h1.1
  obtain ⟨src, rfl⟩ := Int.eq_ofNat_of_zero_le h2.1
  obtain ⟨dst, rfl⟩ := Int.eq_ofNat_of_zero_le h3.1
  obtain ⟨sport, rfl⟩ := Int.eq_ofNat_of_zero_le h4.1
  obtain ⟨dport, rfl⟩ := Int.eq_ofNat_of_zero_le h5.1
  have HV : Hid (keyF ⟨proto, src, dst, sport, dport, flags, kind⟩ = if (dst : Int) < src ∨ (dst : Int) = src ∧ (dport : Int) < sport then (⟨dst, src, dport, sport, proto⟩, true) else (⟨src, dst, sport, dport, proto⟩, false)) := Lib.hid rfl
  obtain ⟨t1, t2, t3⟩ := of_ends (s := src) (d := dst) (sp := sport) (dp := dport) (by omega) (by omega) (by omega) (by omega)
  obtain ⟨_, t4, t5⟩ := of_ends (s := dst) (d := src) (sp := dport) (dp := sport) (by omega) (by omega) (by omega) (by omega)
  have E1 := Lib.hid (fun W n h => end_any src sport n W h (by omega) (by omega))
  have E2 := Lib.hid (fun W n h => end_any dst dport n W h (by omega) (by omega))
  have HT := Lib.hid t1
  have T2 : Hid ((endN src sport : Int) / 65536 = src ∧ (endN src sport : Int) % 65536 = sport ∧ (endN dst dport : Int) / 65536 = dst ∧ (endN dst dport : Int) % 65536 = dport) := Lib.hid (by omega)
  have HIn : Hid (src < 4294967296 ∧ dst < 4294967296 ∧ sport < 65536 ∧ dport < 65536) := Lib.hid (by omega)
  clear h1 h2 h3 h4 h5 h6 h7 t1 t2 t3 t4 t5
  generalize endN src sport = e1 at *
  generalize endN dst dport = e2 at *
  have E1 := Lib.hid (fun W => E1.out W e1 rfl)
  have E2 := Lib.hid (fun W => E2.out W e2 rfl)
  obtain ⟨u1, u2, u3, u4⟩ := T2.out
  obtain ⟨i1, i2, i3, i4⟩ := HIn.out
  have v1 : (src : Int) % 4294967296 = src := by omega
  have v2 : (dst : Int) % 4294967296 = dst := by omega
  have v3 : (sport : Int) % 65536 = sport := by omega
  have v4 : (dport : Int) % 65536 = dport := by omega
  unfold pkC
  go_enter Tryz.func70, Tryz.ntmps70
  go_wp2_with fail
  have HB0 : Hid (Below w.heap.size w ((w.alloc (.cells #[.int .u8 proto, .int .u32 src, .int .u32 dst, .int .u16 sport, .int .u16 dport, .int .u8 flags, .int .u8 kind] 41)).alloc (.cells #[.int .u32 0, .int .u32 0, .int .u16 0, .int .u16 0, .int .u8 0] 45))) := Lib.hid (((Below.refl _ w).alloc (Nat.le_refl _) _).alloc (by simp) _)
  have xp0 : ((w.alloc (.cells #[.int .u8 proto, .int .u32 src, .int .u32 dst, .int .u16 sport, .int .u16 dport, .int .u8 flags, .int .u8 kind] 41)).alloc (.cells #[.int .u32 0, .int .u32 0, .int .u16 0, .int .u16 0, .int .u8 0] 45)).cell? ⟨w.heap.size, 0, none⟩ = some (.int .u8 proto) := by simp
  have xz0 : ((w.alloc (.cells #[.int .u8 proto, .int .u32 src, .int .u32 dst, .int .u16 sport, .int .u16 dport, .int .u8 flags, .int .u8 kind] 41)).alloc (.cells #[.int .u32 0, .int .u32 0, .int .u16 0, .int .u16 0, .int .u8 0] 45)).cell? ⟨w.heap.size + 1, 0, none⟩ = some (.int .u32 0) := by simp
  have xp1 : ((w.alloc (.cells #[.int .u8 proto, .int .u32 src, .int .u32 dst, .int .u16 sport, .int .u16 dport, .int .u8 flags, .int .u8 kind] 41)).alloc (.cells #[.int .u32 0, .int .u32 0, .int .u16 0, .int .u16 0, .int .u8 0] 45)).cell? ⟨w.heap.size, 1, none⟩ = some (.int .u32 src) := by simp
  have xz1 : ((w.alloc (.cells #[.int .u8 proto, .int .u32 src, .int .u32 dst, .int .u16 sport, .int .u16 dport, .int .u8 flags, .int .u8 kind] 41)).alloc (.cells #[.int .u32 0, .int .u32 0, .int .u16 0, .int .u16 0, .int .u8 0] 45)).cell? ⟨w.heap.size + 1, 1, none⟩ = some (.int .u32 0) := by simp
  have xp2 : ((w.alloc (.cells #[.int .u8 proto, .int .u32 src, .int .u32 dst, .int .u16 sport, .int .u16 dport, .int .u8 flags, .int .u8 kind] 41)).alloc (.cells #[.int .u32 0, .int .u32 0, .int .u16 0, .int .u16 0, .int .u8 0] 45)).cell? ⟨w.heap.size, 2, none⟩ = some (.int .u32 dst) := by simp
  have xz2 : ((w.alloc (.cells #[.int .u8 proto, .int .u32 src, .int .u32 dst, .int .u16 sport, .int .u16 dport, .int .u8 flags, .int .u8 kind] 41)).alloc (.cells #[.int .u32 0, .int .u32 0, .int .u16 0, .int .u16 0, .int .u8 0] 45)).cell? ⟨w.heap.size + 1, 2, none⟩ = some (.int .u16 0) := by simp
  have xp3 : ((w.alloc (.cells #[.int .u8 proto, .int .u32 src, .int .u32 dst, .int .u16 sport, .int .u16 dport, .int .u8 flags, .int .u8 kind] 41)).alloc (.cells #[.int .u32 0, .int .u32 0, .int .u16 0, .int .u16 0, .int .u8 0] 45)).cell? ⟨w.heap.size, 3, none⟩ = some (.int .u16 sport) := by simp
  have xz3 : ((w.alloc (.cells #[.int .u8 proto, .int .u32 src, .int .u32 dst, .int .u16 sport, .int .u16 dport, .int .u8 flags, .int .u8 kind] 41)).alloc (.cells #[.int .u32 0, .int .u32 0, .int .u16 0, .int .u16 0, .int .u8 0] 45)).cell? ⟨w.heap.size + 1, 3, none⟩ = some (.int .u16 0) := by simp
  have xp4 : ((w.alloc (.cells #[.int .u8 proto, .int .u32 src, .int .u32 dst, .int .u16 sport, .int .u16 dport, .int .u8 flags, .int .u8 kind] 41)).alloc (.cells #[.int .u32 0, .int .u32 0, .int .u16 0, .int .u16 0, .int .u8 0] 45)).cell? ⟨w.heap.size, 4, none⟩ = some (.int .u16 dport) := by simp
  have xz4 : ((w.alloc (.cells #[.int .u8 proto, .int .u32 src, .int .u32 dst, .int .u16 sport, .int .u16 dport, .int .u8 flags, .int .u8 kind] 41)).alloc (.cells #[.int .u32 0, .int .u32 0, .int .u16 0, .int .u16 0, .int .u8 0] 45)).cell? ⟨w.heap.size + 1, 4, none⟩ = some (.int .u8 0) := by simp
  have xf : Hid (∀ j, ((w.alloc (.cells #[.int .u8 proto, .int .u32 src, .int .u32 dst, .int .u16 sport, .int .u16 dport, .int .u8 flags, .int .u8 kind] 41)).alloc (.cells #[.int .u32 0, .int .u32 0, .int .u16 0, .int .u16 0, .int .u8 0] 45)).frozen? ⟨w.heap.size + 1, j, none⟩ = false) := Lib.hid fun j => by simp [go_sem]
  have xs : ((w.alloc (.cells #[.int .u8 proto, .int .u32 src, .int .u32 dst, .int .u16 sport, .int .u16 dport, .int .u8 flags, .int .u8 kind] 41)).alloc (.cells #[.int .u32 0, .int .u32 0, .int .u16 0, .int .u16 0, .int .u8 0] 45)).heap.size = w.heap.size + 2 := by simp
  generalize hwx : ((w.alloc (.cells #[.int .u8 proto, .int .u32 src, .int .u32 dst, .int .u16 sport, .int .u16 dport, .int .u8 flags, .int .u8 kind] 41)).alloc (.cells #[.int .u32 0, .int .u32 0, .int .u16 0, .int .u16 0, .int .u8 0] 45)) = wx at *
  refine WQ.enter wx (Since.refl _) (by kernel_rfl) (by kernel_rfl) ?_
  refine WQ.val (by rfl) (fun v hv => by have k0 := hv.cell xp1; have k1 := hv.cell xp2; have k2 := hv.cell xp3; have k3 := hv.cell xp4; go_simp; first | done | with_reducible rfl | (rw [if_neg (by omega)])) ?_; simp only [Act.put, List.setIfInBounds_toArray, List.set_cons_zero, List.set_cons_succ]
  refine WQ.val (by rfl) (fun v hv => by have k0 := hv.cell xp1; have k1 := hv.cell xp2; have k2 := hv.cell xp3; have k3 := hv.cell xp4; go_simp; first | done | with_reducible rfl | (rw [if_neg (by omega)])) ?_; simp only [Act.put, List.setIfInBounds_toArray, List.set_cons_zero, List.set_cons_succ]
  refine WQ.val (by rfl) (fun v hv => by have k0 := hv.cell xp1; have k1 := hv.cell xp2; have k2 := hv.cell xp3; have k3 := hv.cell xp4; go_simp; first | done | with_reducible rfl | (rw [if_neg (by omega)])) ?_; simp only [Act.put, List.setIfInBounds_toArray, List.set_cons_zero, List.set_cons_succ]
  refine WQ.val (by rfl) (fun v hv => by have k0 := hv.cell xp1; have k1 := hv.cell xp2; have k2 := hv.cell xp3; have k3 := hv.cell xp4; go_simp; first | done | with_reducible rfl | (rw [if_neg (by omega)])) ?_; simp only [Act.put, List.setIfInBounds_toArray, List.set_cons_zero, List.set_cons_succ]
  refine WQ.call (f := 60) (args := #[.int .u32 src, .int .u16 sport]) (by rfl) (fun v hv => by go_simp) (fun v hv => (E1.out v).mono (fun e v' ⟨he, hb⟩ => ⟨he, hv.step hb⟩)) ?_; simp only [Act.put, List.setIfInBounds_toArray, List.set_cons_zero, List.set_cons_succ]
  refine WQ.val (by rfl) (fun v hv => by have k0 := hv.cell xp1; have k1 := hv.cell xp2; have k2 := hv.cell xp3; have k3 := hv.cell xp4; go_simp; first | done | with_reducible rfl | (rw [if_neg (by omega)])) ?_; simp only [Act.put, List.setIfInBounds_toArray, List.set_cons_zero, List.set_cons_succ]
  refine WQ.val (by rfl) (fun v hv => by have k0 := hv.cell xp1; have k1 := hv.cell xp2; have k2 := hv.cell xp3; have k3 := hv.cell xp4; go_simp; first | done | with_reducible rfl | (rw [if_neg (by omega)])) ?_; simp only [Act.put, List.setIfInBounds_toArray, List.set_cons_zero, List.set_cons_succ]
  refine WQ.val (by rfl) (fun v hv => by have k0 := hv.cell xp1; have k1 := hv.cell xp2; have k2 := hv.cell xp3; have k3 := hv.cell xp4; go_simp; first | done | with_reducible rfl | (rw [if_neg (by omega)])) ?_; simp only [Act.put, List.setIfInBounds_toArray, List.set_cons_zero, List.set_cons_succ]
  refine WQ.val (by rfl) (fun v hv => by have k0 := hv.cell xp1; have k1 := hv.cell xp2; have k2 := hv.cell xp3; have k3 := hv.cell xp4; go_simp; first | done | with_reducible rfl | (rw [if_neg (by omega)])) ?_; simp only [Act.put, List.setIfInBounds_toArray, List.set_cons_zero, List.set_cons_succ]
  refine WQ.call (f := 60) (args := #[.int .u32 dst, .int .u16 dport]) (by rfl) (fun v hv => by go_simp) (fun v hv => (E2.out v).mono (fun e v' ⟨he, hb⟩ => ⟨he, hv.step hb⟩)) ?_; simp only [Act.put, List.setIfInBounds_toArray, List.set_cons_zero, List.set_cons_succ]
  refine WQ.val (by rfl) (fun v hv => by have k0 := hv.cell xp1; have k1 := hv.cell xp2; have k2 := hv.cell xp3; have k3 := hv.cell xp4; go_simp; first | done | with_reducible rfl | (rw [if_neg (by omega)])) ?_; simp only [Act.put, List.setIfInBounds_toArray, List.set_cons_zero, List.set_cons_succ]
  refine WQ.val (by rfl) (fun v hv => by have k0 := hv.cell xp1; have k1 := hv.cell xp2; have k2 := hv.cell xp3; have k3 := hv.cell xp4; go_simp; first | done | with_reducible rfl | (rw [if_neg (by omega)])) ?_; simp only [Act.put, List.setIfInBounds_toArray, List.set_cons_zero, List.set_cons_succ]
  refine WQ.done ?_
  intro w5 hw5
  have HB5 : Hid (Below w.heap.size w w5) := Lib.hid (below_then HB0.out hw5)
  have yp0 := Since.cell hw5 xp0
  have yz0 := Since.cell hw5 xz0
  have yz1 := Since.cell hw5 xz1
  have yz2 := Since.cell hw5 xz2
  have yz3 := Since.cell hw5 xz3
  have yz4 := Since.cell hw5 xz4
  have fz0 := (Below.frozen hw5 (p := ⟨w.heap.size + 1, 0, none⟩) (by rw [xs]; simp only; omega)).trans (xf.out 0)
  have fz1 := (Below.frozen hw5 (p := ⟨w.heap.size + 1, 1, none⟩) (by rw [xs]; simp only; omega)).trans (xf.out 1)
  have fz2 := (Below.frozen hw5 (p := ⟨w.heap.size + 1, 2, none⟩) (by rw [xs]; simp only; omega)).trans (xf.out 2)
  have fz3 := (Below.frozen hw5 (p := ⟨w.heap.size + 1, 3, none⟩) (by rw [xs]; simp only; omega)).trans (xf.out 3)
  have fz4 := (Below.frozen hw5 (p := ⟨w.heap.size + 1, 4, none⟩) (by rw [xs]; simp only; omega)).trans (xf.out 4)
  clear hw5 xp0 xp1 xp2 xp3 xp4 xz0 xz1 xz2 xz3 xz4 hwx xs xf
  generalize hn0 : w.heap.size = n0 at *
  by_cases ht : e2 < e1
  · have hV : Hid (keyF ⟨proto, src, dst, sport, dport, flags, kind⟩ = (⟨dst, src, dport, sport, proto⟩, true)) := Lib.hid (by rw [HV.out, if_pos (HT.out.1 (by omega))])
    have HBE : Hid (Below n0 w (((((w5.setCell ⟨n0 + 1, 0, none⟩ (.int .u32 dst)).setCell ⟨n0 + 1, 1, none⟩ (.int .u32 src)).setCell ⟨n0 + 1, 2, none⟩ (.int .u16 dport)).setCell ⟨n0 + 1, 3, none⟩ (.int .u16 sport)).setCell ⟨n0 + 1, 4, none⟩ (.int .u8 proto))) := Lib.hid (Below.setCell (Below.setCell (Below.setCell (Below.setCell (Below.setCell HB5.out (p := ⟨n0 + 1, 0, none⟩) (by simp only; omega) _) (p := ⟨n0 + 1, 1, none⟩) (by simp only; omega) _) (p := ⟨n0 + 1, 2, none⟩) (by simp only; omega) _) (p := ⟨n0 + 1, 3, none⟩) (by simp only; omega) _) (p := ⟨n0 + 1, 4, none⟩) (by simp only; omega) _)
    go_wp2_with fail
    exact bodyPost_ret (v := .tuple #[kyV ⟨dst, src, dport, sport, proto⟩, .bool true]) (by simp [results, Tryz.results70, go_sem, kyV, kyC, *]) rfl ⟨by (rw [hV.out]) <;> rfl, by rw [hn0]; exact HBE.out⟩
  · have hV : Hid (keyF ⟨proto, src, dst, sport, dport, flags, kind⟩ = (⟨src, dst, sport, dport, proto⟩, false)) := Lib.hid (by rw [HV.out, if_neg (fun h => ht (by have := HT.out.2 h; omega))])
    have HBE : Hid (Below n0 w (((((w5.setCell ⟨n0 + 1, 0, none⟩ (.int .u32 src)).setCell ⟨n0 + 1, 1, none⟩ (.int .u32 dst)).setCell ⟨n0 + 1, 2, none⟩ (.int .u16 sport)).setCell ⟨n0 + 1, 3, none⟩ (.int .u16 dport)).setCell ⟨n0 + 1, 4, none⟩ (.int .u8 proto))) := Lib.hid (Below.setCell (Below.setCell (Below.setCell (Below.setCell (Below.setCell HB5.out (p := ⟨n0 + 1, 0, none⟩) (by simp only; omega) _) (p := ⟨n0 + 1, 1, none⟩) (by simp only; omega) _) (p := ⟨n0 + 1, 2, none⟩) (by simp only; omega) _) (p := ⟨n0 + 1, 3, none⟩) (by simp only; omega) _) (p := ⟨n0 + 1, 4, none⟩) (by simp only; omega) _)
    go_wp2_with fail
    exact bodyPost_ret (v := .tuple #[kyV ⟨src, dst, sport, dport, proto⟩, .bool false]) (by simp [results, Tryz.results70, go_sem, kyV, kyC, *]) rfl ⟨by (rw [hV.out]) <;> rfl, by rw [hn0]; exact HBE.out⟩
end Go.Proofs.YtahgapkecabnjaaGreatDoor
