/- Walks of key.Of, key.Turn and of the reference's end, Of and Less. Printed by gen_keyb.py. -/
import Derived.Test.YtahgapkecabnjaaGreatDoorC04
import Derived.Test.YtahgapkecabnjaaGreatDoorRows
import Derived.Test.YtahgapkecabnjaaGreatDoorC02
import Derived.ProofKit
import Derived.LaidMore
import Derived.OpenShut
import Derived.Stop.LaidErr
import Derived.Lib.LaidTab
import Derived.Lib.LaidU8
import Derived.Deep.DeepWitnessRowRef
import Derived.Test.YtahgapkecabnjaaGreatDoorC00
import Derived.Lib.Fields
namespace Go.Proofs.YtahgapkecabnjaaGreatDoor
set_option linter.unusedSimpArgs false
set_option linter.unusedVariables false
open Go Go.RowKit

/-- What a packet's parts can be. -/
structure PkIn (p : Pk) : Prop where
  proto : 0 ≤ p.proto ∧ p.proto < 256
  src : 0 ≤ p.src ∧ p.src < 4294967296
  dst : 0 ≤ p.dst ∧ p.dst < 4294967296
  sport : 0 ≤ p.sport ∧ p.sport < 65536
  dport : 0 ≤ p.dport ∧ p.dport < 65536
  flags : 0 ≤ p.flags ∧ p.flags < 256
  kind : 0 ≤ p.kind ∧ p.kind < 256
/-- A packet's flow, and whether it comes from the higher end. -/
def keyF (p : Pk) : Ky × Bool :=
  if p.dst < p.src ∨ p.dst = p.src ∧ p.dport < p.sport then (⟨p.dst.toNat, p.src.toNat, p.dport.toNat, p.sport.toNat, p.proto.toNat⟩, true)
  else (⟨p.src.toNat, p.dst.toNat, p.sport.toNat, p.dport.toNat, p.proto.toNat⟩, false)
theorem keyF_in {p : Pk} (h : PkIn p) : (keyF p).1.In := by
  obtain ⟨h1, h2, h3, h4, h5, h6, h7⟩ := h
  unfold keyF
  split
  · exact ⟨by simp only; omega, by simp only; omega, by simp only; omega, by simp only; omega, by simp only; omega⟩
  · exact ⟨by simp only; omega, by simp only; omega, by simp only; omega, by simp only; omega, by simp only; omega⟩
theorem turned_or (a b c d : Nat) : (orF [cmpF a b, cmpF c d] < 0) ↔ ((a : Int) < b ∨ (a : Int) = b ∧ (c : Int) < d) := by
  have h : ∀ (a b : Nat) (l : List Int), orF (cmpF a b :: l) < 0 ↔ a < b ∨ a = b ∧ orF l < 0 := fun a b l => by
    unfold orF cmpF
    rw [List.find?_cons]
    by_cases h1 : a < b
    · have : (a : Int) < b := by omega
      simp [this, h1]
    · by_cases h2 : b < a
      · have e1 : ¬ (a : Int) < b := by omega
        have e2 : (b : Int) < a := by omega
        have e3 : ¬ a = b := by omega
        simp [e1, e2, h1, e3]
      · have e1 : ¬ (a : Int) < b := by omega
        have e2 : ¬ (b : Int) < a := by omega
        have e3 : a = b := by omega
        simp [e1, e2, h1, e3]
  rw [h, h]
  have : ¬ orF [] < 0 := by simp [orF]
  simp only [this, and_false, or_false]
  omega
/-- A key in a box. -/
structure KyBox (w : World) (b : Nat) (k : Ky) : Prop where
  c0 : w.cell? ⟨b, 0, none⟩ = some (.int .u32 k.a0)
  c1 : w.cell? ⟨b, 1, none⟩ = some (.int .u32 k.a1)
  c2 : w.cell? ⟨b, 2, none⟩ = some (.int .u16 k.p0)
  c3 : w.cell? ⟨b, 3, none⟩ = some (.int .u16 k.p1)
  c4 : w.cell? ⟨b, 4, none⟩ = some (.int .u8 k.pr)
  fr : ∀ j, w.frozen? ⟨b, j, none⟩ = false
theorem Grew.frozen {w w1 : World} (h : Grew w w1) {a : Addr} (ha : a.block < w.heap.size) : w1.frozen? a = w.frozen? a := by
  obtain ⟨q, os, rfl⟩ := h
  exact (Sort.frozen?_grow (w.drewN q) os a ha)
theorem or_two (d1 d2 oo : Int) (h : orF [d1, d2] = oo) (b : Nat) (W : World) (c0 : W.cell? ⟨b, 0, none⟩ = some (.int .i64 d1)) (c1 : W.cell? ⟨b, 1, none⟩ = some (.int .i64 d2)) :
    Calls Tryz.prog 42 #[.slice (some ⟨b, 0, none⟩) 2 2] W fun e w' => e = .returned (.int .i64 oo) ∧ w' = W := by
  subst h
  exact or_any b 2 [d1, d2] W (fun j v hj => by
    match j, hj with
    | 0, hj => simp at hj; subst hj; exact c0
    | 1, hj => simp at hj; subst hj; exact c1
    | j + 2, hj => simp at hj) (by simp)
set_option maxHeartbeats 16000000 in
set_option maxRecDepth 100000 in
theorem of_any (p : Pk) (w : World) (hp : PkIn p) :
    Calls Tryz.prog 18 #[.agg (pkC p)] w fun e w' => e = .returned (.tuple #[kyV (keyF p).1, .bool (keyF p).2]) ∧ Below w.heap.size w w' := by
  obtain ⟨proto, src, dst, sport, dport, flags, kind⟩ := p
  obtain ⟨h1, h2, h3, h4, h5, h6, h7⟩ := hp
  simp only at h1 h2 h3 h4 h5 h6 h7
  obtain ⟨proto, rfl⟩ := Int.eq_ofNat_of_zero_le h1.1
  obtain ⟨src, rfl⟩ := Int.eq_ofNat_of_zero_le h2.1
  obtain ⟨dst, rfl⟩ := Int.eq_ofNat_of_zero_le h3.1
  obtain ⟨sport, rfl⟩ := Int.eq_ofNat_of_zero_le h4.1
  obtain ⟨dport, rfl⟩ := Int.eq_ofNat_of_zero_le h5.1
  clear h1 h2 h3 h4 h5 h6 h7
  have HV : Hid (keyF ⟨proto, src, dst, sport, dport, flags, kind⟩ = if (dst : Int) < src ∨ (dst : Int) = src ∧ (dport : Int) < sport then (⟨dst, src, dport, sport, proto⟩, true) else (⟨src, dst, sport, dport, proto⟩, false)) := Lib.hid rfl
  have C1 := Lib.hid (fun W => compare_u32 dst src W)
  have C2 := Lib.hid (fun W => compare_u16 dport sport W)
  have HT := Lib.hid (turned_or dst src dport sport)
  generalize cmpF dst src = d1 at *
  generalize cmpF dport sport = d2 at *
  have HO := Lib.hid (fun oo h => or_two d1 d2 oo h)
  generalize orF [d1, d2] = oo at *
  have HO2 := Lib.hid (HO.out oo rfl)
  clear HO
  unfold pkC
  go_enter Tryz.func18, Tryz.ntmps18
  go_wp2_with fail
  have HG : Hid (Grew w (((w.alloc (.cells #[.int .u8 proto, .int .u32 src, .int .u32 dst, .int .u16 sport, .int .u16 dport, .int .u8 flags, .int .u8 kind] 41)).alloc (.cells #[.int .u32 0, .int .u32 0, .int .u16 0, .int .u16 0, .int .u8 0] 45)).alloc (.cells #[.int .u32 src, .int .u32 dst, .int .u16 sport, .int .u16 dport, .int .u8 proto] 45))) := Lib.hid ((((Grew.refl w).alloc _).alloc _).alloc _)
  have xp1 : (((w.alloc (.cells #[.int .u8 proto, .int .u32 src, .int .u32 dst, .int .u16 sport, .int .u16 dport, .int .u8 flags, .int .u8 kind] 41)).alloc (.cells #[.int .u32 0, .int .u32 0, .int .u16 0, .int .u16 0, .int .u8 0] 45)).alloc (.cells #[.int .u32 src, .int .u32 dst, .int .u16 sport, .int .u16 dport, .int .u8 proto] 45)).cell? ⟨w.heap.size, 1, none⟩ = some (.int .u32 src) := by simp [go_sem]
  have xp2 : (((w.alloc (.cells #[.int .u8 proto, .int .u32 src, .int .u32 dst, .int .u16 sport, .int .u16 dport, .int .u8 flags, .int .u8 kind] 41)).alloc (.cells #[.int .u32 0, .int .u32 0, .int .u16 0, .int .u16 0, .int .u8 0] 45)).alloc (.cells #[.int .u32 src, .int .u32 dst, .int .u16 sport, .int .u16 dport, .int .u8 proto] 45)).cell? ⟨w.heap.size, 2, none⟩ = some (.int .u32 dst) := by simp [go_sem]
  have xp3 : (((w.alloc (.cells #[.int .u8 proto, .int .u32 src, .int .u32 dst, .int .u16 sport, .int .u16 dport, .int .u8 flags, .int .u8 kind] 41)).alloc (.cells #[.int .u32 0, .int .u32 0, .int .u16 0, .int .u16 0, .int .u8 0] 45)).alloc (.cells #[.int .u32 src, .int .u32 dst, .int .u16 sport, .int .u16 dport, .int .u8 proto] 45)).cell? ⟨w.heap.size, 3, none⟩ = some (.int .u16 sport) := by simp [go_sem]
  have xp4 : (((w.alloc (.cells #[.int .u8 proto, .int .u32 src, .int .u32 dst, .int .u16 sport, .int .u16 dport, .int .u8 flags, .int .u8 kind] 41)).alloc (.cells #[.int .u32 0, .int .u32 0, .int .u16 0, .int .u16 0, .int .u8 0] 45)).alloc (.cells #[.int .u32 src, .int .u32 dst, .int .u16 sport, .int .u16 dport, .int .u8 proto] 45)).cell? ⟨w.heap.size, 4, none⟩ = some (.int .u16 dport) := by simp [go_sem]
  have xk0 : (((w.alloc (.cells #[.int .u8 proto, .int .u32 src, .int .u32 dst, .int .u16 sport, .int .u16 dport, .int .u8 flags, .int .u8 kind] 41)).alloc (.cells #[.int .u32 0, .int .u32 0, .int .u16 0, .int .u16 0, .int .u8 0] 45)).alloc (.cells #[.int .u32 src, .int .u32 dst, .int .u16 sport, .int .u16 dport, .int .u8 proto] 45)).cell? ⟨w.heap.size + 1 + 1, 0, none⟩ = some (.int .u32 src) := by simp [go_sem]
  have xz0 : (((w.alloc (.cells #[.int .u8 proto, .int .u32 src, .int .u32 dst, .int .u16 sport, .int .u16 dport, .int .u8 flags, .int .u8 kind] 41)).alloc (.cells #[.int .u32 0, .int .u32 0, .int .u16 0, .int .u16 0, .int .u8 0] 45)).alloc (.cells #[.int .u32 src, .int .u32 dst, .int .u16 sport, .int .u16 dport, .int .u8 proto] 45)).cell? ⟨w.heap.size + 1, 0, none⟩ = some (.int .u32 0) := by simp [go_sem]
  have xk1 : (((w.alloc (.cells #[.int .u8 proto, .int .u32 src, .int .u32 dst, .int .u16 sport, .int .u16 dport, .int .u8 flags, .int .u8 kind] 41)).alloc (.cells #[.int .u32 0, .int .u32 0, .int .u16 0, .int .u16 0, .int .u8 0] 45)).alloc (.cells #[.int .u32 src, .int .u32 dst, .int .u16 sport, .int .u16 dport, .int .u8 proto] 45)).cell? ⟨w.heap.size + 1 + 1, 1, none⟩ = some (.int .u32 dst) := by simp [go_sem]
  have xz1 : (((w.alloc (.cells #[.int .u8 proto, .int .u32 src, .int .u32 dst, .int .u16 sport, .int .u16 dport, .int .u8 flags, .int .u8 kind] 41)).alloc (.cells #[.int .u32 0, .int .u32 0, .int .u16 0, .int .u16 0, .int .u8 0] 45)).alloc (.cells #[.int .u32 src, .int .u32 dst, .int .u16 sport, .int .u16 dport, .int .u8 proto] 45)).cell? ⟨w.heap.size + 1, 1, none⟩ = some (.int .u32 0) := by simp [go_sem]
  have xk2 : (((w.alloc (.cells #[.int .u8 proto, .int .u32 src, .int .u32 dst, .int .u16 sport, .int .u16 dport, .int .u8 flags, .int .u8 kind] 41)).alloc (.cells #[.int .u32 0, .int .u32 0, .int .u16 0, .int .u16 0, .int .u8 0] 45)).alloc (.cells #[.int .u32 src, .int .u32 dst, .int .u16 sport, .int .u16 dport, .int .u8 proto] 45)).cell? ⟨w.heap.size + 1 + 1, 2, none⟩ = some (.int .u16 sport) := by simp [go_sem]
  have xz2 : (((w.alloc (.cells #[.int .u8 proto, .int .u32 src, .int .u32 dst, .int .u16 sport, .int .u16 dport, .int .u8 flags, .int .u8 kind] 41)).alloc (.cells #[.int .u32 0, .int .u32 0, .int .u16 0, .int .u16 0, .int .u8 0] 45)).alloc (.cells #[.int .u32 src, .int .u32 dst, .int .u16 sport, .int .u16 dport, .int .u8 proto] 45)).cell? ⟨w.heap.size + 1, 2, none⟩ = some (.int .u16 0) := by simp [go_sem]
  have xk3 : (((w.alloc (.cells #[.int .u8 proto, .int .u32 src, .int .u32 dst, .int .u16 sport, .int .u16 dport, .int .u8 flags, .int .u8 kind] 41)).alloc (.cells #[.int .u32 0, .int .u32 0, .int .u16 0, .int .u16 0, .int .u8 0] 45)).alloc (.cells #[.int .u32 src, .int .u32 dst, .int .u16 sport, .int .u16 dport, .int .u8 proto] 45)).cell? ⟨w.heap.size + 1 + 1, 3, none⟩ = some (.int .u16 dport) := by simp [go_sem]
  have xz3 : (((w.alloc (.cells #[.int .u8 proto, .int .u32 src, .int .u32 dst, .int .u16 sport, .int .u16 dport, .int .u8 flags, .int .u8 kind] 41)).alloc (.cells #[.int .u32 0, .int .u32 0, .int .u16 0, .int .u16 0, .int .u8 0] 45)).alloc (.cells #[.int .u32 src, .int .u32 dst, .int .u16 sport, .int .u16 dport, .int .u8 proto] 45)).cell? ⟨w.heap.size + 1, 3, none⟩ = some (.int .u16 0) := by simp [go_sem]
  have xk4 : (((w.alloc (.cells #[.int .u8 proto, .int .u32 src, .int .u32 dst, .int .u16 sport, .int .u16 dport, .int .u8 flags, .int .u8 kind] 41)).alloc (.cells #[.int .u32 0, .int .u32 0, .int .u16 0, .int .u16 0, .int .u8 0] 45)).alloc (.cells #[.int .u32 src, .int .u32 dst, .int .u16 sport, .int .u16 dport, .int .u8 proto] 45)).cell? ⟨w.heap.size + 1 + 1, 4, none⟩ = some (.int .u8 proto) := by simp [go_sem]
  have xz4 : (((w.alloc (.cells #[.int .u8 proto, .int .u32 src, .int .u32 dst, .int .u16 sport, .int .u16 dport, .int .u8 flags, .int .u8 kind] 41)).alloc (.cells #[.int .u32 0, .int .u32 0, .int .u16 0, .int .u16 0, .int .u8 0] 45)).alloc (.cells #[.int .u32 src, .int .u32 dst, .int .u16 sport, .int .u16 dport, .int .u8 proto] 45)).cell? ⟨w.heap.size + 1, 4, none⟩ = some (.int .u8 0) := by simp [go_sem]
  have xf : Hid ((∀ j, (((w.alloc (.cells #[.int .u8 proto, .int .u32 src, .int .u32 dst, .int .u16 sport, .int .u16 dport, .int .u8 flags, .int .u8 kind] 41)).alloc (.cells #[.int .u32 0, .int .u32 0, .int .u16 0, .int .u16 0, .int .u8 0] 45)).alloc (.cells #[.int .u32 src, .int .u32 dst, .int .u16 sport, .int .u16 dport, .int .u8 proto] 45)).frozen? ⟨w.heap.size + 1 + 1, j, none⟩ = false) ∧ (∀ j, (((w.alloc (.cells #[.int .u8 proto, .int .u32 src, .int .u32 dst, .int .u16 sport, .int .u16 dport, .int .u8 flags, .int .u8 kind] 41)).alloc (.cells #[.int .u32 0, .int .u32 0, .int .u16 0, .int .u16 0, .int .u8 0] 45)).alloc (.cells #[.int .u32 src, .int .u32 dst, .int .u16 sport, .int .u16 dport, .int .u8 proto] 45)).frozen? ⟨w.heap.size + 1, j, none⟩ = false)) := Lib.hid ⟨fun j => by simp [go_sem], fun j => by simp [go_sem]⟩
  have xs : (((w.alloc (.cells #[.int .u8 proto, .int .u32 src, .int .u32 dst, .int .u16 sport, .int .u16 dport, .int .u8 flags, .int .u8 kind] 41)).alloc (.cells #[.int .u32 0, .int .u32 0, .int .u16 0, .int .u16 0, .int .u8 0] 45)).alloc (.cells #[.int .u32 src, .int .u32 dst, .int .u16 sport, .int .u16 dport, .int .u8 proto] 45)).heap.size = w.heap.size + 3 := by simp
  generalize (((w.alloc (.cells #[.int .u8 proto, .int .u32 src, .int .u32 dst, .int .u16 sport, .int .u16 dport, .int .u8 flags, .int .u8 kind] 41)).alloc (.cells #[.int .u32 0, .int .u32 0, .int .u16 0, .int .u16 0, .int .u8 0] 45)).alloc (.cells #[.int .u32 src, .int .u32 dst, .int .u16 sport, .int .u16 dport, .int .u8 proto] 45)) = wx at *
  have HS0 : Hid (Grew wx wx.drew) := Lib.hid (Grew.refl _).drew
  have HN := Lib.hid (show w.heap.size + 3 = wx.heap.size from xs.symm)
  generalize hn0 : w.heap.size = n0 at *
  clear xs
  by_cases ht : oo < 0
  · have hV : Hid (keyF ⟨proto, src, dst, sport, dport, flags, kind⟩ = (⟨dst, src, dport, sport, proto⟩, true)) := Lib.hid (by rw [HV.out, if_pos (HT.out.1 ht)])
    refine WH.enter (Grew wx) (by kernel_rfl) 14 rfl ?_
    refine WH.take 0 (some 19) rfl rfl (by kernel_rfl) (by kernel_rfl) (by kernel_rfl) (fun _ _ _ h => h) (by rfl) (fun v hv => by have k1 := hv.cell xp1; have k2 := hv.cell xp2; have k3 := hv.cell xp3; have k4 := hv.cell xp4; go_simp; first | done | with_reducible rfl | (rw [if_neg (by omega)])) HS0.out ?_; simp only [Act.put, List.setIfInBounds_toArray, List.set_cons_zero, List.set_cons_succ]
    refine WH.take 1 (some 20) rfl rfl (by kernel_rfl) (by kernel_rfl) (by kernel_rfl) (fun _ _ _ h => h) (by rfl) (fun v hv => by have k1 := hv.cell xp1; have k2 := hv.cell xp2; have k3 := hv.cell xp3; have k4 := hv.cell xp4; go_simp; first | done | with_reducible rfl | (rw [if_neg (by omega)])) HS0.out ?_; simp only [Act.put, List.setIfInBounds_toArray, List.set_cons_zero, List.set_cons_succ]
    refine WH.take 2 (some 21) rfl rfl (by kernel_rfl) (by kernel_rfl) (by kernel_rfl) (fun _ _ _ h => h) (by rfl) (fun v hv => by have k1 := hv.cell xp1; have k2 := hv.cell xp2; have k3 := hv.cell xp3; have k4 := hv.cell xp4; go_simp; first | done | with_reducible rfl | (rw [if_neg (by omega)])) HS0.out ?_; simp only [Act.put, List.setIfInBounds_toArray, List.set_cons_zero, List.set_cons_succ]
    refine WH.take 3 (some 22) rfl rfl (by kernel_rfl) (by kernel_rfl) (by kernel_rfl) (fun _ _ _ h => h) (by rfl) (fun v hv => by have k1 := hv.cell xp1; have k2 := hv.cell xp2; have k3 := hv.cell xp3; have k4 := hv.cell xp4; go_simp; first | done | with_reducible rfl | (rw [if_neg (by omega)])) HS0.out ?_; simp only [Act.put, List.setIfInBounds_toArray, List.set_cons_zero, List.set_cons_succ]
    refine WH.take 5 (some 24) rfl rfl (by kernel_rfl) (by kernel_rfl) (by kernel_rfl) (fun _ _ _ h => h) (by rfl) (fun v hv => by have k1 := hv.cell xp1; have k2 := hv.cell xp2; have k3 := hv.cell xp3; have k4 := hv.cell xp4; go_simp; first | done | with_reducible rfl | (rw [if_neg (by omega)])) HS0.out ?_; simp only [Act.put, List.setIfInBounds_toArray, List.set_cons_zero, List.set_cons_succ]
    refine WH.take 6 (some 25) rfl rfl (by kernel_rfl) (by kernel_rfl) (by kernel_rfl) (fun _ _ _ h => h) (by rfl) (fun v hv => by have k1 := hv.cell xp1; have k2 := hv.cell xp2; have k3 := hv.cell xp3; have k4 := hv.cell xp4; go_simp; first | done | with_reducible rfl | (rw [if_neg (by omega)])) HS0.out ?_; simp only [Act.put, List.setIfInBounds_toArray, List.set_cons_zero, List.set_cons_succ]
    refine WH.take 7 (some 26) rfl rfl (by kernel_rfl) (by kernel_rfl) (by kernel_rfl) (fun _ _ _ h => h) (by rfl) (fun v hv => by have k1 := hv.cell xp1; have k2 := hv.cell xp2; have k3 := hv.cell xp3; have k4 := hv.cell xp4; go_simp; first | done | with_reducible rfl | (rw [if_neg (by omega)])) HS0.out ?_; simp only [Act.put, List.setIfInBounds_toArray, List.set_cons_zero, List.set_cons_succ]
    refine WH.take 8 (some 27) rfl rfl (by kernel_rfl) (by kernel_rfl) (by kernel_rfl) (fun _ _ _ h => h) (by rfl) (fun v hv => by have k1 := hv.cell xp1; have k2 := hv.cell xp2; have k3 := hv.cell xp3; have k4 := hv.cell xp4; go_simp; first | done | with_reducible rfl | (rw [if_neg (by omega)])) HS0.out ?_; simp only [Act.put, List.setIfInBounds_toArray, List.set_cons_zero, List.set_cons_succ]
    refine WH.one 4 (by kernel_rfl) rfl (by rfl) ?_
    go_wp2_with fail
    refine (C1.out _).mono ?_
    rintro e w' ⟨rfl, rfl⟩
    go_wp2_with fail
    refine ⟨HS0.out, ?_⟩
    refine WH.one 9 (by kernel_rfl) rfl (by rfl) ?_
    go_wp2_with fail
    refine (C2.out _).mono ?_
    rintro e w' ⟨rfl, rfl⟩
    go_wp2_with fail
    refine ⟨HS0.out, ?_⟩
    refine WH.one 10 (by kernel_rfl) rfl (by rfl) ?_
    go_wp2_with fail
    have HS1 : Hid (Grew wx (wx.alloc (.cells #[.int .i64 d1, .int .i64 d2] 3)).drew) := Lib.hid (HS0.out.alloc _)
    refine ⟨HS1.out, ?_⟩
    refine WH.one 11 (by kernel_rfl) rfl (by rfl) ?_
    go_wp2_with fail
    refine (HO2.out _ _ (by simp) (by simp)).mono ?_
    rintro e w' ⟨rfl, rfl⟩
    go_wp2_with fail
    refine ⟨HS1.out, ?_⟩
    refine WH.take 12 (some 31) rfl rfl (by kernel_rfl) (by kernel_rfl) (by kernel_rfl) (fun _ _ _ h => h) (by rfl) (fun v hv => by have k1 := hv.cell xp1; have k2 := hv.cell xp2; have k3 := hv.cell xp3; have k4 := hv.cell xp4; go_simp; first | done | with_reducible rfl | (rw [if_neg (by omega)])) HS1.out ?_; simp only [Act.put, List.setIfInBounds_toArray, List.set_cons_zero, List.set_cons_succ]
    refine WH.take 13 (some 5) rfl rfl (by kernel_rfl) (by kernel_rfl) (by kernel_rfl) (fun _ _ _ h => h) (by rfl) (fun v hv => by have k1 := hv.cell xp1; have k2 := hv.cell xp2; have k3 := hv.cell xp3; have k4 := hv.cell xp4; go_simp; first | done | with_reducible rfl | (rw [if_neg (by omega)])) HS1.out ?_; simp only [Act.put, List.setIfInBounds_toArray, List.set_cons_zero, List.set_cons_succ]
    refine WH.done (by kernel_rfl) ?_
    generalize (wx.alloc (.cells #[.int .i64 d1, .int .i64 d2] 3)).drew = wy at *
    have hbe : Hid (Below w.heap.size w wy) := Lib.hid (HG.out.trans HS1.out).below
    have yk0 := Grew.cell HS1.out xk0
    have yk1 := Grew.cell HS1.out xk1
    have yk2 := Grew.cell HS1.out xk2
    have yk3 := Grew.cell HS1.out xk3
    have yk4 := Grew.cell HS1.out xk4
    have yz0 := Grew.cell HS1.out xz0
    have yz1 := Grew.cell HS1.out xz1
    have yz2 := Grew.cell HS1.out xz2
    have yz3 := Grew.cell HS1.out xz3
    have yz4 := Grew.cell HS1.out xz4
    have fk0 := (Grew.frozen HS1.out (a := ⟨n0 + 1 + 1, 0, none⟩) (by have := HN.out; simp only; omega)).trans (xf.out.1 0)
    have fk1 := (Grew.frozen HS1.out (a := ⟨n0 + 1 + 1, 1, none⟩) (by have := HN.out; simp only; omega)).trans (xf.out.1 1)
    have fk2 := (Grew.frozen HS1.out (a := ⟨n0 + 1 + 1, 2, none⟩) (by have := HN.out; simp only; omega)).trans (xf.out.1 2)
    have fk3 := (Grew.frozen HS1.out (a := ⟨n0 + 1 + 1, 3, none⟩) (by have := HN.out; simp only; omega)).trans (xf.out.1 3)
    have fk4 := (Grew.frozen HS1.out (a := ⟨n0 + 1 + 1, 4, none⟩) (by have := HN.out; simp only; omega)).trans (xf.out.1 4)
    have fz0 := (Grew.frozen HS1.out (a := ⟨n0 + 1, 0, none⟩) (by have := HN.out; simp only; omega)).trans (xf.out.2 0)
    have fz1 := (Grew.frozen HS1.out (a := ⟨n0 + 1, 1, none⟩) (by have := HN.out; simp only; omega)).trans (xf.out.2 1)
    have fz2 := (Grew.frozen HS1.out (a := ⟨n0 + 1, 2, none⟩) (by have := HN.out; simp only; omega)).trans (xf.out.2 2)
    have fz3 := (Grew.frozen HS1.out (a := ⟨n0 + 1, 3, none⟩) (by have := HN.out; simp only; omega)).trans (xf.out.2 3)
    have fz4 := (Grew.frozen HS1.out (a := ⟨n0 + 1, 4, none⟩) (by have := HN.out; simp only; omega)).trans (xf.out.2 4)
    clear HS1 HS0 xp1 xp2 xp3 xp4 xk0 xk1 xk2 xk3 xk4 xz0 xz1 xz2 xz3 xz4
    go_wp2_with fail
    have HBE : Hid (Below w.heap.size w ((((((((((wy.setCell ⟨n0 + 1 + 1, 0, none⟩ (.int .u32 dst)).setCell ⟨n0 + 1 + 1, 1, none⟩ (.int .u32 src)).setCell ⟨n0 + 1 + 1, 2, none⟩ (.int .u16 dport)).setCell ⟨n0 + 1 + 1, 3, none⟩ (.int .u16 sport)).setCell ⟨n0 + 1, 0, none⟩ (.int .u32 dst)).setCell ⟨n0 + 1, 1, none⟩ (.int .u32 src)).setCell ⟨n0 + 1, 2, none⟩ (.int .u16 dport)).setCell ⟨n0 + 1, 3, none⟩ (.int .u16 sport)).setCell ⟨n0 + 1, 4, none⟩ (.int .u8 proto)))) := Lib.hid ((Below.setCell (Below.setCell (Below.setCell (Below.setCell (Below.setCell (Below.setCell (Below.setCell (Below.setCell (Below.setCell hbe.out (p := ⟨n0 + 1 + 1, 0, none⟩) (by rw [hn0]; simp only; omega) _) (p := ⟨n0 + 1 + 1, 1, none⟩) (by rw [hn0]; simp only; omega) _) (p := ⟨n0 + 1 + 1, 2, none⟩) (by rw [hn0]; simp only; omega) _) (p := ⟨n0 + 1 + 1, 3, none⟩) (by rw [hn0]; simp only; omega) _) (p := ⟨n0 + 1, 0, none⟩) (by rw [hn0]; simp only; omega) _) (p := ⟨n0 + 1, 1, none⟩) (by rw [hn0]; simp only; omega) _) (p := ⟨n0 + 1, 2, none⟩) (by rw [hn0]; simp only; omega) _) (p := ⟨n0 + 1, 3, none⟩) (by rw [hn0]; simp only; omega) _) (p := ⟨n0 + 1, 4, none⟩) (by rw [hn0]; simp only; omega) _))
    exact bodyPost_ret (v := .tuple #[kyV ⟨dst, src, dport, sport, proto⟩, .bool true]) (by simp [results, Tryz.results18, go_sem, kyV, kyC, *]) rfl ⟨by (rw [hV.out]) <;> rfl, HBE.out⟩
  · have hV : Hid (keyF ⟨proto, src, dst, sport, dport, flags, kind⟩ = (⟨src, dst, sport, dport, proto⟩, false)) := Lib.hid (by rw [HV.out, if_neg (fun h => ht (HT.out.2 h))])
    refine WH.enter (Grew wx) (by kernel_rfl) 14 rfl ?_
    refine WH.take 0 (some 19) rfl rfl (by kernel_rfl) (by kernel_rfl) (by kernel_rfl) (fun _ _ _ h => h) (by rfl) (fun v hv => by have k1 := hv.cell xp1; have k2 := hv.cell xp2; have k3 := hv.cell xp3; have k4 := hv.cell xp4; go_simp; first | done | with_reducible rfl | (rw [if_neg (by omega)])) HS0.out ?_; simp only [Act.put, List.setIfInBounds_toArray, List.set_cons_zero, List.set_cons_succ]
    refine WH.take 1 (some 20) rfl rfl (by kernel_rfl) (by kernel_rfl) (by kernel_rfl) (fun _ _ _ h => h) (by rfl) (fun v hv => by have k1 := hv.cell xp1; have k2 := hv.cell xp2; have k3 := hv.cell xp3; have k4 := hv.cell xp4; go_simp; first | done | with_reducible rfl | (rw [if_neg (by omega)])) HS0.out ?_; simp only [Act.put, List.setIfInBounds_toArray, List.set_cons_zero, List.set_cons_succ]
    refine WH.take 2 (some 21) rfl rfl (by kernel_rfl) (by kernel_rfl) (by kernel_rfl) (fun _ _ _ h => h) (by rfl) (fun v hv => by have k1 := hv.cell xp1; have k2 := hv.cell xp2; have k3 := hv.cell xp3; have k4 := hv.cell xp4; go_simp; first | done | with_reducible rfl | (rw [if_neg (by omega)])) HS0.out ?_; simp only [Act.put, List.setIfInBounds_toArray, List.set_cons_zero, List.set_cons_succ]
    refine WH.take 3 (some 22) rfl rfl (by kernel_rfl) (by kernel_rfl) (by kernel_rfl) (fun _ _ _ h => h) (by rfl) (fun v hv => by have k1 := hv.cell xp1; have k2 := hv.cell xp2; have k3 := hv.cell xp3; have k4 := hv.cell xp4; go_simp; first | done | with_reducible rfl | (rw [if_neg (by omega)])) HS0.out ?_; simp only [Act.put, List.setIfInBounds_toArray, List.set_cons_zero, List.set_cons_succ]
    refine WH.take 5 (some 24) rfl rfl (by kernel_rfl) (by kernel_rfl) (by kernel_rfl) (fun _ _ _ h => h) (by rfl) (fun v hv => by have k1 := hv.cell xp1; have k2 := hv.cell xp2; have k3 := hv.cell xp3; have k4 := hv.cell xp4; go_simp; first | done | with_reducible rfl | (rw [if_neg (by omega)])) HS0.out ?_; simp only [Act.put, List.setIfInBounds_toArray, List.set_cons_zero, List.set_cons_succ]
    refine WH.take 6 (some 25) rfl rfl (by kernel_rfl) (by kernel_rfl) (by kernel_rfl) (fun _ _ _ h => h) (by rfl) (fun v hv => by have k1 := hv.cell xp1; have k2 := hv.cell xp2; have k3 := hv.cell xp3; have k4 := hv.cell xp4; go_simp; first | done | with_reducible rfl | (rw [if_neg (by omega)])) HS0.out ?_; simp only [Act.put, List.setIfInBounds_toArray, List.set_cons_zero, List.set_cons_succ]
    refine WH.take 7 (some 26) rfl rfl (by kernel_rfl) (by kernel_rfl) (by kernel_rfl) (fun _ _ _ h => h) (by rfl) (fun v hv => by have k1 := hv.cell xp1; have k2 := hv.cell xp2; have k3 := hv.cell xp3; have k4 := hv.cell xp4; go_simp; first | done | with_reducible rfl | (rw [if_neg (by omega)])) HS0.out ?_; simp only [Act.put, List.setIfInBounds_toArray, List.set_cons_zero, List.set_cons_succ]
    refine WH.take 8 (some 27) rfl rfl (by kernel_rfl) (by kernel_rfl) (by kernel_rfl) (fun _ _ _ h => h) (by rfl) (fun v hv => by have k1 := hv.cell xp1; have k2 := hv.cell xp2; have k3 := hv.cell xp3; have k4 := hv.cell xp4; go_simp; first | done | with_reducible rfl | (rw [if_neg (by omega)])) HS0.out ?_; simp only [Act.put, List.setIfInBounds_toArray, List.set_cons_zero, List.set_cons_succ]
    refine WH.one 4 (by kernel_rfl) rfl (by rfl) ?_
    go_wp2_with fail
    refine (C1.out _).mono ?_
    rintro e w' ⟨rfl, rfl⟩
    go_wp2_with fail
    refine ⟨HS0.out, ?_⟩
    refine WH.one 9 (by kernel_rfl) rfl (by rfl) ?_
    go_wp2_with fail
    refine (C2.out _).mono ?_
    rintro e w' ⟨rfl, rfl⟩
    go_wp2_with fail
    refine ⟨HS0.out, ?_⟩
    refine WH.one 10 (by kernel_rfl) rfl (by rfl) ?_
    go_wp2_with fail
    have HS1 : Hid (Grew wx (wx.alloc (.cells #[.int .i64 d1, .int .i64 d2] 3)).drew) := Lib.hid (HS0.out.alloc _)
    refine ⟨HS1.out, ?_⟩
    refine WH.one 11 (by kernel_rfl) rfl (by rfl) ?_
    go_wp2_with fail
    refine (HO2.out _ _ (by simp) (by simp)).mono ?_
    rintro e w' ⟨rfl, rfl⟩
    go_wp2_with fail
    refine ⟨HS1.out, ?_⟩
    refine WH.take 12 (some 31) rfl rfl (by kernel_rfl) (by kernel_rfl) (by kernel_rfl) (fun _ _ _ h => h) (by rfl) (fun v hv => by have k1 := hv.cell xp1; have k2 := hv.cell xp2; have k3 := hv.cell xp3; have k4 := hv.cell xp4; go_simp; first | done | with_reducible rfl | (rw [if_neg (by omega)])) HS1.out ?_; simp only [Act.put, List.setIfInBounds_toArray, List.set_cons_zero, List.set_cons_succ]
    refine WH.take 13 (some 5) rfl rfl (by kernel_rfl) (by kernel_rfl) (by kernel_rfl) (fun _ _ _ h => h) (by rfl) (fun v hv => by have k1 := hv.cell xp1; have k2 := hv.cell xp2; have k3 := hv.cell xp3; have k4 := hv.cell xp4; go_simp; first | done | with_reducible rfl | (rw [if_neg (by omega)])) HS1.out ?_; simp only [Act.put, List.setIfInBounds_toArray, List.set_cons_zero, List.set_cons_succ]
    refine WH.done (by kernel_rfl) ?_
    generalize (wx.alloc (.cells #[.int .i64 d1, .int .i64 d2] 3)).drew = wy at *
    have hbe : Hid (Below w.heap.size w wy) := Lib.hid (HG.out.trans HS1.out).below
    have yk0 := Grew.cell HS1.out xk0
    have yk1 := Grew.cell HS1.out xk1
    have yk2 := Grew.cell HS1.out xk2
    have yk3 := Grew.cell HS1.out xk3
    have yk4 := Grew.cell HS1.out xk4
    have yz0 := Grew.cell HS1.out xz0
    have yz1 := Grew.cell HS1.out xz1
    have yz2 := Grew.cell HS1.out xz2
    have yz3 := Grew.cell HS1.out xz3
    have yz4 := Grew.cell HS1.out xz4
    have fk0 := (Grew.frozen HS1.out (a := ⟨n0 + 1 + 1, 0, none⟩) (by have := HN.out; simp only; omega)).trans (xf.out.1 0)
    have fk1 := (Grew.frozen HS1.out (a := ⟨n0 + 1 + 1, 1, none⟩) (by have := HN.out; simp only; omega)).trans (xf.out.1 1)
    have fk2 := (Grew.frozen HS1.out (a := ⟨n0 + 1 + 1, 2, none⟩) (by have := HN.out; simp only; omega)).trans (xf.out.1 2)
    have fk3 := (Grew.frozen HS1.out (a := ⟨n0 + 1 + 1, 3, none⟩) (by have := HN.out; simp only; omega)).trans (xf.out.1 3)
    have fk4 := (Grew.frozen HS1.out (a := ⟨n0 + 1 + 1, 4, none⟩) (by have := HN.out; simp only; omega)).trans (xf.out.1 4)
    have fz0 := (Grew.frozen HS1.out (a := ⟨n0 + 1, 0, none⟩) (by have := HN.out; simp only; omega)).trans (xf.out.2 0)
    have fz1 := (Grew.frozen HS1.out (a := ⟨n0 + 1, 1, none⟩) (by have := HN.out; simp only; omega)).trans (xf.out.2 1)
    have fz2 := (Grew.frozen HS1.out (a := ⟨n0 + 1, 2, none⟩) (by have := HN.out; simp only; omega)).trans (xf.out.2 2)
    have fz3 := (Grew.frozen HS1.out (a := ⟨n0 + 1, 3, none⟩) (by have := HN.out; simp only; omega)).trans (xf.out.2 3)
    have fz4 := (Grew.frozen HS1.out (a := ⟨n0 + 1, 4, none⟩) (by have := HN.out; simp only; omega)).trans (xf.out.2 4)
    clear HS1 HS0 xp1 xp2 xp3 xp4 xk0 xk1 xk2 xk3 xk4 xz0 xz1 xz2 xz3 xz4
    go_wp2_with fail
    have HBE : Hid (Below w.heap.size w ((((((wy.setCell ⟨n0 + 1, 0, none⟩ (.int .u32 src)).setCell ⟨n0 + 1, 1, none⟩ (.int .u32 dst)).setCell ⟨n0 + 1, 2, none⟩ (.int .u16 sport)).setCell ⟨n0 + 1, 3, none⟩ (.int .u16 dport)).setCell ⟨n0 + 1, 4, none⟩ (.int .u8 proto)))) := Lib.hid ((Below.setCell (Below.setCell (Below.setCell (Below.setCell (Below.setCell hbe.out (p := ⟨n0 + 1, 0, none⟩) (by rw [hn0]; simp only; omega) _) (p := ⟨n0 + 1, 1, none⟩) (by rw [hn0]; simp only; omega) _) (p := ⟨n0 + 1, 2, none⟩) (by rw [hn0]; simp only; omega) _) (p := ⟨n0 + 1, 3, none⟩) (by rw [hn0]; simp only; omega) _) (p := ⟨n0 + 1, 4, none⟩) (by rw [hn0]; simp only; omega) _))
    exact bodyPost_ret (v := .tuple #[kyV ⟨src, dst, sport, dport, proto⟩, .bool false]) (by simp [results, Tryz.results18, go_sem, kyV, kyC, *]) rfl ⟨by (rw [hV.out]) <;> rfl, HBE.out⟩
end Go.Proofs.YtahgapkecabnjaaGreatDoor
/- What the rows' lists of three tables give the walks; packets and keys among the arguments. -/
namespace Go.Proofs.YtahgapkecabnjaaGreatDoor
set_option linter.unusedSimpArgs false
set_option linter.unusedVariables false
open Go Go.RowKit Go.ChangeShapes Go.WideShapes Go.ChangeAt

theorem g_pow : Tryz.prog.globalNamed "internal/strconv.uint64pow10" = some 0 := by kernel_rfl
theorem t_pow : (Tryz.prog.globals[0]?).map (·.type) = some 210 := by kernel_rfl
theorem c_u64 : Tryz.prog.cellsOf 53 = 1 := by kernel_rfl
theorem c_pow : Tryz.prog.cellsOf 210 = 20 := by kernel_rfl
theorem g_none1 : Tryz.prog.globalNamed "strconv.ErrSyntax" = none := by kernel_rfl
theorem g_none2 : Tryz.prog.globalNamed "strconv.ErrRange" = none := by kernel_rfl
theorem pow_datum : (Rows.laid_internal_strconv_uint64pow10 : DataW Unit) = Lib.tabData .u64 Lib.pow10Tab := by kernel_rfl
theorem tabs_of_laidB {rest : List (String × DataW Unit)} {W : World} (h : laidMet Tryz.prog (("math/bits.deBruijn32tab", Rows.laid_math_bits_deBruijn32tab) :: ("math/bits.deBruijn64tab", Rows.laid_math_bits_deBruijn64tab) :: ("internal/strconv.uint64pow10", Rows.laid_internal_strconv_uint64pow10) :: rest) W)
    (hsh : W.ShapedOpen Tryz.prog) : Tabs W := by
  have h3 := h.tail.tail
  rw [pow_datum] at h3
  exact ⟨Lib.tabIs_of_head g_pow t_pow Tryz.underlying210 Tryz.underlying53 c_u64 c_pow h3, (fun g hg => by rw [g_none1] at hg; cases hg), (fun g hg => by rw [g_none2] at hg; cases hg), cell_of_shapedOpen_int (t := 3) (zero := #[.int .i64 0]) hsh (of_decide_eq_true (by kernel_rfl)) (by kernel_rfl) rfl (by kernel_rfl) (by kernel_rfl) Tryz.underlying3⟩
/-- A world in which the listed variables lie as their initialisers lay them. -/
noncomputable def laidWorld (os : Os) : World := World.doorLaid Tryz.prog 400 os
theorem own : ownKnob Tryz.prog.godebug = none := by kernel_rfl
theorem laidOut : laidOutB Tryz.prog = true := by kernel_rfl

theorem wf_range {k : IntKind} {n : Int} (h : (Lit.int k n).wf = true) : k.min ≤ n ∧ n ≤ k.max := by simpa [Lit.wf] using h
theorem range_u8 {n : Int} (h : (Lit.int .u8 n).wf = true) : 0 ≤ n ∧ n < 256 := by have := wf_range h; have e1 : IntKind.u8.min = 0 := rfl; have e2 : IntKind.u8.max = 255 := rfl; omega
theorem range_u16 {n : Int} (h : (Lit.int .u16 n).wf = true) : 0 ≤ n ∧ n < 65536 := by have := wf_range h; have e1 : IntKind.u16.min = 0 := rfl; have e2 : IntKind.u16.max = 65535 := rfl; omega
theorem range_u32 {n : Int} (h : (Lit.int .u32 n).wf = true) : 0 ≤ n ∧ n < 4294967296 := by have := wf_range h; have e1 : IntKind.u32.min = 0 := rfl; have e2 : IntKind.u32.max = 4294967295 := rfl; omega

section
variable {H : Type} {enc : TypeId × Value → H} {w : World} {base : Nat} {sp : Nat → Bool} {held : Bool}
def pkT : List TypeId := [5, 38, 38, 39, 39, 5, 5]
def kyT : List TypeId := [38, 38, 39, 39, 5]
theorem leafs_pk {cs : List Value} (h : Leafs enc Tryz.prog w base sp held pkT cs) : ∃ p : Pk, cs = (pkC p).toList ∧ PkIn p := by
  match cs, h with
  | [x0, x1, x2, x3, x4, x5, x6], h =>
    obtain ⟨h0, h1, h2, h3, h4, h5, h6, _⟩ := h
    obtain ⟨n0, rfl, w0⟩ := h0.int Tryz.underlying5
    obtain ⟨n1, rfl, w1⟩ := h1.int Tryz.underlying38
    obtain ⟨n2, rfl, w2⟩ := h2.int Tryz.underlying38
    obtain ⟨n3, rfl, w3⟩ := h3.int Tryz.underlying39
    obtain ⟨n4, rfl, w4⟩ := h4.int Tryz.underlying39
    obtain ⟨n5, rfl, w5⟩ := h5.int Tryz.underlying5
    obtain ⟨n6, rfl, w6⟩ := h6.int Tryz.underlying5
    exact ⟨⟨n0, n1, n2, n3, n4, n5, n6⟩, rfl, ⟨range_u8 w0, range_u32 w1, range_u32 w2, range_u16 w3, range_u16 w4, range_u8 w5, range_u8 w6⟩⟩
theorem leafs_ky {cs : List Value} (h : Leafs enc Tryz.prog w base sp held kyT cs) : ∃ k : Ky, cs = (kyC k).toList ∧ k.In := by
  match cs, h with
  | [x0, x1, x2, x3, x4], h =>
    obtain ⟨h0, h1, h2, h3, h4, _⟩ := h
    obtain ⟨n0, rfl, w0⟩ := h0.int Tryz.underlying38
    obtain ⟨n1, rfl, w1⟩ := h1.int Tryz.underlying38
    obtain ⟨n2, rfl, w2⟩ := h2.int Tryz.underlying39
    obtain ⟨n3, rfl, w3⟩ := h3.int Tryz.underlying39
    obtain ⟨n4, rfl, w4⟩ := h4.int Tryz.underlying5
    have r0 := range_u32 w0
    have r1 := range_u32 w1
    have r2 := range_u16 w2
    have r3 := range_u16 w3
    have r4 := range_u8 w4
    obtain ⟨m0, rfl⟩ := Int.eq_ofNat_of_zero_le r0.1
    obtain ⟨m1, rfl⟩ := Int.eq_ofNat_of_zero_le r1.1
    obtain ⟨m2, rfl⟩ := Int.eq_ofNat_of_zero_le r2.1
    obtain ⟨m3, rfl⟩ := Int.eq_ofNat_of_zero_le r3.1
    obtain ⟨m4, rfl⟩ := Int.eq_ofNat_of_zero_le r4.1
    exact ⟨⟨m0, m1, m2, m3, m4⟩, rfl, ⟨by show m0 < _; omega, by show m1 < _; omega, by show m2 < _; omega, by show m3 < _; omega, by show m4 < _; omega⟩⟩
set_option maxRecDepth 100000 in
theorem open_pk {v : Value} {r : Reach} {b : Nat} {x : DataW H} {ps : List MemPlace} (hv : Value.okWide Tryz.prog w r b 41 v) (h : DataW.Trod enc Tryz.prog w base sp held 41 v x ps) : ∃ p : Pk, v = .agg (pkC p) ∧ PkIn p := by
  obtain ⟨cs, rfl, hl⟩ := open_leafs (d := 4) (ts := pkT) (by kernel_rfl) (by kernel_rfl) (by kernel_rfl) hv h
  obtain ⟨p, e, hp⟩ := leafs_pk hl
  exact ⟨p, by rw [show cs = pkC p from Array.toList_inj.1 e], hp⟩
set_option maxRecDepth 100000 in
theorem open_ky {v : Value} {r : Reach} {b : Nat} {x : DataW H} {ps : List MemPlace} (hv : Value.okWide Tryz.prog w r b 45 v) (h : DataW.Trod enc Tryz.prog w base sp held 45 v x ps) : ∃ k : Ky, v = kyV k ∧ k.In := by
  obtain ⟨cs, rfl, hl⟩ := open_leafs (d := 4) (ts := kyT) (by kernel_rfl) (by kernel_rfl) (by kernel_rfl) hv h
  obtain ⟨k, e, hk⟩ := leafs_ky hl
  exact ⟨k, by rw [show cs = kyC k from Array.toList_inj.1 e], hk⟩
end
end Go.Proofs.YtahgapkecabnjaaGreatDoor
/- Slices of structs among the arguments, opened: each element's cells, leaf by leaf. -/
namespace Go.Proofs.YtahgapkecabnjaaGreatDoor
set_option linter.unusedSimpArgs false
set_option linter.unusedVariables false
open Go Go.RowKit Go.ChangeShapes Go.WideShapes

theorem open_slice_leafs {H : Type} {enc : TypeId × Value → H} {P : Program} {W : World} {base b : Nat} {held : Bool} {d : Nat} {t e : TypeId} {ts : List TypeId} {v : Value} {x : DataW H} {ps : List MemPlace}
    (ht : P.underlying t = some (.slice e)) (hl : leafs P d e = some ts) (hc : P.cellsOf e = ts.length) (hv : Value.okWide P W .any base t v) (h : DataW.Trod enc P W b (fun _ => true) held t v x ps) :
    ∃ a len cap, v = .slice a len cap ∧ len ≤ maxLen ∧ ∀ j, j < len → ∃ ad cs, a = some ad ∧ (∀ k, k < ts.length → W.cell? ((ad.add (j * ts.length)).add k) = cs[k]?) ∧ cs.length = ts.length ∧ Leafs enc P W b (fun _ => true) held ts cs := by
  obtain ⟨a, len, cap, rfl⟩ := WideShapes.okWide_slice ht hv
  obtain ⟨fuel, hf⟩ := h
  rcases Go.Deep.open_slice ht hf with ⟨hcs, _⟩ | ⟨a', len', cap', m, n, D, Pl, hcs, hb, hle, hm, hmm, _, hx⟩
  · simp [Value.cells] at hcs
    obtain ⟨rfl, rfl, rfl⟩ := hcs
    exact ⟨none, 0, 0, rfl, by decide, fun j hj => absurd hj (by omega)⟩
  · simp [Value.cells] at hcs
    obtain ⟨rfl, rfl, rfl⟩ := hcs
    refine ⟨_, _, _, rfl, Nat.le_trans hle hm, fun j hj => ?_⟩
    obtain ⟨cs, h1, h2⟩ := hx j (by rw [hmm]; simp; omega)
    rw [hc] at h1
    obtain ⟨h3, h4, h5⟩ := World.cells?_some h1
    exact ⟨_, cs, rfl, h5, h4, leafs_of_trod d e ts cs n hl h4 ⟨_, h2⟩⟩
end Go.Proofs.YtahgapkecabnjaaGreatDoor
/- Plain law of package text: lines and their words. No program in sight. -/
namespace Go.Proofs.YtahgapkecabnjaaGreatDoor
set_option linter.unusedSimpArgs false
set_option linter.unusedVariables false
open Go.Lib

/-- May a byte not stand in a text? -/
def badB (b : UInt8) : Bool := b != 10 && (decide (b.toNat < 32) || decide (126 < b.toNat))
def firstBad : List UInt8 → Option Nat
  | [] => none
  | b :: r => if badB b then some 0 else (firstBad r).map (· + 1)
theorem firstBad_none {l : List UInt8} : firstBad l = none ↔ ∀ b ∈ l, badB b = false := by
  induction l with
  | nil => simp [firstBad]
  | cons b r ih =>
    rw [firstBad]
    cases h : badB b
    · simp [h, ih]
    · simp [h]
theorem firstBad_some {l : List UInt8} {i : Nat} (h : firstBad l = some i) : ∃ b, l[i]? = some b ∧ badB b = true ∧ ∀ b ∈ l.take i, badB b = false := by
  induction l generalizing i with
  | nil => simp [firstBad] at h
  | cons b r ih =>
    rw [firstBad] at h
    cases hb : badB b
    · rw [hb] at h
      simp only [Bool.false_eq_true, if_false, Option.map_eq_some_iff] at h
      obtain ⟨j, hj, rfl⟩ := h
      obtain ⟨c, h1, h2, h3⟩ := ih hj
      refine ⟨c, by simpa using h1, h2, ?_⟩
      intro x hx
      simp only [List.take_succ_cons, List.mem_cons] at hx
      rcases hx with rfl | hx
      · exact hb
      · exact h3 x hx
    · rw [hb] at h
      simp only [if_true, Option.some.injEq] at h
      subst h
      exact ⟨b, by simp, hb, by simp⟩

abbrev Ln := Nat × List (List UInt8)
def wordsOf (p : List UInt8) : List (List UInt8) := fields (Lib.cut p [35]).1
def linesGo (n : Nat) : List (List UInt8) → List Ln
  | [] => []
  | p :: r => if wordsOf p = [] then linesGo (n + 1) r else (n, wordsOf p) :: linesGo (n + 1) r
def linesOf (l : List UInt8) : List Ln := linesGo 1 (pieces 10 l)
/-- What Lines answers: the lines, which line is wrong, the error. -/
def textF (l : List UInt8) : List Ln × Nat × Int :=
  if 4096 < l.length then ([], 0, 2) else match firstBad l with
    | some i => ([], 1 + countByte (l.take i) 10, 3)
    | none => (linesOf l, 0, 0)

/-! ### The reference's machine -/
def endW (words : List (List UInt8)) (cur : List UInt8) : List (List UInt8) := if cur = [] then words else words ++ [cur]
/-- A line's words, byte by byte: the words so far, the word that is read, whether a # stood there. -/
def wordsGo : List (List UInt8) → List UInt8 → Bool → List UInt8 → List (List UInt8)
  | words, cur, _, [] => endW words cur
  | words, cur, off, b :: r =>
    if b = 32 then wordsGo (endW words cur) [] off r
    else if b = 35 then wordsGo (endW words cur) [] true r
    else if off then wordsGo words cur off r
    else wordsGo words (cur ++ [b]) off r
def put (n : Nat) (ws : List (List UInt8)) (r : List Ln) : List Ln := if ws = [] then r else (n, ws) :: r
/-- A text's lines, byte by byte. -/
def mach : Nat → List (List UInt8) → List UInt8 → Bool → List UInt8 → List Ln
  | n, words, cur, _, [] => put n (endW words cur) []
  | n, words, cur, off, b :: r =>
    if b = 10 then put n (endW words cur) (mach (n + 1) [] [] false r)
    else if b = 32 then mach n (endW words cur) [] off r
    else if b = 35 then mach n (endW words cur) [] true r
    else if off then mach n words cur off r
    else mach n words (cur ++ [b]) off r
theorem mach_line (n : Nat) : ∀ (p : List UInt8) (words : List (List UInt8)) (cur : List UInt8) (off : Bool) (r : List UInt8), (10 : UInt8) ∉ p →
    mach n words cur off (p ++ 10 :: r) = put n (wordsGo words cur off p) (mach (n + 1) [] [] false r) ∧ mach n words cur off p = put n (wordsGo words cur off p) []
  | [], words, cur, off, r, _ => by simp [mach, wordsGo]
  | b :: p, words, cur, off, r, h => by
    simp only [List.mem_cons, not_or] at h
    have hb : ¬ b = 10 := fun e => h.1 e.symm
    simp only [List.cons_append, mach, wordsGo, if_neg hb]
    by_cases h1 : b = 32
    · simp only [if_pos h1]; exact mach_line n p _ _ _ _ h.2
    · by_cases h2 : b = 35
      · simp only [if_neg h1, if_pos h2]; exact mach_line n p _ _ _ _ h.2
      · cases off
        · simp only [if_neg h1, if_neg h2, Bool.false_eq_true, if_false]; exact mach_line n p _ _ _ _ h.2
        · simp only [if_neg h1, if_neg h2, if_true]; exact mach_line n p _ _ _ _ h.2
/-- Behind a # nothing more comes. -/
theorem wordsGo_off : ∀ (p : List UInt8) (words : List (List UInt8)), wordsGo words [] true p = words
  | [], words => by simp [wordsGo, endW]
  | b :: p, words => by
    simp only [wordsGo]
    have e : endW words [] = words := by simp [endW]
    rw [e]
    split
    · exact wordsGo_off p words
    · split
      · exact wordsGo_off p words
      · simp only [if_true]; exact wordsGo_off p words
theorem endW_append (a b : List (List UInt8)) (cur : List UInt8) : endW (a ++ b) cur = a ++ endW b cur := by unfold endW; split <;> simp
theorem wordsGo_append : ∀ (p : List UInt8) (a b : List (List UInt8)) (cur : List UInt8) (off : Bool), wordsGo (a ++ b) cur off p = a ++ wordsGo b cur off p
  | [], a, b, cur, off => endW_append a b cur
  | c :: p, a, b, cur, off => by
    simp only [wordsGo, endW_append]
    split
    · exact wordsGo_append p _ _ _ _
    · split
      · exact wordsGo_append p _ _ _ _
      · split
        · exact wordsGo_append p _ _ _ _
        · exact wordsGo_append p _ _ _ _
def okB (b : UInt8) : Prop := badB b = false
theorem sp_ok {b : UInt8} (h : okB b) (h10 : b ≠ 10) : isSp b = (b == 32) := by
  unfold okB badB at h
  have h1 : (b != 10) = true := by simpa using h10
  rw [h1] at h
  simp only [Bool.true_and, Bool.or_eq_false_iff, decide_eq_false_iff_not, Nat.not_lt] at h
  unfold isSp
  have n9 : (b == 9) = false := by rw [beq_eq_false_iff_ne]; rintro rfl; exact absurd h.1 (by decide)
  have n10 : (b == 10) = false := by simpa using h10
  have n11 : (b == 11) = false := by rw [beq_eq_false_iff_ne]; rintro rfl; exact absurd h.1 (by decide)
  have n12 : (b == 12) = false := by rw [beq_eq_false_iff_ne]; rintro rfl; exact absurd h.1 (by decide)
  have n13 : (b == 13) = false := by rw [beq_eq_false_iff_ne]; rintro rfl; exact absurd h.1 (by decide)
  rw [n9, n10, n11, n12, n13]; rfl
theorem wordsGo_fields : ∀ (p : List UInt8) (cur : List UInt8), (∀ b ∈ p, okB b ∧ b ≠ 10 ∧ b ≠ 35) → wordsGo [] cur false p = fieldsGo cur p
  | [], cur, _ => by cases cur <;> simp [wordsGo, endW, fieldsGo]
  | b :: p, cur, h => by
    obtain ⟨h1, h2, h3⟩ := h b (by simp)
    have hp : ∀ x ∈ p, okB x ∧ x ≠ 10 ∧ x ≠ 35 := fun x hx => h x (List.mem_cons_of_mem _ hx)
    simp only [wordsGo, fieldsGo, if_neg h3, Bool.false_eq_true, if_false]
    rw [sp_ok h1 h2]
    by_cases h32 : b = 32
    · subst h32
      simp only [if_true, beq_self_eq_true]
      cases cur with
      | nil => simp only [endW, if_true, List.isEmpty_nil]; exact wordsGo_fields p [] hp
      | cons c r =>
        have e : endW [] (c :: r) = [c :: r] ++ [] := by simp [endW]
        rw [e, wordsGo_append, wordsGo_fields p [] hp]
        simp
    · have e : (b == 32) = false := by simpa using h32
      rw [if_neg h32, e]
      simp only [Bool.false_eq_true, if_false]
      exact wordsGo_fields p _ hp
theorem wordsGo_part : ∀ (p r : List UInt8) (words : List (List UInt8)) (cur : List UInt8), (35 : UInt8) ∉ p → wordsGo words cur false (p ++ 35 :: r) = wordsGo words cur false p
  | [], r, words, cur, _ => by
    simp only [List.nil_append, wordsGo]
    rw [if_neg (by decide), if_pos trivial]
    exact wordsGo_off r _
  | b :: p, r, words, cur, h => by
    simp only [List.mem_cons, not_or] at h
    have hb : ¬ b = 35 := fun e => h.1 e.symm
    simp only [List.cons_append, wordsGo, if_neg hb, Bool.false_eq_true, if_false]
    split
    · exact wordsGo_part p r _ _ h.2
    · exact wordsGo_part p r _ _ h.2
theorem wordsGo_words {p : List UInt8} (h : ∀ b ∈ p, okB b) (h10 : (10 : UInt8) ∉ p) : wordsGo [] [] false p = wordsOf p := by
  unfold wordsOf
  rcases first_of 35 p with hc | ⟨q, r, rfl, hq⟩
  · rw [cut_none hc]
    exact wordsGo_fields p [] fun b hb => ⟨h b hb, fun e => h10 (by rw [← e]; exact hb), fun e => hc (by rw [← e]; exact hb)⟩
  · rw [cut_at hq, wordsGo_part q r _ _ hq]
    exact wordsGo_fields q [] fun b hb => ⟨h b (by simp [hb]), fun e => h10 (by rw [← e]; simp [hb]), fun e => hq (by rw [← e]; exact hb)⟩
theorem mach_lines : ∀ (k : Nat) (l : List UInt8) (n : Nat), l.length ≤ k → (∀ b ∈ l, okB b) → mach n [] [] false l = linesGo n (pieces 10 l)
  | k, l, n, hk, h => by
    rcases first_of 10 l with hc | ⟨p, r, rfl, hp⟩
    · rw [(mach_line n l [] [] false [] hc).2, pieces_none hc, wordsGo_words h hc]
      simp [linesGo, put]
    · rw [(mach_line n p [] [] false r hp).1, pieces_at _ hp, wordsGo_words (fun b hb => h b (by simp [hb])) hp]
      cases k with
      | zero => simp at hk
      | succ k =>
        rw [mach_lines k r (n + 1) (by simp at hk; omega) (fun b hb => h b (by simp [hb]))]
        simp [linesGo, put]

/-! ### Words and their lines -/
def okW (w : List UInt8) : Prop := w ≠ [] ∧ ∀ b ∈ w, 32 < b.toNat ∧ b.toNat ≤ 126 ∧ b ≠ 35
theorem okB_range {b : UInt8} (h : okB b) (h10 : b ≠ 10) : 32 ≤ b.toNat ∧ b.toNat ≤ 126 := by
  unfold okB badB at h
  have h1 : (b != 10) = true := by simpa using h10
  rw [h1] at h
  simp only [Bool.true_and, Bool.or_eq_false_iff, decide_eq_false_iff_not, Nat.not_lt] at h
  exact h
theorem fieldsGo_ok : ∀ (p cur : List UInt8), (∀ b ∈ p, okB b ∧ b ≠ 10 ∧ b ≠ 35) → (∀ b ∈ cur, 32 < b.toNat ∧ b.toNat ≤ 126 ∧ b ≠ 35) → ∀ w ∈ fieldsGo cur p, okW w
  | [], cur, _, hc, w, hw => by
    cases cur with
    | nil => simp [fieldsGo] at hw
    | cons c r => simp [fieldsGo] at hw; subst hw; exact ⟨by simp, hc⟩
  | b :: p, cur, h, hc, w, hw => by
    obtain ⟨h1, h2, h3⟩ := h b (by simp)
    have hp : ∀ x ∈ p, okB x ∧ x ≠ 10 ∧ x ≠ 35 := fun x hx => h x (List.mem_cons_of_mem _ hx)
    simp only [fieldsGo] at hw
    rw [sp_ok h1 h2] at hw
    by_cases h32 : b = 32
    · subst h32
      simp only [beq_self_eq_true, if_true] at hw
      cases cur with
      | nil => simp only [List.isEmpty_nil, if_true] at hw; exact fieldsGo_ok p [] hp (by simp) w hw
      | cons c r =>
        simp only [List.isEmpty_cons, Bool.false_eq_true, if_false, List.mem_cons] at hw
        rcases hw with rfl | hw
        · exact ⟨by simp, hc⟩
        · exact fieldsGo_ok p [] hp (by simp) w hw
    · have e : (b == 32) = false := by simpa using h32
      rw [e] at hw
      simp only [Bool.false_eq_true, if_false] at hw
      refine fieldsGo_ok p (cur ++ [b]) hp ?_ w hw
      intro x hx
      rw [List.mem_append, List.mem_singleton] at hx
      rcases hx with hx | rfl
      · exact hc x hx
      · have := okB_range h1 h2
        refine ⟨?_, this.2, h3⟩
        have hne : x.toNat ≠ 32 := fun e => h32 (UInt8.toNat_inj.1 (by rw [e]; rfl))
        omega
theorem cut_mem {p : List UInt8} {c b : UInt8} (h : b ∈ (Lib.cut p [c]).1) : b ∈ p ∧ b ≠ c := by
  rcases first_of c p with hc | ⟨q, r, rfl, hq⟩
  · rw [cut_none hc] at h; exact ⟨h, fun e => hc (by rw [← e]; exact h)⟩
  · rw [cut_at hq] at h; exact ⟨by simp [h], fun e => hq (by rw [← e]; exact h)⟩
theorem wordsOf_ok {p : List UInt8} (h : ∀ b ∈ p, okB b) (h10 : (10 : UInt8) ∉ p) : ∀ w ∈ wordsOf p, okW w := by
  unfold wordsOf fields
  exact fieldsGo_ok _ [] (fun b hb => ⟨h b (cut_mem hb).1, fun e => h10 (by rw [← e]; exact (cut_mem hb).1), (cut_mem hb).2⟩) (by simp)
theorem fieldsGo_word : ∀ (w cur r : List UInt8), okW w → fieldsGo cur (w ++ r) = fieldsGo (cur ++ w) r
  | [], cur, r, h => absurd rfl h.1
  | [b], cur, r, h => by
    have hb := h.2 b (by simp)
    have : isSp b = false := by
      have hh : okB b := by unfold okB badB; simp; omega
      rw [sp_ok hh (by rintro rfl; exact absurd hb.1 (by decide))]
      rw [beq_eq_false_iff_ne]; rintro rfl; exact absurd hb.1 (by decide)
    simp [fieldsGo, this]
  | b :: c :: w, cur, r, h => by
    have hb := h.2 b (by simp)
    have : isSp b = false := by
      have hh : okB b := by unfold okB badB; simp; omega
      rw [sp_ok hh (by rintro rfl; exact absurd hb.1 (by decide))]
      rw [beq_eq_false_iff_ne]; rintro rfl; exact absurd hb.1 (by decide)
    have ih := fieldsGo_word (c :: w) (cur ++ [b]) r ⟨by simp, fun x hx => h.2 x (by simp at hx ⊢; exact .inr hx)⟩
    rw [List.cons_append, fieldsGo, this]
    simp only [Bool.false_eq_true, if_false]
    rw [ih]; simp
theorem fields_join : ∀ (ws : List (List UInt8)), (∀ w ∈ ws, okW w) → fields (Lib.join ws [32]) = ws
  | [], _ => by simp [fields, fieldsGo, join_nil]
  | [w], h => by
    have hw := h w (by simp)
    rw [join_one]
    have := fieldsGo_word w [] [] hw
    rw [List.append_nil] at this
    unfold fields; rw [this]
    cases w with
    | nil => exact absurd rfl hw.1
    | cons => simp [fieldsGo]
  | w :: v :: r, h => by
    have hw := h w (by simp)
    have ih := fields_join (v :: r) (fun x hx => h x (by simp at hx ⊢; exact .inr hx))
    rw [join_cons] at ih ⊢
    simp only [joinTail, List.map_cons, List.flatten_cons] at ih ⊢
    unfold fields at ih ⊢
    rw [fieldsGo_word w [] _ hw]
    have h32 : isSp 32 = true := by decide
    rw [List.append_assoc, List.singleton_append, List.nil_append, fieldsGo, h32]
    simp only [if_true]
    cases w with
    | nil => exact absurd rfl hw.1
    | cons c t => simp only [List.isEmpty_cons, Bool.false_eq_true, if_false]; rw [ih]

/-- The lines put together again. -/
def rej (at' : Nat) : List Ln → List UInt8
  | [] => []
  | (n, ws) :: r => List.replicate (n - at') 10 ++ (Lib.join ws [32] ++ rej n r)
/-- Lines as Lines answers them, from line n on. -/
def Rising : Nat → List Ln → Prop
  | _, [] => True
  | n, (m, ws) :: r => n ≤ m ∧ ws ≠ [] ∧ (∀ w ∈ ws, okW w) ∧ Rising (m + 1) r
theorem linesGo_rising : ∀ (ps : List (List UInt8)) (n : Nat), (∀ p ∈ ps, (∀ b ∈ p, okB b) ∧ (10 : UInt8) ∉ p) → Rising n (linesGo n ps) ∧ ∀ k, k ≤ n → Rising k (linesGo n ps)
  | [], n, _ => by simp [linesGo, Rising]
  | p :: r, n, h => by
    have ih := linesGo_rising r (n + 1) (fun q hq => h q (by simp [hq]))
    rw [linesGo]
    split
    · exact ⟨ih.2 n (by omega), fun k hk => ih.2 k (by omega)⟩
    · rename_i hne
      have hok := wordsOf_ok (h p (by simp)).1 (h p (by simp)).2
      exact ⟨⟨Nat.le_refl _, hne, hok, ih.1⟩, fun k hk => ⟨hk, hne, hok, ih.1⟩⟩
theorem join_no {ws : List (List UInt8)} (h : ∀ w ∈ ws, okW w) : (10 : UInt8) ∉ Lib.join ws [32] ∧ (35 : UInt8) ∉ Lib.join ws [32] := by
  constructor
  · exact mem_join (fun w hw hc => by have := ((h w hw).2 10 hc).1; revert this; decide) (by decide)
  · exact mem_join (fun w hw hc => ((h w hw).2 35 hc).2.2 rfl) (by decide)
theorem wordsOf_join {ws : List (List UInt8)} (h : ∀ w ∈ ws, okW w) : wordsOf (Lib.join ws [32]) = ws := by
  unfold wordsOf
  rw [cut_none (join_no h).2, fields_join ws h]
theorem wordsOf_nil : wordsOf [] = [] := by unfold wordsOf; rw [cut_none (by simp)]; rfl
theorem pieces_tens : ∀ (k : Nat) (r : List UInt8) (n : Nat), linesGo n (pieces 10 (List.replicate k 10 ++ r)) = linesGo (n + k) (pieces 10 r)
  | 0, r, n => by simp
  | k + 1, r, n => by
    rw [List.replicate_succ, List.cons_append, pieces, if_pos rfl, linesGo, if_pos wordsOf_nil, pieces_tens k r (n + 1), show n + 1 + k = n + (k + 1) by omega]
/-- What stands behind a line begins with a new line, or is nothing. -/
theorem rej_head {n : Nat} : ∀ {r : List Ln}, Rising (n + 1) r → rej n r = [] ∧ r = [] ∨ ∃ t, rej n r = 10 :: t ∧ t = rej (n + 1) r
  | [], _ => .inl ⟨rfl, rfl⟩
  | (m, ws) :: r, h => by
    right
    have hm := h.1
    refine ⟨_, ?_, rfl⟩
    rw [rej, rej, show m - n = (m - (n + 1)) + 1 by omega, List.replicate_succ, List.cons_append]
theorem rej_lines : ∀ (ls : List Ln) (n : Nat), Rising n ls → linesGo n (pieces 10 (rej n ls)) = ls
  | [], n, _ => by simp [rej, pieces, linesGo, wordsOf_nil]
  | (m, ws) :: r, n, h => by
    obtain ⟨h1, h2, h3, h4⟩ := h
    have ih := rej_lines r (m + 1) h4
    rw [rej, pieces_tens, show n + (m - n) = m by omega]
    rcases rej_head h4 with ⟨e1, e2⟩ | ⟨t, e1, e2⟩
    · rw [e1, e2, List.append_nil, pieces_none (join_no h3).1, linesGo, wordsOf_join h3, if_neg h2]; rfl
    · rw [e1, pieces_at _ (join_no h3).1, linesGo, wordsOf_join h3, if_neg h2, e2, ih]
/-- How long the lines of a text are, put together again: no longer than the text. -/
theorem fieldsGo_len : ∀ (p cur : List UInt8), (Lib.join (fieldsGo cur p) [32]).length ≤ cur.length + p.length
  | [], cur => by cases cur <;> simp [fieldsGo, join_nil, join_one]
  | b :: p, cur => by
    simp only [fieldsGo]
    split
    · have ih := fieldsGo_len p []
      cases cur with
      | nil => simp only [List.isEmpty_nil, if_true]; simp at ih ⊢; omega
      | cons c r =>
        simp only [List.isEmpty_cons, Bool.false_eq_true, if_false]
        cases hf : fieldsGo [] p with
        | nil => rw [join_one]; simp
        | cons x y =>
          rw [hf] at ih
          rw [join_cons] at ih ⊢
          simp only [joinTail, List.map_cons, List.flatten_cons, List.length_append, List.length_cons, List.length_nil] at ih ⊢
          omega
    · have ih := fieldsGo_len p (cur ++ [b])
      simp at ih ⊢; omega
theorem wordsOf_len (p : List UInt8) : (Lib.join (wordsOf p) [32]).length ≤ p.length := by
  unfold wordsOf fields
  have h := fieldsGo_len (Lib.cut p [35]).1 []
  have : (Lib.cut p [35]).1.length ≤ p.length := by
    rcases first_of 35 p with hc | ⟨q, r, rfl, hq⟩
    · rw [cut_none hc]
      exact Nat.le_refl _
    · rw [cut_at hq]; simp
  simp at h; omega
def sumLen (ps : List (List UInt8)) : Nat := (ps.map (fun p => p.length + 1)).sum
theorem rej_len : ∀ (ps : List (List UInt8)) (n k : Nat), k ≤ n → (rej k (linesGo n ps)).length + 1 ≤ sumLen ps + (n - k) + 1 ∧ (ps ≠ [] → (rej k (linesGo n ps)).length + 1 ≤ sumLen ps + (n - k))
  | [], n, k, hk => by simp [linesGo, rej, sumLen]
  | p :: r, n, k, hk => by
    have hw := wordsOf_len p
    rw [linesGo]
    have e : sumLen (p :: r) = p.length + 1 + sumLen r := by simp [sumLen]
    split
    · obtain ⟨h1, h2⟩ := rej_len r (n + 1) k (by omega)
      cases r with
      | nil => simp [linesGo, rej, sumLen]; omega
      | cons q t =>
        have := h2 (by simp)
        rw [e]
        constructor
        · omega
        · intro _; omega
    · obtain ⟨h1, h2⟩ := rej_len r (n + 1) n (by omega)
      rw [e, rej]
      simp only [List.length_append, List.length_replicate]
      cases r with
      | nil =>
        simp only [linesGo, rej, List.length_nil, sumLen, List.map_nil, List.sum_nil]
        constructor
        · omega
        · intro _; omega
      | cons q t =>
        have := h2 (by simp)
        constructor
        · omega
        · intro _; omega
theorem sumLen_pieces (c : UInt8) : ∀ l : List UInt8, sumLen (pieces c l) = l.length + 1
  | [] => by simp [pieces, sumLen]
  | x :: r => by
    have ih := sumLen_pieces c r
    have hne := pieces_ne c r
    rw [pieces]
    split
    · simp [sumLen] at ih ⊢; omega
    · cases e : pieces c r with
      | nil => exact absurd e hne
      | cons p q => rw [e] at ih; simp [sumLen] at ih ⊢; omega
theorem again_len (l : List UInt8) : (rej 1 (linesOf l)).length ≤ l.length := by
  have := (rej_len (pieces 10 l) 1 1 (Nat.le_refl _)).2 (pieces_ne 10 l)
  rw [sumLen_pieces] at this
  unfold linesOf; omega
theorem rej_good : ∀ (ls : List Ln) (n : Nat), Rising n ls → ∀ b ∈ rej n ls, okB b
  | [], n, _, b, hb => by simp [rej] at hb
  | (m, ws) :: r, n, h, b, hb => by
    obtain ⟨h1, h2, h3, h4⟩ := h
    rw [rej, List.mem_append, List.mem_append] at hb
    rcases hb with hb | hb | hb
    · rw [List.mem_replicate] at hb; rw [hb.2]; rfl
    · have : ∀ (ws : List (List UInt8)), (∀ w ∈ ws, okW w) → b ∈ Lib.join ws [32] → okB b := by
        intro ws
        induction ws with
        | nil => intro _ hb; simp [join_nil] at hb
        | cons w t ih =>
          intro hw hb
          rw [join_cons, List.mem_append] at hb
          rcases hb with hb | hb
          · have := (hw w (by simp)).2 b hb
            unfold okB badB; simp; omega
          · simp only [joinTail, List.mem_flatten, List.mem_map] at hb
            obtain ⟨q, ⟨v, hv, rfl⟩, hb⟩ := hb
            rw [List.mem_append, List.mem_singleton] at hb
            rcases hb with rfl | hb
            · rfl
            · have := (hw v (by simp [hv])).2 b hb
              unfold okB badB; simp; omega
      exact this ws h3 hb
    · rcases rej_head h4 with ⟨e1, e2⟩ | ⟨t, e1, e2⟩
      · rw [e1] at hb; simp at hb
      · rw [e1, List.mem_cons] at hb
        rcases hb with rfl | hb
        · rfl
        · rw [e2] at hb; exact rej_good r (m + 1) h4 b hb
theorem lines_rising {l : List UInt8} (h : firstBad l = none) : Rising 1 (linesOf l) := by
  rw [firstBad_none] at h
  refine (linesGo_rising _ 1 fun p hp => ⟨fun b hb => ?_, pieces_clean p hp⟩).1
  have : ∀ (l : List UInt8) (p : List UInt8), p ∈ pieces 10 l → ∀ b ∈ p, b ∈ l := by
    intro l
    induction l with
    | nil => intro p hp b hb; simp [pieces] at hp; subst hp; simp at hb
    | cons x r ih =>
      intro p hp b hb
      rw [pieces] at hp
      split at hp
      · rw [List.mem_cons] at hp
        rcases hp with rfl | hp
        · simp at hb
        · simp [ih p hp b hb]
      · split at hp
        · simp at hp; subst hp; simp at hb; simp [hb]
        · rename_i q t he
          rw [List.mem_cons] at hp
          rcases hp with rfl | hp
          · rw [List.mem_cons] at hb
            rcases hb with rfl | hb
            · simp
            · simp [ih q (by rw [he]; simp) b hb]
          · simp [ih p (by rw [he]; simp [hp]) b hb]
  exact h b (this l p hp b hb)
/-- Put together again, the lines are the same. -/
theorem again_law {l : List UInt8} (hl : l.length ≤ 4096) (h : firstBad l = none) : textF (rej 1 (linesOf l)) = (linesOf l, 0, 0) ∧ (rej 1 (linesOf l)).length ≤ l.length := by
  have hr := lines_rising h
  have hlen := again_len l
  refine ⟨?_, hlen⟩
  unfold textF
  rw [if_neg (by omega), firstBad_none.2 (rej_good _ _ hr)]
  simp only
  rw [linesOf, rej_lines _ 1 hr]
end Go.Proofs.YtahgapkecabnjaaGreatDoor
