/- The engine: Drop, Delete, Look. Printed by gen_autoh.py. -/
import Derived.Test.YtahgapkecabnjaaGreatDoorC12
namespace Go.Proofs.YtahgapkecabnjaaGreatDoor
set_option linter.unusedSimpArgs false
set_option linter.unusedVariables false
open Go Go.RowKit Go.Shelf Go.Lib Go.Maps Go.MapKept
open Go.ChangeMaps (setBlock)

set_option maxHeartbeats 4000000 in
set_option maxRecDepth 100000 in
theorem drop_any {w : World} {ba : Nat} {F : Nat → Prop} {s : St} {k : Ky} (hk : k.In) (h : AutoAt w ba F s) (hg : U64 s.g) :
    Calls Tryz.prog 25 #[.pointer (some ⟨ba, 0, none⟩), kyV k] w fun e w' => e = .returned (.bool (hasL s.flows k)) ∧ AutoAt w' ba F (dropS s k) ∧ Turn F w w' := by
  have HB0 : Hid (Below w.heap.size w (w.alloc (.cells (kyC k) 45))) := Lib.hid ((Below.refl _ w).alloc (Nat.le_refl _) _)
  obtain ⟨rv, mb, f, vs, h⟩ := h
  have HA := Lib.hid (h.below HB0.out)
  have HA0 : Hid (AutoAt w ba F s) := Lib.hid ⟨rv, mb, f, vs, h⟩
  have HK := Lib.hid hk
  clear h hk
  have c0 : (w.alloc (.cells (kyC k) 45)).cell? ⟨ba, 20, none⟩ = some (.map (some mb)) := HA.out.cell rfl
  have c1 : (w.alloc (.cells (kyC k) 45)).cell? ⟨w.heap.size, 0, none⟩ = some (.int .u32 k.a0) := by simp [kyC]
  have c2 : (w.alloc (.cells (kyC k) 45)).cell? ⟨w.heap.size, 1, none⟩ = some (.int .u32 k.a1) := by simp [kyC]
  have c3 : (w.alloc (.cells (kyC k) 45)).cell? ⟨w.heap.size, 2, none⟩ = some (.int .u16 k.p0) := by simp [kyC]
  have c4 : (w.alloc (.cells (kyC k) 45)).cell? ⟨w.heap.size, 3, none⟩ = some (.int .u16 k.p1) := by simp [kyC]
  have c5 : (w.alloc (.cells (kyC k) 45)).cell? ⟨w.heap.size, 4, none⟩ = some (.int .u8 k.pr) := by simp [kyC]
  have HL : Hid (∀ v, Since (w.alloc (.cells (kyC k) 45)) v → (Instr.lookup 81 (.map (some mb)) (.agg #[.int .u32 k.a0, .int .u32 k.a1, .int .u16 k.p0, .int .u16 k.p1, .int .u8 k.pr]) true).run Tryz.prog v = .ok (.tuple #[.agg #[.int .u64 ((entG s.flows k).1 : Nat), .bool (entG s.flows k).2], .bool (hasL s.flows k)]) v) := Lib.hid (fun v hv => (HA.out.below hv).fl.look HK.out)
  generalize hew : (entG s.flows k).1 = ew at *
  generalize het : (entG s.flows k).2 = et at *
  have HV : Hid (dropS s k = if hasL s.flows k = true then goneS s k else s) := Lib.hid rfl
  have HGO := Lib.hid (fun (W : World) (hA : AutoAt W ba F s) => agoes_any HK.out hA hg)
  generalize hasL s.flows k = ok at *
  go_enter Tryz.func25, Tryz.ntmps25
  go_wp2_with fail
  generalize hw1 : w.alloc (.cells (kyC k) 45) = w1 at *
  have HS0 : Hid (Since w1 w1.drew) := Lib.hid ((Below.refl _ w1).trans ⟨rfl, rfl, rfl, Nat.le_refl _, fun _ _ => rfl⟩)
  have HS1 : Hid (Since w1 (w1.drew.alloc (.cells #[.int .u64 0, .bool false] 99))) := Lib.hid (Below.alloc HS0.out (Nat.le_refl _) _)
  have HS2 : Hid (Since w1 (w1.drew.alloc (.cells #[.int .u64 (ew : Nat), .bool et] 99))) := Lib.hid (Below.alloc HS0.out (Nat.le_refl _) _)
  refine WH.enter (Since w1) (by kernel_rfl) 12 rfl ?_
  refine WH.take 0 (some 10) rfl rfl (by kernel_rfl) (by kernel_rfl) (by kernel_rfl) (fun _ _ _ h => h) (by rfl) (fun v hv => by have k0 := hv.cell c0; have k1 := hv.cell c1; have k2 := hv.cell c2; have k3 := hv.cell c3; have k4 := hv.cell c4; have k5 := hv.cell c5; have kl := HL.out v hv; go_simp; first | done | with_reducible rfl | (rw [if_neg (by omega)])) HS0.out ?_; simp only [Act.put, List.setIfInBounds_toArray, List.set_cons_zero, List.set_cons_succ]
  refine WH.take 1 (some 11) rfl rfl (by kernel_rfl) (by kernel_rfl) (by kernel_rfl) (fun _ _ _ h => h) (by rfl) (fun v hv => by have k0 := hv.cell c0; have k1 := hv.cell c1; have k2 := hv.cell c2; have k3 := hv.cell c3; have k4 := hv.cell c4; have k5 := hv.cell c5; have kl := HL.out v hv; go_simp; first | done | with_reducible rfl | (rw [if_neg (by omega)])) HS0.out ?_; simp only [Act.put, List.setIfInBounds_toArray, List.set_cons_zero, List.set_cons_succ]
  refine WH.take 2 (some 12) rfl rfl (by kernel_rfl) (by kernel_rfl) (by kernel_rfl) (fun _ _ _ h => h) (by rfl) (fun v hv => by have k0 := hv.cell c0; have k1 := hv.cell c1; have k2 := hv.cell c2; have k3 := hv.cell c3; have k4 := hv.cell c4; have k5 := hv.cell c5; have kl := HL.out v hv; go_simp; first | done | with_reducible rfl | (rw [if_neg (by omega)])) HS0.out ?_; simp only [Act.put, List.setIfInBounds_toArray, List.set_cons_zero, List.set_cons_succ]
  refine WH.take 3 (some 13) rfl rfl (by kernel_rfl) (by kernel_rfl) (by kernel_rfl) (fun _ _ _ h => h) (by rfl) (fun v hv => by have k0 := hv.cell c0; have k1 := hv.cell c1; have k2 := hv.cell c2; have k3 := hv.cell c3; have k4 := hv.cell c4; have k5 := hv.cell c5; have kl := HL.out v hv; go_simp; first | done | with_reducible rfl | (rw [if_neg (by omega)])) HS0.out ?_; simp only [Act.put, List.setIfInBounds_toArray, List.set_cons_zero, List.set_cons_succ]
  refine WH.take 4 (some 14) rfl rfl (by kernel_rfl) (by kernel_rfl) (by kernel_rfl) (fun _ _ _ h => h) (by rfl) (fun v hv => by have k0 := hv.cell c0; have k1 := hv.cell c1; have k2 := hv.cell c2; have k3 := hv.cell c3; have k4 := hv.cell c4; have k5 := hv.cell c5; have kl := HL.out v hv; go_simp; first | done | with_reducible rfl | (rw [if_neg (by omega)])) HS0.out ?_; simp only [Act.put, List.setIfInBounds_toArray, List.set_cons_zero, List.set_cons_succ]
  refine WH.take 5 (some 15) rfl rfl (by kernel_rfl) (by kernel_rfl) (by kernel_rfl) (fun _ _ _ h => h) (by rfl) (fun v hv => by have k0 := hv.cell c0; have k1 := hv.cell c1; have k2 := hv.cell c2; have k3 := hv.cell c3; have k4 := hv.cell c4; have k5 := hv.cell c5; have kl := HL.out v hv; go_simp; first | done | with_reducible rfl | (rw [if_neg (by omega)])) HS0.out ?_; simp only [Act.put, List.setIfInBounds_toArray, List.set_cons_zero, List.set_cons_succ]
  refine WH.take 6 (some 9) rfl rfl (by kernel_rfl) (by kernel_rfl) (by kernel_rfl) (fun _ _ _ h => h) (by rfl) (fun v hv => by have k0 := hv.cell c0; have k1 := hv.cell c1; have k2 := hv.cell c2; have k3 := hv.cell c3; have k4 := hv.cell c4; have k5 := hv.cell c5; have kl := HL.out v hv; go_simp; first | done | with_reducible rfl | (rw [if_neg (by omega)])) HS0.out ?_; simp only [Act.put, List.setIfInBounds_toArray, List.set_cons_zero, List.set_cons_succ]
  refine WH.take 7 (some 16) rfl rfl (by kernel_rfl) (by kernel_rfl) (by kernel_rfl) (fun _ _ _ h => h) (by rfl) (fun v hv => by have k0 := hv.cell c0; have k1 := hv.cell c1; have k2 := hv.cell c2; have k3 := hv.cell c3; have k4 := hv.cell c4; have k5 := hv.cell c5; have kl := HL.out v hv; go_simp; first | done | with_reducible rfl | (rw [if_neg (by omega)])) HS0.out ?_; simp only [Act.put, List.setIfInBounds_toArray, List.set_cons_zero, List.set_cons_succ]
  refine WH.take 8 (some 17) rfl rfl (by kernel_rfl) (by kernel_rfl) (by kernel_rfl) (fun _ _ _ h => h) (by rfl) (fun v hv => by have k0 := hv.cell c0; have k1 := hv.cell c1; have k2 := hv.cell c2; have k3 := hv.cell c3; have k4 := hv.cell c4; have k5 := hv.cell c5; have kl := HL.out v hv; go_simp; first | done | with_reducible rfl | (rw [if_neg (by omega)])) HS0.out ?_; simp only [Act.put, List.setIfInBounds_toArray, List.set_cons_zero, List.set_cons_succ]
  refine WH.one 9 (by kernel_rfl) rfl (by rfl) ?_
  go_wp2_with fail
  refine ⟨HS1.out, ?_⟩
  refine WH.one 10 (by kernel_rfl) rfl (by rfl) ?_
  go_wp2_with fail
  refine ⟨HS2.out, ?_⟩
  refine WH.take 11 (some 6) rfl rfl (by kernel_rfl) (by kernel_rfl) (by kernel_rfl) (fun _ _ _ h => h) (by rfl) (fun v hv => by have k0 := hv.cell c0; have k1 := hv.cell c1; have k2 := hv.cell c2; have k3 := hv.cell c3; have k4 := hv.cell c4; have k5 := hv.cell c5; have kl := HL.out v hv; go_simp; first | done | with_reducible rfl | (rw [if_neg (by omega)])) HS2.out ?_; simp only [Act.put, List.setIfInBounds_toArray, List.set_cons_zero, List.set_cons_succ]
  refine WH.done (by kernel_rfl) ?_
  generalize hw2 : (w1.alloc (.cells #[.int .u64 (ew : Nat), .bool et] 99)).drew = w2 at *
  have HS2 : Hid (Since w1 w2) := Lib.hid (by rw [← hw2]; exact (Below.alloc (Below.refl _ w1) (Nat.le_refl _) _).trans ⟨rfl, rfl, rfl, Nat.le_refl _, fun _ _ => rfl⟩)
  have q1 := HS2.out.cell c1
  have q2 := HS2.out.cell c2
  have q3 := HS2.out.cell c3
  have q4 := HS2.out.cell c4
  have q5 := HS2.out.cell c5
  clear c0 c1 c2 c3 c4 c5 HL HS0 HS1
  have HA2 := Lib.hid (HA.out.below HS2.out)
  have HW2 : Hid (Below w.heap.size w w2) := Lib.hid (below_then HB0.out HS2.out)
  cases ok with
  | false =>
    go_wp2_with fail
    go_ret
    exact ⟨rfl, by rw [HV.out]; exact HA0.out.below HW2.out, Turn.of_below HW2.out⟩
  | true =>
    go_wp2_with fail
    refine (HGO.out _ ⟨rv, mb, f, vs, HA2.out⟩).mono ?_
    rintro e w3 ⟨⟨v, rfl⟩, hA3, hT3⟩
    have HA3 := Lib.hid hA3
    have HT3 := Lib.hid hT3
    clear hA3 hT3
    go_wp2_with fail
    go_ret
    exact ⟨rfl, by rw [HV.out]; exact HA3.out, (Turn.of_below HW2.out).trans HT3.out (fun i h => .inl h)⟩
set_option maxHeartbeats 4000000 in
set_option maxRecDepth 100000 in
theorem delete_any {w : World} {ba : Nat} {F : Nat → Prop} {s : St} {k : Ky} (hk : k.In) (h : AutoAt w ba F s) (hs : s.Ok) :
    Calls Tryz.prog 19 #[.pointer (some ⟨ba, 0, none⟩), kyV k] w fun e w' => e = .returned (.bool (overS s k)) ∧ AutoAt w' ba F (deleteS s k) ∧ Turn F w w' := by
  have hg := hs.g
  have HU : Hid (U64 (entG s.flows k).1) := Lib.hid (by
    unfold entG
    cases he : getL s.flows k with
    | none => show (0 : Nat) < _; decide
    | some e => exact (hs.at_ he).2.1)
  have HO : Hid (overS s k = (hasL s.flows k && overW (entG s.flows k).1 (clkW s.g : Nat))) := Lib.hid (by
    unfold overS hasL entG
    cases getL s.flows k <;> rfl)
  have HV : Hid (deleteS s k = if overS s k = true then goneS s k else s) := Lib.hid rfl
  clear hs
  have HB0 : Hid (Below w.heap.size w (w.alloc (.cells (kyC k) 45))) := Lib.hid ((Below.refl _ w).alloc (Nat.le_refl _) _)
  obtain ⟨rv, mb, f, vs, h⟩ := h
  have HA := Lib.hid (h.below HB0.out)
  have HA0 : Hid (AutoAt w ba F s) := Lib.hid ⟨rv, mb, f, vs, h⟩
  have HK := Lib.hid hk
  clear h hk
  have c0 : (w.alloc (.cells (kyC k) 45)).cell? ⟨ba, 20, none⟩ = some (.map (some mb)) := HA.out.cell rfl
  have c1 : (w.alloc (.cells (kyC k) 45)).cell? ⟨w.heap.size, 0, none⟩ = some (.int .u32 k.a0) := by simp [kyC]
  have c2 : (w.alloc (.cells (kyC k) 45)).cell? ⟨w.heap.size, 1, none⟩ = some (.int .u32 k.a1) := by simp [kyC]
  have c3 : (w.alloc (.cells (kyC k) 45)).cell? ⟨w.heap.size, 2, none⟩ = some (.int .u16 k.p0) := by simp [kyC]
  have c4 : (w.alloc (.cells (kyC k) 45)).cell? ⟨w.heap.size, 3, none⟩ = some (.int .u16 k.p1) := by simp [kyC]
  have c5 : (w.alloc (.cells (kyC k) 45)).cell? ⟨w.heap.size, 4, none⟩ = some (.int .u8 k.pr) := by simp [kyC]
  have HL : Hid (∀ v, Since (w.alloc (.cells (kyC k) 45)) v → (Instr.lookup 81 (.map (some mb)) (.agg #[.int .u32 k.a0, .int .u32 k.a1, .int .u16 k.p0, .int .u16 k.p1, .int .u8 k.pr]) true).run Tryz.prog v = .ok (.tuple #[.agg #[.int .u64 ((entG s.flows k).1 : Nat), .bool (entG s.flows k).2], .bool (hasL s.flows k)]) v) := Lib.hid (fun v hv => (HA.out.below hv).fl.look HK.out)
  generalize hew : (entG s.flows k).1 = ew at *
  generalize het : (entG s.flows k).2 = et at *
  have HGO := Lib.hid (fun (W : World) (hA : AutoAt W ba F s) => agoes_any HK.out hA hg)
  have HCK := Lib.hid (fun (W : World) (hA : AutoAt W ba F s) => clock_any hA hg)
  have HOV := Lib.hid (fun (W : World) => flowOver_any ew (clkW s.g : Nat) W HU.out)
  generalize hasL s.flows k = ok at *
  generalize hov : overW ew (clkW s.g : Nat) = ov at *
  generalize overS s k = res at *
  go_enter Tryz.func19, Tryz.ntmps19
  go_wp2_with fail
  generalize hw1 : w.alloc (.cells (kyC k) 45) = w1 at *
  have HS0 : Hid (Since w1 w1.drew) := Lib.hid ((Below.refl _ w1).trans ⟨rfl, rfl, rfl, Nat.le_refl _, fun _ _ => rfl⟩)
  have HS1 : Hid (Since w1 (w1.drew.alloc (.cells #[.int .u64 0, .bool false] 99))) := Lib.hid (Below.alloc HS0.out (Nat.le_refl _) _)
  have HS2 : Hid (Since w1 (w1.drew.alloc (.cells #[.int .u64 (ew : Nat), .bool et] 99))) := Lib.hid (Below.alloc HS0.out (Nat.le_refl _) _)
  refine WH.enter (Since w1) (by kernel_rfl) 12 rfl ?_
  refine WH.take 0 (some 10) rfl rfl (by kernel_rfl) (by kernel_rfl) (by kernel_rfl) (fun _ _ _ h => h) (by rfl) (fun v hv => by have k0 := hv.cell c0; have k1 := hv.cell c1; have k2 := hv.cell c2; have k3 := hv.cell c3; have k4 := hv.cell c4; have k5 := hv.cell c5; have kl := HL.out v hv; go_simp; first | done | with_reducible rfl | (rw [if_neg (by omega)])) HS0.out ?_; simp only [Act.put, List.setIfInBounds_toArray, List.set_cons_zero, List.set_cons_succ]
  refine WH.take 1 (some 11) rfl rfl (by kernel_rfl) (by kernel_rfl) (by kernel_rfl) (fun _ _ _ h => h) (by rfl) (fun v hv => by have k0 := hv.cell c0; have k1 := hv.cell c1; have k2 := hv.cell c2; have k3 := hv.cell c3; have k4 := hv.cell c4; have k5 := hv.cell c5; have kl := HL.out v hv; go_simp; first | done | with_reducible rfl | (rw [if_neg (by omega)])) HS0.out ?_; simp only [Act.put, List.setIfInBounds_toArray, List.set_cons_zero, List.set_cons_succ]
  refine WH.take 2 (some 12) rfl rfl (by kernel_rfl) (by kernel_rfl) (by kernel_rfl) (fun _ _ _ h => h) (by rfl) (fun v hv => by have k0 := hv.cell c0; have k1 := hv.cell c1; have k2 := hv.cell c2; have k3 := hv.cell c3; have k4 := hv.cell c4; have k5 := hv.cell c5; have kl := HL.out v hv; go_simp; first | done | with_reducible rfl | (rw [if_neg (by omega)])) HS0.out ?_; simp only [Act.put, List.setIfInBounds_toArray, List.set_cons_zero, List.set_cons_succ]
  refine WH.take 3 (some 13) rfl rfl (by kernel_rfl) (by kernel_rfl) (by kernel_rfl) (fun _ _ _ h => h) (by rfl) (fun v hv => by have k0 := hv.cell c0; have k1 := hv.cell c1; have k2 := hv.cell c2; have k3 := hv.cell c3; have k4 := hv.cell c4; have k5 := hv.cell c5; have kl := HL.out v hv; go_simp; first | done | with_reducible rfl | (rw [if_neg (by omega)])) HS0.out ?_; simp only [Act.put, List.setIfInBounds_toArray, List.set_cons_zero, List.set_cons_succ]
  refine WH.take 4 (some 14) rfl rfl (by kernel_rfl) (by kernel_rfl) (by kernel_rfl) (fun _ _ _ h => h) (by rfl) (fun v hv => by have k0 := hv.cell c0; have k1 := hv.cell c1; have k2 := hv.cell c2; have k3 := hv.cell c3; have k4 := hv.cell c4; have k5 := hv.cell c5; have kl := HL.out v hv; go_simp; first | done | with_reducible rfl | (rw [if_neg (by omega)])) HS0.out ?_; simp only [Act.put, List.setIfInBounds_toArray, List.set_cons_zero, List.set_cons_succ]
  refine WH.take 5 (some 15) rfl rfl (by kernel_rfl) (by kernel_rfl) (by kernel_rfl) (fun _ _ _ h => h) (by rfl) (fun v hv => by have k0 := hv.cell c0; have k1 := hv.cell c1; have k2 := hv.cell c2; have k3 := hv.cell c3; have k4 := hv.cell c4; have k5 := hv.cell c5; have kl := HL.out v hv; go_simp; first | done | with_reducible rfl | (rw [if_neg (by omega)])) HS0.out ?_; simp only [Act.put, List.setIfInBounds_toArray, List.set_cons_zero, List.set_cons_succ]
  refine WH.take 6 (some 9) rfl rfl (by kernel_rfl) (by kernel_rfl) (by kernel_rfl) (fun _ _ _ h => h) (by rfl) (fun v hv => by have k0 := hv.cell c0; have k1 := hv.cell c1; have k2 := hv.cell c2; have k3 := hv.cell c3; have k4 := hv.cell c4; have k5 := hv.cell c5; have kl := HL.out v hv; go_simp; first | done | with_reducible rfl | (rw [if_neg (by omega)])) HS0.out ?_; simp only [Act.put, List.setIfInBounds_toArray, List.set_cons_zero, List.set_cons_succ]
  refine WH.take 7 (some 16) rfl rfl (by kernel_rfl) (by kernel_rfl) (by kernel_rfl) (fun _ _ _ h => h) (by rfl) (fun v hv => by have k0 := hv.cell c0; have k1 := hv.cell c1; have k2 := hv.cell c2; have k3 := hv.cell c3; have k4 := hv.cell c4; have k5 := hv.cell c5; have kl := HL.out v hv; go_simp; first | done | with_reducible rfl | (rw [if_neg (by omega)])) HS0.out ?_; simp only [Act.put, List.setIfInBounds_toArray, List.set_cons_zero, List.set_cons_succ]
  refine WH.take 8 (some 17) rfl rfl (by kernel_rfl) (by kernel_rfl) (by kernel_rfl) (fun _ _ _ h => h) (by rfl) (fun v hv => by have k0 := hv.cell c0; have k1 := hv.cell c1; have k2 := hv.cell c2; have k3 := hv.cell c3; have k4 := hv.cell c4; have k5 := hv.cell c5; have kl := HL.out v hv; go_simp; first | done | with_reducible rfl | (rw [if_neg (by omega)])) HS0.out ?_; simp only [Act.put, List.setIfInBounds_toArray, List.set_cons_zero, List.set_cons_succ]
  refine WH.one 9 (by kernel_rfl) rfl (by rfl) ?_
  go_wp2_with fail
  refine ⟨HS1.out, ?_⟩
  refine WH.one 10 (by kernel_rfl) rfl (by rfl) ?_
  go_wp2_with fail
  refine ⟨HS2.out, ?_⟩
  refine WH.take 11 (some 6) rfl rfl (by kernel_rfl) (by kernel_rfl) (by kernel_rfl) (fun _ _ _ h => h) (by rfl) (fun v hv => by have k0 := hv.cell c0; have k1 := hv.cell c1; have k2 := hv.cell c2; have k3 := hv.cell c3; have k4 := hv.cell c4; have k5 := hv.cell c5; have kl := HL.out v hv; go_simp; first | done | with_reducible rfl | (rw [if_neg (by omega)])) HS2.out ?_; simp only [Act.put, List.setIfInBounds_toArray, List.set_cons_zero, List.set_cons_succ]
  refine WH.done (by kernel_rfl) ?_
  generalize hw2 : (w1.alloc (.cells #[.int .u64 (ew : Nat), .bool et] 99)).drew = w2 at *
  have HS2 : Hid (Since w1 w2) := Lib.hid (by rw [← hw2]; exact (Below.alloc (Below.refl _ w1) (Nat.le_refl _) _).trans ⟨rfl, rfl, rfl, Nat.le_refl _, fun _ _ => rfl⟩)
  have q1 := HS2.out.cell c1
  have q2 := HS2.out.cell c2
  have q3 := HS2.out.cell c3
  have q4 := HS2.out.cell c4
  have q5 := HS2.out.cell c5
  clear c0 c1 c2 c3 c4 c5 HL HS0 HS1
  have HA2 := Lib.hid (HA.out.below HS2.out)
  have HW2 : Hid (Below w.heap.size w w2) := Lib.hid (below_then HB0.out HS2.out)
  have d0 : w2.cell? ⟨w1.heap.size, 0, none⟩ = some (.int .u64 (ew : Nat)) := by rw [← hw2]; simp [go_sem]
  have HRES := Lib.hid HO.out
  cases ok with
  | false =>
    go_wp2_with fail
    refine WQ.enter w2 (Since.refl _) (by kernel_rfl) (by kernel_rfl) ?_
    refine WQ.val (by rfl) (fun v hv => by go_simp; first | done | with_reducible rfl | (rw [if_neg (by omega)])) ?_; simp only [Act.put, List.setIfInBounds_toArray, List.set_cons_zero, List.set_cons_succ]
    refine WQ.val (by rfl) (fun v hv => by go_simp; first | done | with_reducible rfl | (rw [if_neg (by omega)])) ?_; simp only [Act.put, List.setIfInBounds_toArray, List.set_cons_zero, List.set_cons_succ]
    refine WQ.val (by rfl) (fun v hv => by go_simp; first | done | with_reducible rfl | (rw [if_neg (by omega)])) ?_; simp only [Act.put, List.setIfInBounds_toArray, List.set_cons_zero, List.set_cons_succ]
    refine WQ.off (by rfl) ?_; simp only [Act.put, List.setIfInBounds_toArray, List.set_cons_zero, List.set_cons_succ]
    refine WQ.off (by rfl) ?_; simp only [Act.put, List.setIfInBounds_toArray, List.set_cons_zero, List.set_cons_succ]
    refine WQ.off (by rfl) ?_; simp only [Act.put, List.setIfInBounds_toArray, List.set_cons_zero, List.set_cons_succ]
    refine WQ.off (by rfl) ?_; simp only [Act.put, List.setIfInBounds_toArray, List.set_cons_zero, List.set_cons_succ]
    refine WQ.off (by rfl) ?_; simp only [Act.put, List.setIfInBounds_toArray, List.set_cons_zero, List.set_cons_succ]
    refine WQ.off (by rfl) ?_; simp only [Act.put, List.setIfInBounds_toArray, List.set_cons_zero, List.set_cons_succ]
    refine WQ.val (by rfl) (fun v hv => by go_simp; first | done | with_reducible rfl | (rw [if_neg (by omega)])) ?_; simp only [Act.put, List.setIfInBounds_toArray, List.set_cons_zero, List.set_cons_succ]
    refine WQ.done ?_
    intro w3 hw3
    go_wp2_with fail
    go_ret
    have hr : res = false := HRES.out
    exact ⟨by (rw [hr]) <;> rfl, by rw [HV.out, hr]; exact HA0.out.below (below_then HW2.out hw3), Turn.of_below (below_then HW2.out hw3)⟩
  | true =>
    go_wp2_with fail
    refine WQ.enter w2 (Since.refl _) (by kernel_rfl) (by kernel_rfl) ?_
    refine WQ.val (by rfl) (fun v hv => by have k0 := hv.cell d0; go_simp; first | done | with_reducible rfl | (rw [if_neg (by omega)])) ?_; simp only [Act.put, List.setIfInBounds_toArray, List.set_cons_zero, List.set_cons_succ]
    refine WQ.val (by rfl) (fun v hv => by have k0 := hv.cell d0; go_simp; first | done | with_reducible rfl | (rw [if_neg (by omega)])) ?_; simp only [Act.put, List.setIfInBounds_toArray, List.set_cons_zero, List.set_cons_succ]
    refine WQ.val (by rfl) (fun v hv => by have k0 := hv.cell d0; go_simp; first | done | with_reducible rfl | (rw [if_neg (by omega)])) ?_; simp only [Act.put, List.setIfInBounds_toArray, List.set_cons_zero, List.set_cons_succ]
    refine WQ.val (by rfl) (fun v hv => by have k0 := hv.cell d0; go_simp; first | done | with_reducible rfl | (rw [if_neg (by omega)])) ?_; simp only [Act.put, List.setIfInBounds_toArray, List.set_cons_zero, List.set_cons_succ]
    refine WQ.val (by rfl) (fun v hv => by have k0 := hv.cell d0; go_simp; first | done | with_reducible rfl | (rw [if_neg (by omega)])) ?_; simp only [Act.put, List.setIfInBounds_toArray, List.set_cons_zero, List.set_cons_succ]
    refine WQ.val (by rfl) (fun v hv => by have k0 := hv.cell d0; go_simp; first | done | with_reducible rfl | (rw [if_neg (by omega)])) ?_; simp only [Act.put, List.setIfInBounds_toArray, List.set_cons_zero, List.set_cons_succ]
    refine WQ.call (f := 46) (args := #[.pointer (some ⟨ba, 0, none⟩)]) (by rfl) (fun v hv => by go_simp) (fun v hv => (HCK.out v ⟨rv, mb, f, vs, HA2.out.below hv⟩).mono (fun e v' ⟨he, hb⟩ => ⟨he, hv.step hb⟩)) ?_; simp only [Act.put, List.setIfInBounds_toArray, List.set_cons_zero, List.set_cons_succ]
    refine WQ.call (f := 45) (args := #[.int .u64 (ew : Nat), .int .i64 (clkW s.g : Nat)]) (by rfl) (fun v hv => by go_simp) (fun v hv => (HOV.out v).mono (fun e v' ⟨he, hb⟩ => ⟨he, hv.step hb⟩)) ?_; simp only [Act.put, List.setIfInBounds_toArray, List.set_cons_zero, List.set_cons_succ]
    refine WQ.val (by rfl) (fun v hv => by have k0 := hv.cell d0; go_simp; first | done | with_reducible rfl | (rw [if_neg (by omega)])) ?_; simp only [Act.put, List.setIfInBounds_toArray, List.set_cons_zero, List.set_cons_succ]
    refine WQ.val (by rfl) (fun v hv => by have k0 := hv.cell d0; go_simp; first | done | with_reducible rfl | (rw [if_neg (by omega)])) ?_; simp only [Act.put, List.setIfInBounds_toArray, List.set_cons_zero, List.set_cons_succ]
    refine WQ.done ?_
    intro w3 hw3
    have r1 := hw3.cell q1
    have r2 := hw3.cell q2
    have r3 := hw3.cell q3
    have r4 := hw3.cell q4
    have r5 := hw3.cell q5
    have HA3 := Lib.hid (HA2.out.below hw3)
    have HW3 := Lib.hid (below_then HW2.out hw3)
    have hr : Hid (res = ov) := Lib.hid (by rw [HRES.out]; rfl)
    clear q1 q2 q3 q4 q5 d0 hw3 HO HRES
    cases ov with
    | false =>
      go_wp2_with fail
      go_ret
      exact ⟨by (rw [hr.out]) <;> rfl, by rw [HV.out, hr.out]; exact HA0.out.below HW3.out, Turn.of_below HW3.out⟩
    | true =>
      go_wp2_with fail
      refine (HGO.out _ ⟨rv, mb, f, vs, HA3.out⟩).mono ?_
      rintro e w4 ⟨⟨v, rfl⟩, hA4, hT4⟩
      have HA4 := Lib.hid hA4
      have HT4 := Lib.hid hT4
      clear hA4 hT4
      go_wp2_with fail
      go_ret
      exact ⟨by (rw [hr.out]) <;> rfl, by rw [HV.out, hr.out]; exact HA4.out, (Turn.of_below HW3.out).trans HT4.out (fun i h => .inl h)⟩
/-- What Look answers. -/
def lookW (s : St) (k : Ky) : Nat := (entG s.flows k).1
set_option maxHeartbeats 4000000 in
set_option maxRecDepth 100000 in
theorem look_any {w : World} {ba : Nat} {F : Nat → Prop} {s : St} {k : Ky} (hk : k.In) (h : AutoAt w ba F s) (hs : s.Ok) :
    Calls Tryz.prog 15 #[.pointer (some ⟨ba, 0, none⟩), kyV k] w fun e w' => e = .returned (.tuple #[flowV (lookW s k), .bool (hasL s.flows k)]) ∧ Below w.heap.size w w' := by
  have HU : Hid (U64 (entG s.flows k).1) := Lib.hid (by
    unfold entG
    cases he : getL s.flows k with
    | none => show (0 : Nat) < _; decide
    | some e => exact (hs.at_ he).2.1)
  unfold lookW
  clear hs
  have HB0 : Hid (Below w.heap.size w ((w.alloc (.cells (kyC k) 45)).alloc (.cells #[.int .i64 0, .int .i64 0, .int .i64 0] 50))) := Lib.hid (((Below.refl _ w).alloc (Nat.le_refl _) _).alloc (by simp) _)
  obtain ⟨rv, mb, f, vs, h⟩ := h
  have HA := Lib.hid (h.below HB0.out)
  have HA0 : Hid (AutoAt w ba F s) := Lib.hid ⟨rv, mb, f, vs, h⟩
  have HK := Lib.hid hk
  clear h hk
  have c0 : ((w.alloc (.cells (kyC k) 45)).alloc (.cells #[.int .i64 0, .int .i64 0, .int .i64 0] 50)).cell? ⟨ba, 20, none⟩ = some (.map (some mb)) := HA.out.cell rfl
  have c1 : ((w.alloc (.cells (kyC k) 45)).alloc (.cells #[.int .i64 0, .int .i64 0, .int .i64 0] 50)).cell? ⟨w.heap.size, 0, none⟩ = some (.int .u32 k.a0) := by rw [World.cell?_alloc_lt _ _ _ (by simp)]; simp [kyC]
  have c2 : ((w.alloc (.cells (kyC k) 45)).alloc (.cells #[.int .i64 0, .int .i64 0, .int .i64 0] 50)).cell? ⟨w.heap.size, 1, none⟩ = some (.int .u32 k.a1) := by rw [World.cell?_alloc_lt _ _ _ (by simp)]; simp [kyC]
  have c3 : ((w.alloc (.cells (kyC k) 45)).alloc (.cells #[.int .i64 0, .int .i64 0, .int .i64 0] 50)).cell? ⟨w.heap.size, 2, none⟩ = some (.int .u16 k.p0) := by rw [World.cell?_alloc_lt _ _ _ (by simp)]; simp [kyC]
  have c4 : ((w.alloc (.cells (kyC k) 45)).alloc (.cells #[.int .i64 0, .int .i64 0, .int .i64 0] 50)).cell? ⟨w.heap.size, 3, none⟩ = some (.int .u16 k.p1) := by rw [World.cell?_alloc_lt _ _ _ (by simp)]; simp [kyC]
  have c5 : ((w.alloc (.cells (kyC k) 45)).alloc (.cells #[.int .i64 0, .int .i64 0, .int .i64 0] 50)).cell? ⟨w.heap.size, 4, none⟩ = some (.int .u8 k.pr) := by rw [World.cell?_alloc_lt _ _ _ (by simp)]; simp [kyC]
  have HL : Hid (∀ v, Since ((w.alloc (.cells (kyC k) 45)).alloc (.cells #[.int .i64 0, .int .i64 0, .int .i64 0] 50)) v → (Instr.lookup 81 (.map (some mb)) (.agg #[.int .u32 k.a0, .int .u32 k.a1, .int .u16 k.p0, .int .u16 k.p1, .int .u8 k.pr]) true).run Tryz.prog v = .ok (.tuple #[.agg #[.int .u64 ((entG s.flows k).1 : Nat), .bool (entG s.flows k).2], .bool (hasL s.flows k)]) v) := Lib.hid (fun v hv => (HA.out.below hv).fl.look HK.out)
  generalize hew : (entG s.flows k).1 = ew at *
  generalize het : (entG s.flows k).2 = et at *
  have HUN := Lib.hid (fun (W : World) => funpack_any ew W HU.out)
  generalize hasL s.flows k = ok at *
  go_enter Tryz.func15, Tryz.ntmps15
  go_wp2_with fail
  have hbx : ((w.alloc (.cells (kyC k) 45)).alloc (.cells #[.int .i64 0, .int .i64 0, .int .i64 0] 50)).heap[w.heap.size + 1]? = some (.cells #[.int .i64 0, .int .i64 0, .int .i64 0] 50 (0, 0)) := by
    have e : (w.alloc (.cells (kyC k) 45)).heap.size = w.heap.size + 1 := by simp
    rw [← e]
    exact World.alloc_heap_new _ _
  generalize hw1 : (w.alloc (.cells (kyC k) 45)).alloc (.cells #[.int .i64 0, .int .i64 0, .int .i64 0] 50) = w1 at *
  have HS0 : Hid (Since w1 w1.drew) := Lib.hid ((Below.refl _ w1).trans ⟨rfl, rfl, rfl, Nat.le_refl _, fun _ _ => rfl⟩)
  have HS1 : Hid (Since w1 (w1.drew.alloc (.cells #[.int .u64 0, .bool false] 99))) := Lib.hid (Below.alloc HS0.out (Nat.le_refl _) _)
  have HS2 : Hid (Since w1 (w1.drew.alloc (.cells #[.int .u64 (ew : Nat), .bool et] 99))) := Lib.hid (Below.alloc HS0.out (Nat.le_refl _) _)
  refine WH.enter (Since w1) (by kernel_rfl) 12 rfl ?_
  refine WH.take 0 (some 12) rfl rfl (by kernel_rfl) (by kernel_rfl) (by kernel_rfl) (fun _ _ _ h => h) (by rfl) (fun v hv => by have k0 := hv.cell c0; have k1 := hv.cell c1; have k2 := hv.cell c2; have k3 := hv.cell c3; have k4 := hv.cell c4; have k5 := hv.cell c5; have kl := HL.out v hv; go_simp; first | done | with_reducible rfl | (rw [if_neg (by omega)])) HS0.out ?_; simp only [Act.put, List.setIfInBounds_toArray, List.set_cons_zero, List.set_cons_succ]
  refine WH.take 1 (some 13) rfl rfl (by kernel_rfl) (by kernel_rfl) (by kernel_rfl) (fun _ _ _ h => h) (by rfl) (fun v hv => by have k0 := hv.cell c0; have k1 := hv.cell c1; have k2 := hv.cell c2; have k3 := hv.cell c3; have k4 := hv.cell c4; have k5 := hv.cell c5; have kl := HL.out v hv; go_simp; first | done | with_reducible rfl | (rw [if_neg (by omega)])) HS0.out ?_; simp only [Act.put, List.setIfInBounds_toArray, List.set_cons_zero, List.set_cons_succ]
  refine WH.take 2 (some 14) rfl rfl (by kernel_rfl) (by kernel_rfl) (by kernel_rfl) (fun _ _ _ h => h) (by rfl) (fun v hv => by have k0 := hv.cell c0; have k1 := hv.cell c1; have k2 := hv.cell c2; have k3 := hv.cell c3; have k4 := hv.cell c4; have k5 := hv.cell c5; have kl := HL.out v hv; go_simp; first | done | with_reducible rfl | (rw [if_neg (by omega)])) HS0.out ?_; simp only [Act.put, List.setIfInBounds_toArray, List.set_cons_zero, List.set_cons_succ]
  refine WH.take 3 (some 15) rfl rfl (by kernel_rfl) (by kernel_rfl) (by kernel_rfl) (fun _ _ _ h => h) (by rfl) (fun v hv => by have k0 := hv.cell c0; have k1 := hv.cell c1; have k2 := hv.cell c2; have k3 := hv.cell c3; have k4 := hv.cell c4; have k5 := hv.cell c5; have kl := HL.out v hv; go_simp; first | done | with_reducible rfl | (rw [if_neg (by omega)])) HS0.out ?_; simp only [Act.put, List.setIfInBounds_toArray, List.set_cons_zero, List.set_cons_succ]
  refine WH.take 4 (some 16) rfl rfl (by kernel_rfl) (by kernel_rfl) (by kernel_rfl) (fun _ _ _ h => h) (by rfl) (fun v hv => by have k0 := hv.cell c0; have k1 := hv.cell c1; have k2 := hv.cell c2; have k3 := hv.cell c3; have k4 := hv.cell c4; have k5 := hv.cell c5; have kl := HL.out v hv; go_simp; first | done | with_reducible rfl | (rw [if_neg (by omega)])) HS0.out ?_; simp only [Act.put, List.setIfInBounds_toArray, List.set_cons_zero, List.set_cons_succ]
  refine WH.take 5 (some 17) rfl rfl (by kernel_rfl) (by kernel_rfl) (by kernel_rfl) (fun _ _ _ h => h) (by rfl) (fun v hv => by have k0 := hv.cell c0; have k1 := hv.cell c1; have k2 := hv.cell c2; have k3 := hv.cell c3; have k4 := hv.cell c4; have k5 := hv.cell c5; have kl := HL.out v hv; go_simp; first | done | with_reducible rfl | (rw [if_neg (by omega)])) HS0.out ?_; simp only [Act.put, List.setIfInBounds_toArray, List.set_cons_zero, List.set_cons_succ]
  refine WH.take 6 (some 11) rfl rfl (by kernel_rfl) (by kernel_rfl) (by kernel_rfl) (fun _ _ _ h => h) (by rfl) (fun v hv => by have k0 := hv.cell c0; have k1 := hv.cell c1; have k2 := hv.cell c2; have k3 := hv.cell c3; have k4 := hv.cell c4; have k5 := hv.cell c5; have kl := HL.out v hv; go_simp; first | done | with_reducible rfl | (rw [if_neg (by omega)])) HS0.out ?_; simp only [Act.put, List.setIfInBounds_toArray, List.set_cons_zero, List.set_cons_succ]
  refine WH.take 7 (some 18) rfl rfl (by kernel_rfl) (by kernel_rfl) (by kernel_rfl) (fun _ _ _ h => h) (by rfl) (fun v hv => by have k0 := hv.cell c0; have k1 := hv.cell c1; have k2 := hv.cell c2; have k3 := hv.cell c3; have k4 := hv.cell c4; have k5 := hv.cell c5; have kl := HL.out v hv; go_simp; first | done | with_reducible rfl | (rw [if_neg (by omega)])) HS0.out ?_; simp only [Act.put, List.setIfInBounds_toArray, List.set_cons_zero, List.set_cons_succ]
  refine WH.take 8 (some 19) rfl rfl (by kernel_rfl) (by kernel_rfl) (by kernel_rfl) (fun _ _ _ h => h) (by rfl) (fun v hv => by have k0 := hv.cell c0; have k1 := hv.cell c1; have k2 := hv.cell c2; have k3 := hv.cell c3; have k4 := hv.cell c4; have k5 := hv.cell c5; have kl := HL.out v hv; go_simp; first | done | with_reducible rfl | (rw [if_neg (by omega)])) HS0.out ?_; simp only [Act.put, List.setIfInBounds_toArray, List.set_cons_zero, List.set_cons_succ]
  refine WH.one 9 (by kernel_rfl) rfl (by rfl) ?_
  go_wp2_with fail
  refine ⟨HS1.out, ?_⟩
  refine WH.one 10 (by kernel_rfl) rfl (by rfl) ?_
  go_wp2_with fail
  refine ⟨HS2.out, ?_⟩
  refine WH.take 11 (some 7) rfl rfl (by kernel_rfl) (by kernel_rfl) (by kernel_rfl) (fun _ _ _ h => h) (by rfl) (fun v hv => by have k0 := hv.cell c0; have k1 := hv.cell c1; have k2 := hv.cell c2; have k3 := hv.cell c3; have k4 := hv.cell c4; have k5 := hv.cell c5; have kl := HL.out v hv; go_simp; first | done | with_reducible rfl | (rw [if_neg (by omega)])) HS2.out ?_; simp only [Act.put, List.setIfInBounds_toArray, List.set_cons_zero, List.set_cons_succ]
  refine WH.done (by kernel_rfl) ?_
  generalize hw2 : (w1.alloc (.cells #[.int .u64 (ew : Nat), .bool et] 99)).drew = w2 at *
  have HS2 : Hid (Since w1 w2) := Lib.hid (by rw [← hw2]; exact (Below.alloc (Below.refl _ w1) (Nat.le_refl _) _).trans ⟨rfl, rfl, rfl, Nat.le_refl _, fun _ _ => rfl⟩)
  have q1 := HS2.out.cell c1
  have q2 := HS2.out.cell c2
  have q3 := HS2.out.cell c3
  have q4 := HS2.out.cell c4
  have q5 := HS2.out.cell c5
  clear c0 c1 c2 c3 c4 c5 HL HS0 HS1
  have HW2 : Hid (Below w.heap.size w w2) := Lib.hid (below_then HB0.out HS2.out)
  have d0 : w2.cell? ⟨w1.heap.size, 0, none⟩ = some (.int .u64 (ew : Nat)) := by rw [← hw2]; simp [go_sem]
  have hbx2 : w2.heap[w.heap.size + 1]? = some (.cells #[.int .i64 0, .int .i64 0, .int .i64 0] 50 (0, 0)) := (HS2.out.block _ (Array.getElem?_eq_some_iff.1 hbx).1).trans hbx
  clear q1 q2 q3 q4 q5 hbx
  go_wp2_with fail
  refine (HUN.out _).mono ?_
  rintro e w3 ⟨rfl, h3⟩
  have hbk := (h3.block _ (Array.getElem?_eq_some_iff.1 hbx2).1).trans hbx2
  have k0 : w3.cell? ⟨w.heap.size + 1, 0, none⟩ = some (.int .i64 0) := by simp [World.cell?, hbk]
  have k1 : w3.cell? ⟨w.heap.size + 1, 1, none⟩ = some (.int .i64 0) := by simp [World.cell?, hbk]
  have k2 : w3.cell? ⟨w.heap.size + 1, 2, none⟩ = some (.int .i64 0) := by simp [World.cell?, hbk]
  have g0 : w3.frozen? ⟨w.heap.size + 1, 0, none⟩ = false := by simp [World.frozen?, hbk]
  have g1 : w3.frozen? ⟨w.heap.size + 1, 1, none⟩ = false := by simp [World.frozen?, hbk]
  have g2 : w3.frozen? ⟨w.heap.size + 1, 2, none⟩ = false := by simp [World.frozen?, hbk]
  have HBE : Hid (Below w.heap.size w (((w3.setCell ⟨w.heap.size + 1, 0, none⟩ (.int .i64 (stW ew))).setCell ⟨w.heap.size + 1, 1, none⟩ (.int .i64 (seqW ew))).setCell ⟨w.heap.size + 1, 2, none⟩ (.int .i64 (untW ew)))) := Lib.hid ((((below_then HW2.out h3).setCell (p := ⟨w.heap.size + 1, 0, none⟩) (Nat.le_succ _) _).setCell (p := ⟨w.heap.size + 1, 1, none⟩) (Nat.le_succ _) _).setCell (p := ⟨w.heap.size + 1, 2, none⟩) (Nat.le_succ _) _)
  clear h3 hbk hbx2 d0
  unfold flowV
  go_wp2_with fail
  exact bodyPost_ret (v := .tuple #[.agg #[.int .i64 (stW ew), .int .i64 (seqW ew), .int .i64 (untW ew)], .bool ok]) (by simp [results, Tryz.results15, go_sem, *]) rfl ⟨rfl, HBE.out⟩
end Go.Proofs.YtahgapkecabnjaaGreatDoor
