/- The engine: Act. Printed by gen_autoj.py. -/
import Derived.Test.YtahgapkecabnjaaGreatDoorC14
namespace Go.Proofs.YtahgapkecabnjaaGreatDoor
set_option linter.unusedSimpArgs false
set_option linter.unusedVariables false
open Go Go.RowKit Go.Shelf Go.Lib Go.Maps Go.MapKept
open Go.ChangeMaps (setBlock)

theorem Turn.at_ {F : Nat → Prop} {w w' : World} (h : Turn F w w') {b : Nat} (hb : b < w.heap.size) (hf : ¬ F b) {o : Nat} {v : Value} (hc : w.cell? ⟨b, o, none⟩ = some v) : w'.cell? ⟨b, o, none⟩ = some v :=
  (World.cell?_of_block (w := w) (h.block b hb hf)).trans hc
theorem ActPost_two {s : St} {p : Pk} {k : Ky} {t : Bool} {ew : Nat} {et : Bool} (h : hasL s.flows k = true) (he : entG s.flows k = (ew, et)) : actK s p k t = onS s p k t (ew, et) := by
  obtain ⟨e, h1⟩ := hasL_some h
  unfold entG at he
  rw [h1] at he
  unfold actK
  rw [h1, show e = (ew, et) from he]
theorem ActPost_none {s : St} {p : Pk} {k : Ky} {t : Bool} (h : hasL s.flows k = false) : actK s p k t = beginS s p k t ∧ getL s.flows k = none := by
  unfold hasL at h
  have h1 : getL s.flows k = none := by simpa using h
  unfold actK
  rw [h1]
  exact ⟨rfl, rfl⟩
set_option maxHeartbeats 8000000 in
set_option maxRecDepth 100000 in
theorem act_any {w : World} {ba : Nat} {F : Nat → Prop} {s : St} {p : Pk} (hp : PkIn p) (h : AutoAt w ba F s) (hs : s.Ok) (hF : ∀ i, F i → i < w.heap.size) :
    Calls Tryz.prog 21 #[.pointer (some ⟨ba, 0, none⟩), .agg (pkC p)] w fun e w' => e = .returned (.int .i64 (actS s p).2) ∧ AutoAt w' ba F (actS s p).1 ∧ Turn F w w' := by
  have HB0 : Hid (Below w.heap.size w (w.alloc (.cells (pkC p) 41))) := Lib.hid ((Below.refl _ w).alloc (Nat.le_refl _) _)
  have HA := Lib.hid (h.below HB0.out)
  have HP := Lib.hid hp
  have HF := Lib.hid hF
  have hk := keyF_in hp
  have HZ := Lib.hid (deleteS_ok hs (keyF p).1)
  have HOF := Lib.hid (fun W => of_any p W hp)
  have HDE := Lib.hid (fun W (hA : AutoAt W ba F s) => delete_any hk hA hs)
  have HV : Hid (actS s p = actK (deleteS s (keyF p).1) p (keyF p).1 (keyF p).2) := Lib.hid rfl
  generalize actS s p = res at *
  generalize (keyF p).1 = k at *
  generalize (keyF p).2 = t at *
  generalize overS s k = dv at *
  generalize deleteS s k = z at *
  have HK := Lib.hid hk
  have HOF : Hid (∀ W, Calls Tryz.prog 18 #[.agg (pkC p)] W fun e w' => e = .returned (.tuple #[.agg #[.int .u32 k.a0, .int .u32 k.a1, .int .u16 k.p0, .int .u16 k.p1, .int .u8 k.pr], .bool t]) ∧ Below W.heap.size W w') := HOF
  clear h hp hk hs hF
  have p0 : (w.alloc (.cells (pkC p) 41)).cell? ⟨w.heap.size, 0, none⟩ = some (.int .u8 p.proto) := by simp [pkC]
  have p1 : (w.alloc (.cells (pkC p) 41)).cell? ⟨w.heap.size, 1, none⟩ = some (.int .u32 p.src) := by simp [pkC]
  have p2 : (w.alloc (.cells (pkC p) 41)).cell? ⟨w.heap.size, 2, none⟩ = some (.int .u32 p.dst) := by simp [pkC]
  have p3 : (w.alloc (.cells (pkC p) 41)).cell? ⟨w.heap.size, 3, none⟩ = some (.int .u16 p.sport) := by simp [pkC]
  have p4 : (w.alloc (.cells (pkC p) 41)).cell? ⟨w.heap.size, 4, none⟩ = some (.int .u16 p.dport) := by simp [pkC]
  have p5 : (w.alloc (.cells (pkC p) 41)).cell? ⟨w.heap.size, 5, none⟩ = some (.int .u8 p.flags) := by simp [pkC]
  have p6 : (w.alloc (.cells (pkC p) 41)).cell? ⟨w.heap.size, 6, none⟩ = some (.int .u8 p.kind) := by simp [pkC]
  go_enter Tryz.func21, Tryz.ntmps21
  go_wp2_with fail
  refine (HOF.out _).mono ?_
  rintro e w2 ⟨rfl, h2⟩
  have q0 := Since.cell h2 p0
  have q1 := Since.cell h2 p1
  have q2 := Since.cell h2 p2
  have q3 := Since.cell h2 p3
  have q4 := Since.cell h2 p4
  have q5 := Since.cell h2 p5
  have q6 := Since.cell h2 p6
  have HB2 := Lib.hid (below_then HB0.out h2)
  have HA2 := Lib.hid (HA.out.below h2)
  have hz2 : w.heap.size < w2.heap.size := by have := h2.size; simp at this; omega
  have HB3 : Hid (Below w2.heap.size w2 (w2.alloc (.cells #[.int .u32 k.a0, .int .u32 k.a1, .int .u16 k.p0, .int .u16 k.p1, .int .u8 k.pr] 45))) := Lib.hid ((Below.refl _ w2).alloc (Nat.le_refl _) _)
  clear p0 p1 p2 p3 p4 p5 p6 h2
  have c1 : (w2.alloc (.cells #[.int .u32 k.a0, .int .u32 k.a1, .int .u16 k.p0, .int .u16 k.p1, .int .u8 k.pr] 45)).cell? ⟨w2.heap.size, 0, none⟩ = some (.int .u32 k.a0) := by simp
  have c2 : (w2.alloc (.cells #[.int .u32 k.a0, .int .u32 k.a1, .int .u16 k.p0, .int .u16 k.p1, .int .u8 k.pr] 45)).cell? ⟨w2.heap.size, 1, none⟩ = some (.int .u32 k.a1) := by simp
  have c3 : (w2.alloc (.cells #[.int .u32 k.a0, .int .u32 k.a1, .int .u16 k.p0, .int .u16 k.p1, .int .u8 k.pr] 45)).cell? ⟨w2.heap.size, 2, none⟩ = some (.int .u16 k.p0) := by simp
  have c4 : (w2.alloc (.cells #[.int .u32 k.a0, .int .u32 k.a1, .int .u16 k.p0, .int .u16 k.p1, .int .u8 k.pr] 45)).cell? ⟨w2.heap.size, 3, none⟩ = some (.int .u16 k.p1) := by simp
  have c5 : (w2.alloc (.cells #[.int .u32 k.a0, .int .u32 k.a1, .int .u16 k.p0, .int .u16 k.p1, .int .u8 k.pr] 45)).cell? ⟨w2.heap.size, 4, none⟩ = some (.int .u8 k.pr) := by simp
  have s0 := Since.cell HB3.out q0
  have s1 := Since.cell HB3.out q1
  have s2 := Since.cell HB3.out q2
  have s3 := Since.cell HB3.out q3
  have s4 := Since.cell HB3.out q4
  have s5 := Since.cell HB3.out q5
  have s6 := Since.cell HB3.out q6
  clear q0 q1 q2 q3 q4 q5 q6
  go_wp2_with fail
  refine (HDE.out _ (HA2.out.below HB3.out)).mono ?_
  rintro e w4 ⟨rfl, hA4, hT4⟩
  obtain ⟨rv, mb, f, vs, hA4⟩ := hA4
  have HA4 := Lib.hid hA4
  have HFM := Lib.hid hA4.fmb
  have HFB := Lib.hid hA4.fba
  have hn0 : ¬ F w.heap.size := fun h => absurd (HF.out _ h) (by omega)
  have hn1 : ¬ F w2.heap.size := fun h => by have := HF.out _ h; omega
  have hlt0 : w.heap.size < (w2.alloc (.cells #[.int .u32 k.a0, .int .u32 k.a1, .int .u16 k.p0, .int .u16 k.p1, .int .u8 k.pr] 45)).heap.size := by simp; omega
  have hlt1 : w2.heap.size < (w2.alloc (.cells #[.int .u32 k.a0, .int .u32 k.a1, .int .u16 k.p0, .int .u16 k.p1, .int .u8 k.pr] 45)).heap.size := by simp
  have HT4 : Hid (Turn F w w4) := Lib.hid ((Turn.of_below (F := F) (below_then HB2.out HB3.out)).trans hT4 (fun i h => .inl h))
  have hz4 : w2.heap.size < w4.heap.size := by have := hT4.size; simp at this; omega
  have q0 := hT4.at_ hlt0 hn0 s0
  have q1 := hT4.at_ hlt0 hn0 s1
  have q2 := hT4.at_ hlt0 hn0 s2
  have q3 := hT4.at_ hlt0 hn0 s3
  have q4 := hT4.at_ hlt0 hn0 s4
  have q5 := hT4.at_ hlt0 hn0 s5
  have q6 := hT4.at_ hlt0 hn0 s6
  have d1 := hT4.at_ hlt1 hn1 c1
  have d2 := hT4.at_ hlt1 hn1 c2
  have d3 := hT4.at_ hlt1 hn1 c3
  have d4 := hT4.at_ hlt1 hn1 c4
  have d5 := hT4.at_ hlt1 hn1 c5
  clear s0 s1 s2 s3 s4 s5 s6 c1 c2 c3 c4 c5 hA4 hT4 hlt0 hlt1 HDE HOF HA HA2
  have c0 : w4.cell? ⟨ba, 20, none⟩ = some (.map (some mb)) := HA4.out.cell rfl
  have HL : Hid (∀ v, Since w4 v → (Instr.lookup 81 (.map (some mb)) (.agg #[.int .u32 k.a0, .int .u32 k.a1, .int .u16 k.p0, .int .u16 k.p1, .int .u8 k.pr]) true).run Tryz.prog v = .ok (.tuple #[.agg #[.int .u64 ((entG z.flows k).1 : Nat), .bool (entG z.flows k).2], .bool (hasL z.flows k)]) v) := Lib.hid (fun v hv => (HA4.out.below hv).fl.look HK.out)
  have HU : Hid (U64 (entG z.flows k).1 ∧ stW (entG z.flows k).1 ≤ 15) := Lib.hid (by
    unfold entG
    cases he : getL z.flows k with
    | none => exact ⟨by show (0 : Nat) < _; decide, by show stW 0 ≤ 15; decide⟩
    | some e => exact ⟨(HZ.out.at_ he).2.1, by have := (HZ.out.at_ he).2.2.2; show stW e.1 ≤ 15; omega⟩)
  have HV1 : Hid (hasL z.flows k = false → res = beginS z p k t) := Lib.hid (fun h => by rw [HV.out, (ActPost_none h).1])
  have HV2 : Hid (hasL z.flows k = true → res = onS z p k t ((entG z.flows k).1, (entG z.flows k).2)) := Lib.hid (fun h => by rw [HV.out]; exact ActPost_two h rfl)
  have HBG := Lib.hid (fun W (hA : AutoAt W ba F z) => begin_any t HK.out HP.out hA HZ.out)
  clear HV
  generalize (entG z.flows k).1 = ew at *
  generalize (entG z.flows k).2 = et at *
  generalize hasL z.flows k = ok at *
  have c1 := d1
  have c2 := d2
  have c3 := d3
  have c4 := d4
  have c5 := d5
  clear d1 d2 d3 d4 d5
  go_wp2_with fail
  have HS0 : Hid (Since w4 w4.drew) := Lib.hid ((Below.refl _ w4).trans ⟨rfl, rfl, rfl, Nat.le_refl _, fun _ _ => rfl⟩)
  have HS1 : Hid (Since w4 (w4.drew.alloc (.cells #[.int .u64 0, .bool false] 99))) := Lib.hid (Below.alloc HS0.out (Nat.le_refl _) _)
  have HS2 : Hid (Since w4 (w4.drew.alloc (.cells #[.int .u64 (ew : Nat), .bool et] 99))) := Lib.hid (Below.alloc HS0.out (Nat.le_refl _) _)
  refine WH.enter (Since w4) (by kernel_rfl) 12 rfl ?_
  refine WH.take 0 (some 25) rfl rfl (by kernel_rfl) (by kernel_rfl) (by kernel_rfl) (fun _ _ _ h => h) (by rfl) (fun v hv => by have k0 := hv.cell c0; have k1 := hv.cell c1; have k2 := hv.cell c2; have k3 := hv.cell c3; have k4 := hv.cell c4; have k5 := hv.cell c5; have kl := HL.out v hv; go_simp; first | done | with_reducible rfl | (rw [if_neg (by omega)])) HS0.out ?_; simp only [Act.put, List.setIfInBounds_toArray, List.set_cons_zero, List.set_cons_succ]
  refine WH.take 1 (some 26) rfl rfl (by kernel_rfl) (by kernel_rfl) (by kernel_rfl) (fun _ _ _ h => h) (by rfl) (fun v hv => by have k0 := hv.cell c0; have k1 := hv.cell c1; have k2 := hv.cell c2; have k3 := hv.cell c3; have k4 := hv.cell c4; have k5 := hv.cell c5; have kl := HL.out v hv; go_simp; first | done | with_reducible rfl | (rw [if_neg (by omega)])) HS0.out ?_; simp only [Act.put, List.setIfInBounds_toArray, List.set_cons_zero, List.set_cons_succ]
  refine WH.take 2 (some 27) rfl rfl (by kernel_rfl) (by kernel_rfl) (by kernel_rfl) (fun _ _ _ h => h) (by rfl) (fun v hv => by have k0 := hv.cell c0; have k1 := hv.cell c1; have k2 := hv.cell c2; have k3 := hv.cell c3; have k4 := hv.cell c4; have k5 := hv.cell c5; have kl := HL.out v hv; go_simp; first | done | with_reducible rfl | (rw [if_neg (by omega)])) HS0.out ?_; simp only [Act.put, List.setIfInBounds_toArray, List.set_cons_zero, List.set_cons_succ]
  refine WH.take 3 (some 28) rfl rfl (by kernel_rfl) (by kernel_rfl) (by kernel_rfl) (fun _ _ _ h => h) (by rfl) (fun v hv => by have k0 := hv.cell c0; have k1 := hv.cell c1; have k2 := hv.cell c2; have k3 := hv.cell c3; have k4 := hv.cell c4; have k5 := hv.cell c5; have kl := HL.out v hv; go_simp; first | done | with_reducible rfl | (rw [if_neg (by omega)])) HS0.out ?_; simp only [Act.put, List.setIfInBounds_toArray, List.set_cons_zero, List.set_cons_succ]
  refine WH.take 4 (some 29) rfl rfl (by kernel_rfl) (by kernel_rfl) (by kernel_rfl) (fun _ _ _ h => h) (by rfl) (fun v hv => by have k0 := hv.cell c0; have k1 := hv.cell c1; have k2 := hv.cell c2; have k3 := hv.cell c3; have k4 := hv.cell c4; have k5 := hv.cell c5; have kl := HL.out v hv; go_simp; first | done | with_reducible rfl | (rw [if_neg (by omega)])) HS0.out ?_; simp only [Act.put, List.setIfInBounds_toArray, List.set_cons_zero, List.set_cons_succ]
  refine WH.take 5 (some 30) rfl rfl (by kernel_rfl) (by kernel_rfl) (by kernel_rfl) (fun _ _ _ h => h) (by rfl) (fun v hv => by have k0 := hv.cell c0; have k1 := hv.cell c1; have k2 := hv.cell c2; have k3 := hv.cell c3; have k4 := hv.cell c4; have k5 := hv.cell c5; have kl := HL.out v hv; go_simp; first | done | with_reducible rfl | (rw [if_neg (by omega)])) HS0.out ?_; simp only [Act.put, List.setIfInBounds_toArray, List.set_cons_zero, List.set_cons_succ]
  refine WH.take 6 (some 24) rfl rfl (by kernel_rfl) (by kernel_rfl) (by kernel_rfl) (fun _ _ _ h => h) (by rfl) (fun v hv => by have k0 := hv.cell c0; have k1 := hv.cell c1; have k2 := hv.cell c2; have k3 := hv.cell c3; have k4 := hv.cell c4; have k5 := hv.cell c5; have kl := HL.out v hv; go_simp; first | done | with_reducible rfl | (rw [if_neg (by omega)])) HS0.out ?_; simp only [Act.put, List.setIfInBounds_toArray, List.set_cons_zero, List.set_cons_succ]
  refine WH.take 7 (some 31) rfl rfl (by kernel_rfl) (by kernel_rfl) (by kernel_rfl) (fun _ _ _ h => h) (by rfl) (fun v hv => by have k0 := hv.cell c0; have k1 := hv.cell c1; have k2 := hv.cell c2; have k3 := hv.cell c3; have k4 := hv.cell c4; have k5 := hv.cell c5; have kl := HL.out v hv; go_simp; first | done | with_reducible rfl | (rw [if_neg (by omega)])) HS0.out ?_; simp only [Act.put, List.setIfInBounds_toArray, List.set_cons_zero, List.set_cons_succ]
  refine WH.take 8 (some 32) rfl rfl (by kernel_rfl) (by kernel_rfl) (by kernel_rfl) (fun _ _ _ h => h) (by rfl) (fun v hv => by have k0 := hv.cell c0; have k1 := hv.cell c1; have k2 := hv.cell c2; have k3 := hv.cell c3; have k4 := hv.cell c4; have k5 := hv.cell c5; have kl := HL.out v hv; go_simp; first | done | with_reducible rfl | (rw [if_neg (by omega)])) HS0.out ?_; simp only [Act.put, List.setIfInBounds_toArray, List.set_cons_zero, List.set_cons_succ]
  refine WH.one 9 (by kernel_rfl) rfl (by rfl) ?_
  go_wp2_with fail
  refine ⟨HS1.out, ?_⟩
  refine WH.one 10 (by kernel_rfl) rfl (by rfl) ?_
  go_wp2_with fail
  refine ⟨HS2.out, ?_⟩
  refine WH.take 11 (some 8) rfl rfl (by kernel_rfl) (by kernel_rfl) (by kernel_rfl) (fun _ _ _ h => h) (by rfl) (fun v hv => by have k0 := hv.cell c0; have k1 := hv.cell c1; have k2 := hv.cell c2; have k3 := hv.cell c3; have k4 := hv.cell c4; have k5 := hv.cell c5; have kl := HL.out v hv; go_simp; first | done | with_reducible rfl | (rw [if_neg (by omega)])) HS2.out ?_; simp only [Act.put, List.setIfInBounds_toArray, List.set_cons_zero, List.set_cons_succ]
  refine WH.done (by kernel_rfl) ?_
  generalize hw5 : (w4.alloc (.cells #[.int .u64 (ew : Nat), .bool et] 99)).drew = w5 at *
  have HS5 : Hid (Since w4 w5) := Lib.hid (by rw [← hw5]; exact (Below.alloc (Below.refl _ w4) (Nat.le_refl _) _).trans ⟨rfl, rfl, rfl, Nat.le_refl _, fun _ _ => rfl⟩)
  have s0 := HS5.out.cell q0
  have s1 := HS5.out.cell q1
  have s2 := HS5.out.cell q2
  have s3 := HS5.out.cell q3
  have s4 := HS5.out.cell q4
  have s5 := HS5.out.cell q5
  have s6 := HS5.out.cell q6
  have d1 := HS5.out.cell c1
  have d2 := HS5.out.cell c2
  have d3 := HS5.out.cell c3
  have d4 := HS5.out.cell c4
  have d5 := HS5.out.cell c5
  have HA5 := Lib.hid (HA4.out.below HS5.out)
  have hbx : w5.heap[w4.heap.size]? = some (.cells #[.int .u64 (ew : Nat), .bool et] 99 (0, 0)) := by rw [← hw5]; exact World.alloc_heap_new _ _
  have HT5 : Hid (Turn F w w5) := Lib.hid (HT4.out.trans (Turn.of_below (F := fun _ => False) HS5.out) (fun i h => h.elim))
  have e0 : w5.cell? ⟨w4.heap.size, 0, none⟩ = some (.int .u64 (ew : Nat)) := by simp [World.cell?, hbx]
  have e1 : w5.cell? ⟨w4.heap.size, 1, none⟩ = some (.bool et) := by simp [World.cell?, hbx]
  have hz5 : w4.heap.size < w5.heap.size := (Array.getElem?_eq_some_iff.1 hbx).1
  clear q0 q1 q2 q3 q4 q5 q6 c0 c1 c2 c3 c4 c5 HL HS0 HS1 HS2 hw5
  cases ok with
  | false =>
    clear e0 e1 hbx
    have HR := Lib.hid (HV1.out rfl)
    go_wp2_with fail
    refine (HBG.out _ ⟨rv, mb, f, vs, HA5.out⟩).mono ?_
    rintro e w6 ⟨rfl, hA6, hT6⟩
    have HA6 := Lib.hid hA6
    have HT6 := Lib.hid hT6
    clear hA6 hT6
    go_wp2_with fail
    go_ret
    exact ⟨by (rw [HR.out]) <;> rfl, by rw [HR.out]; exact HA6.out, HT5.out.trans HT6.out (fun i h => .inl h)⟩
  | true =>
    have HR0 := Lib.hid (HV2.out rfl)
    have HUN := Lib.hid (fun W => funpack_any ew W HU.out.1)
    clear HV1 HV2 HBG
    go_wp2_with fail
    refine (HUN.out _).mono ?_
    rintro e w6 ⟨rfl, h6⟩
    unfold flowV
    have HB6 : Hid (Below w5.heap.size w5 (w6.alloc (.cells #[.int .i64 (stW ew : Nat), .int .i64 (seqW ew : Nat), .int .i64 (untW ew : Nat)] 50))) := Lib.hid (Below.alloc h6 h6.size _)
    have hz6 : w5.heap.size ≤ w6.heap.size := h6.size
    have f0 : (w6.alloc (.cells #[.int .i64 (stW ew : Nat), .int .i64 (seqW ew : Nat), .int .i64 (untW ew : Nat)] 50)).cell? ⟨w6.heap.size, 0, none⟩ = some (.int .i64 (stW ew : Nat)) := by simp
    have f1 : (w6.alloc (.cells #[.int .i64 (stW ew : Nat), .int .i64 (seqW ew : Nat), .int .i64 (untW ew : Nat)] 50)).cell? ⟨w6.heap.size, 1, none⟩ = some (.int .i64 (seqW ew : Nat)) := by simp
    have f2 : (w6.alloc (.cells #[.int .i64 (stW ew : Nat), .int .i64 (seqW ew : Nat), .int .i64 (untW ew : Nat)] 50)).cell? ⟨w6.heap.size, 2, none⟩ = some (.int .i64 (untW ew : Nat)) := by simp
    have q0 := Since.cell HB6.out s0
    have q1 := Since.cell HB6.out s1
    have q2 := Since.cell HB6.out s2
    have q3 := Since.cell HB6.out s3
    have q4 := Since.cell HB6.out s4
    have q5 := Since.cell HB6.out s5
    have q6 := Since.cell HB6.out s6
    have c1 := Since.cell HB6.out d1
    have c2 := Since.cell HB6.out d2
    have c3 := Since.cell HB6.out d3
    have c4 := Since.cell HB6.out d4
    have c5 := Since.cell HB6.out d5
    have g0 := Since.cell HB6.out e0
    have g1 := Since.cell HB6.out e1
    have HA6 := Lib.hid (HA5.out.below HB6.out)
    have hbx6 := (HB6.out.block _ hz5).trans hbx
    have hwf : (Lit.int .i64 (stW ew : Nat)).wf = true := by have := HU.out.2; simp [Lit.wf, IntKind.min, IntKind.max, IntKind.bits, IntKind.signed]; omega
    have HFN := Lib.hid (fun W => fnext_val (stW ew : Nat) (t != et) p (fnextF (stW ew : Nat) (t != et) p).1 (fnextF (stW ew : Nat) (t != et) p).2 W hwf rfl)
    have HR : Hid (res = if (fnextF (stW ew : Nat) (t != et) p).2 = true then (putS z k (flowNext ew (fnextF (stW ew : Nat) (t != et) p).1 (untilF z.c.ts (fnextF (stW ew : Nat) (t != et) p).1 (clkW z.g : Nat)), et), 1) else (putS z k (flowNext ew (stW ew : Nat) (untW ew : Nat), et), 4)) := HR0
    clear h6 hbx s0 s1 s2 s3 s4 s5 s6 d1 d2 d3 d4 d5 e0 e1 HUN HR0 hwf
    generalize (fnextF (stW ew : Nat) (t != et) p).1 = st at *
    generalize (fnextF (stW ew : Nat) (t != et) p).2 = va at *
    generalize stW ew = sw at *
    generalize untW ew = uw at *
    generalize seqW ew = qw at *
    go_wp2_with fail
    refine (HFN.out _).mono ?_
    rintro e w7 ⟨rfl, h7⟩
    replace c1 := Since.cell h7 c1
    replace c2 := Since.cell h7 c2
    replace c3 := Since.cell h7 c3
    replace c4 := Since.cell h7 c4
    replace c5 := Since.cell h7 c5
    replace g0 := Since.cell h7 g0
    replace g1 := Since.cell h7 g1
    replace f0 := Since.cell h7 f0
    replace f1 := Since.cell h7 f1
    replace f2 := Since.cell h7 f2
    have hz6b : w6.heap.size < (w6.alloc (.cells #[.int .i64 (sw : Nat), .int .i64 (qw : Nat), .int .i64 (uw : Nat)] 50)).heap.size := by simp
    have hz7 := h7.size
    have HA7 := Lib.hid (HA6.out.below h7)
    have HT7 : Hid (Turn F w w7) := Lib.hid (HT5.out.trans (Turn.of_below (F := fun _ => False) (below_then HB6.out h7)) (fun i h => h.elim))
    have hbx7 := (h7.block _ (by have := hz5; omega)).trans hbx6
    have TS7 := Lib.hid HA7.out.times
    have HCK := Lib.hid (fun W (hA : AutoAt W ba F z) => clock_any hA HZ.out.g)
    have HUT := Lib.hid (fun W => until_val z.c.ts st (clkW z.g : Nat) _ W rfl)
    generalize untilF z.c.ts st (clkW z.g : Nat) = un at *
    clear q0 q1 q2 q3 q4 q5 q6 h7 HFN hbx6
    go_wp2_with fail
    refine WQ.enter w7 (Since.refl _) (by kernel_rfl) (by kernel_rfl) ?_
    refine WQ.val (by rfl) (fun v hv => by go_simp; first | done | with_reducible rfl | (rw [if_neg (by omega)])) ?_; simp only [Act.put, List.setIfInBounds_toArray, List.set_cons_zero, List.set_cons_succ]
    refine WQ.val (by rfl) (fun v hv => by go_simp; first | done | with_reducible rfl | (rw [if_neg (by omega)])) ?_; simp only [Act.put, List.setIfInBounds_toArray, List.set_cons_zero, List.set_cons_succ]
    refine WQ.val (by rfl) (fun v hv => by go_simp; first | done | with_reducible rfl | (rw [if_neg (by omega)])) ?_; simp only [Act.put, List.setIfInBounds_toArray, List.set_cons_zero, List.set_cons_succ]
    refine WQ.val (by rfl) (fun v hv => by go_simp; first | done | with_reducible rfl | (rw [if_neg (by omega)])) ?_; simp only [Act.put, List.setIfInBounds_toArray, List.set_cons_zero, List.set_cons_succ]
    refine WQ.load (by rfl) 22 (.tmp 57) rfl ba 2 (by rfl) (arr16 z.c.ts).toList _ (fun v hv => hv.range TS7.out) Tryz.underlying22 rfl (by kernel_rfl) ?_; simp only [Act.put, List.setIfInBounds_toArray, List.set_cons_zero, List.set_cons_succ]
    refine WQ.val (by rfl) (fun v hv => by go_simp; first | done | with_reducible rfl | (rw [if_neg (by omega)])) ?_; simp only [Act.put, List.setIfInBounds_toArray, List.set_cons_zero, List.set_cons_succ]
    refine WQ.val (by rfl) (fun v hv => by go_simp; first | done | with_reducible rfl | (rw [if_neg (by omega)])) ?_; simp only [Act.put, List.setIfInBounds_toArray, List.set_cons_zero, List.set_cons_succ]
    refine WQ.call (f := 46) (args := #[.pointer (some ⟨ba, 0, none⟩)]) (by rfl) (fun v hv => by go_simp) (fun v hv => (HCK.out v ⟨rv, mb, f, vs, HA7.out.below hv⟩).mono (fun e v' ⟨he, hb⟩ => ⟨he, hv.step hb⟩)) ?_; simp only [Act.put, List.setIfInBounds_toArray, List.set_cons_zero, List.set_cons_succ]
    refine WQ.call (f := 55) (args := #[.agg (arr16 z.c.ts), .int .i64 st, .int .i64 (clkW z.g : Nat)]) (by rfl) (fun v hv => by go_simp) (fun v hv => (HUT.out v).mono (fun e v' ⟨he, hb⟩ => ⟨he, hv.step hb⟩)) ?_; simp only [Act.put, List.setIfInBounds_toArray, List.set_cons_zero, List.set_cons_succ]
    refine WQ.val (by rfl) (fun v hv => by go_simp; first | done | with_reducible rfl | (rw [if_neg (by omega)])) ?_; simp only [Act.put, List.setIfInBounds_toArray, List.set_cons_zero, List.set_cons_succ]
    refine WQ.val (by rfl) (fun v hv => by go_simp; first | done | with_reducible rfl | (rw [if_neg (by omega)])) ?_; simp only [Act.put, List.setIfInBounds_toArray, List.set_cons_zero, List.set_cons_succ]
    refine WQ.done ?_
    intro w8 hw8
    replace c1 := Since.cell hw8 c1
    replace c2 := Since.cell hw8 c2
    replace c3 := Since.cell hw8 c3
    replace c4 := Since.cell hw8 c4
    replace c5 := Since.cell hw8 c5
    replace g0 := Since.cell hw8 g0
    replace g1 := Since.cell hw8 g1
    replace f0 := Since.cell hw8 f0
    replace f1 := Since.cell hw8 f1
    replace f2 := Since.cell hw8 f2
    have hz8 := hw8.size
    have HA8 := Lib.hid (HA7.out.below hw8)
    have HT8 : Hid (Turn F w w8) := Lib.hid (HT7.out.trans (Turn.of_below (F := fun _ => False) hw8) (fun i h => h.elim))
    have hbx8 := (hw8.block _ (by omega)).trans hbx7
    clear hw8 hbx7 HCK HUT
    cases va with
    | true =>
      have HR : Hid (res = (putS z k (flowNext ew st un, et), 1)) := Lib.hid (by rw [HR.out, if_pos rfl])
      have HNX := Lib.hid (fun W => flowNext_any ew _ st un W HU.out.1 rfl)
      generalize flowNext ew st un = nw at *
      go_wp2_with fail
      refine (HNX.out _).mono ?_
      rintro e w9 ⟨rfl, h9⟩
      have hbx9 := (h9.block _ (Array.getElem?_eq_some_iff.1 hbx8).1).trans hbx8
      replace c1 := Since.cell h9 c1
      replace c2 := Since.cell h9 c2
      replace c3 := Since.cell h9 c3
      replace c4 := Since.cell h9 c4
      replace c5 := Since.cell h9 c5
      replace g0 := Since.cell h9 g0
      replace g1 := Since.cell h9 g1
      replace f0 := Since.cell h9 f0
      replace f1 := Since.cell h9 f1
      replace f2 := Since.cell h9 f2
      clear hbx8
      have HA9 := HA8.out.below h9
      have HT9 : Turn F w w9 := HT8.out.trans (Turn.of_below (F := fun _ => False) h9) (fun i h => h.elim)
      have hb10 := heap_set (o := 0) (.int .u64 (nw : Nat)) hbx9
      have HT10 : Hid (Turn F w (w9.setCell ⟨w4.heap.size, 0, none⟩ (.int .u64 (nw : Nat)))) := Lib.hid (HT9.setCell _ _ (.inr (by show w.heap.size ≤ w4.heap.size; omega)))
      have HA10 : Hid (AutoW (w9.setCell ⟨w4.heap.size, 0, none⟩ (.int .u64 (nw : Nat))) ba F z rv mb f vs) := Lib.hid (HA9.of_turn (G := fun i => i = w4.heap.size) ((Turn.refl _ w9).setCell _ _ (.inl rfl)) (fun i h e => by have := HF.out i h; omega))
      have k0 : w9.cell? ⟨w4.heap.size, 0, none⟩ = some (.int .u64 (ew : Nat)) := by simp [World.cell?, hbx9]
      have k1 : w9.frozen? ⟨w4.heap.size, 0, none⟩ = false := by simp [World.frozen?, hbx9]
      have e0 : (w9.setCell ⟨w4.heap.size, 0, none⟩ (.int .u64 (nw : Nat))).cell? ⟨w4.heap.size, 0, none⟩ = some (.int .u64 (nw : Nat)) := by simp [World.cell?, hb10]
      have e1 : (w9.setCell ⟨w4.heap.size, 0, none⟩ (.int .u64 (nw : Nat))).cell? ⟨w4.heap.size, 1, none⟩ = some (.bool et) := by simp [World.cell?, hb10]
      have hkb : w2.heap.size ≠ w4.heap.size := by omega
      have d1 : (w9.setCell ⟨w4.heap.size, 0, none⟩ (.int .u64 (nw : Nat))).cell? ⟨w2.heap.size, 0, none⟩ = some (.int .u32 k.a0) := (World.cell?_of_block (w := w9) (Below.heap_setCell _ _ _ _ hkb)).trans c1
      have d2 : (w9.setCell ⟨w4.heap.size, 0, none⟩ (.int .u64 (nw : Nat))).cell? ⟨w2.heap.size, 1, none⟩ = some (.int .u32 k.a1) := (World.cell?_of_block (w := w9) (Below.heap_setCell _ _ _ _ hkb)).trans c2
      have d3 : (w9.setCell ⟨w4.heap.size, 0, none⟩ (.int .u64 (nw : Nat))).cell? ⟨w2.heap.size, 2, none⟩ = some (.int .u16 k.p0) := (World.cell?_of_block (w := w9) (Below.heap_setCell _ _ _ _ hkb)).trans c3
      have d4 : (w9.setCell ⟨w4.heap.size, 0, none⟩ (.int .u64 (nw : Nat))).cell? ⟨w2.heap.size, 3, none⟩ = some (.int .u16 k.p1) := (World.cell?_of_block (w := w9) (Below.heap_setCell _ _ _ _ hkb)).trans c4
      have d5 : (w9.setCell ⟨w4.heap.size, 0, none⟩ (.int .u64 (nw : Nat))).cell? ⟨w2.heap.size, 4, none⟩ = some (.int .u8 k.pr) := (World.cell?_of_block (w := w9) (Below.heap_setCell _ _ _ _ hkb)).trans c5
      clear h9 HA9 HT9 hb10 hbx9 c1 c2 c3 c4 c5 f0 f1 f2 HNX
      go_wp2_with fail
      generalize w9.setCell ⟨w4.heap.size, 0, none⟩ (.int .u64 (nw : Nat)) = w10 at *
      have c0 : w10.cell? ⟨ba, 20, none⟩ = some (.map (some mb)) := HA10.out.cell rfl
      refine WQ.last (Drew w10) ⟨1, rfl⟩ 6 4 (by rfl) (by kernel_rfl) (by kernel_rfl) ?_; simp only [List.take_succ_cons, List.take_zero]
      refine WQ.val (by rfl) (fun v hv => by have k0 := hv.cell c0; have k1 := hv.cell d1; have k2 := hv.cell d2; have k3 := hv.cell d3; have k4 := hv.cell d4; have k5 := hv.cell d5; have k6 := hv.cell e0; have k7 := hv.cell e1; go_simp; first | done | with_reducible rfl | (rw [if_neg (by omega)])) ?_; simp only [Act.put, List.setIfInBounds_toArray, List.set_cons_zero, List.set_cons_succ]
      refine WQ.val (by rfl) (fun v hv => by have k0 := hv.cell c0; have k1 := hv.cell d1; have k2 := hv.cell d2; have k3 := hv.cell d3; have k4 := hv.cell d4; have k5 := hv.cell d5; have k6 := hv.cell e0; have k7 := hv.cell e1; go_simp; first | done | with_reducible rfl | (rw [if_neg (by omega)])) ?_; simp only [Act.put, List.setIfInBounds_toArray, List.set_cons_zero, List.set_cons_succ]
      refine WQ.val (by rfl) (fun v hv => by have k0 := hv.cell c0; have k1 := hv.cell d1; have k2 := hv.cell d2; have k3 := hv.cell d3; have k4 := hv.cell d4; have k5 := hv.cell d5; have k6 := hv.cell e0; have k7 := hv.cell e1; go_simp; first | done | with_reducible rfl | (rw [if_neg (by omega)])) ?_; simp only [Act.put, List.setIfInBounds_toArray, List.set_cons_zero, List.set_cons_succ]
      refine WQ.val (by rfl) (fun v hv => by have k0 := hv.cell c0; have k1 := hv.cell d1; have k2 := hv.cell d2; have k3 := hv.cell d3; have k4 := hv.cell d4; have k5 := hv.cell d5; have k6 := hv.cell e0; have k7 := hv.cell e1; go_simp; first | done | with_reducible rfl | (rw [if_neg (by omega)])) ?_; simp only [Act.put, List.setIfInBounds_toArray, List.set_cons_zero, List.set_cons_succ]
      refine WQ.val (by rfl) (fun v hv => by have k0 := hv.cell c0; have k1 := hv.cell d1; have k2 := hv.cell d2; have k3 := hv.cell d3; have k4 := hv.cell d4; have k5 := hv.cell d5; have k6 := hv.cell e0; have k7 := hv.cell e1; go_simp; first | done | with_reducible rfl | (rw [if_neg (by omega)])) ?_; simp only [Act.put, List.setIfInBounds_toArray, List.set_cons_zero, List.set_cons_succ]
      refine WQ.val (by rfl) (fun v hv => by have k0 := hv.cell c0; have k1 := hv.cell d1; have k2 := hv.cell d2; have k3 := hv.cell d3; have k4 := hv.cell d4; have k5 := hv.cell d5; have k6 := hv.cell e0; have k7 := hv.cell e1; go_simp; first | done | with_reducible rfl | (rw [if_neg (by omega)])) ?_; simp only [Act.put, List.setIfInBounds_toArray, List.set_cons_zero, List.set_cons_succ]
      refine WQ.done ?_
      intro w11 hw11
      refine wpOp_one rfl (by rfl) ?_
      intro K' hK'
      obtain ⟨n5, rfl⟩ := hw11
      have HA11 := HA10.out.drewN n5
      obtain ⟨o, hrun, hfl⟩ := HA11.fl.put HK.out (nw, et)
      have HA12 := Lib.hid (HA11.setmap o hfl)
      have HT12 : Hid (Turn F w (setBlock (w10.drewN n5) mb o)) := Lib.hid ((HT10.out.drewN n5).setBlock mb o (.inl HFM.out))
      clear hfl HA11
      refine oper_mapUpdate _ _ _ _ rfl (show _ = Value.map (some mb) from rfl) (show _ = kyV k from rfl) (show _ = evE (nw, et) from rfl) hrun (hK' _ _ ?_) rfl
      clear hrun hK'
      generalize setBlock (w10.drewN n5) mb o = w12 at *
      go_wp2_with fail
      go_ret
      exact ⟨by (rw [HR.out]) <;> rfl, by rw [HR.out]; exact ⟨rv, mb, _, vs, HA12.out⟩, HT12.out⟩
    | false =>
      have HR : Hid (res = (putS z k (flowNext ew (sw : Nat) (uw : Nat), et), 4)) := Lib.hid (by rw [HR.out, if_neg (by decide)])
      go_wp2_with fail
      refine WQ.enter w8 (Since.refl _) (by kernel_rfl) (by kernel_rfl) ?_
      refine WQ.val (by rfl) (fun v hv => by have k0 := hv.cell f0; have k1 := hv.cell f2; go_simp; first | done | with_reducible rfl | (rw [if_neg (by omega)])) ?_; simp only [Act.put, List.setIfInBounds_toArray, List.set_cons_zero, List.set_cons_succ]
      refine WQ.val (by rfl) (fun v hv => by have k0 := hv.cell f0; have k1 := hv.cell f2; go_simp; first | done | with_reducible rfl | (rw [if_neg (by omega)])) ?_; simp only [Act.put, List.setIfInBounds_toArray, List.set_cons_zero, List.set_cons_succ]
      refine WQ.val (by rfl) (fun v hv => by have k0 := hv.cell f0; have k1 := hv.cell f2; go_simp; first | done | with_reducible rfl | (rw [if_neg (by omega)])) ?_; simp only [Act.put, List.setIfInBounds_toArray, List.set_cons_zero, List.set_cons_succ]
      refine WQ.val (by rfl) (fun v hv => by have k0 := hv.cell f0; have k1 := hv.cell f2; go_simp; first | done | with_reducible rfl | (rw [if_neg (by omega)])) ?_; simp only [Act.put, List.setIfInBounds_toArray, List.set_cons_zero, List.set_cons_succ]
      refine WQ.val (by rfl) (fun v hv => by have k0 := hv.cell f0; have k1 := hv.cell f2; go_simp; first | done | with_reducible rfl | (rw [if_neg (by omega)])) ?_; simp only [Act.put, List.setIfInBounds_toArray, List.set_cons_zero, List.set_cons_succ]
      refine WQ.val (by rfl) (fun v hv => by have k0 := hv.cell f0; have k1 := hv.cell f2; go_simp; first | done | with_reducible rfl | (rw [if_neg (by omega)])) ?_; simp only [Act.put, List.setIfInBounds_toArray, List.set_cons_zero, List.set_cons_succ]
      refine WQ.val (by rfl) (fun v hv => by have k0 := hv.cell f0; have k1 := hv.cell f2; go_simp; first | done | with_reducible rfl | (rw [if_neg (by omega)])) ?_; simp only [Act.put, List.setIfInBounds_toArray, List.set_cons_zero, List.set_cons_succ]
      refine WQ.done ?_
      intro w13 hw13
      replace c1 := Since.cell hw13 c1
      replace c2 := Since.cell hw13 c2
      replace c3 := Since.cell hw13 c3
      replace c4 := Since.cell hw13 c4
      replace c5 := Since.cell hw13 c5
      replace g0 := Since.cell hw13 g0
      replace g1 := Since.cell hw13 g1
      replace f0 := Since.cell hw13 f0
      replace f1 := Since.cell hw13 f1
      replace f2 := Since.cell hw13 f2
      have HA8 := Lib.hid (HA8.out.below hw13)
      have HT8 : Hid (Turn F w w13) := Lib.hid (HT8.out.trans (Turn.of_below (F := fun _ => False) hw13) (fun i h => h.elim))
      have hbx8 := (hw13.block _ (Array.getElem?_eq_some_iff.1 hbx8).1).trans hbx8
      have hz13 := hw13.size
      clear hw13
      have HNX := Lib.hid (fun W => flowNext_any ew _ (sw : Nat) (uw : Nat) W HU.out.1 rfl)
      generalize flowNext ew (sw : Nat) (uw : Nat) = nw at *
      go_wp2_with fail
      refine (HNX.out _).mono ?_
      rintro e w9 ⟨rfl, h9⟩
      have hbx9 := (h9.block _ (Array.getElem?_eq_some_iff.1 hbx8).1).trans hbx8
      replace c1 := Since.cell h9 c1
      replace c2 := Since.cell h9 c2
      replace c3 := Since.cell h9 c3
      replace c4 := Since.cell h9 c4
      replace c5 := Since.cell h9 c5
      replace g0 := Since.cell h9 g0
      replace g1 := Since.cell h9 g1
      replace f0 := Since.cell h9 f0
      replace f1 := Since.cell h9 f1
      replace f2 := Since.cell h9 f2
      clear hbx8
      have HA9 := HA8.out.below h9
      have HT9 : Turn F w w9 := HT8.out.trans (Turn.of_below (F := fun _ => False) h9) (fun i h => h.elim)
      have hb10 := heap_set (o := 0) (.int .u64 (nw : Nat)) hbx9
      have HT10 : Hid (Turn F w (w9.setCell ⟨w4.heap.size, 0, none⟩ (.int .u64 (nw : Nat)))) := Lib.hid (HT9.setCell _ _ (.inr (by show w.heap.size ≤ w4.heap.size; omega)))
      have HA10 : Hid (AutoW (w9.setCell ⟨w4.heap.size, 0, none⟩ (.int .u64 (nw : Nat))) ba F z rv mb f vs) := Lib.hid (HA9.of_turn (G := fun i => i = w4.heap.size) ((Turn.refl _ w9).setCell _ _ (.inl rfl)) (fun i h e => by have := HF.out i h; omega))
      have k0 : w9.cell? ⟨w4.heap.size, 0, none⟩ = some (.int .u64 (ew : Nat)) := by simp [World.cell?, hbx9]
      have k1 : w9.frozen? ⟨w4.heap.size, 0, none⟩ = false := by simp [World.frozen?, hbx9]
      have e0 : (w9.setCell ⟨w4.heap.size, 0, none⟩ (.int .u64 (nw : Nat))).cell? ⟨w4.heap.size, 0, none⟩ = some (.int .u64 (nw : Nat)) := by simp [World.cell?, hb10]
      have e1 : (w9.setCell ⟨w4.heap.size, 0, none⟩ (.int .u64 (nw : Nat))).cell? ⟨w4.heap.size, 1, none⟩ = some (.bool et) := by simp [World.cell?, hb10]
      have hkb : w2.heap.size ≠ w4.heap.size := by omega
      have d1 : (w9.setCell ⟨w4.heap.size, 0, none⟩ (.int .u64 (nw : Nat))).cell? ⟨w2.heap.size, 0, none⟩ = some (.int .u32 k.a0) := (World.cell?_of_block (w := w9) (Below.heap_setCell _ _ _ _ hkb)).trans c1
      have d2 : (w9.setCell ⟨w4.heap.size, 0, none⟩ (.int .u64 (nw : Nat))).cell? ⟨w2.heap.size, 1, none⟩ = some (.int .u32 k.a1) := (World.cell?_of_block (w := w9) (Below.heap_setCell _ _ _ _ hkb)).trans c2
      have d3 : (w9.setCell ⟨w4.heap.size, 0, none⟩ (.int .u64 (nw : Nat))).cell? ⟨w2.heap.size, 2, none⟩ = some (.int .u16 k.p0) := (World.cell?_of_block (w := w9) (Below.heap_setCell _ _ _ _ hkb)).trans c3
      have d4 : (w9.setCell ⟨w4.heap.size, 0, none⟩ (.int .u64 (nw : Nat))).cell? ⟨w2.heap.size, 3, none⟩ = some (.int .u16 k.p1) := (World.cell?_of_block (w := w9) (Below.heap_setCell _ _ _ _ hkb)).trans c4
      have d5 : (w9.setCell ⟨w4.heap.size, 0, none⟩ (.int .u64 (nw : Nat))).cell? ⟨w2.heap.size, 4, none⟩ = some (.int .u8 k.pr) := (World.cell?_of_block (w := w9) (Below.heap_setCell _ _ _ _ hkb)).trans c5
      clear h9 HA9 HT9 hb10 hbx9 c1 c2 c3 c4 c5 f0 f1 f2 HNX
      go_wp2_with fail
      generalize w9.setCell ⟨w4.heap.size, 0, none⟩ (.int .u64 (nw : Nat)) = w10 at *
      have c0 : w10.cell? ⟨ba, 20, none⟩ = some (.map (some mb)) := HA10.out.cell rfl
      refine WQ.last (Drew w10) ⟨1, rfl⟩ 6 4 (by rfl) (by kernel_rfl) (by kernel_rfl) ?_; simp only [List.take_succ_cons, List.take_zero]
      refine WQ.val (by rfl) (fun v hv => by have k0 := hv.cell c0; have k1 := hv.cell d1; have k2 := hv.cell d2; have k3 := hv.cell d3; have k4 := hv.cell d4; have k5 := hv.cell d5; have k6 := hv.cell e0; have k7 := hv.cell e1; go_simp; first | done | with_reducible rfl | (rw [if_neg (by omega)])) ?_; simp only [Act.put, List.setIfInBounds_toArray, List.set_cons_zero, List.set_cons_succ]
      refine WQ.val (by rfl) (fun v hv => by have k0 := hv.cell c0; have k1 := hv.cell d1; have k2 := hv.cell d2; have k3 := hv.cell d3; have k4 := hv.cell d4; have k5 := hv.cell d5; have k6 := hv.cell e0; have k7 := hv.cell e1; go_simp; first | done | with_reducible rfl | (rw [if_neg (by omega)])) ?_; simp only [Act.put, List.setIfInBounds_toArray, List.set_cons_zero, List.set_cons_succ]
      refine WQ.val (by rfl) (fun v hv => by have k0 := hv.cell c0; have k1 := hv.cell d1; have k2 := hv.cell d2; have k3 := hv.cell d3; have k4 := hv.cell d4; have k5 := hv.cell d5; have k6 := hv.cell e0; have k7 := hv.cell e1; go_simp; first | done | with_reducible rfl | (rw [if_neg (by omega)])) ?_; simp only [Act.put, List.setIfInBounds_toArray, List.set_cons_zero, List.set_cons_succ]
      refine WQ.val (by rfl) (fun v hv => by have k0 := hv.cell c0; have k1 := hv.cell d1; have k2 := hv.cell d2; have k3 := hv.cell d3; have k4 := hv.cell d4; have k5 := hv.cell d5; have k6 := hv.cell e0; have k7 := hv.cell e1; go_simp; first | done | with_reducible rfl | (rw [if_neg (by omega)])) ?_; simp only [Act.put, List.setIfInBounds_toArray, List.set_cons_zero, List.set_cons_succ]
      refine WQ.val (by rfl) (fun v hv => by have k0 := hv.cell c0; have k1 := hv.cell d1; have k2 := hv.cell d2; have k3 := hv.cell d3; have k4 := hv.cell d4; have k5 := hv.cell d5; have k6 := hv.cell e0; have k7 := hv.cell e1; go_simp; first | done | with_reducible rfl | (rw [if_neg (by omega)])) ?_; simp only [Act.put, List.setIfInBounds_toArray, List.set_cons_zero, List.set_cons_succ]
      refine WQ.val (by rfl) (fun v hv => by have k0 := hv.cell c0; have k1 := hv.cell d1; have k2 := hv.cell d2; have k3 := hv.cell d3; have k4 := hv.cell d4; have k5 := hv.cell d5; have k6 := hv.cell e0; have k7 := hv.cell e1; go_simp; first | done | with_reducible rfl | (rw [if_neg (by omega)])) ?_; simp only [Act.put, List.setIfInBounds_toArray, List.set_cons_zero, List.set_cons_succ]
      refine WQ.done ?_
      intro w11 hw11
      refine wpOp_one rfl (by rfl) ?_
      intro K' hK'
      obtain ⟨n5, rfl⟩ := hw11
      have HA11 := HA10.out.drewN n5
      obtain ⟨o, hrun, hfl⟩ := HA11.fl.put HK.out (nw, et)
      have HA12 := Lib.hid (HA11.setmap o hfl)
      have HT12 : Hid (Turn F w (setBlock (w10.drewN n5) mb o)) := Lib.hid ((HT10.out.drewN n5).setBlock mb o (.inl HFM.out))
      clear hfl HA11
      refine oper_mapUpdate _ _ _ _ rfl (show _ = Value.map (some mb) from rfl) (show _ = kyV k from rfl) (show _ = evE (nw, et) from rfl) hrun (hK' _ _ ?_) rfl
      clear hrun hK'
      generalize setBlock (w10.drewN n5) mb o = w12 at *
      go_wp2_with fail
      go_ret
      exact ⟨by (rw [HR.out]) <;> rfl, by rw [HR.out]; exact ⟨rv, mb, _, vs, HA12.out⟩, HT12.out⟩
end Go.Proofs.YtahgapkecabnjaaGreatDoor
