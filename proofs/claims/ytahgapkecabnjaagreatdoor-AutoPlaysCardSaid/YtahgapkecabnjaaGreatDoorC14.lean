/- The engine: begin. Printed by gen_autoi.py. -/
import Derived.Test.YtahgapkecabnjaaGreatDoorC13
namespace Go.Proofs.YtahgapkecabnjaaGreatDoor
set_option linter.unusedSimpArgs false
set_option linter.unusedVariables false
open Go Go.RowKit Go.Shelf Go.Lib Go.Maps Go.MapKept
open Go.ChangeMaps (setBlock)

/-- The rules that are in force, in memory. -/
theorem AutoW.last {w : World} {ba mb : Nat} {F : Nat → Prop} {s : St} {rv : Value} {f : Value → Option Value} {vs : List Value} (h : AutoW w ba F s rv mb f vs) (hne : s.rules ≠ []) :
    ∃ q rb cap a c, s.rules.length = q + 1 ∧ rv = .slice (some ⟨rb, 0, none⟩) (q + 1) cap ∧ w.cell? ⟨rb, q, none⟩ = some (.slice a (lastR s).length c) ∧ RulesAt w a (lastR s) ∧ lastR s ∈ s.rules := by
  obtain ⟨q, hq⟩ : ∃ q, s.rules.length = q + 1 := ⟨s.rules.length - 1, by have := List.length_pos_iff.2 hne; omega⟩
  have hl : s.rules[q]? = some (lastR s) := by
    unfold lastR
    rw [List.getLastD_eq_getLast?, List.getLast?_eq_getElem?, hq, Nat.add_sub_cancel]
    rw [List.getElem?_eq_getElem (by omega)]; rfl
  obtain ⟨v, e, hv⟩ := h.inner q _ hl
  obtain ⟨a, c, rfl, hR⟩ := hv.rules
  obtain ⟨ra, rc, hrv, hcell⟩ := row_form h.row
  obtain ⟨g, rfl, hc, _⟩ := hcell q _ e
  exact ⟨q, g, rc, a, c, hq, by rw [hrv, hq], hc, hR, List.mem_of_getElem? hl⟩
theorem AutoW.times {w : World} {ba mb : Nat} {F : Nat → Prop} {s : St} {rv : Value} {f : Value → Option Value} {vs : List Value} (h : AutoW w ba F s rv mb f vs) : w.rangeAt ba 2 (arr16 s.c.ts).toList := fun j v hv => by
  refine h.cell (j := 2 + j) ?_
  rw [← hv]
  have hj : j < 16 := by have := (List.getElem?_eq_some_iff.1 hv).1; simpa [arr16] using this
  have : j = 0 ∨ j = 1 ∨ j = 2 ∨ j = 3 ∨ j = 4 ∨ j = 5 ∨ j = 6 ∨ j = 7 ∨ j = 8 ∨ j = 9 ∨ j = 10 ∨ j = 11 ∨ j = 12 ∨ j = 13 ∨ j = 14 ∨ j = 15 := by omega
  rcases this with h | h | h | h | h | h | h | h | h | h | h | h | h | h | h | h <;> subst h <;> rfl
theorem Ok_ne {s : St} (h : s.Ok) : s.rules ≠ [] := fun e => by have := h.ver; rw [e] at this; simp at this
set_option maxHeartbeats 4000000 in
set_option maxRecDepth 100000 in
theorem begin_any {w : World} {ba : Nat} {F : Nat → Prop} {s : St} {p : Pk} {k : Ky} (t : Bool) (hk : k.In) (hp : PkIn p) (h : AutoAt w ba F s) (hs : s.Ok) :
    Calls Tryz.prog 53 #[.pointer (some ⟨ba, 0, none⟩), .agg (pkC p), kyV k, .bool t] w fun e w' => e = .returned (.int .i64 (beginS s p k t).2) ∧ AutoAt w' ba F (beginS s p k t).1 ∧ Turn F w w' := by
  have HB0 : Hid (Below w.heap.size w ((w.alloc (.cells (pkC p) 41)).alloc (.cells (kyC k) 45))) := Lib.hid (((Below.refl _ w).alloc (Nat.le_refl _) _).alloc (by simp) _)
  obtain ⟨rv, mb, f, vs, h⟩ := h
  have HA := Lib.hid (h.below HB0.out)
  have HFM := Lib.hid h.fmb
  have HFB := Lib.hid h.fba
  have HK := Lib.hid hk
  clear h hk
  have hsz : (w.alloc (.cells (pkC p) 41)).heap.size = w.heap.size + 1 := by simp
  have c1 : ((w.alloc (.cells (pkC p) 41)).alloc (.cells (kyC k) 45)).cell? ⟨w.heap.size + 1, 0, none⟩ = some (.int .u32 k.a0) := by rw [← hsz]; simp [kyC]
  have c2 : ((w.alloc (.cells (pkC p) 41)).alloc (.cells (kyC k) 45)).cell? ⟨w.heap.size + 1, 1, none⟩ = some (.int .u32 k.a1) := by rw [← hsz]; simp [kyC]
  have c3 : ((w.alloc (.cells (pkC p) 41)).alloc (.cells (kyC k) 45)).cell? ⟨w.heap.size + 1, 2, none⟩ = some (.int .u16 k.p0) := by rw [← hsz]; simp [kyC]
  have c4 : ((w.alloc (.cells (pkC p) 41)).alloc (.cells (kyC k) 45)).cell? ⟨w.heap.size + 1, 3, none⟩ = some (.int .u16 k.p1) := by rw [← hsz]; simp [kyC]
  have c5 : ((w.alloc (.cells (pkC p) 41)).alloc (.cells (kyC k) 45)).cell? ⟨w.heap.size + 1, 4, none⟩ = some (.int .u8 k.pr) := by rw [← hsz]; simp [kyC]
  have p0 : ((w.alloc (.cells (pkC p) 41)).alloc (.cells (kyC k) 45)).cell? ⟨w.heap.size, 0, none⟩ = some (.int .u8 p.proto) := by rw [World.cell?_alloc_lt _ _ _ (by simp)]; simp [pkC]
  have p1 : ((w.alloc (.cells (pkC p) 41)).alloc (.cells (kyC k) 45)).cell? ⟨w.heap.size, 1, none⟩ = some (.int .u32 p.src) := by rw [World.cell?_alloc_lt _ _ _ (by simp)]; simp [pkC]
  have p2 : ((w.alloc (.cells (pkC p) 41)).alloc (.cells (kyC k) 45)).cell? ⟨w.heap.size, 2, none⟩ = some (.int .u32 p.dst) := by rw [World.cell?_alloc_lt _ _ _ (by simp)]; simp [pkC]
  have p3 : ((w.alloc (.cells (pkC p) 41)).alloc (.cells (kyC k) 45)).cell? ⟨w.heap.size, 3, none⟩ = some (.int .u16 p.sport) := by rw [World.cell?_alloc_lt _ _ _ (by simp)]; simp [pkC]
  have p4 : ((w.alloc (.cells (pkC p) 41)).alloc (.cells (kyC k) 45)).cell? ⟨w.heap.size, 4, none⟩ = some (.int .u16 p.dport) := by rw [World.cell?_alloc_lt _ _ _ (by simp)]; simp [pkC]
  have p5 : ((w.alloc (.cells (pkC p) 41)).alloc (.cells (kyC k) 45)).cell? ⟨w.heap.size, 5, none⟩ = some (.int .u8 p.flags) := by rw [World.cell?_alloc_lt _ _ _ (by simp)]; simp [pkC]
  have p6 : ((w.alloc (.cells (pkC p) 41)).alloc (.cells (kyC k) 45)).cell? ⟨w.heap.size, 6, none⟩ = some (.int .u8 p.kind) := by rw [World.cell?_alloc_lt _ _ _ (by simp)]; simp [pkC]
  clear hsz
  obtain ⟨q, rb, cap, a, c, hq, hrv, r1, hR, hmem⟩ := HA.out.last (Ok_ne hs)
  have r0 : ((w.alloc (.cells (pkC p) 41)).alloc (.cells (kyC k) 45)).cell? ⟨ba, 19, none⟩ = some rv := HA.out.cell rfl
  rw [hrv] at r0
  have hL : (lastR s).length ≤ maxLen := Nat.le_trans (hs.lim _ hmem) (by decide)
  have HFI := Lib.hid (fun v (hv : Since ((w.alloc (.cells (pkC p) 41)).alloc (.cells (kyC k) 45)) v) => first_any p a c (lastR s) v hp (hR.below hv) hL)
  have hq2 : q ≤ 4095 := by have := hs.vers; omega
  have HOP := Lib.hid (fun W => fopen_any p W)
  have HEN := Lib.hid (fun W => genter_any s.g s.c.cap W hs.g)
  have HV : Hid (beginS s p k t = if letIn (lastR s) p = false then (s, 3) else if (fopenF p).2 = false then (s, 4) else if roomW s.g s.c.cap = false then (s, 5) else (putS { s with g := enterW s.g s.c.cap } k (flowNext 0 (fopenF p).1 (untilF s.c.ts (fopenF p).1 (clkW (enterW s.g s.c.cap) : Nat)), t), 1)) := Lib.hid rfl
  have HUG : Hid (roomW s.g s.c.cap = true → U64 (enterW s.g s.c.cap)) := Lib.hid (fun hr => (enter_parts hs.g hr).2.2.2)
  clear hR hmem hL hrv hs hp hq
  generalize beginS s p k t = res at *
  generalize letIn (lastR s) p = inn at *
  generalize idxR (lastR s) p = ix at *
  generalize (lastR s).length = ln at *
  generalize (fopenF p).1 = st at *
  generalize (fopenF p).2 = ok at *
  generalize roomW s.g s.c.cap = room at *
  generalize hge : enterW s.g s.c.cap = ge at *
  obtain ⟨proto, src, dst, sport, dport, flags, kind⟩ := p
  unfold pkC at *
  dsimp only at *
  go_enter Tryz.func53, Tryz.ntmps53
  go_wp2_with fail
  generalize hw1 : ((w.alloc (.cells #[.int .u8 proto, .int .u32 src, .int .u32 dst, .int .u16 sport, .int .u16 dport, .int .u8 flags, .int .u8 kind] 41)).alloc (.cells (kyC k) 45)) = w1 at *
  have hqi : (0 : Int) ≤ q := by omega
  have hqw : IntKind.i64.wrap (q : Int) = q := IntWalk.i64_in _ (by omega)
  have hqm : (q : Int) < (q : Int) + 1 := by omega
  refine WQ.enter w1 (Since.refl _) (by kernel_rfl) (by kernel_rfl) ?_
  refine WQ.val (by rfl) (fun v hv => by have k0 := hv.cell r0; have k1 := hv.cell r1; have k2 := hv.cell p0; have k3 := hv.cell p1; have k4 := hv.cell p2; have k5 := hv.cell p3; have k6 := hv.cell p4; have k7 := hv.cell p5; have k8 := hv.cell p6; go_simp; first | done | with_reducible rfl | (rw [if_neg (by omega)])) ?_; simp only [Act.put, List.setIfInBounds_toArray, List.set_cons_zero, List.set_cons_succ]
  refine WQ.val (by rfl) (fun v hv => by have k0 := hv.cell r0; have k1 := hv.cell r1; have k2 := hv.cell p0; have k3 := hv.cell p1; have k4 := hv.cell p2; have k5 := hv.cell p3; have k6 := hv.cell p4; have k7 := hv.cell p5; have k8 := hv.cell p6; go_simp; first | done | with_reducible rfl | (rw [if_neg (by omega)])) ?_; simp only [Act.put, List.setIfInBounds_toArray, List.set_cons_zero, List.set_cons_succ]
  refine WQ.val (by rfl) (fun v hv => by have k0 := hv.cell r0; have k1 := hv.cell r1; have k2 := hv.cell p0; have k3 := hv.cell p1; have k4 := hv.cell p2; have k5 := hv.cell p3; have k6 := hv.cell p4; have k7 := hv.cell p5; have k8 := hv.cell p6; go_simp; first | done | with_reducible rfl | (rw [if_neg (by omega)])) ?_; simp only [Act.put, List.setIfInBounds_toArray, List.set_cons_zero, List.set_cons_succ]
  refine WQ.val (by rfl) (fun v hv => by have k0 := hv.cell r0; have k1 := hv.cell r1; have k2 := hv.cell p0; have k3 := hv.cell p1; have k4 := hv.cell p2; have k5 := hv.cell p3; have k6 := hv.cell p4; have k7 := hv.cell p5; have k8 := hv.cell p6; go_simp; first | done | with_reducible rfl | (rw [if_neg (by omega)])) ?_; simp only [Act.put, List.setIfInBounds_toArray, List.set_cons_zero, List.set_cons_succ]
  refine WQ.val (by rfl) (fun v hv => by have k0 := hv.cell r0; have k1 := hv.cell r1; have k2 := hv.cell p0; have k3 := hv.cell p1; have k4 := hv.cell p2; have k5 := hv.cell p3; have k6 := hv.cell p4; have k7 := hv.cell p5; have k8 := hv.cell p6; go_simp; first | done | with_reducible rfl | (rw [if_neg (by omega)])) ?_; simp only [Act.put, List.setIfInBounds_toArray, List.set_cons_zero, List.set_cons_succ]
  refine WQ.val (by rfl) (fun v hv => by have k0 := hv.cell r0; have k1 := hv.cell r1; have k2 := hv.cell p0; have k3 := hv.cell p1; have k4 := hv.cell p2; have k5 := hv.cell p3; have k6 := hv.cell p4; have k7 := hv.cell p5; have k8 := hv.cell p6; go_simp; first | done | with_reducible rfl | (rw [if_neg (by omega)])) ?_; simp only [Act.put, List.setIfInBounds_toArray, List.set_cons_zero, List.set_cons_succ]
  refine WQ.val (by rfl) (fun v hv => by have k0 := hv.cell r0; have k1 := hv.cell r1; have k2 := hv.cell p0; have k3 := hv.cell p1; have k4 := hv.cell p2; have k5 := hv.cell p3; have k6 := hv.cell p4; have k7 := hv.cell p5; have k8 := hv.cell p6; go_simp; first | done | with_reducible rfl | (rw [if_neg (by omega)])) ?_; simp only [Act.put, List.setIfInBounds_toArray, List.set_cons_zero, List.set_cons_succ]
  refine WQ.val (by rfl) (fun v hv => by have k0 := hv.cell r0; have k1 := hv.cell r1; have k2 := hv.cell p0; have k3 := hv.cell p1; have k4 := hv.cell p2; have k5 := hv.cell p3; have k6 := hv.cell p4; have k7 := hv.cell p5; have k8 := hv.cell p6; go_simp; first | done | with_reducible rfl | (rw [if_neg (by omega)])) ?_; simp only [Act.put, List.setIfInBounds_toArray, List.set_cons_zero, List.set_cons_succ]
  refine WQ.val (by rfl) (fun v hv => by have k0 := hv.cell r0; have k1 := hv.cell r1; have k2 := hv.cell p0; have k3 := hv.cell p1; have k4 := hv.cell p2; have k5 := hv.cell p3; have k6 := hv.cell p4; have k7 := hv.cell p5; have k8 := hv.cell p6; go_simp; first | done | with_reducible rfl | (rw [if_neg (by omega)])) ?_; simp only [Act.put, List.setIfInBounds_toArray, List.set_cons_zero, List.set_cons_succ]
  refine WQ.val (by rfl) (fun v hv => by have k0 := hv.cell r0; have k1 := hv.cell r1; have k2 := hv.cell p0; have k3 := hv.cell p1; have k4 := hv.cell p2; have k5 := hv.cell p3; have k6 := hv.cell p4; have k7 := hv.cell p5; have k8 := hv.cell p6; go_simp; first | done | with_reducible rfl | (rw [if_neg (by omega)])) ?_; simp only [Act.put, List.setIfInBounds_toArray, List.set_cons_zero, List.set_cons_succ]
  refine WQ.val (by rfl) (fun v hv => by have k0 := hv.cell r0; have k1 := hv.cell r1; have k2 := hv.cell p0; have k3 := hv.cell p1; have k4 := hv.cell p2; have k5 := hv.cell p3; have k6 := hv.cell p4; have k7 := hv.cell p5; have k8 := hv.cell p6; go_simp; first | done | with_reducible rfl | (rw [if_neg (by omega)])) ?_; simp only [Act.put, List.setIfInBounds_toArray, List.set_cons_zero, List.set_cons_succ]
  refine WQ.val (by rfl) (fun v hv => by have k0 := hv.cell r0; have k1 := hv.cell r1; have k2 := hv.cell p0; have k3 := hv.cell p1; have k4 := hv.cell p2; have k5 := hv.cell p3; have k6 := hv.cell p4; have k7 := hv.cell p5; have k8 := hv.cell p6; go_simp; first | done | with_reducible rfl | (rw [if_neg (by omega)])) ?_; simp only [Act.put, List.setIfInBounds_toArray, List.set_cons_zero, List.set_cons_succ]
  refine WQ.val (by rfl) (fun v hv => by have k0 := hv.cell r0; have k1 := hv.cell r1; have k2 := hv.cell p0; have k3 := hv.cell p1; have k4 := hv.cell p2; have k5 := hv.cell p3; have k6 := hv.cell p4; have k7 := hv.cell p5; have k8 := hv.cell p6; go_simp; first | done | with_reducible rfl | (rw [if_neg (by omega)])) ?_; simp only [Act.put, List.setIfInBounds_toArray, List.set_cons_zero, List.set_cons_succ]
  refine WQ.call (f := 85) (args := #[.slice a ln c, .agg #[.int .u8 proto, .int .u32 src, .int .u32 dst, .int .u16 sport, .int .u16 dport, .int .u8 flags, .int .u8 kind]]) (by rfl) (fun v hv => by go_simp) (fun v hv => (HFI.out v hv).mono (fun e v' ⟨he, hb⟩ => ⟨he, hv.step hb⟩)) ?_; simp only [Act.put, List.setIfInBounds_toArray, List.set_cons_zero, List.set_cons_succ]
  refine WQ.val (by rfl) (fun v hv => by have k0 := hv.cell r0; have k1 := hv.cell r1; have k2 := hv.cell p0; have k3 := hv.cell p1; have k4 := hv.cell p2; have k5 := hv.cell p3; have k6 := hv.cell p4; have k7 := hv.cell p5; have k8 := hv.cell p6; go_simp; first | done | with_reducible rfl | (rw [if_neg (by omega)])) ?_; simp only [Act.put, List.setIfInBounds_toArray, List.set_cons_zero, List.set_cons_succ]
  refine WQ.val (by rfl) (fun v hv => by have k0 := hv.cell r0; have k1 := hv.cell r1; have k2 := hv.cell p0; have k3 := hv.cell p1; have k4 := hv.cell p2; have k5 := hv.cell p3; have k6 := hv.cell p4; have k7 := hv.cell p5; have k8 := hv.cell p6; go_simp; first | done | with_reducible rfl | (rw [if_neg (by omega)])) ?_; simp only [Act.put, List.setIfInBounds_toArray, List.set_cons_zero, List.set_cons_succ]
  refine WQ.val (by rfl) (fun v hv => by have k0 := hv.cell r0; have k1 := hv.cell r1; have k2 := hv.cell p0; have k3 := hv.cell p1; have k4 := hv.cell p2; have k5 := hv.cell p3; have k6 := hv.cell p4; have k7 := hv.cell p5; have k8 := hv.cell p6; go_simp; first | done | with_reducible rfl | (rw [if_neg (by omega)])) ?_; simp only [Act.put, List.setIfInBounds_toArray, List.set_cons_zero, List.set_cons_succ]
  refine WQ.val (by rfl) (fun v hv => by have k0 := hv.cell r0; have k1 := hv.cell r1; have k2 := hv.cell p0; have k3 := hv.cell p1; have k4 := hv.cell p2; have k5 := hv.cell p3; have k6 := hv.cell p4; have k7 := hv.cell p5; have k8 := hv.cell p6; go_simp; first | done | with_reducible rfl | (rw [if_neg (by omega)])) ?_; simp only [Act.put, List.setIfInBounds_toArray, List.set_cons_zero, List.set_cons_succ]
  refine WQ.val (by rfl) (fun v hv => by have k0 := hv.cell r0; have k1 := hv.cell r1; have k2 := hv.cell p0; have k3 := hv.cell p1; have k4 := hv.cell p2; have k5 := hv.cell p3; have k6 := hv.cell p4; have k7 := hv.cell p5; have k8 := hv.cell p6; go_simp; first | done | with_reducible rfl | (rw [if_neg (by omega)])) ?_; simp only [Act.put, List.setIfInBounds_toArray, List.set_cons_zero, List.set_cons_succ]
  refine WQ.done ?_
  intro w2 hw2
  have HS2 := Lib.hid hw2
  have HA2 := Lib.hid (HA.out.below hw2)
  have s0 := hw2.cell p0
  have s1 := hw2.cell p1
  have s2 := hw2.cell p2
  have s3 := hw2.cell p3
  have s4 := hw2.cell p4
  have s5 := hw2.cell p5
  have s6 := hw2.cell p6
  have d1 := hw2.cell c1
  have d2 := hw2.cell c2
  have d3 := hw2.cell c3
  have d4 := hw2.cell c4
  have d5 := hw2.cell c5
  clear p0 p1 p2 p3 p4 p5 p6 c1 c2 c3 c4 c5 r0 r1 hqi hqw hqm hw2 HFI
  go_wp2_with fail
  refine (HOP.out _).mono ?_
  rintro e w3 ⟨rfl, h3⟩
  have HA3 := Lib.hid (HA2.out.below h3)
  have HW3 := Lib.hid (below_then (below_then HB0.out HS2.out) h3)
  have e1 := Since.cell h3 d1
  have e2 := Since.cell h3 d2
  have e3 := Since.cell h3 d3
  have e4 := Since.cell h3 d4
  have e5 := Since.cell h3 d5
  have g0 : w3.cell? ⟨ba, 18, none⟩ = some (.int .u64 (s.g : Nat)) := HA3.out.cell rfl
  have g1 : w3.cell? ⟨ba, 1, none⟩ = some (.int .i64 s.c.cap) := HA3.out.cell rfl
  clear d1 d2 d3 d4 d5 s0 s1 s2 s3 s4 s5 s6 h3
  go_wp2_with fail
  refine WQ.enter w3 (Since.refl _) (by kernel_rfl) (by kernel_rfl) ?_
  refine WQ.val (by rfl) (fun v hv => by have k0 := hv.cell g0; have k1 := hv.cell g1; go_simp; first | done | with_reducible rfl | (rw [if_neg (by omega)])) ?_; simp only [Act.put, List.setIfInBounds_toArray, List.set_cons_zero, List.set_cons_succ]
  refine WQ.val (by rfl) (fun v hv => by have k0 := hv.cell g0; have k1 := hv.cell g1; go_simp; first | done | with_reducible rfl | (rw [if_neg (by omega)])) ?_; simp only [Act.put, List.setIfInBounds_toArray, List.set_cons_zero, List.set_cons_succ]
  refine WQ.val (by rfl) (fun v hv => by have k0 := hv.cell g0; have k1 := hv.cell g1; go_simp; first | done | with_reducible rfl | (rw [if_neg (by omega)])) ?_; simp only [Act.put, List.setIfInBounds_toArray, List.set_cons_zero, List.set_cons_succ]
  refine WQ.val (by rfl) (fun v hv => by have k0 := hv.cell g0; have k1 := hv.cell g1; go_simp; first | done | with_reducible rfl | (rw [if_neg (by omega)])) ?_; simp only [Act.put, List.setIfInBounds_toArray, List.set_cons_zero, List.set_cons_succ]
  refine WQ.val (by rfl) (fun v hv => by have k0 := hv.cell g0; have k1 := hv.cell g1; go_simp; first | done | with_reducible rfl | (rw [if_neg (by omega)])) ?_; simp only [Act.put, List.setIfInBounds_toArray, List.set_cons_zero, List.set_cons_succ]
  refine WQ.val (by rfl) (fun v hv => by have k0 := hv.cell g0; have k1 := hv.cell g1; go_simp; first | done | with_reducible rfl | (rw [if_neg (by omega)])) ?_; simp only [Act.put, List.setIfInBounds_toArray, List.set_cons_zero, List.set_cons_succ]
  refine WQ.val (by rfl) (fun v hv => by have k0 := hv.cell g0; have k1 := hv.cell g1; go_simp; first | done | with_reducible rfl | (rw [if_neg (by omega)])) ?_; simp only [Act.put, List.setIfInBounds_toArray, List.set_cons_zero, List.set_cons_succ]
  refine WQ.val (by rfl) (fun v hv => by have k0 := hv.cell g0; have k1 := hv.cell g1; go_simp; first | done | with_reducible rfl | (rw [if_neg (by omega)])) ?_; simp only [Act.put, List.setIfInBounds_toArray, List.set_cons_zero, List.set_cons_succ]
  refine WQ.val (by rfl) (fun v hv => by have k0 := hv.cell g0; have k1 := hv.cell g1; go_simp; first | done | with_reducible rfl | (rw [if_neg (by omega)])) ?_; simp only [Act.put, List.setIfInBounds_toArray, List.set_cons_zero, List.set_cons_succ]
  refine WQ.call (f := 87) (args := #[.int .u64 (s.g : Nat), .int .i64 s.c.cap]) (by rfl) (fun v hv => by go_simp) (fun v hv => (HEN.out v).mono (fun e v' ⟨he, hb⟩ => ⟨he, hv.step hb⟩)) ?_; simp only [Act.put, List.setIfInBounds_toArray, List.set_cons_zero, List.set_cons_succ]
  refine WQ.val (by rfl) (fun v hv => by have k0 := hv.cell g0; have k1 := hv.cell g1; go_simp; first | done | with_reducible rfl | (rw [if_neg (by omega)])) ?_; simp only [Act.put, List.setIfInBounds_toArray, List.set_cons_zero, List.set_cons_succ]
  refine WQ.val (by rfl) (fun v hv => by have k0 := hv.cell g0; have k1 := hv.cell g1; go_simp; first | done | with_reducible rfl | (rw [if_neg (by omega)])) ?_; simp only [Act.put, List.setIfInBounds_toArray, List.set_cons_zero, List.set_cons_succ]
  refine WQ.val (by rfl) (fun v hv => by have k0 := hv.cell g0; have k1 := hv.cell g1; go_simp; first | done | with_reducible rfl | (rw [if_neg (by omega)])) ?_; simp only [Act.put, List.setIfInBounds_toArray, List.set_cons_zero, List.set_cons_succ]
  refine WQ.val (by rfl) (fun v hv => by have k0 := hv.cell g0; have k1 := hv.cell g1; go_simp; first | done | with_reducible rfl | (rw [if_neg (by omega)])) ?_; simp only [Act.put, List.setIfInBounds_toArray, List.set_cons_zero, List.set_cons_succ]
  refine WQ.val (by rfl) (fun v hv => by have k0 := hv.cell g0; have k1 := hv.cell g1; go_simp; first | done | with_reducible rfl | (rw [if_neg (by omega)])) ?_; simp only [Act.put, List.setIfInBounds_toArray, List.set_cons_zero, List.set_cons_succ]
  refine WQ.done ?_
  intro w4 hw4
  have HA4 := Lib.hid (HA3.out.below hw4)
  have HW4 := Lib.hid (below_then HW3.out hw4)
  have f1 := hw4.cell e1
  have f2 := hw4.cell e2
  have f3 := hw4.cell e3
  have f4 := hw4.cell e4
  have f5 := hw4.cell e5
  clear e1 e2 e3 e4 e5 g0 g1 hw4
  cases inn with
  | false =>
    have HR : Hid (res = (s, 3)) := Lib.hid (by rw [HV.out, if_pos rfl])
    go_wp2_with fail
    go_ret
    exact ⟨by (rw [HR.out]) <;> rfl, by rw [HR.out]; exact ⟨rv, mb, f, vs, HA4.out⟩, Turn.of_below HW4.out⟩
  | true =>
  cases ok with
  | false =>
    have HR : Hid (res = (s, 4)) := Lib.hid (by rw [HV.out, if_neg (by decide), if_pos rfl])
    go_wp2_with fail
    go_ret
    exact ⟨by (rw [HR.out]) <;> rfl, by rw [HR.out]; exact ⟨rv, mb, f, vs, HA4.out⟩, Turn.of_below HW4.out⟩
  | true =>
  cases room with
  | false =>
    have HR : Hid (res = (s, 5)) := Lib.hid (by rw [HV.out, if_neg (by decide), if_neg (by decide), if_pos rfl])
    go_wp2_with fail
    go_ret
    exact ⟨by (rw [HR.out]) <;> rfl, by rw [HR.out]; exact ⟨rv, mb, f, vs, HA4.out⟩, Turn.of_below HW4.out⟩
  | true =>
  have HR : Hid (res = (putS { s with g := ge } k (flowNext 0 st (untilF s.c.ts st (clkW ge : Nat)), t), 1)) := Lib.hid (by rw [HV.out, if_neg (by decide), if_neg (by decide), if_neg (by decide)])
  have HU := Lib.hid (HUG.out rfl)
  have g0 : w4.cell? ⟨ba, 18, none⟩ = some (.int .u64 (s.g : Nat)) := HA4.out.cell rfl
  have g2 := HA4.out.free 18
  have HA5 := Lib.hid (HA4.out.setg ge)
  have HT5 : Hid (Turn F w (w4.setCell ⟨ba, 18, none⟩ (.int .u64 (ge : Nat)))) := Lib.hid ((Turn.of_below (F := F) HW4.out).setCell _ _ (.inl HFB.out))
  have hkb : w.heap.size + 1 ≠ ba := fun e => by
    have := HA4.out.box
    rw [← e] at this
    simp [World.cell?, this, autoC] at f1
  have c1 : (w4.setCell ⟨ba, 18, none⟩ (.int .u64 (ge : Nat))).cell? ⟨w.heap.size + 1, 0, none⟩ = some (.int .u32 k.a0) := (World.cell?_of_block (w := w4) (Below.heap_setCell _ _ _ _ hkb)).trans f1
  have c2 : (w4.setCell ⟨ba, 18, none⟩ (.int .u64 (ge : Nat))).cell? ⟨w.heap.size + 1, 1, none⟩ = some (.int .u32 k.a1) := (World.cell?_of_block (w := w4) (Below.heap_setCell _ _ _ _ hkb)).trans f2
  have c3 : (w4.setCell ⟨ba, 18, none⟩ (.int .u64 (ge : Nat))).cell? ⟨w.heap.size + 1, 2, none⟩ = some (.int .u16 k.p0) := (World.cell?_of_block (w := w4) (Below.heap_setCell _ _ _ _ hkb)).trans f3
  have c4 : (w4.setCell ⟨ba, 18, none⟩ (.int .u64 (ge : Nat))).cell? ⟨w.heap.size + 1, 3, none⟩ = some (.int .u16 k.p1) := (World.cell?_of_block (w := w4) (Below.heap_setCell _ _ _ _ hkb)).trans f4
  have c5 : (w4.setCell ⟨ba, 18, none⟩ (.int .u64 (ge : Nat))).cell? ⟨w.heap.size + 1, 4, none⟩ = some (.int .u8 k.pr) := (World.cell?_of_block (w := w4) (Below.heap_setCell _ _ _ _ hkb)).trans f5
  have HUN := Lib.hid (fun W => until_val s.c.ts st (clkW ge : Nat) _ W rfl)
  have HCK := Lib.hid (fun W (hA : AutoAt W ba F { s with g := ge }) => clock_any hA HU.out)
  have HNX := Lib.hid (fun W => flowNext_any 0 _ st (untilF s.c.ts st (clkW ge : Nat)) W (by decide) rfl)
  generalize untilF s.c.ts st (clkW ge : Nat) = un at *
  generalize flowNext 0 st un = nw at *
  clear f1 f2 f3 f4 f5 hkb hge HEN HOP HV HUG
  go_wp2_with fail
  generalize w4.setCell ⟨ba, 18, none⟩ (.int .u64 (ge : Nat)) = w5 at *
  have c0 : w5.cell? ⟨ba, 20, none⟩ = some (.map (some mb)) := HA5.out.cell rfl
  have TS6 := Lib.hid HA5.out.times
  have HS5 : Since w5 w5.drew := (Below.refl _ w5).trans ⟨rfl, rfl, rfl, Nat.le_refl _, fun _ _ => rfl⟩
  refine WQ.last (Since w5) HS5 18 6 (by rfl) (by kernel_rfl) (by kernel_rfl) ?_; simp only [List.take_succ_cons, List.take_zero]
  refine WQ.val (by rfl) (fun v hv => by have k0 := hv.cell c0; have k1 := hv.cell c1; have k2 := hv.cell c2; have k3 := hv.cell c3; have k4 := hv.cell c4; have k5 := hv.cell c5; go_simp; first | done | with_reducible rfl | (rw [if_neg (by omega)])) ?_; simp only [Act.put, List.setIfInBounds_toArray, List.set_cons_zero, List.set_cons_succ]
  refine WQ.val (by rfl) (fun v hv => by have k0 := hv.cell c0; have k1 := hv.cell c1; have k2 := hv.cell c2; have k3 := hv.cell c3; have k4 := hv.cell c4; have k5 := hv.cell c5; go_simp; first | done | with_reducible rfl | (rw [if_neg (by omega)])) ?_; simp only [Act.put, List.setIfInBounds_toArray, List.set_cons_zero, List.set_cons_succ]
  refine WQ.val (by rfl) (fun v hv => by have k0 := hv.cell c0; have k1 := hv.cell c1; have k2 := hv.cell c2; have k3 := hv.cell c3; have k4 := hv.cell c4; have k5 := hv.cell c5; go_simp; first | done | with_reducible rfl | (rw [if_neg (by omega)])) ?_; simp only [Act.put, List.setIfInBounds_toArray, List.set_cons_zero, List.set_cons_succ]
  refine WQ.val (by rfl) (fun v hv => by have k0 := hv.cell c0; have k1 := hv.cell c1; have k2 := hv.cell c2; have k3 := hv.cell c3; have k4 := hv.cell c4; have k5 := hv.cell c5; go_simp; first | done | with_reducible rfl | (rw [if_neg (by omega)])) ?_; simp only [Act.put, List.setIfInBounds_toArray, List.set_cons_zero, List.set_cons_succ]
  refine WQ.val (by rfl) (fun v hv => by have k0 := hv.cell c0; have k1 := hv.cell c1; have k2 := hv.cell c2; have k3 := hv.cell c3; have k4 := hv.cell c4; have k5 := hv.cell c5; go_simp; first | done | with_reducible rfl | (rw [if_neg (by omega)])) ?_; simp only [Act.put, List.setIfInBounds_toArray, List.set_cons_zero, List.set_cons_succ]
  refine WQ.val (by rfl) (fun v hv => by have k0 := hv.cell c0; have k1 := hv.cell c1; have k2 := hv.cell c2; have k3 := hv.cell c3; have k4 := hv.cell c4; have k5 := hv.cell c5; go_simp; first | done | with_reducible rfl | (rw [if_neg (by omega)])) ?_; simp only [Act.put, List.setIfInBounds_toArray, List.set_cons_zero, List.set_cons_succ]
  refine WQ.val (by rfl) (fun v hv => by have k0 := hv.cell c0; have k1 := hv.cell c1; have k2 := hv.cell c2; have k3 := hv.cell c3; have k4 := hv.cell c4; have k5 := hv.cell c5; go_simp; first | done | with_reducible rfl | (rw [if_neg (by omega)])) ?_; simp only [Act.put, List.setIfInBounds_toArray, List.set_cons_zero, List.set_cons_succ]
  refine WQ.val (by rfl) (fun v hv => by have k0 := hv.cell c0; have k1 := hv.cell c1; have k2 := hv.cell c2; have k3 := hv.cell c3; have k4 := hv.cell c4; have k5 := hv.cell c5; go_simp; first | done | with_reducible rfl | (rw [if_neg (by omega)])) ?_; simp only [Act.put, List.setIfInBounds_toArray, List.set_cons_zero, List.set_cons_succ]
  refine WQ.val (by rfl) (fun v hv => by have k0 := hv.cell c0; have k1 := hv.cell c1; have k2 := hv.cell c2; have k3 := hv.cell c3; have k4 := hv.cell c4; have k5 := hv.cell c5; go_simp; first | done | with_reducible rfl | (rw [if_neg (by omega)])) ?_; simp only [Act.put, List.setIfInBounds_toArray, List.set_cons_zero, List.set_cons_succ]
  refine WQ.val (by rfl) (fun v hv => by have k0 := hv.cell c0; have k1 := hv.cell c1; have k2 := hv.cell c2; have k3 := hv.cell c3; have k4 := hv.cell c4; have k5 := hv.cell c5; go_simp; first | done | with_reducible rfl | (rw [if_neg (by omega)])) ?_; simp only [Act.put, List.setIfInBounds_toArray, List.set_cons_zero, List.set_cons_succ]
  refine WQ.load (by rfl) 22 (.tmp 72) rfl ba 2 (by rfl) (arr16 s.c.ts).toList _ (fun v hv => hv.range TS6.out) Tryz.underlying22 rfl (by kernel_rfl) ?_; simp only [Act.put, List.setIfInBounds_toArray, List.set_cons_zero, List.set_cons_succ]
  refine WQ.val (by rfl) (fun v hv => by have k0 := hv.cell c0; have k1 := hv.cell c1; have k2 := hv.cell c2; have k3 := hv.cell c3; have k4 := hv.cell c4; have k5 := hv.cell c5; go_simp; first | done | with_reducible rfl | (rw [if_neg (by omega)])) ?_; simp only [Act.put, List.setIfInBounds_toArray, List.set_cons_zero, List.set_cons_succ]
  refine WQ.val (by rfl) (fun v hv => by have k0 := hv.cell c0; have k1 := hv.cell c1; have k2 := hv.cell c2; have k3 := hv.cell c3; have k4 := hv.cell c4; have k5 := hv.cell c5; go_simp; first | done | with_reducible rfl | (rw [if_neg (by omega)])) ?_; simp only [Act.put, List.setIfInBounds_toArray, List.set_cons_zero, List.set_cons_succ]
  refine WQ.call (f := 46) (args := #[.pointer (some ⟨ba, 0, none⟩)]) (by rfl) (fun v hv => by go_simp) (fun v hv => (HCK.out v ⟨rv, mb, f, vs, HA5.out.below hv⟩).mono (fun e v' ⟨he, hb⟩ => ⟨he, hv.step hb⟩)) ?_; simp only [Act.put, List.setIfInBounds_toArray, List.set_cons_zero, List.set_cons_succ]
  refine WQ.call (f := 55) (args := #[.agg (arr16 s.c.ts), .int .i64 st, .int .i64 (clkW ge : Nat)]) (by rfl) (fun v hv => by go_simp) (fun v hv => (HUN.out v).mono (fun e v' ⟨he, hb⟩ => ⟨he, hv.step hb⟩)) ?_; simp only [Act.put, List.setIfInBounds_toArray, List.set_cons_zero, List.set_cons_succ]
  refine WQ.call (f := 56) (args := #[.int .u64 0, .int .i64 st, .int .i64 un]) (by rfl) (fun v hv => by go_simp) (fun v hv => (HNX.out v).mono (fun e v' ⟨he, hb⟩ => ⟨he, hv.step hb⟩)) ?_; simp only [Act.put, List.setIfInBounds_toArray, List.set_cons_zero, List.set_cons_succ]
  refine WQ.val (by rfl) (fun v hv => by have k0 := hv.cell c0; have k1 := hv.cell c1; have k2 := hv.cell c2; have k3 := hv.cell c3; have k4 := hv.cell c4; have k5 := hv.cell c5; go_simp; first | done | with_reducible rfl | (rw [if_neg (by omega)])) ?_; simp only [Act.put, List.setIfInBounds_toArray, List.set_cons_zero, List.set_cons_succ]
  refine WQ.val (by rfl) (fun v hv => by have k0 := hv.cell c0; have k1 := hv.cell c1; have k2 := hv.cell c2; have k3 := hv.cell c3; have k4 := hv.cell c4; have k5 := hv.cell c5; go_simp; first | done | with_reducible rfl | (rw [if_neg (by omega)])) ?_; simp only [Act.put, List.setIfInBounds_toArray, List.set_cons_zero, List.set_cons_succ]
  refine WQ.done ?_
  intro w6 hw6
  refine wpOp_one rfl (by rfl) ?_
  intro K' hK'
  have HA6 := HA5.out.below hw6
  obtain ⟨o, hrun, hfl⟩ := HA6.fl.put HK.out (nw, t)
  have HA7 := Lib.hid (HA6.setmap o hfl)
  have HT7 : Hid (Turn F w (setBlock w6 mb o)) := Lib.hid ((HT5.out.trans (Turn.of_below (F := fun _ => False) hw6) (fun _ h => h.elim)).setBlock mb o (.inl HFM.out))
  clear hfl HA6 hw6
  refine oper_mapUpdate _ _ _ _ rfl (show _ = Value.map (some mb) from rfl) (show _ = kyV k from rfl) (show _ = evE (nw, t) from rfl) hrun (hK' _ _ ?_) rfl
  clear hrun hK'
  generalize setBlock w6 mb o = w7 at *
  go_wp2_with fail
  go_ret
  exact ⟨by (rw [HR.out]) <;> rfl, by rw [HR.out]; exact ⟨rv, mb, _, vs, HA7.out⟩, HT7.out⟩
end Go.Proofs.YtahgapkecabnjaaGreatDoor
