/- The reference's Act. Printed by gen_reff.py. -/
import Derived.Test.YtahgapkecabnjaaGreatDoorC25
import Derived.Test.YtahgapkecabnjaaGreatDoorC20
namespace Go.Proofs.YtahgapkecabnjaaGreatDoor
set_option linter.unusedSimpArgs false
set_option linter.unusedVariables false
open Go Go.RowKit Go.Shelf Go.Lib Go.Maps Go.MapKept

theorem flowsC_set : ∀ (l : Kl (Nat × Bool)) (n : Nat) (k : Ky) (e : Nat × Bool) (x : Nat), l[n]? = some (k, e) → (flowsC l).set (n * 7 + 5) (.int .u64 (x : Nat)) = flowsC (l.set n (k, (x, e.2)))
  | [], n, k, e, x, h => by simp at h
  | q :: l, 0, k, e, x, h => by
    obtain rfl : q = (k, e) := by simpa using h
    simp [flowsC, flowC]
  | q :: l, n + 1, k, e, x, h => by
    have h2 := flowsC_set l n k e x (by simpa using h)
    have e1 : flowsC (q :: l) = flowC q ++ flowsC l := by simp [flowsC]
    have e2 : flowsC ((q :: l).set (n + 1) (k, (x, e.2))) = flowC q ++ flowsC (l.set n (k, (x, e.2))) := by simp [flowsC]
    rw [e1, e2, ← h2, List.set_append, if_neg (by simp [flowC]; omega)]
    congr 2
    simp [flowC]; omega
/-- A flow's word is stored anew. -/
theorem RefW.reword {w : World} {ra : Nat} {F : Nat → Prop} {s : St} {rv fv : Value} {vs : List Value} (h : RefW w ra F s rv fv vs) {n : Nat} {k : Ky} {e : Nat × Bool} (hp : s.flows[n]? = some (k, e)) (hr : Rises (keysL s.flows)) {g m c : Nat} (hfv : fv = .slice (some ⟨g, 0, none⟩) m c) (x : Nat) :
    RefW (w.setCell ⟨g, n * 7 + 5, none⟩ (.int .u64 (x : Nat))) ra F (putS s k (x, e.2)) rv fv vs := by
  have hne : ∀ i, i ≠ g → (w.setCell ⟨g, n * 7 + 5, none⟩ (.int .u64 (x : Nat))).heap[i]? = w.heap[i]? := fun i hi => Below.heap_setCell _ _ _ i hi
  have hg : fv.ownBlock = some g := by rw [hfv]; rfl
  obtain ⟨cur, hc⟩ := row_type h.frow hg
  obtain ⟨h1, h2, h3⟩ := h.apart
  have other : ∀ {v : Value} {e : TypeId} {size n : Nat} {xs : List Value}, Row w e size v n xs → e ≠ 96 → ∀ b, v.ownBlock = some b → b ≠ g := fun {v e size n xs} hv n1 b eb e2 => by
    subst e2
    obtain ⟨cur2, hc2⟩ := row_type hv eb
    rw [hc] at hc2
    injection hc2 with hc2
    injection hc2 with _ hc2
    exact n1 hc2.symm
  have hf : (putS s k (x, e.2)).flows = s.flows.set n (k, (x, e.2)) := putL_at hr hp _
  have hn := (List.getElem?_eq_some_iff.1 hp).1
  refine ⟨(hne ra (fun e => h2 g hg e.symm)).trans h.box, row_of_block h.row (fun b e => hne b (other h.row (by decide) b e)), fun i rs hi => ?_, ?_, h.fra, h.frv, h.ffv⟩
  · obtain ⟨v, e, hv⟩ := h.inner i rs hi
    exact ⟨v, e, hv.keep (fun b eb => hne b (other hv.row (by decide) b eb)) (fun _ h => h)⟩
  · rw [hf, ← flowsC_set _ _ _ _ _ hp, List.length_set]
    exact row_set h.frow hg _ _ (by rw [flowsC_len]; omega)
theorem RefW.flow_cell {w : World} {ra : Nat} {F : Nat → Prop} {s : St} {rv fv : Value} {vs : List Value} (h : RefW w ra F s rv fv vs) {n : Nat} {p : Ky × (Nat × Bool)} (hp : s.flows[n]? = some p) {g m c : Nat} (hfv : fv = .slice (some ⟨g, 0, none⟩) m c) {j : Nat} {v : Value} (hj : (flowC p)[j]? = some v) : w.cell? ⟨g, n * 7 + j, none⟩ = some v ∧ w.frozen? ⟨g, n * 7 + j, none⟩ = false := by
  obtain ⟨a, c', e, hx⟩ := h.flows
  obtain ⟨g', e2, _, h3⟩ := hx n p hp
  rw [e, e2] at hfv
  cases hfv
  exact h3 j v hj
theorem RPost.then {w w3 w4 w' : World} {ra : Nat} {F F' F2 : Nat → Prop} {s2 : St} (hT : Turn F w w4) (hx : ∀ i, F' i → F i ∨ w.heap.size ≤ i ∧ i < w4.heap.size) (hA : RefAt w' ra F2 s2) (hT2 : Turn F' w4 w') (hx2 : ∀ i, F2 i → F' i ∨ w4.heap.size ≤ i ∧ i < w'.heap.size) : RPost w ra F s2 w' := by
  refine ⟨F2, hA, hT.trans hT2 (fun i h => (hx i h).imp id (fun h => h.1)), fun i h => ?_⟩
  have z1 := hT.size
  have z2 := hT2.size
  rcases hx2 i h with h | h
  · rcases hx i h with h | h
    · exact .inl h
    · exact .inr ⟨h.1, by omega⟩
  · exact .inr ⟨by omega, h.2⟩
set_option maxHeartbeats 8000000 in
set_option maxRecDepth 100000 in
theorem ract_old {w : World} {ra : Nat} {F : Nat → Prop} {s : St} {p : Pk} (hp : PkIn p) (h : RefAt w ra F s) (hs : s.Ok) (hF : ∀ i, F i → i < w.heap.size) {n : Nat} {e : Nat × Bool} (hi : idxI (deleteS s (keyF p).1).flows (keyF p).1 = n) (hpn : (deleteS s (keyF p).1).flows[n]? = some ((keyF p).1, e)) (hg : getL (deleteS s (keyF p).1).flows (keyF p).1 = some e) :
    Calls Tryz.prog 37 #[.pointer (some ⟨ra, 0, none⟩), .agg (pkC p)] w fun e w' => e = .returned (.int .i64 (actS s p).2) ∧ RPost w ra F (actS s p).1 w' := by
  have HB0 : Hid (Below w.heap.size w (w.alloc (.cells (pkC p) 41))) := Lib.hid ((Below.refl _ w).alloc (Nat.le_refl _) _)
  have HA := Lib.hid (h.below HB0.out)
  have HP := Lib.hid hp
  have HF := Lib.hid hF
  have hk := keyF_in hp
  have HZ := Lib.hid (deleteS_ok hs (keyF p).1)
  have HOF := Lib.hid (fun W => refOf_any p W hp)
  have HDE := Lib.hid (fun W (hA : RefAt W ra F s) hF => rdelete_any hk hA hs hF)
  have HFI := Lib.hid (fun W F' (hA : RefAt W ra F' (deleteS s (keyF p).1)) => find_any hk hA HZ.out)
  rw [hi] at HFI
  have HV : Hid (actS s p = onS (deleteS s (keyF p).1) p (keyF p).1 (keyF p).2 e) := Lib.hid (by unfold actS actK; rw [hg])
  obtain ⟨ew, et⟩ := e
  have HU : Hid (U64 ew ∧ stW ew ≤ 15) := Lib.hid ⟨(HZ.out.at_ hg).2.1, by have := (HZ.out.at_ hg).2.2.2; show stW ew ≤ 15; have h9 : stW ew ≤ 9 := this; omega⟩
  have HPN := Lib.hid hpn
  clear hg hpn
  generalize actS s p = res at *
  generalize (keyF p).1 = k at *
  generalize (keyF p).2 = t at *
  generalize overS s k = dv at *
  generalize deleteS s k = z at *
  have HK := Lib.hid hk
  have HOF : Hid (∀ W, Calls Tryz.prog 70 #[.agg (pkC p)] W fun e w' => e = .returned (.tuple #[.agg #[.int .u32 k.a0, .int .u32 k.a1, .int .u16 k.p0, .int .u16 k.p1, .int .u8 k.pr], .bool t]) ∧ Below W.heap.size W w') := HOF
  clear h hp hk hs hF hi
  have p0 : (w.alloc (.cells (pkC p) 41)).cell? ⟨w.heap.size, 0, none⟩ = some (.int .u8 p.proto) := by simp [pkC]
  have p1 : (w.alloc (.cells (pkC p) 41)).cell? ⟨w.heap.size, 1, none⟩ = some (.int .u32 p.src) := by simp [pkC]
  have p2 : (w.alloc (.cells (pkC p) 41)).cell? ⟨w.heap.size, 2, none⟩ = some (.int .u32 p.dst) := by simp [pkC]
  have p3 : (w.alloc (.cells (pkC p) 41)).cell? ⟨w.heap.size, 3, none⟩ = some (.int .u16 p.sport) := by simp [pkC]
  have p4 : (w.alloc (.cells (pkC p) 41)).cell? ⟨w.heap.size, 4, none⟩ = some (.int .u16 p.dport) := by simp [pkC]
  have p5 : (w.alloc (.cells (pkC p) 41)).cell? ⟨w.heap.size, 5, none⟩ = some (.int .u8 p.flags) := by simp [pkC]
  have p6 : (w.alloc (.cells (pkC p) 41)).cell? ⟨w.heap.size, 6, none⟩ = some (.int .u8 p.kind) := by simp [pkC]
  go_enter Tryz.func37, Tryz.ntmps37
  go_wp2_with fail
  refine (HOF.out _).mono ?_
  rintro e w2 ⟨rfl, h2⟩
  have q0 := Since.cell h2 p0
  have q1 := Since.cell h2 p1
  have q2 := Since.cell h2 p2
  have q3 := Since.cell h2 p3
  have q4 := Since.cell h2 p4
  have q5 := Since.cell h2 p5
  have q6 := Since.cell h2 p6
  have HB2 := Lib.hid (below_then HB0.out h2)
  have HA2 := Lib.hid (HA.out.below h2)
  have hz2 : w.heap.size < w2.heap.size := by have := h2.size; simp at this; omega
  have HB3 : Hid (Below w2.heap.size w2 (w2.alloc (.cells #[.int .u32 k.a0, .int .u32 k.a1, .int .u16 k.p0, .int .u16 k.p1, .int .u8 k.pr] 45))) := Lib.hid ((Below.refl _ w2).alloc (Nat.le_refl _) _)
  clear p0 p1 p2 p3 p4 p5 p6 h2
  have c1 : (w2.alloc (.cells #[.int .u32 k.a0, .int .u32 k.a1, .int .u16 k.p0, .int .u16 k.p1, .int .u8 k.pr] 45)).cell? ⟨w2.heap.size, 0, none⟩ = some (.int .u32 k.a0) := by simp
  have c2 : (w2.alloc (.cells #[.int .u32 k.a0, .int .u32 k.a1, .int .u16 k.p0, .int .u16 k.p1, .int .u8 k.pr] 45)).cell? ⟨w2.heap.size, 1, none⟩ = some (.int .u32 k.a1) := by simp
  have c3 : (w2.alloc (.cells #[.int .u32 k.a0, .int .u32 k.a1, .int .u16 k.p0, .int .u16 k.p1, .int .u8 k.pr] 45)).cell? ⟨w2.heap.size, 2, none⟩ = some (.int .u16 k.p0) := by simp
  have c4 : (w2.alloc (.cells #[.int .u32 k.a0, .int .u32 k.a1, .int .u16 k.p0, .int .u16 k.p1, .int .u8 k.pr] 45)).cell? ⟨w2.heap.size, 3, none⟩ = some (.int .u16 k.p1) := by simp
  have c5 : (w2.alloc (.cells #[.int .u32 k.a0, .int .u32 k.a1, .int .u16 k.p0, .int .u16 k.p1, .int .u8 k.pr] 45)).cell? ⟨w2.heap.size, 4, none⟩ = some (.int .u8 k.pr) := by simp
  have s0 := Since.cell HB3.out q0
  have s1 := Since.cell HB3.out q1
  have s2 := Since.cell HB3.out q2
  have s3 := Since.cell HB3.out q3
  have s4 := Since.cell HB3.out q4
  have s5 := Since.cell HB3.out q5
  have s6 := Since.cell HB3.out q6
  clear q0 q1 q2 q3 q4 q5 q6
  have hlt0 : w.heap.size < (w2.alloc (.cells #[.int .u32 k.a0, .int .u32 k.a1, .int .u16 k.p0, .int .u16 k.p1, .int .u8 k.pr] 45)).heap.size := by simp; omega
  have hlt1 : w2.heap.size < (w2.alloc (.cells #[.int .u32 k.a0, .int .u32 k.a1, .int .u16 k.p0, .int .u16 k.p1, .int .u8 k.pr] 45)).heap.size := by simp
  go_wp2_with fail
  refine (HDE.out _ (HA2.out.below HB3.out) (fun i hi => by have := HF.out i hi; omega)).mono ?_
  rintro e w4 ⟨rfl, F', hA4, hT4, hx4⟩
  have HA4 := Lib.hid hA4
  have hn0 : ¬ F w.heap.size := fun h => absurd (HF.out _ h) (by omega)
  have hn1 : ¬ F w2.heap.size := fun h => by have := HF.out _ h; omega
  have HT4 : Hid (Turn F w w4) := Lib.hid ((Turn.of_below (F := F) (below_then HB2.out HB3.out)).trans hT4 (fun i h => .inl h))
  have HX4 : Hid (∀ i, F' i → F i ∨ w.heap.size ≤ i ∧ i < w4.heap.size) := Lib.hid (fun i h => (hx4 i h).imp id (fun h => ⟨by omega, h.2⟩))
  have HPO : Hid (∀ F2 s2 w', RefAt w' ra F2 s2 → Turn F' w4 w' → (∀ i, F2 i → F' i ∨ w4.heap.size ≤ i ∧ i < w'.heap.size) → RPost w ra F s2 w') := Lib.hid (fun F2 s2 w' h1 h2 h3 => RPost.then (w3 := w4) HT4.out HX4.out h1 h2 h3)
  have hz4 : w2.heap.size < w4.heap.size := by have := hT4.size; simp at this; omega
  have q0 := hT4.at_ hlt0 hn0 s0
  have q1 := hT4.at_ hlt0 hn0 s1
  have q2 := hT4.at_ hlt0 hn0 s2
  have q3 := hT4.at_ hlt0 hn0 s3
  have q4 := hT4.at_ hlt0 hn0 s4
  have q5 := hT4.at_ hlt0 hn0 s5
  have q6 := hT4.at_ hlt0 hn0 s6
  have d1 := hT4.at_ hlt1 hn1 c1
  have d2 := hT4.at_ hlt1 hn1 c2
  have d3 := hT4.at_ hlt1 hn1 c3
  have d4 := hT4.at_ hlt1 hn1 c4
  have d5 := hT4.at_ hlt1 hn1 c5
  clear s0 s1 s2 s3 s4 s5 s6 c1 c2 c3 c4 c5 hA4 hT4 hx4 hlt0 hlt1 HDE HOF HA HA2 hn0 hn1 HB3 HX4
  go_wp2_with fail
  refine (HFI.out _ _ HA4.out).mono ?_
  rintro e w5 ⟨rfl, h5⟩
  have HS5 : Hid (Since w4 w5) := Lib.hid h5
  replace q0 := HS5.out.cell q0
  replace q1 := HS5.out.cell q1
  replace q2 := HS5.out.cell q2
  replace q3 := HS5.out.cell q3
  replace q4 := HS5.out.cell q4
  replace q5 := HS5.out.cell q5
  replace q6 := HS5.out.cell q6
  replace d1 := HS5.out.cell d1
  replace d2 := HS5.out.cell d2
  replace d3 := HS5.out.cell d3
  replace d4 := HS5.out.cell d4
  replace d5 := HS5.out.cell d5
  have HA5 := Lib.hid (HA4.out.below h5)
  have hz5 : w4.heap.size ≤ w5.heap.size := h5.size
  clear h5 HFI
  obtain ⟨rv, fv, vs, hA⟩ := HA5.out
  obtain ⟨a, c, hfv, hfl⟩ := hA.flows
  obtain ⟨g, rfl, hFg, hc⟩ := hfl n _ HPN.out
  have HFV := Lib.hid hfv
  have HFG := Lib.hid hFg
  have r0 : w5.cell? ⟨ra, 20, none⟩ = some fv := hA.cell rfl
  rw [hfv] at r0
  have HRW := Lib.hid hA
  have hsm := HZ.out.small
  have hnl0 := (List.getElem?_eq_some_iff.1 HPN.out).1
  have hni : (0 : Int) ≤ n := by omega
  have hnl : (n : Int) < (z.flows.length : Int) := by omega
  have f0 : w5.cell? ⟨g, n * 7, none⟩ = some (.int .u32 k.a0) := (hc 0 _ rfl).1
  have f1 : w5.cell? ⟨g, n * 7 + 1, none⟩ = some (.int .u32 k.a1) := (hc 1 _ rfl).1
  have f2 : w5.cell? ⟨g, n * 7 + 2, none⟩ = some (.int .u16 k.p0) := (hc 2 _ rfl).1
  have f3 : w5.cell? ⟨g, n * 7 + 3, none⟩ = some (.int .u16 k.p1) := (hc 3 _ rfl).1
  have f4 : w5.cell? ⟨g, n * 7 + 4, none⟩ = some (.int .u8 k.pr) := (hc 4 _ rfl).1
  have f5 : w5.cell? ⟨g, n * 7 + 5, none⟩ = some (.int .u64 (ew : Nat)) := (hc 5 _ rfl).1
  have f6 : w5.cell? ⟨g, n * 7 + 6, none⟩ = some (.bool et) := (hc 6 _ rfl).1
  have HFR := Lib.hid (hc 5 _ rfl).2
  clear hfv hfl hFg hc hA d1 d2 d3 d4 d5 hnl0
  generalize hfm : z.flows.length = m at *
  have HM := Lib.hid hfm
  clear hfm
  have HUN := Lib.hid (fun W => rfunpack_any ew _ _ _ W HU.out.1 rfl rfl rfl)
  have HFB := Lib.hid (show 0 ≤ p.flags ∧ p.flags ≤ 255 from ⟨HP.out.flags.1, by have := HP.out.flags.2; omega⟩)
  have HFN := Lib.hid (fun W => refFnext_val (stW ew : Nat) (t != et) p (fnextF (stW ew : Nat) (t != et) p).1 (fnextF (stW ew : Nat) (t != et) p).2 W HFB.out.1 HFB.out.2 rfl)
  have HR : Hid (res = if (fnextF (stW ew : Nat) (t != et) p).2 = true then (putS z k (flowNext ew (fnextF (stW ew : Nat) (t != et) p).1 (untilF z.c.ts (fnextF (stW ew : Nat) (t != et) p).1 (clkW z.g : Nat)), et), 1) else (putS z k (flowNext ew (stW ew : Nat) (untW ew : Nat), et), 4)) := HV
  have HWD := Lib.hid (fun W st (hA : RefAt W ra F' z) => rword_any ew st hA HZ.out.g HU.out.1)
  have HNX := Lib.hid (fun W => rflowNext_any ew _ (stW ew : Nat) (untW ew : Nat) W HU.out.1 rfl)
  clear HV
  generalize flowNext ew (stW ew : Nat) (untW ew : Nat) = nw0 at *
  generalize (fnextF (stW ew : Nat) (t != et) p).1 = st at *
  generalize (fnextF (stW ew : Nat) (t != et) p).2 = va at *
  generalize stW ew = sw at *
  generalize untW ew = uw at *
  generalize seqW ew = qw at *
  have HWD := Lib.hid (fun W => HWD.out W st)
  generalize flowNext ew st (untilF z.c.ts st (clkW z.g : Nat)) = nw1 at *
  go_wp2_with fail
  have HB6 : Hid (Since w5 (w5.alloc (.cells #[.int .u32 k.a0, .int .u32 k.a1, .int .u16 k.p0, .int .u16 k.p1, .int .u8 k.pr, .int .u64 (ew : Nat), .bool et] 96))) := Lib.hid ((Below.refl _ w5).alloc (Nat.le_refl _) _)
  have g1 : (w5.alloc (.cells #[.int .u32 k.a0, .int .u32 k.a1, .int .u16 k.p0, .int .u16 k.p1, .int .u8 k.pr, .int .u64 (ew : Nat), .bool et] 96)).cell? ⟨w5.heap.size, 5, none⟩ = some (.int .u64 (ew : Nat)) := by simp
  have g2 : (w5.alloc (.cells #[.int .u32 k.a0, .int .u32 k.a1, .int .u16 k.p0, .int .u16 k.p1, .int .u8 k.pr, .int .u64 (ew : Nat), .bool et] 96)).cell? ⟨w5.heap.size, 6, none⟩ = some (.bool et) := by simp
  refine (HUN.out _).mono ?_
  rintro e w7 ⟨rfl, h7⟩
  have HS7 : Hid (Since w5 w7) := Lib.hid (Since.step HB6.out h7)
  have HB7 : Hid (Since w7 (w7.alloc (.cells #[.int .i64 (sw : Nat), .int .i64 (qw : Nat), .int .i64 (uw : Nat)] 50))) := Lib.hid ((Below.refl _ w7).alloc (Nat.le_refl _) _)
  have f0 : (w7.alloc (.cells #[.int .i64 (sw : Nat), .int .i64 (qw : Nat), .int .i64 (uw : Nat)] 50)).cell? ⟨w7.heap.size, 0, none⟩ = some (.int .i64 (sw : Nat)) := by simp
  have f2 : (w7.alloc (.cells #[.int .i64 (sw : Nat), .int .i64 (qw : Nat), .int .i64 (uw : Nat)] 50)).cell? ⟨w7.heap.size, 2, none⟩ = some (.int .i64 (uw : Nat)) := by simp
  replace g1 := HB7.out.cell (Since.cell h7 g1)
  replace g2 := HB7.out.cell (Since.cell h7 g2)
  replace r0 := HB7.out.cell (HS7.out.cell r0)
  have y0 := HB7.out.cell (HS7.out.cell q0)
  have y1 := HB7.out.cell (HS7.out.cell q1)
  have y2 := HB7.out.cell (HS7.out.cell q2)
  have y3 := HB7.out.cell (HS7.out.cell q3)
  have y4 := HB7.out.cell (HS7.out.cell q4)
  have y5 := HB7.out.cell (HS7.out.cell q5)
  have y6 := HB7.out.cell (HS7.out.cell q6)
  clear h7 HUN q0 q1 q2 q3 q4 q5 q6
  go_wp2_with fail
  refine (HFN.out _).mono ?_
  rintro e w9 ⟨rfl, h9⟩
  have HS9 : Hid (Since w5 w9) := Lib.hid (Since.step HS7.out (below_then HB7.out h9))
  replace g1 := Since.cell h9 g1
  replace r0 := Since.cell h9 r0
  replace f0 := Since.cell h9 f0
  replace f2 := Since.cell h9 f2
  have HS10 : Hid (Since w9 w9.drew) := Lib.hid ((Below.refl _ w9).trans ⟨rfl, rfl, rfl, Nat.le_refl _, fun _ _ => rfl⟩)
  clear g2 h9 HFN y0 y1 y2 y3 y4 y5 y6
  have HEND : Hid (∀ w10 (x : Nat), Since w9 w10 → (w10.cell? ⟨g, n * 7 + 5, none⟩ = some (.int .u64 (ew : Nat)) ∧ w10.frozen? ⟨g, n * 7 + 5, none⟩ = false) ∧ RPost w ra F (putS z k (x, et)) (w10.setCell ⟨g, n * 7 + 5, none⟩ (.int .u64 (x : Nat)))) := Lib.hid (fun w10 x h => by
    have hR := HRW.out.below (Since.step HS9.out h)
    have hT : Turn F' w4 (w10.setCell ⟨g, n * 7 + 5, none⟩ (.int .u64 (x : Nat))) := (Turn.of_below (F := F') (below_then HS5.out (Since.step HS9.out h))).setCell _ _ (.inl HFG.out)
    exact ⟨hR.flow_cell HPN.out HFV.out rfl, HPO.out _ _ _ ⟨_, _, _, hR.reword HPN.out HZ.out.rise HFV.out x⟩ hT (fun i h => .inl h)⟩)
  cases va with
  | false =>
    have HR' := Lib.hid (show res = (putS z k (nw0, et), 4) by simpa using HR.out)
    clear HR HWD
    go_wp2_with fail
    refine WQ.last (Since w9) HS10.out 14 9 (by rfl) (by kernel_rfl) (by kernel_rfl) ?_; simp only [List.take_succ_cons, List.take_zero]
    refine WQ.val (by rfl) (fun v hv => by have k0 := hv.cell r0; have k1 := hv.cell g1; have k2 := hv.cell f0; have k3 := hv.cell f2; go_simp; first | done | with_reducible rfl | (rw [if_neg (by omega)])) ?_; simp only [Act.put, List.setIfInBounds_toArray, List.set_cons_zero, List.set_cons_succ]
    refine WQ.val (by rfl) (fun v hv => by have k0 := hv.cell r0; have k1 := hv.cell g1; have k2 := hv.cell f0; have k3 := hv.cell f2; go_simp; first | done | with_reducible rfl | (rw [if_neg (by omega)])) ?_; simp only [Act.put, List.setIfInBounds_toArray, List.set_cons_zero, List.set_cons_succ]
    refine WQ.val (by rfl) (fun v hv => by have k0 := hv.cell r0; have k1 := hv.cell g1; have k2 := hv.cell f0; have k3 := hv.cell f2; go_simp; first | done | with_reducible rfl | (rw [if_neg (by omega)])) ?_; simp only [Act.put, List.setIfInBounds_toArray, List.set_cons_zero, List.set_cons_succ]
    refine WQ.val (by rfl) (fun v hv => by have k0 := hv.cell r0; have k1 := hv.cell g1; have k2 := hv.cell f0; have k3 := hv.cell f2; go_simp; first | done | with_reducible rfl | (rw [if_neg (by omega)])) ?_; simp only [Act.put, List.setIfInBounds_toArray, List.set_cons_zero, List.set_cons_succ]
    refine WQ.val (by rfl) (fun v hv => by have k0 := hv.cell r0; have k1 := hv.cell g1; have k2 := hv.cell f0; have k3 := hv.cell f2; go_simp; first | done | with_reducible rfl | (rw [if_neg (by omega)])) ?_; simp only [Act.put, List.setIfInBounds_toArray, List.set_cons_zero, List.set_cons_succ]
    refine WQ.val (by rfl) (fun v hv => by have k0 := hv.cell r0; have k1 := hv.cell g1; have k2 := hv.cell f0; have k3 := hv.cell f2; go_simp; first | done | with_reducible rfl | (rw [if_neg (by omega)])) ?_; simp only [Act.put, List.setIfInBounds_toArray, List.set_cons_zero, List.set_cons_succ]
    refine WQ.val (by rfl) (fun v hv => by have k0 := hv.cell r0; have k1 := hv.cell g1; have k2 := hv.cell f0; have k3 := hv.cell f2; go_simp; first | done | with_reducible rfl | (rw [if_neg (by omega)])) ?_; simp only [Act.put, List.setIfInBounds_toArray, List.set_cons_zero, List.set_cons_succ]
    refine WQ.val (by rfl) (fun v hv => by have k0 := hv.cell r0; have k1 := hv.cell g1; have k2 := hv.cell f0; have k3 := hv.cell f2; go_simp; first | done | with_reducible rfl | (rw [if_neg (by omega)])) ?_; simp only [Act.put, List.setIfInBounds_toArray, List.set_cons_zero, List.set_cons_succ]
    refine WQ.val (by rfl) (fun v hv => by have k0 := hv.cell r0; have k1 := hv.cell g1; have k2 := hv.cell f0; have k3 := hv.cell f2; go_simp; first | done | with_reducible rfl | (rw [if_neg (by omega)])) ?_; simp only [Act.put, List.setIfInBounds_toArray, List.set_cons_zero, List.set_cons_succ]
    refine WQ.val (by rfl) (fun v hv => by have k0 := hv.cell r0; have k1 := hv.cell g1; have k2 := hv.cell f0; have k3 := hv.cell f2; go_simp; first | done | with_reducible rfl | (rw [if_neg (by omega)])) ?_; simp only [Act.put, List.setIfInBounds_toArray, List.set_cons_zero, List.set_cons_succ]
    refine WQ.val (by rfl) (fun v hv => by have k0 := hv.cell r0; have k1 := hv.cell g1; have k2 := hv.cell f0; have k3 := hv.cell f2; go_simp; first | done | with_reducible rfl | (rw [if_neg (by omega)])) ?_; simp only [Act.put, List.setIfInBounds_toArray, List.set_cons_zero, List.set_cons_succ]
    refine WQ.call (f := 72) (args := #[.int .u64 (ew : Nat), .int .i64 (sw : Nat), .int .i64 (uw : Nat)]) (by rfl) (fun v hv => by go_simp) (fun v hv => (HNX.out v).mono (fun e v' ⟨he, hb⟩ => ⟨he, hv.step hb⟩)) ?_; simp only [Act.put, List.setIfInBounds_toArray, List.set_cons_zero, List.set_cons_succ]
    refine WQ.val (by rfl) (fun v hv => by have k0 := hv.cell r0; have k1 := hv.cell g1; have k2 := hv.cell f0; have k3 := hv.cell f2; go_simp; first | done | with_reducible rfl | (rw [if_neg (by omega)])) ?_; simp only [Act.put, List.setIfInBounds_toArray, List.set_cons_zero, List.set_cons_succ]
    refine WQ.val (by rfl) (fun v hv => by have k0 := hv.cell r0; have k1 := hv.cell g1; have k2 := hv.cell f0; have k3 := hv.cell f2; go_simp; first | done | with_reducible rfl | (rw [if_neg (by omega)])) ?_; simp only [Act.put, List.setIfInBounds_toArray, List.set_cons_zero, List.set_cons_succ]
    refine WQ.done ?_
    intro w10 hw10
    refine wpOp_one rfl (by rfl) ?_
    intro K' hK'
    obtain ⟨⟨k0, k1⟩, hP⟩ := HEND.out w10 nw0 hw10
    have HP10 := Lib.hid hP
    clear hP hw10 r0 g1 f0 f2
    go_wp2_with fail
    go_ret
    exact ⟨by (rw [HR'.out]) <;> rfl, by rw [HR'.out]; exact HP10.out⟩
  | true =>
    have HR' := Lib.hid (show res = (putS z k (nw1, et), 1) by simpa using HR.out)
    clear HR HNX
    go_wp2_with fail
    have HAB : Hid (∀ v, Since w9 v → RefAt v ra F' z) := Lib.hid (fun v hv => ⟨_, _, _, HRW.out.below (Since.step HS9.out hv)⟩)
    refine WQ.last (Since w9) HS10.out 12 9 (by rfl) (by kernel_rfl) (by kernel_rfl) ?_; simp only [List.take_succ_cons, List.take_zero]
    refine WQ.val (by rfl) (fun v hv => by have k0 := hv.cell r0; have k1 := hv.cell g1; have k2 := hv.cell f0; have k3 := hv.cell f2; go_simp; first | done | with_reducible rfl | (rw [if_neg (by omega)])) ?_; simp only [Act.put, List.setIfInBounds_toArray, List.set_cons_zero, List.set_cons_succ]
    refine WQ.val (by rfl) (fun v hv => by have k0 := hv.cell r0; have k1 := hv.cell g1; have k2 := hv.cell f0; have k3 := hv.cell f2; go_simp; first | done | with_reducible rfl | (rw [if_neg (by omega)])) ?_; simp only [Act.put, List.setIfInBounds_toArray, List.set_cons_zero, List.set_cons_succ]
    refine WQ.val (by rfl) (fun v hv => by have k0 := hv.cell r0; have k1 := hv.cell g1; have k2 := hv.cell f0; have k3 := hv.cell f2; go_simp; first | done | with_reducible rfl | (rw [if_neg (by omega)])) ?_; simp only [Act.put, List.setIfInBounds_toArray, List.set_cons_zero, List.set_cons_succ]
    refine WQ.val (by rfl) (fun v hv => by have k0 := hv.cell r0; have k1 := hv.cell g1; have k2 := hv.cell f0; have k3 := hv.cell f2; go_simp; first | done | with_reducible rfl | (rw [if_neg (by omega)])) ?_; simp only [Act.put, List.setIfInBounds_toArray, List.set_cons_zero, List.set_cons_succ]
    refine WQ.val (by rfl) (fun v hv => by have k0 := hv.cell r0; have k1 := hv.cell g1; have k2 := hv.cell f0; have k3 := hv.cell f2; go_simp; first | done | with_reducible rfl | (rw [if_neg (by omega)])) ?_; simp only [Act.put, List.setIfInBounds_toArray, List.set_cons_zero, List.set_cons_succ]
    refine WQ.val (by rfl) (fun v hv => by have k0 := hv.cell r0; have k1 := hv.cell g1; have k2 := hv.cell f0; have k3 := hv.cell f2; go_simp; first | done | with_reducible rfl | (rw [if_neg (by omega)])) ?_; simp only [Act.put, List.setIfInBounds_toArray, List.set_cons_zero, List.set_cons_succ]
    refine WQ.val (by rfl) (fun v hv => by have k0 := hv.cell r0; have k1 := hv.cell g1; have k2 := hv.cell f0; have k3 := hv.cell f2; go_simp; first | done | with_reducible rfl | (rw [if_neg (by omega)])) ?_; simp only [Act.put, List.setIfInBounds_toArray, List.set_cons_zero, List.set_cons_succ]
    refine WQ.val (by rfl) (fun v hv => by have k0 := hv.cell r0; have k1 := hv.cell g1; have k2 := hv.cell f0; have k3 := hv.cell f2; go_simp; first | done | with_reducible rfl | (rw [if_neg (by omega)])) ?_; simp only [Act.put, List.setIfInBounds_toArray, List.set_cons_zero, List.set_cons_succ]
    refine WQ.val (by rfl) (fun v hv => by have k0 := hv.cell r0; have k1 := hv.cell g1; have k2 := hv.cell f0; have k3 := hv.cell f2; go_simp; first | done | with_reducible rfl | (rw [if_neg (by omega)])) ?_; simp only [Act.put, List.setIfInBounds_toArray, List.set_cons_zero, List.set_cons_succ]
    refine WQ.call (f := 73) (args := #[.pointer (some ⟨ra, 0, none⟩), .int .u64 (ew : Nat), .int .i64 st]) (by rfl) (fun v hv => by go_simp) (fun v hv => (HWD.out v (HAB.out v hv)).mono (fun e v' ⟨he, hb⟩ => ⟨he, hv.step hb⟩)) ?_; simp only [Act.put, List.setIfInBounds_toArray, List.set_cons_zero, List.set_cons_succ]
    refine WQ.val (by rfl) (fun v hv => by have k0 := hv.cell r0; have k1 := hv.cell g1; have k2 := hv.cell f0; have k3 := hv.cell f2; go_simp; first | done | with_reducible rfl | (rw [if_neg (by omega)])) ?_; simp only [Act.put, List.setIfInBounds_toArray, List.set_cons_zero, List.set_cons_succ]
    refine WQ.val (by rfl) (fun v hv => by have k0 := hv.cell r0; have k1 := hv.cell g1; have k2 := hv.cell f0; have k3 := hv.cell f2; go_simp; first | done | with_reducible rfl | (rw [if_neg (by omega)])) ?_; simp only [Act.put, List.setIfInBounds_toArray, List.set_cons_zero, List.set_cons_succ]
    refine WQ.done ?_
    intro w10 hw10
    refine wpOp_one rfl (by rfl) ?_
    intro K' hK'
    obtain ⟨⟨k0, k1⟩, hP⟩ := HEND.out w10 nw1 hw10
    have HP10 := Lib.hid hP
    clear hP hw10 r0 g1 f0 f2
    go_wp2_with fail
    go_ret
    exact ⟨by (rw [HR'.out]) <;> rfl, by rw [HR'.out]; exact HP10.out⟩
theorem ownsRow_keep {w w' : World} {B : Nat} {e : TypeId} {size n : Nat} {v : Value} {xs : List Value} (h : w.ownsRow B e size v n xs) (hb : ∀ b, v.ownBlock = some b → w'.heap[b]? = w.heap[b]?) : w'.ownsRow B e size v n xs := by
  refine ⟨h.1, ?_⟩
  rcases h.2 with h1 | ⟨g, cap, cur, rfl, h2, h3, h4⟩
  · exact .inl h1
  · exact .inr ⟨g, cap, cur, rfl, h2, (hb g rfl).trans h3, h4⟩
theorem RefW.fnil {w : World} {ra : Nat} {F : Nat → Prop} {s : St} {rv fv : Value} {vs : List Value} (h : RefW w ra F s rv fv vs) {a : Option Addr} {n c : Nat} (e : fv = .slice a n c) : (a = none ∧ n = 0 ∧ c = 0) ∨ ∃ g, a = some ⟨g, 0, none⟩ := by
  rcases h.frow.2 with ⟨e1, e2⟩ | ⟨g, cap, cur, e1, h2, h3, h4, h5, h6⟩
  · rw [e] at e1
    cases e1
    exact .inl ⟨rfl, rfl, rfl⟩
  · rw [e] at e1
    cases e1
    exact .inr ⟨g, rfl⟩
theorem flows_take_read {w : World} {ra : Nat} {F : Nat → Prop} {s : St} {rv fv : Value} {vs : List Value} (h : RefW w ra F s rv fv vs) {a : Option Addr} {m c : Nat} (e : fv = .slice a m c) (n : Nat) : ∀ ad, a = some ad → ∀ j u, (flowsC (s.flows.take n))[j]? = some u → w.cell? (ad.add j) = some u := fun ad ea j u hj => by
  obtain ⟨a', c', hv, hx⟩ := row_form h.frow
  rw [e] at hv
  cases hv
  obtain ⟨g', e', c1, _⟩ := hx j u (take_flows _ _ _ hj)
  rw [ea] at e'
  cases e'
  rw [add_plain, Nat.zero_add]
  exact c1
theorem flows_drop_read {w : World} {ra : Nat} {F : Nat → Prop} {s : St} {rv fv : Value} {vs : List Value} (h : RefW w ra F s rv fv vs) {a : Option Addr} {c : Nat} (e : fv = .slice a s.flows.length c) (n : Nat) (hn : n ≤ s.flows.length) :
    ∃ a2 : Option Addr, (a = none → a2 = none) ∧ (∀ g, a = some ⟨g, 0, none⟩ → a2 = if c = n then some ⟨g, 0, none⟩ else some ⟨g, n * 7, none⟩) ∧ ∀ ad, a2 = some ad → ∀ j u, (flowsC (s.flows.drop n))[j]? = some u → w.cell? (ad.add j) = some u := by
  rcases h.fnil e with ⟨h1, h2, h3⟩ | ⟨g, h1⟩
  · exact ⟨none, fun _ => rfl, fun g e => (by rw [h1] at e; cases e), fun ad e => (by cases e)⟩
  · refine ⟨if c = n then some ⟨g, 0, none⟩ else some ⟨g, n * 7, none⟩, fun e => (by rw [h1] at e; cases e), fun g' e => (by rw [h1] at e; cases e; rfl), fun ad ea j u hj => ?_⟩
    have hl := (List.getElem?_eq_some_iff.1 hj).1
    rw [flowsC_len, List.length_drop] at hl
    have hc := (h.fcap e).2.1
    rw [if_neg (by omega)] at ea
    cases ea
    rw [add_plain]
    rw [drop_flows _ _ _ hn] at hj
    rw [h1] at e
    exact flows_read h e hj
/-- The rules that are in force, in memory. -/
theorem RefW.last {w : World} {ra : Nat} {F : Nat → Prop} {s : St} {rv fv : Value} {vs : List Value} (h : RefW w ra F s rv fv vs) (hne : s.rules ≠ []) :
    ∃ q rb cap a c, s.rules.length = q + 1 ∧ rv = .slice (some ⟨rb, 0, none⟩) (q + 1) cap ∧ w.cell? ⟨rb, q, none⟩ = some (.slice a (lastR s).length c) ∧ RulesAt w a (lastR s) ∧ lastR s ∈ s.rules := by
  obtain ⟨q, hq⟩ : ∃ q, s.rules.length = q + 1 := ⟨s.rules.length - 1, by have := List.length_pos_iff.2 hne; omega⟩
  have hl : s.rules[q]? = some (lastR s) := by
    unfold lastR
    rw [List.getLastD_eq_getLast?, List.getLast?_eq_getElem?, hq, Nat.add_sub_cancel]
    rw [List.getElem?_eq_getElem (by omega)]; rfl
  obtain ⟨v, e, hv⟩ := h.inner q _ hl
  obtain ⟨a, c, rfl, hR⟩ := hv.rules
  obtain ⟨rx, rc, hrv, hcell⟩ := row_form h.row
  obtain ⟨g, rfl, hc, _⟩ := hcell q _ e
  exact ⟨q, g, rc, a, c, hq, by rw [hrv, hq], hc, hR, List.mem_of_getElem? hl⟩
set_option maxHeartbeats 8000000 in
set_option maxRecDepth 100000 in
theorem ract_new {w : World} {ra : Nat} {F : Nat → Prop} {s : St} {p : Pk} (hp : PkIn p) (h : RefAt w ra F s) (hs : s.Ok) (hF : ∀ i, F i → i < w.heap.size) (hi : idxI (deleteS s (keyF p).1).flows (keyF p).1 = -1) (hg : getL (deleteS s (keyF p).1).flows (keyF p).1 = none) :
    Calls Tryz.prog 37 #[.pointer (some ⟨ra, 0, none⟩), .agg (pkC p)] w fun e w' => e = .returned (.int .i64 (actS s p).2) ∧ RPost w ra F (actS s p).1 w' := by
  have HB0 : Hid (Below w.heap.size w (w.alloc (.cells (pkC p) 41))) := Lib.hid ((Below.refl _ w).alloc (Nat.le_refl _) _)
  have HA := Lib.hid (h.below HB0.out)
  have HP := Lib.hid hp
  have HF := Lib.hid hF
  have hk := keyF_in hp
  have HZ := Lib.hid (deleteS_ok hs (keyF p).1)
  have HOF := Lib.hid (fun W => refOf_any p W hp)
  have HDE := Lib.hid (fun W (hA : RefAt W ra F s) hF => rdelete_any hk hA hs hF)
  have HFI := Lib.hid (fun W F' (hA : RefAt W ra F' (deleteS s (keyF p).1)) => find_any hk hA HZ.out)
  rw [hi] at HFI
  have HV : Hid (actS s p = beginS (deleteS s (keyF p).1) p (keyF p).1 (keyF p).2) := Lib.hid (by unfold actS actK; rw [hg])
  have HGN := Lib.hid hg
  clear hg
  generalize actS s p = res at *
  generalize (keyF p).1 = k at *
  generalize (keyF p).2 = t at *
  generalize overS s k = dv at *
  generalize deleteS s k = z at *
  have HK := Lib.hid hk
  have HOF : Hid (∀ W, Calls Tryz.prog 70 #[.agg (pkC p)] W fun e w' => e = .returned (.tuple #[.agg #[.int .u32 k.a0, .int .u32 k.a1, .int .u16 k.p0, .int .u16 k.p1, .int .u8 k.pr], .bool t]) ∧ Below W.heap.size W w') := HOF
  clear h hp hk hs hF hi
  have p0 : (w.alloc (.cells (pkC p) 41)).cell? ⟨w.heap.size, 0, none⟩ = some (.int .u8 p.proto) := by simp [pkC]
  have p1 : (w.alloc (.cells (pkC p) 41)).cell? ⟨w.heap.size, 1, none⟩ = some (.int .u32 p.src) := by simp [pkC]
  have p2 : (w.alloc (.cells (pkC p) 41)).cell? ⟨w.heap.size, 2, none⟩ = some (.int .u32 p.dst) := by simp [pkC]
  have p3 : (w.alloc (.cells (pkC p) 41)).cell? ⟨w.heap.size, 3, none⟩ = some (.int .u16 p.sport) := by simp [pkC]
  have p4 : (w.alloc (.cells (pkC p) 41)).cell? ⟨w.heap.size, 4, none⟩ = some (.int .u16 p.dport) := by simp [pkC]
  have p5 : (w.alloc (.cells (pkC p) 41)).cell? ⟨w.heap.size, 5, none⟩ = some (.int .u8 p.flags) := by simp [pkC]
  have p6 : (w.alloc (.cells (pkC p) 41)).cell? ⟨w.heap.size, 6, none⟩ = some (.int .u8 p.kind) := by simp [pkC]
  go_enter Tryz.func37, Tryz.ntmps37
  go_wp2_with fail
  refine (HOF.out _).mono ?_
  rintro e w2 ⟨rfl, h2⟩
  have q0 := Since.cell h2 p0
  have q1 := Since.cell h2 p1
  have q2 := Since.cell h2 p2
  have q3 := Since.cell h2 p3
  have q4 := Since.cell h2 p4
  have q5 := Since.cell h2 p5
  have q6 := Since.cell h2 p6
  have HB2 := Lib.hid (below_then HB0.out h2)
  have HA2 := Lib.hid (HA.out.below h2)
  have hz2 : w.heap.size < w2.heap.size := by have := h2.size; simp at this; omega
  have HB3 : Hid (Below w2.heap.size w2 (w2.alloc (.cells #[.int .u32 k.a0, .int .u32 k.a1, .int .u16 k.p0, .int .u16 k.p1, .int .u8 k.pr] 45))) := Lib.hid ((Below.refl _ w2).alloc (Nat.le_refl _) _)
  clear p0 p1 p2 p3 p4 p5 p6 h2
  have c1 : (w2.alloc (.cells #[.int .u32 k.a0, .int .u32 k.a1, .int .u16 k.p0, .int .u16 k.p1, .int .u8 k.pr] 45)).cell? ⟨w2.heap.size, 0, none⟩ = some (.int .u32 k.a0) := by simp
  have c2 : (w2.alloc (.cells #[.int .u32 k.a0, .int .u32 k.a1, .int .u16 k.p0, .int .u16 k.p1, .int .u8 k.pr] 45)).cell? ⟨w2.heap.size, 1, none⟩ = some (.int .u32 k.a1) := by simp
  have c3 : (w2.alloc (.cells #[.int .u32 k.a0, .int .u32 k.a1, .int .u16 k.p0, .int .u16 k.p1, .int .u8 k.pr] 45)).cell? ⟨w2.heap.size, 2, none⟩ = some (.int .u16 k.p0) := by simp
  have c4 : (w2.alloc (.cells #[.int .u32 k.a0, .int .u32 k.a1, .int .u16 k.p0, .int .u16 k.p1, .int .u8 k.pr] 45)).cell? ⟨w2.heap.size, 3, none⟩ = some (.int .u16 k.p1) := by simp
  have c5 : (w2.alloc (.cells #[.int .u32 k.a0, .int .u32 k.a1, .int .u16 k.p0, .int .u16 k.p1, .int .u8 k.pr] 45)).cell? ⟨w2.heap.size, 4, none⟩ = some (.int .u8 k.pr) := by simp
  have s0 := Since.cell HB3.out q0
  have s1 := Since.cell HB3.out q1
  have s2 := Since.cell HB3.out q2
  have s3 := Since.cell HB3.out q3
  have s4 := Since.cell HB3.out q4
  have s5 := Since.cell HB3.out q5
  have s6 := Since.cell HB3.out q6
  clear q0 q1 q2 q3 q4 q5 q6
  have hlt0 : w.heap.size < (w2.alloc (.cells #[.int .u32 k.a0, .int .u32 k.a1, .int .u16 k.p0, .int .u16 k.p1, .int .u8 k.pr] 45)).heap.size := by simp; omega
  have hlt1 : w2.heap.size < (w2.alloc (.cells #[.int .u32 k.a0, .int .u32 k.a1, .int .u16 k.p0, .int .u16 k.p1, .int .u8 k.pr] 45)).heap.size := by simp
  go_wp2_with fail
  refine (HDE.out _ (HA2.out.below HB3.out) (fun i hi => by have := HF.out i hi; omega)).mono ?_
  rintro e w4 ⟨rfl, F', hA4, hT4, hx4⟩
  have HA4 := Lib.hid hA4
  have hn0 : ¬ F w.heap.size := fun h => absurd (HF.out _ h) (by omega)
  have hn1 : ¬ F w2.heap.size := fun h => by have := HF.out _ h; omega
  have HT4 : Hid (Turn F w w4) := Lib.hid ((Turn.of_below (F := F) (below_then HB2.out HB3.out)).trans hT4 (fun i h => .inl h))
  have HX4 : Hid (∀ i, F' i → F i ∨ w.heap.size ≤ i ∧ i < w4.heap.size) := Lib.hid (fun i h => (hx4 i h).imp id (fun h => ⟨by omega, h.2⟩))
  have HPO : Hid (∀ F2 s2 w', RefAt w' ra F2 s2 → Turn F' w4 w' → (∀ i, F2 i → F' i ∨ w4.heap.size ≤ i ∧ i < w'.heap.size) → RPost w ra F s2 w') := Lib.hid (fun F2 s2 w' h1 h2 h3 => RPost.then (w3 := w4) HT4.out HX4.out h1 h2 h3)
  have hz4 : w2.heap.size < w4.heap.size := by have := hT4.size; simp at this; omega
  have q0 := hT4.at_ hlt0 hn0 s0
  have q1 := hT4.at_ hlt0 hn0 s1
  have q2 := hT4.at_ hlt0 hn0 s2
  have q3 := hT4.at_ hlt0 hn0 s3
  have q4 := hT4.at_ hlt0 hn0 s4
  have q5 := hT4.at_ hlt0 hn0 s5
  have q6 := hT4.at_ hlt0 hn0 s6
  have d1 := hT4.at_ hlt1 hn1 c1
  have d2 := hT4.at_ hlt1 hn1 c2
  have d3 := hT4.at_ hlt1 hn1 c3
  have d4 := hT4.at_ hlt1 hn1 c4
  have d5 := hT4.at_ hlt1 hn1 c5
  clear s0 s1 s2 s3 s4 s5 s6 c1 c2 c3 c4 c5 hA4 hT4 hx4 hlt0 hlt1 HDE HOF HA HA2 hn0 hn1 HB3 HX4
  go_wp2_with fail
  refine (HFI.out _ _ HA4.out).mono ?_
  rintro e w5 ⟨rfl, h5⟩
  have HS5 : Hid (Since w4 w5) := Lib.hid h5
  replace q0 := HS5.out.cell q0
  replace q1 := HS5.out.cell q1
  replace q2 := HS5.out.cell q2
  replace q3 := HS5.out.cell q3
  replace q4 := HS5.out.cell q4
  replace q5 := HS5.out.cell q5
  replace q6 := HS5.out.cell q6
  replace d1 := HS5.out.cell d1
  replace d2 := HS5.out.cell d2
  replace d3 := HS5.out.cell d3
  replace d4 := HS5.out.cell d4
  replace d5 := HS5.out.cell d5
  have HA5 := Lib.hid (HA4.out.below h5)
  have hz5 : w4.heap.size ≤ w5.heap.size := h5.size
  clear h5 HFI
  obtain ⟨rv, fv, vs, hA⟩ := HA5.out
  obtain ⟨q, rb, cap, a, c, hq, hrv, r1, hR, hmem⟩ := hA.last (Ok_ne HZ.out)
  have r0 : w5.cell? ⟨ra, 19, none⟩ = some rv := hA.cell rfl
  rw [hrv] at r0
  have g0 : w5.cell? ⟨ra, 18, none⟩ = some (.int .u64 (z.g : Nat)) := hA.cell rfl
  have HRW := Lib.hid hA
  have hL : (lastR z).length ≤ maxLen := Nat.le_trans (HZ.out.lim _ hmem) (by decide)
  have HFI := Lib.hid (fun v (hv : Since w5 v) => refFirst_any p a c (lastR z) v HP.out (hR.below hv) hL)
  have hq2 : q ≤ 4095 := by have := HZ.out.vers; omega
  have hvq : verW z.g = q := by have := HZ.out.ver; omega
  have HUN := Lib.hid (fun W => rgunpack_any z.g _ _ _ W HZ.out.g rfl rfl rfl)
  rw [hvq] at HUN
  have fg0 := field_gate0 (q : Nat) (cntW z.g : Nat) (clkW z.g : Nat)
  have HFB := Lib.hid (show 0 ≤ p.flags ∧ p.flags ≤ 255 from ⟨HP.out.flags.1, by have := HP.out.flags.2; omega⟩)
  have HOP := Lib.hid (fun W => refFopen_val p (fopenF p).1 (fopenF p).2 W HFB.out.1 HFB.out.2 rfl)
  have HEN := Lib.hid (fun W => rgenter_any z.g z.c.cap W HZ.out.g)
  have HGP : Hid (roomW z.g z.c.cap = true → clkW (enterW z.g z.c.cap) = clkW z.g) := Lib.hid (fun h => (enter_parts HZ.out.g h).2.2.1)
  have HWD := Lib.hid (fun W st (hA : RefAt W ra F' z) => rword_any 0 st hA HZ.out.g (show U64 0 by decide))
  have HV : Hid (res = if letIn (lastR z) p = false then (z, 3) else if (fopenF p).2 = false then (z, 4) else if roomW z.g z.c.cap = false then (z, 5) else (putS { z with g := enterW z.g z.c.cap } k (flowNext 0 (fopenF p).1 (untilF z.c.ts (fopenF p).1 (clkW (enterW z.g z.c.cap) : Nat)), t), 1)) := HV
  clear hR hmem hL hrv hq hvq hA
  generalize letIn (lastR z) p = inn at *
  generalize (lastR z).length = ln at *
  generalize (fopenF p).1 = st at *
  generalize (fopenF p).2 = ok at *
  generalize roomW z.g z.c.cap = room at *
  have HWD := Lib.hid (fun W => HWD.out W st)
  have HQ : Hid (∀ w' s2, Since w5 w' → s2 = z → RPost w ra F s2 w') := Lib.hid (fun w' s2 h e => by
    subst e
    have h4 : Since w4 w' := below_then HS5.out h
    exact HPO.out _ _ _ (HA4.out.below h4) (Turn.of_below h4) (fun i h => .inl h))
  have hqi : (0 : Int) ≤ q := by omega
  have hqm : (q : Int) < (q : Int) + 1 := by omega
  go_wp2_with fail
  have HSa : Hid (Since w5 w5.drew) := Lib.hid ((Below.refl _ w5).trans ⟨rfl, rfl, rfl, Nat.le_refl _, fun _ _ => rfl⟩)
  refine WH.enter (Since w5) (by kernel_rfl) 19 rfl ?_
  refine WH.take 0 (some 82) rfl rfl (by kernel_rfl) (by kernel_rfl) (by kernel_rfl) (fun _ _ _ h => h) (by rfl) (fun v hv => by have k0 := hv.cell r0; have k1 := hv.cell r1; have k2 := hv.cell g0; have k3 := hv.cell q0; have k4 := hv.cell q1; have k5 := hv.cell q2; have k6 := hv.cell q3; have k7 := hv.cell q4; have k8 := hv.cell q5; have k9 := hv.cell q6; go_simp; first | done | with_reducible rfl | (rw [if_neg (by omega)])) HSa.out ?_; simp only [Act.put, List.setIfInBounds_toArray, List.set_cons_zero, List.set_cons_succ]
  refine WH.take 1 (some 83) rfl rfl (by kernel_rfl) (by kernel_rfl) (by kernel_rfl) (fun _ _ _ h => h) (by rfl) (fun v hv => by have k0 := hv.cell r0; have k1 := hv.cell r1; have k2 := hv.cell g0; have k3 := hv.cell q0; have k4 := hv.cell q1; have k5 := hv.cell q2; have k6 := hv.cell q3; have k7 := hv.cell q4; have k8 := hv.cell q5; have k9 := hv.cell q6; go_simp; first | done | with_reducible rfl | (rw [if_neg (by omega)])) HSa.out ?_; simp only [Act.put, List.setIfInBounds_toArray, List.set_cons_zero, List.set_cons_succ]
  refine WH.take 2 (some 84) rfl rfl (by kernel_rfl) (by kernel_rfl) (by kernel_rfl) (fun _ _ _ h => h) (by rfl) (fun v hv => by have k0 := hv.cell r0; have k1 := hv.cell r1; have k2 := hv.cell g0; have k3 := hv.cell q0; have k4 := hv.cell q1; have k5 := hv.cell q2; have k6 := hv.cell q3; have k7 := hv.cell q4; have k8 := hv.cell q5; have k9 := hv.cell q6; go_simp; first | done | with_reducible rfl | (rw [if_neg (by omega)])) HSa.out ?_; simp only [Act.put, List.setIfInBounds_toArray, List.set_cons_zero, List.set_cons_succ]
  refine WH.take 3 (some 85) rfl rfl (by kernel_rfl) (by kernel_rfl) (by kernel_rfl) (fun _ _ _ h => h) (by rfl) (fun v hv => by have k0 := hv.cell r0; have k1 := hv.cell r1; have k2 := hv.cell g0; have k3 := hv.cell q0; have k4 := hv.cell q1; have k5 := hv.cell q2; have k6 := hv.cell q3; have k7 := hv.cell q4; have k8 := hv.cell q5; have k9 := hv.cell q6; go_simp; first | done | with_reducible rfl | (rw [if_neg (by omega)])) HSa.out ?_; simp only [Act.put, List.setIfInBounds_toArray, List.set_cons_zero, List.set_cons_succ]
  refine WH.take 4 (some 86) rfl rfl (by kernel_rfl) (by kernel_rfl) (by kernel_rfl) (fun _ _ _ h => h) (by rfl) (fun v hv => by have k0 := hv.cell r0; have k1 := hv.cell r1; have k2 := hv.cell g0; have k3 := hv.cell q0; have k4 := hv.cell q1; have k5 := hv.cell q2; have k6 := hv.cell q3; have k7 := hv.cell q4; have k8 := hv.cell q5; have k9 := hv.cell q6; go_simp; first | done | with_reducible rfl | (rw [if_neg (by omega)])) HSa.out ?_; simp only [Act.put, List.setIfInBounds_toArray, List.set_cons_zero, List.set_cons_succ]
  refine WH.take 5 (some 87) rfl rfl (by kernel_rfl) (by kernel_rfl) (by kernel_rfl) (fun _ _ _ h => h) (by rfl) (fun v hv => by have k0 := hv.cell r0; have k1 := hv.cell r1; have k2 := hv.cell g0; have k3 := hv.cell q0; have k4 := hv.cell q1; have k5 := hv.cell q2; have k6 := hv.cell q3; have k7 := hv.cell q4; have k8 := hv.cell q5; have k9 := hv.cell q6; go_simp; first | done | with_reducible rfl | (rw [if_neg (by omega)])) HSa.out ?_; simp only [Act.put, List.setIfInBounds_toArray, List.set_cons_zero, List.set_cons_succ]
  refine WH.take 6 (some 88) rfl rfl (by kernel_rfl) (by kernel_rfl) (by kernel_rfl) (fun _ _ _ h => h) (by rfl) (fun v hv => by have k0 := hv.cell r0; have k1 := hv.cell r1; have k2 := hv.cell g0; have k3 := hv.cell q0; have k4 := hv.cell q1; have k5 := hv.cell q2; have k6 := hv.cell q3; have k7 := hv.cell q4; have k8 := hv.cell q5; have k9 := hv.cell q6; go_simp; first | done | with_reducible rfl | (rw [if_neg (by omega)])) HSa.out ?_; simp only [Act.put, List.setIfInBounds_toArray, List.set_cons_zero, List.set_cons_succ]
  refine WH.take 7 (some 89) rfl rfl (by kernel_rfl) (by kernel_rfl) (by kernel_rfl) (fun _ _ _ h => h) (by rfl) (fun v hv => by have k0 := hv.cell r0; have k1 := hv.cell r1; have k2 := hv.cell g0; have k3 := hv.cell q0; have k4 := hv.cell q1; have k5 := hv.cell q2; have k6 := hv.cell q3; have k7 := hv.cell q4; have k8 := hv.cell q5; have k9 := hv.cell q6; go_simp; first | done | with_reducible rfl | (rw [if_neg (by omega)])) HSa.out ?_; simp only [Act.put, List.setIfInBounds_toArray, List.set_cons_zero, List.set_cons_succ]
  refine WH.take 12 (some 94) rfl rfl (by kernel_rfl) (by kernel_rfl) (by kernel_rfl) (fun _ _ _ h => h) (by rfl) (fun v hv => by have k0 := hv.cell r0; have k1 := hv.cell r1; have k2 := hv.cell g0; have k3 := hv.cell q0; have k4 := hv.cell q1; have k5 := hv.cell q2; have k6 := hv.cell q3; have k7 := hv.cell q4; have k8 := hv.cell q5; have k9 := hv.cell q6; go_simp; first | done | with_reducible rfl | (rw [if_neg (by omega)])) HSa.out ?_; simp only [Act.put, List.setIfInBounds_toArray, List.set_cons_zero, List.set_cons_succ]
  refine WH.one 8 (by kernel_rfl) rfl (by rfl) ?_
  go_wp2_with fail
  refine (HUN.out _).mono ?_
  rintro e wa ⟨rfl, ha⟩
  have HSb : Hid (Since w5 wa) := Lib.hid (Since.step HSa.out ha)
  clear ha
  go_wp2_with fail
  refine ⟨HSb.out, ?_⟩
  refine WH.take 9 (some 91) rfl rfl (by kernel_rfl) (by kernel_rfl) (by kernel_rfl) (fun _ _ _ h => h) (by rfl) (fun v hv => by have k0 := hv.cell r0; have k1 := hv.cell r1; have k2 := hv.cell g0; have k3 := hv.cell q0; have k4 := hv.cell q1; have k5 := hv.cell q2; have k6 := hv.cell q3; have k7 := hv.cell q4; have k8 := hv.cell q5; have k9 := hv.cell q6; go_simp; first | done | with_reducible rfl | (rw [if_neg (by omega)])) HSb.out ?_; simp only [Act.put, List.setIfInBounds_toArray, List.set_cons_zero, List.set_cons_succ]
  refine WH.take 10 (some 92) rfl rfl (by kernel_rfl) (by kernel_rfl) (by kernel_rfl) (fun _ _ _ h => h) (by rfl) (fun v hv => by have k0 := hv.cell r0; have k1 := hv.cell r1; have k2 := hv.cell g0; have k3 := hv.cell q0; have k4 := hv.cell q1; have k5 := hv.cell q2; have k6 := hv.cell q3; have k7 := hv.cell q4; have k8 := hv.cell q5; have k9 := hv.cell q6; go_simp; first | done | with_reducible rfl | (rw [if_neg (by omega)])) HSb.out ?_; simp only [Act.put, List.setIfInBounds_toArray, List.set_cons_zero, List.set_cons_succ]
  refine WH.take 11 (some 93) rfl rfl (by kernel_rfl) (by kernel_rfl) (by kernel_rfl) (fun _ _ _ h => h) (by rfl) (fun v hv => by have k0 := hv.cell r0; have k1 := hv.cell r1; have k2 := hv.cell g0; have k3 := hv.cell q0; have k4 := hv.cell q1; have k5 := hv.cell q2; have k6 := hv.cell q3; have k7 := hv.cell q4; have k8 := hv.cell q5; have k9 := hv.cell q6; go_simp; first | done | with_reducible rfl | (rw [if_neg (by omega)])) HSb.out ?_; simp only [Act.put, List.setIfInBounds_toArray, List.set_cons_zero, List.set_cons_succ]
  refine WH.one 13 (by kernel_rfl) rfl (by rfl) ?_
  go_wp2_with fail
  refine (HFI.out _ HSb.out).mono ?_
  rintro e wb ⟨⟨ix, rfl⟩, hb⟩
  have HSc : Hid (Since w5 wb) := Lib.hid (Since.step HSb.out hb)
  clear hb
  go_wp2_with fail
  refine ⟨HSc.out, ?_⟩
  refine WH.take 14 (some 81) rfl rfl (by kernel_rfl) (by kernel_rfl) (by kernel_rfl) (fun _ _ _ h => h) (by rfl) (fun v hv => by have k0 := hv.cell r0; have k1 := hv.cell r1; have k2 := hv.cell g0; have k3 := hv.cell q0; have k4 := hv.cell q1; have k5 := hv.cell q2; have k6 := hv.cell q3; have k7 := hv.cell q4; have k8 := hv.cell q5; have k9 := hv.cell q6; go_simp; first | done | with_reducible rfl | (rw [if_neg (by omega)])) HSc.out ?_; simp only [Act.put, List.setIfInBounds_toArray, List.set_cons_zero, List.set_cons_succ]
  refine WH.take 15 (some 96) rfl rfl (by kernel_rfl) (by kernel_rfl) (by kernel_rfl) (fun _ _ _ h => h) (by rfl) (fun v hv => by have k0 := hv.cell r0; have k1 := hv.cell r1; have k2 := hv.cell g0; have k3 := hv.cell q0; have k4 := hv.cell q1; have k5 := hv.cell q2; have k6 := hv.cell q3; have k7 := hv.cell q4; have k8 := hv.cell q5; have k9 := hv.cell q6; go_simp; first | done | with_reducible rfl | (rw [if_neg (by omega)])) HSc.out ?_; simp only [Act.put, List.setIfInBounds_toArray, List.set_cons_zero, List.set_cons_succ]
  refine WH.take 16 (some 97) rfl rfl (by kernel_rfl) (by kernel_rfl) (by kernel_rfl) (fun _ _ _ h => h) (by rfl) (fun v hv => by have k0 := hv.cell r0; have k1 := hv.cell r1; have k2 := hv.cell g0; have k3 := hv.cell q0; have k4 := hv.cell q1; have k5 := hv.cell q2; have k6 := hv.cell q3; have k7 := hv.cell q4; have k8 := hv.cell q5; have k9 := hv.cell q6; go_simp; first | done | with_reducible rfl | (rw [if_neg (by omega)])) HSc.out ?_; simp only [Act.put, List.setIfInBounds_toArray, List.set_cons_zero, List.set_cons_succ]
  refine WH.take 17 (some 12) rfl rfl (by kernel_rfl) (by kernel_rfl) (by kernel_rfl) (fun _ _ _ h => h) (by rfl) (fun v hv => by have k0 := hv.cell r0; have k1 := hv.cell r1; have k2 := hv.cell g0; have k3 := hv.cell q0; have k4 := hv.cell q1; have k5 := hv.cell q2; have k6 := hv.cell q3; have k7 := hv.cell q4; have k8 := hv.cell q5; have k9 := hv.cell q6; go_simp; first | done | with_reducible rfl | (rw [if_neg (by omega)])) HSc.out ?_; simp only [Act.put, List.setIfInBounds_toArray, List.set_cons_zero, List.set_cons_succ]
  refine WH.take 18 (some 13) rfl rfl (by kernel_rfl) (by kernel_rfl) (by kernel_rfl) (fun _ _ _ h => h) (by rfl) (fun v hv => by have k0 := hv.cell r0; have k1 := hv.cell r1; have k2 := hv.cell g0; have k3 := hv.cell q0; have k4 := hv.cell q1; have k5 := hv.cell q2; have k6 := hv.cell q3; have k7 := hv.cell q4; have k8 := hv.cell q5; have k9 := hv.cell q6; go_simp; first | done | with_reducible rfl | (rw [if_neg (by omega)])) HSc.out ?_; simp only [Act.put, List.setIfInBounds_toArray, List.set_cons_zero, List.set_cons_succ]
  refine WH.done (by kernel_rfl) ?_
  have y0 := HSc.out.cell q0
  have y1 := HSc.out.cell q1
  have y2 := HSc.out.cell q2
  have y3 := HSc.out.cell q3
  have y4 := HSc.out.cell q4
  have y5 := HSc.out.cell q5
  have y6 := HSc.out.cell q6
  clear q0 q1 q2 q3 q4 q5 q6 r0 r1 g0 HFI HUN fg0 HSa HSb hqi hqm
  cases inn with
  | false =>
    have HR := Lib.hid (show res = (z, 3) by simpa using HV.out)
    go_wp2_with fail
    go_ret
    exact ⟨by (rw [HR.out]) <;> rfl, HQ.out _ _ HSc.out (by rw [HR.out])⟩
  | true =>
  have HV := Lib.hid (show res = if ok = false then (z, 4) else if room = false then (z, 5) else (putS { z with g := enterW z.g z.c.cap } k (flowNext 0 st (untilF z.c.ts st (clkW (enterW z.g z.c.cap) : Nat)), t), 1) by simpa using HV.out)
  go_wp2_with fail
  refine (HOP.out _).mono ?_
  rintro e w6 ⟨rfl, h6⟩
  have HS6 : Hid (Since w5 w6) := Lib.hid (Since.step HSc.out h6)
  clear h6 HOP y0 y1 y2 y3 y4 y5 y6
  cases ok with
  | false =>
    have HR := Lib.hid (show res = (z, 4) by simpa using HV.out)
    go_wp2_with fail
    go_ret
    exact ⟨by (rw [HR.out]) <;> rfl, HQ.out _ _ HS6.out (by rw [HR.out])⟩
  | true =>
  have HV := Lib.hid (show res = if room = false then (z, 5) else (putS { z with g := enterW z.g z.c.cap } k (flowNext 0 st (untilF z.c.ts st (clkW (enterW z.g z.c.cap) : Nat)), t), 1) by simpa using HV.out)
  have g0 : w6.cell? ⟨ra, 18, none⟩ = some (.int .u64 (z.g : Nat)) := (HRW.out.below HS6.out).cell rfl
  have g1 : w6.cell? ⟨ra, 1, none⟩ = some (.int .i64 z.c.cap) := (HRW.out.below HS6.out).cell rfl
  go_wp2_with fail
  refine WQ.enter w6 (Since.refl _) (by kernel_rfl) (by kernel_rfl) ?_
  refine WQ.val (by rfl) (fun v hv => by have k0 := hv.cell g0; have k1 := hv.cell g1; go_simp; first | done | with_reducible rfl | (rw [if_neg (by omega)])) ?_; simp only [Act.put, List.setIfInBounds_toArray, List.set_cons_zero, List.set_cons_succ]
  refine WQ.val (by rfl) (fun v hv => by have k0 := hv.cell g0; have k1 := hv.cell g1; go_simp; first | done | with_reducible rfl | (rw [if_neg (by omega)])) ?_; simp only [Act.put, List.setIfInBounds_toArray, List.set_cons_zero, List.set_cons_succ]
  refine WQ.val (by rfl) (fun v hv => by have k0 := hv.cell g0; have k1 := hv.cell g1; go_simp; first | done | with_reducible rfl | (rw [if_neg (by omega)])) ?_; simp only [Act.put, List.setIfInBounds_toArray, List.set_cons_zero, List.set_cons_succ]
  refine WQ.val (by rfl) (fun v hv => by have k0 := hv.cell g0; have k1 := hv.cell g1; go_simp; first | done | with_reducible rfl | (rw [if_neg (by omega)])) ?_; simp only [Act.put, List.setIfInBounds_toArray, List.set_cons_zero, List.set_cons_succ]
  refine WQ.val (by rfl) (fun v hv => by have k0 := hv.cell g0; have k1 := hv.cell g1; go_simp; first | done | with_reducible rfl | (rw [if_neg (by omega)])) ?_; simp only [Act.put, List.setIfInBounds_toArray, List.set_cons_zero, List.set_cons_succ]
  refine WQ.val (by rfl) (fun v hv => by have k0 := hv.cell g0; have k1 := hv.cell g1; go_simp; first | done | with_reducible rfl | (rw [if_neg (by omega)])) ?_; simp only [Act.put, List.setIfInBounds_toArray, List.set_cons_zero, List.set_cons_succ]
  refine WQ.val (by rfl) (fun v hv => by have k0 := hv.cell g0; have k1 := hv.cell g1; go_simp; first | done | with_reducible rfl | (rw [if_neg (by omega)])) ?_; simp only [Act.put, List.setIfInBounds_toArray, List.set_cons_zero, List.set_cons_succ]
  refine WQ.val (by rfl) (fun v hv => by have k0 := hv.cell g0; have k1 := hv.cell g1; go_simp; first | done | with_reducible rfl | (rw [if_neg (by omega)])) ?_; simp only [Act.put, List.setIfInBounds_toArray, List.set_cons_zero, List.set_cons_succ]
  refine WQ.val (by rfl) (fun v hv => by have k0 := hv.cell g0; have k1 := hv.cell g1; go_simp; first | done | with_reducible rfl | (rw [if_neg (by omega)])) ?_; simp only [Act.put, List.setIfInBounds_toArray, List.set_cons_zero, List.set_cons_succ]
  refine WQ.call (f := 76) (args := #[.int .u64 (z.g : Nat), .int .i64 z.c.cap]) (by rfl) (fun v hv => by go_simp) (fun v hv => (HEN.out v).mono (fun e v' ⟨he, hb⟩ => ⟨he, hv.step hb⟩)) ?_; simp only [Act.put, List.setIfInBounds_toArray, List.set_cons_zero, List.set_cons_succ]
  refine WQ.val (by rfl) (fun v hv => by have k0 := hv.cell g0; have k1 := hv.cell g1; go_simp; first | done | with_reducible rfl | (rw [if_neg (by omega)])) ?_; simp only [Act.put, List.setIfInBounds_toArray, List.set_cons_zero, List.set_cons_succ]
  refine WQ.val (by rfl) (fun v hv => by have k0 := hv.cell g0; have k1 := hv.cell g1; go_simp; first | done | with_reducible rfl | (rw [if_neg (by omega)])) ?_; simp only [Act.put, List.setIfInBounds_toArray, List.set_cons_zero, List.set_cons_succ]
  refine WQ.val (by rfl) (fun v hv => by have k0 := hv.cell g0; have k1 := hv.cell g1; go_simp; first | done | with_reducible rfl | (rw [if_neg (by omega)])) ?_; simp only [Act.put, List.setIfInBounds_toArray, List.set_cons_zero, List.set_cons_succ]
  refine WQ.val (by rfl) (fun v hv => by have k0 := hv.cell g0; have k1 := hv.cell g1; go_simp; first | done | with_reducible rfl | (rw [if_neg (by omega)])) ?_; simp only [Act.put, List.setIfInBounds_toArray, List.set_cons_zero, List.set_cons_succ]
  refine WQ.val (by rfl) (fun v hv => by have k0 := hv.cell g0; have k1 := hv.cell g1; go_simp; first | done | with_reducible rfl | (rw [if_neg (by omega)])) ?_; simp only [Act.put, List.setIfInBounds_toArray, List.set_cons_zero, List.set_cons_succ]
  refine WQ.done ?_
  intro w7 hw7
  have HS7 : Hid (Since w5 w7) := Lib.hid (below_then HS6.out hw7)
  clear hw7 g0 g1 HEN
  cases room with
  | false =>
    have HR := Lib.hid (show res = (z, 5) by simpa using HV.out)
    go_wp2_with fail
    go_ret
    exact ⟨by (rw [HR.out]) <;> rfl, HQ.out _ _ HS7.out (by rw [HR.out])⟩
  | true =>
  have HV := Lib.hid (show res = (putS { z with g := enterW z.g z.c.cap } k (flowNext 0 st (untilF z.c.ts st (clkW z.g : Nat)), t), 1) by rw [← HGP.out rfl]; simpa using HV.out)
  clear HGP HQ HP HFB
  generalize enterW z.g z.c.cap = ge at *
  generalize flowNext 0 st (untilF z.c.ts st (clkW z.g : Nat)) = nw at *
  have HA7 := Lib.hid (HRW.out.below HS7.out)
  have hsm := HZ.out.small
  obtain ⟨fa, fc, hfv, hfl⟩ := HA7.out.flows
  have r0 : w7.cell? ⟨ra, 20, none⟩ = some fv := HA7.out.cell rfl
  rw [hfv] at r0
  have HFC : Hid (z.flows.length ≤ fc ∧ fc ≤ maxLen) := Lib.hid ⟨(HA7.out.fcap hfv).2.1, (HA7.out.fcap hfv).2.2⟩
  have HFV := Lib.hid hfv
  have HFL := Lib.hid hfl
  replace d1 := HS7.out.cell d1
  replace d2 := HS7.out.cell d2
  replace d3 := HS7.out.cell d3
  replace d4 := HS7.out.cell d4
  replace d5 := HS7.out.cell d5
  have HLE := Lib.hid (fun q W (hq : Ky.In q) => refLess_any k q W HK.out hq)
  clear hfv hfl
  go_wp2_with fail
  go_loopw [18] (fun x wr => ∃ j : Nat, x = .int .i64 j ∧ j ≤ z.flows.length ∧ Hid (∀ i p, j ≤ i → z.flows[i]? = some p → ltK k p.1) ∧ Hid (Since w7 wr)) (fun x _ => (intOf x).toNat)
  case atStart => exact ⟨z.flows.length, rfl, Nat.le_refl _, Lib.hid (fun i p h1 h2 => by have := (List.getElem?_eq_some_iff.1 h2).1; omega), Lib.hid (Since.refl _)⟩
  case round =>
    obtain ⟨j, rfl, hj, HGE, HSR⟩ := hrel
    have e1 := HSR.out.cell d1
    have e2 := HSR.out.cell d2
    have e3 := HSR.out.cell d3
    have e4 := HSR.out.cell d4
    have e5 := HSR.out.cell d5
    have t0 := HSR.out.cell r0
    have hj0 : (0 : Int) ≤ j := by omega
    by_cases hpos : 0 < j
    · obtain ⟨p', hp'⟩ : ∃ p', z.flows[j - 1]? = some p' := ⟨_, List.getElem?_eq_getElem (by omega)⟩
      obtain ⟨g, hfa, -, hc⟩ := HFL.out (j - 1) p' hp'
      rw [hfa] at t0
      clear hfa
      have hji : (0 : Int) < j := by omega
      have hj1 : IntKind.i64.wrap ((j : Int) - 1) = ((j - 1 : Nat) : Int) := by rw [IntWalk.i64_in _ (by omega)]; omega
      have hj2 : ((j - 1 : Nat) : Int) < (z.flows.length : Int) := by omega
      have hj3 : (0 : Int) ≤ ((j - 1 : Nat) : Int) := by omega
      have f0 : wr.cell? ⟨g, (j - 1) * 7, none⟩ = some (.int .u32 p'.1.a0) := HSR.out.cell (hc 0 _ rfl).1
      have f1 : wr.cell? ⟨g, (j - 1) * 7 + 1, none⟩ = some (.int .u32 p'.1.a1) := HSR.out.cell (hc 1 _ rfl).1
      have f2 : wr.cell? ⟨g, (j - 1) * 7 + 2, none⟩ = some (.int .u16 p'.1.p0) := HSR.out.cell (hc 2 _ rfl).1
      have f3 : wr.cell? ⟨g, (j - 1) * 7 + 3, none⟩ = some (.int .u16 p'.1.p1) := HSR.out.cell (hc 3 _ rfl).1
      have f4 : wr.cell? ⟨g, (j - 1) * 7 + 4, none⟩ = some (.int .u8 p'.1.pr) := HSR.out.cell (hc 4 _ rfl).1
      have HLQ := Lib.hid (fun W => HLE.out p'.1 W (HZ.out.kin p' (List.mem_of_getElem? hp')).1)
      have HP' := Lib.hid hp'
      obtain ⟨lb, hlb⟩ : ∃ b, lessK k p'.1 = b := ⟨_, rfl⟩
      have HLB := Lib.hid hlb
      rw [hlb] at HLQ
      clear hc hp' hlb
      generalize hj1n : j - 1 = j1 at *
      have HJ1 := Lib.hid hj1n
      clear hj1n
      go_wp2_with fail
      refine WQ.enter wr (Since.refl _) (by kernel_rfl) (by kernel_rfl) ?_
      refine WQ.val (by rfl) (fun v hv => by have k0 := hv.cell t0; have k1 := hv.cell e1; have k2 := hv.cell e2; have k3 := hv.cell e3; have k4 := hv.cell e4; have k5 := hv.cell e5; have k6 := hv.cell f0; have k7 := hv.cell f1; have k8 := hv.cell f2; have k9 := hv.cell f3; have k10 := hv.cell f4; go_simp; first | done | with_reducible rfl | (rw [if_neg (by omega)])) ?_; simp only [Act.put, List.setIfInBounds_toArray, List.set_cons_zero, List.set_cons_succ]
      refine WQ.val (by rfl) (fun v hv => by have k0 := hv.cell t0; have k1 := hv.cell e1; have k2 := hv.cell e2; have k3 := hv.cell e3; have k4 := hv.cell e4; have k5 := hv.cell e5; have k6 := hv.cell f0; have k7 := hv.cell f1; have k8 := hv.cell f2; have k9 := hv.cell f3; have k10 := hv.cell f4; go_simp; first | done | with_reducible rfl | (rw [if_neg (by omega)])) ?_; simp only [Act.put, List.setIfInBounds_toArray, List.set_cons_zero, List.set_cons_succ]
      refine WQ.val (by rfl) (fun v hv => by have k0 := hv.cell t0; have k1 := hv.cell e1; have k2 := hv.cell e2; have k3 := hv.cell e3; have k4 := hv.cell e4; have k5 := hv.cell e5; have k6 := hv.cell f0; have k7 := hv.cell f1; have k8 := hv.cell f2; have k9 := hv.cell f3; have k10 := hv.cell f4; go_simp; first | done | with_reducible rfl | (rw [if_neg (by omega)])) ?_; simp only [Act.put, List.setIfInBounds_toArray, List.set_cons_zero, List.set_cons_succ]
      refine WQ.val (by rfl) (fun v hv => by have k0 := hv.cell t0; have k1 := hv.cell e1; have k2 := hv.cell e2; have k3 := hv.cell e3; have k4 := hv.cell e4; have k5 := hv.cell e5; have k6 := hv.cell f0; have k7 := hv.cell f1; have k8 := hv.cell f2; have k9 := hv.cell f3; have k10 := hv.cell f4; go_simp; first | done | with_reducible rfl | (rw [if_neg (by omega)])) ?_; simp only [Act.put, List.setIfInBounds_toArray, List.set_cons_zero, List.set_cons_succ]
      refine WQ.val (by rfl) (fun v hv => by have k0 := hv.cell t0; have k1 := hv.cell e1; have k2 := hv.cell e2; have k3 := hv.cell e3; have k4 := hv.cell e4; have k5 := hv.cell e5; have k6 := hv.cell f0; have k7 := hv.cell f1; have k8 := hv.cell f2; have k9 := hv.cell f3; have k10 := hv.cell f4; go_simp; first | done | with_reducible rfl | (rw [if_neg (by omega)])) ?_; simp only [Act.put, List.setIfInBounds_toArray, List.set_cons_zero, List.set_cons_succ]
      refine WQ.val (by rfl) (fun v hv => by have k0 := hv.cell t0; have k1 := hv.cell e1; have k2 := hv.cell e2; have k3 := hv.cell e3; have k4 := hv.cell e4; have k5 := hv.cell e5; have k6 := hv.cell f0; have k7 := hv.cell f1; have k8 := hv.cell f2; have k9 := hv.cell f3; have k10 := hv.cell f4; go_simp; first | done | with_reducible rfl | (rw [if_neg (by omega)])) ?_; simp only [Act.put, List.setIfInBounds_toArray, List.set_cons_zero, List.set_cons_succ]
      refine WQ.val (by rfl) (fun v hv => by have k0 := hv.cell t0; have k1 := hv.cell e1; have k2 := hv.cell e2; have k3 := hv.cell e3; have k4 := hv.cell e4; have k5 := hv.cell e5; have k6 := hv.cell f0; have k7 := hv.cell f1; have k8 := hv.cell f2; have k9 := hv.cell f3; have k10 := hv.cell f4; go_simp; first | done | with_reducible rfl | (rw [if_neg (by omega)])) ?_; simp only [Act.put, List.setIfInBounds_toArray, List.set_cons_zero, List.set_cons_succ]
      refine WQ.val (by rfl) (fun v hv => by have k0 := hv.cell t0; have k1 := hv.cell e1; have k2 := hv.cell e2; have k3 := hv.cell e3; have k4 := hv.cell e4; have k5 := hv.cell e5; have k6 := hv.cell f0; have k7 := hv.cell f1; have k8 := hv.cell f2; have k9 := hv.cell f3; have k10 := hv.cell f4; go_simp; first | done | with_reducible rfl | (rw [if_neg (by omega)])) ?_; simp only [Act.put, List.setIfInBounds_toArray, List.set_cons_zero, List.set_cons_succ]
      refine WQ.val (by rfl) (fun v hv => by have k0 := hv.cell t0; have k1 := hv.cell e1; have k2 := hv.cell e2; have k3 := hv.cell e3; have k4 := hv.cell e4; have k5 := hv.cell e5; have k6 := hv.cell f0; have k7 := hv.cell f1; have k8 := hv.cell f2; have k9 := hv.cell f3; have k10 := hv.cell f4; go_simp; first | done | with_reducible rfl | (rw [if_neg (by omega)])) ?_; simp only [Act.put, List.setIfInBounds_toArray, List.set_cons_zero, List.set_cons_succ]
      refine WQ.val (by rfl) (fun v hv => by have k0 := hv.cell t0; have k1 := hv.cell e1; have k2 := hv.cell e2; have k3 := hv.cell e3; have k4 := hv.cell e4; have k5 := hv.cell e5; have k6 := hv.cell f0; have k7 := hv.cell f1; have k8 := hv.cell f2; have k9 := hv.cell f3; have k10 := hv.cell f4; go_simp; first | done | with_reducible rfl | (rw [if_neg (by omega)])) ?_; simp only [Act.put, List.setIfInBounds_toArray, List.set_cons_zero, List.set_cons_succ]
      refine WQ.val (by rfl) (fun v hv => by have k0 := hv.cell t0; have k1 := hv.cell e1; have k2 := hv.cell e2; have k3 := hv.cell e3; have k4 := hv.cell e4; have k5 := hv.cell e5; have k6 := hv.cell f0; have k7 := hv.cell f1; have k8 := hv.cell f2; have k9 := hv.cell f3; have k10 := hv.cell f4; go_simp; first | done | with_reducible rfl | (rw [if_neg (by omega)])) ?_; simp only [Act.put, List.setIfInBounds_toArray, List.set_cons_zero, List.set_cons_succ]
      refine WQ.val (by rfl) (fun v hv => by have k0 := hv.cell t0; have k1 := hv.cell e1; have k2 := hv.cell e2; have k3 := hv.cell e3; have k4 := hv.cell e4; have k5 := hv.cell e5; have k6 := hv.cell f0; have k7 := hv.cell f1; have k8 := hv.cell f2; have k9 := hv.cell f3; have k10 := hv.cell f4; go_simp; first | done | with_reducible rfl | (rw [if_neg (by omega)])) ?_; simp only [Act.put, List.setIfInBounds_toArray, List.set_cons_zero, List.set_cons_succ]
      refine WQ.val (by rfl) (fun v hv => by have k0 := hv.cell t0; have k1 := hv.cell e1; have k2 := hv.cell e2; have k3 := hv.cell e3; have k4 := hv.cell e4; have k5 := hv.cell e5; have k6 := hv.cell f0; have k7 := hv.cell f1; have k8 := hv.cell f2; have k9 := hv.cell f3; have k10 := hv.cell f4; go_simp; first | done | with_reducible rfl | (rw [if_neg (by omega)])) ?_; simp only [Act.put, List.setIfInBounds_toArray, List.set_cons_zero, List.set_cons_succ]
      refine WQ.call (f := 26) (args := #[.agg #[.int .u32 k.a0, .int .u32 k.a1, .int .u16 k.p0, .int .u16 k.p1, .int .u8 k.pr], .agg #[.int .u32 p'.1.a0, .int .u32 p'.1.a1, .int .u16 p'.1.p0, .int .u16 p'.1.p1, .int .u8 p'.1.pr]]) (by rfl) (fun v hv => by go_simp) (fun v hv => (HLQ.out v).mono (fun e v' ⟨he, hb⟩ => ⟨he, hv.step hb⟩)) ?_; simp only [Act.put, List.setIfInBounds_toArray, List.set_cons_zero, List.set_cons_succ]
      refine WQ.val (by rfl) (fun v hv => by have k0 := hv.cell t0; have k1 := hv.cell e1; have k2 := hv.cell e2; have k3 := hv.cell e3; have k4 := hv.cell e4; have k5 := hv.cell e5; have k6 := hv.cell f0; have k7 := hv.cell f1; have k8 := hv.cell f2; have k9 := hv.cell f3; have k10 := hv.cell f4; go_simp; first | done | with_reducible rfl | (rw [if_neg (by omega)])) ?_; simp only [Act.put, List.setIfInBounds_toArray, List.set_cons_zero, List.set_cons_succ]
      refine WQ.done ?_
      intro w8 hw8
      have HS8 : Hid (Since w7 w8) := Lib.hid (below_then HSR.out hw8)
      clear hw8 f0 f1 f2 f3 f4 e1 e2 e3 e4 e5 t0
      cases lb with
      | true =>
        go_wp2_with fail
        go_roundw
        case rel =>
          refine ⟨j1, by go_num, by have := HJ1.out; omega, Lib.hid (fun i p h1 h2 => ?_), HS8⟩
          by_cases hi : i = j1
          · subst hi
            rw [HP'.out] at h2
            cases h2
            exact lessK_iff.1 HLB.out
          · exact HGE.out i p (by have := HJ1.out; omega) h2
        case measure => have := HJ1.out; simp [intOf]; omega
      | false =>
        have HLO : Hid (∀ p, 0 < j → z.flows[j - 1]? = some p → ¬ ltK k p.1) := Lib.hid (fun p _ h => by
          rw [HJ1.out, HP'.out] at h
          cases h
          exact fun h => by have := lessK_iff.2 h; rw [HLB.out] at this; cases this)
        clear HLQ HLB HP' HJ1 hji hj1 hj2 hj3 hpos
        have HR8 := Lib.hid (HA7.out.below HS8.out)
        have HS48 : Hid (Since w4 w8) := Lib.hid (below_then HS5.out (below_then HS7.out HS8.out))
        have u1 := HS8.out.cell d1
        have u2 := HS8.out.cell d2
        have u3 := HS8.out.cell d3
        have u4 := HS8.out.cell d4
        have u5 := HS8.out.cell d5
        have v0 := HS8.out.cell r0
        have HF2 := Lib.hid (putL_here HZ.out.rise HGN.out hj HGE.out HLO.out (nw, t))
        have HTL : Hid ((z.flows.take j).length = j) := Lib.hid (by rw [List.length_take]; omega)
        have HDL : Hid ((z.flows.drop j).length = z.flows.length - j) := Lib.hid List.length_drop
        have HTR := Lib.hid (fun W (h : Since w8 W) => flows_take_read (HR8.out.below h) HFV.out j)
        obtain ⟨a2, ha21, ha22, ha23⟩ := flows_drop_read HR8.out HFV.out j hj
        have HA21 := Lib.hid ha21
        have HA22 := Lib.hid ha22
        have HA23 := Lib.hid (fun W (h : Since w8 W) ad e i u hi => h.cell (ha23 ad e i u hi))
        have HNL := Lib.hid (HR8.out.fnil HFV.out)
        have hjc : j ≤ fc := Nat.le_trans hj HFC.out.1
        have hjm : (j : Int) ≤ (z.flows.length : Int) := by omega
        have hfc2 : (fc : Int) ≤ 9223372036854775807 := by have := HFC.out.2; unfold maxLen at this; omega
        have hmc : z.flows.length ≤ fc := HFC.out.1
        have hsm2 := HZ.out.small
        clear ha21 ha22 ha23 d1 d2 d3 d4 d5 r0 HGE HLO
        generalize hfm : z.flows.length = m at *
        have HM := Lib.hid hfm
        clear hfm
        go_wp2_with fail
        have HS0 : Hid (Since w8 w8.drew) := Lib.hid ((Below.refl _ w8).trans ⟨rfl, rfl, rfl, Nat.le_refl _, fun _ _ => rfl⟩)
        refine WG.enter (Since w8) 26 (by kernel_rfl) 27 rfl ?_
        refine WG.take 0 (some 144) rfl rfl (by kernel_rfl) (by kernel_rfl) (by kernel_rfl) (by kernel_rfl) (fun _ _ _ h => h) (by rfl) (fun v hv => by go_simp; first | done | with_reducible rfl | (rw [if_neg (by omega)])) HS0.out ?_; simp only [Act.put, List.setIfInBounds_toArray, List.set_cons_zero, List.set_cons_succ]
        refine WG.take 2 (some 146) rfl rfl (by kernel_rfl) (by kernel_rfl) (by kernel_rfl) (by kernel_rfl) (fun _ _ _ h => h) (by rfl) (fun v hv => by go_simp; first | done | with_reducible rfl | (rw [if_neg (by omega)])) HS0.out ?_; simp only [Act.put, List.setIfInBounds_toArray, List.set_cons_zero, List.set_cons_succ]
        refine WG.take 3 (some 147) rfl rfl (by kernel_rfl) (by kernel_rfl) (by kernel_rfl) (by kernel_rfl) (fun _ _ _ h => h) (by rfl) (fun v hv => by go_simp; first | done | with_reducible rfl | (rw [if_neg (by omega)])) HS0.out ?_; simp only [Act.put, List.setIfInBounds_toArray, List.set_cons_zero, List.set_cons_succ]
        refine WG.take 4 (some 148) rfl rfl (by kernel_rfl) (by kernel_rfl) (by kernel_rfl) (by kernel_rfl) (fun _ _ _ h => h) (by rfl) (fun v hv => by go_simp; first | done | with_reducible rfl | (rw [if_neg (by omega)])) HS0.out ?_; simp only [Act.put, List.setIfInBounds_toArray, List.set_cons_zero, List.set_cons_succ]
        refine WG.take 5 (some 149) rfl rfl (by kernel_rfl) (by kernel_rfl) (by kernel_rfl) (by kernel_rfl) (fun _ _ _ h => h) (by rfl) (fun v hv => by have k0 := hv.cell v0; have k1 := hv.cell u1; have k2 := hv.cell u2; have k3 := hv.cell u3; have k4 := hv.cell u4; have k5 := hv.cell u5; go_simp; first | done | with_reducible rfl | (rw [if_neg (by omega)])) HS0.out ?_; simp only [Act.put, List.setIfInBounds_toArray, List.set_cons_zero, List.set_cons_succ]
        refine WG.take 6 (some 150) rfl rfl (by kernel_rfl) (by kernel_rfl) (by kernel_rfl) (by kernel_rfl) (fun _ _ _ h => h) (by rfl) (fun v hv => by go_simp; first | done | with_reducible rfl | (rw [if_neg (by omega)])) HS0.out ?_; simp only [Act.put, List.setIfInBounds_toArray, List.set_cons_zero, List.set_cons_succ]
        refine WG.take 7 (some 151) (v := .slice fa j fc) rfl rfl (by kernel_rfl) (by kernel_rfl) (by kernel_rfl) (by kernel_rfl) (fun _ _ _ h => h) (by rfl) (fun v hv => by rcases HNL.out with ⟨h1, h2, h3⟩ | ⟨g, h1⟩; (subst h1 h2 h3; obtain rfl : j = 0 := by omega); (go_simp); (subst h1; go_simp; first | done | (intro h; have := h (by omega); omega) | (rw [if_pos ⟨by omega, by omega⟩]))) HS0.out ?_; simp only [Act.put, List.setIfInBounds_toArray, List.set_cons_zero, List.set_cons_succ]
        refine WG.take 9 (some 153) rfl rfl (by kernel_rfl) (by kernel_rfl) (by kernel_rfl) (by kernel_rfl) (fun _ _ _ h => h) (by rfl) (fun v hv => by have k0 := hv.cell v0; have k1 := hv.cell u1; have k2 := hv.cell u2; have k3 := hv.cell u3; have k4 := hv.cell u4; have k5 := hv.cell u5; go_simp; first | done | with_reducible rfl | (rw [if_neg (by omega)])) HS0.out ?_; simp only [Act.put, List.setIfInBounds_toArray, List.set_cons_zero, List.set_cons_succ]
        refine WG.take 10 (some 154) rfl rfl (by kernel_rfl) (by kernel_rfl) (by kernel_rfl) (by kernel_rfl) (fun _ _ _ h => h) (by rfl) (fun v hv => by go_simp; first | done | with_reducible rfl | (rw [if_neg (by omega)])) HS0.out ?_; simp only [Act.put, List.setIfInBounds_toArray, List.set_cons_zero, List.set_cons_succ]
        refine WG.take 11 (some 155) rfl rfl (by kernel_rfl) (by kernel_rfl) (by kernel_rfl) (by kernel_rfl) (fun _ _ _ h => h) (by rfl) (fun v hv => by go_simp; first | done | with_reducible rfl | (rw [if_neg (by omega)])) HS0.out ?_; simp only [Act.put, List.setIfInBounds_toArray, List.set_cons_zero, List.set_cons_succ]
        refine WG.take 13 (some 157) rfl rfl (by kernel_rfl) (by kernel_rfl) (by kernel_rfl) (by kernel_rfl) (fun _ _ _ h => h) (by rfl) (fun v hv => by go_simp; first | done | with_reducible rfl | (rw [if_neg (by omega)])) HS0.out ?_; simp only [Act.put, List.setIfInBounds_toArray, List.set_cons_zero, List.set_cons_succ]
        refine WG.take 17 (some 161) rfl rfl (by kernel_rfl) (by kernel_rfl) (by kernel_rfl) (by kernel_rfl) (fun _ _ _ h => h) (by rfl) (fun v hv => by go_simp; first | done | with_reducible rfl | (rw [if_neg (by omega)])) HS0.out ?_; simp only [Act.put, List.setIfInBounds_toArray, List.set_cons_zero, List.set_cons_succ]
        refine WG.take 18 (some 162) rfl rfl (by kernel_rfl) (by kernel_rfl) (by kernel_rfl) (by kernel_rfl) (fun _ _ _ h => h) (by rfl) (fun v hv => by go_simp; first | done | with_reducible rfl | (rw [if_neg (by omega)])) HS0.out ?_; simp only [Act.put, List.setIfInBounds_toArray, List.set_cons_zero, List.set_cons_succ]
        refine WG.take 19 (some 163) rfl rfl (by kernel_rfl) (by kernel_rfl) (by kernel_rfl) (by kernel_rfl) (fun _ _ _ h => h) (by rfl) (fun v hv => by go_simp; first | done | with_reducible rfl | (rw [if_neg (by omega)])) HS0.out ?_; simp only [Act.put, List.setIfInBounds_toArray, List.set_cons_zero, List.set_cons_succ]
        refine WG.take 20 (some 164) rfl rfl (by kernel_rfl) (by kernel_rfl) (by kernel_rfl) (by kernel_rfl) (fun _ _ _ h => h) (by rfl) (fun v hv => by have k0 := hv.cell v0; have k1 := hv.cell u1; have k2 := hv.cell u2; have k3 := hv.cell u3; have k4 := hv.cell u4; have k5 := hv.cell u5; go_simp; first | done | with_reducible rfl | (rw [if_neg (by omega)])) HS0.out ?_; simp only [Act.put, List.setIfInBounds_toArray, List.set_cons_zero, List.set_cons_succ]
        refine WG.take 21 (some 165) rfl rfl (by kernel_rfl) (by kernel_rfl) (by kernel_rfl) (by kernel_rfl) (fun _ _ _ h => h) (by rfl) (fun v hv => by go_simp; first | done | with_reducible rfl | (rw [if_neg (by omega)])) HS0.out ?_; simp only [Act.put, List.setIfInBounds_toArray, List.set_cons_zero, List.set_cons_succ]
        refine WG.take 22 (some 166) (v := .slice a2 (m - j) (fc - j)) rfl rfl (by kernel_rfl) (by kernel_rfl) (by kernel_rfl) (by kernel_rfl) (fun _ _ _ h => h) (by rfl) (fun v hv => by rcases HNL.out with ⟨h1, h2, h3⟩ | ⟨g, h1⟩; (subst h1 h2 h3; obtain rfl : j = 0 := by omega); (rw [HA21.out rfl]; go_simp); (subst h1; rw [HA22.out g rfl]; go_simp; first | done | (intro h; have := h (by omega); omega) | (rw [if_pos ⟨by omega, by omega⟩]))) HS0.out ?_; simp only [Act.put, List.setIfInBounds_toArray, List.set_cons_zero, List.set_cons_succ]
        --M4
        have HS1 : Hid (Since w8 (w8.drew.alloc (.cells #[] 96))) := Lib.hid (Below.alloc HS0.out (Nat.le_refl _) _)
        refine WG.one 1 (by kernel_rfl) rfl (by rfl) ?_
        go_wp2_with fail
        refine ⟨HS1.out, ?_⟩
        obtain ⟨i0, hi0, hz0, hz1, hz2⟩ := info_parts flowInfo
        refine WG.one 8 (by kernel_rfl) rfl (by rfl) ?_
        refine oper_append_any _ _ 86 rfl w8.heap.size 96 i0 _ 7 32 Tryz.underlying86 hi0 hz0 hz1 hz2 rfl (by decide) (.slice (some ⟨w8.heap.size, 0, none⟩) 0 0) 0 [] rfl (World.ownsRow_made w8.drew #[] 0 (Nat.le_refl _) (Nat.zero_le _) rfl) fa j fc (flowsC (z.flows.take j)) rfl (by rw [flowsC_len, HTL.out]) (HTR.out _ HS1.out) (fun e => by rcases HNL.out with ⟨_, h2, h3⟩ | ⟨g, h1⟩; exact ⟨by omega, h3⟩; rw [h1] at e; cases e) (flowsC_one _) (by unfold maxLen; omega) (by omega) (Below.size HS1.out) ?_
        intro v1 w9 hown hgrow
        rw [Nat.zero_add, List.nil_append] at hown
        have HS9 : Hid (Since w8 w9) := Lib.hid (Below.grown HS1.out hgrow (by have := Below.size HS1.out; exact this) (by intro b hb; simp [Value.ownBlock] at hb; omega))
        refine ⟨fun _ => HS9.out, ?_⟩
        simp only [Act.put, List.setIfInBounds_toArray, List.set_cons_zero, List.set_cons_succ]
        have hrw1 := World.ownsRow.mono_base hown
        obtain ⟨va, vc, rfl, _⟩ := row_form hrw1
        clear hrw1 hgrow
        refine WG.one 12 (by kernel_rfl) rfl (by rfl) ?_
        go_wp2_with fail
        refine (HWD.out _ ⟨_, _, _, HR8.out.below HS9.out⟩).mono ?_
        rintro e w10 ⟨rfl, h10⟩
        have HS10 : Hid (Since w8 w10) := Lib.hid (Since.step HS9.out h10)
        have hvb0 : ∀ b, (Value.slice va j vc).ownBlock = some b → w8.heap.size ≤ b := fun b hb => ownsRow_base hown hb
        have HOW : Hid (w10.ownsRow w8.heap.size 96 7 (.slice va j vc) j (flowsC (z.flows.take j))) := Lib.hid (ownsRow_keep hown (fun b hb => h10.block b (row_lt (World.ownsRow.mono_base hown) hb)))
        clear h10 hown
        go_wp2_with fail
        refine ⟨HS10.out, ?_⟩
        --M5
        refine WG.take 14 (some 158) (v := .agg #[.int .u32 k.a0, .int .u32 k.a1, .int .u16 k.p0, .int .u16 k.p1, .int .u8 k.pr, .int .u64 (nw : Nat), .bool t]) rfl rfl (by kernel_rfl) (by kernel_rfl) (by kernel_rfl) (by kernel_rfl) (fun _ _ _ h => h) (by rfl) (fun v hv => by go_simp; first | done | rfl) HS10.out ?_; simp only [Act.put, List.setIfInBounds_toArray, List.set_cons_zero, List.set_cons_succ]
        have HS11 : Hid (Since w8 (w10.alloc (.cells #[.int .u32 k.a0, .int .u32 k.a1, .int .u16 k.p0, .int .u16 k.p1, .int .u8 k.pr, .int .u64 (nw : Nat), .bool t] 96))) := Lib.hid (Below.alloc HS10.out (Below.size HS10.out) _)
        have HOW2 : Hid ((w10.alloc (.cells #[.int .u32 k.a0, .int .u32 k.a1, .int .u16 k.p0, .int .u16 k.p1, .int .u8 k.pr, .int .u64 (nw : Nat), .bool t] 96)).ownsRow w8.heap.size 96 7 (.slice va j vc) j (flowsC (z.flows.take j))) := Lib.hid (HOW.out.alloc _)
        refine WG.one 15 (by kernel_rfl) rfl (by rfl) ?_
        go_wp2_with fail
        refine ⟨HS11.out, ?_⟩
        --M6
        refine WG.one 16 (by kernel_rfl) rfl (by rfl) ?_
        refine oper_append_any _ _ 86 rfl w8.heap.size 96 i0 _ 7 32 Tryz.underlying86 hi0 hz0 hz1 hz2 rfl (by decide) (.slice va j vc) j (flowsC (z.flows.take j)) rfl HOW2.out (some ⟨w10.heap.size, 0, none⟩) 1 1 (flowsC [(k, (nw, t))]) rfl rfl (fun ad e i u hi => by cases e; exact cells_new w10 [.int .u32 k.a0, .int .u32 k.a1, .int .u16 k.p0, .int .u16 k.p1, .int .u8 k.pr, .int .u64 (nw : Nat), .bool t] _ i u hi) (fun e => by cases e) (flowsC_one _) (by unfold maxLen; omega) (by omega) (Below.size HS11.out) ?_
        intro v2 w12 hown2 hgrow2
        have HS12 : Hid (Since w8 w12) := Lib.hid (Below.grown HS11.out hgrow2 (Below.size HS11.out) (fun b hb => hvb0 b hb))
        refine ⟨fun _ => HS12.out, ?_⟩
        simp only [Act.put, List.setIfInBounds_toArray, List.set_cons_zero, List.set_cons_succ]
        have hrw2 := World.ownsRow.mono_base hown2
        obtain ⟨vb, vd, rfl, _⟩ := row_form hrw2
        have hvb1 : ∀ b, (Value.slice vb (j + 1) vd).ownBlock = some b → w8.heap.size ≤ b := fun b hb => ownsRow_base hown2 hb
        clear hrw2 hgrow2 hvb0 HOW HOW2
        refine WG.one 23 (by kernel_rfl) rfl (by rfl) ?_
        refine oper_append_any _ _ 86 rfl w8.heap.size 96 i0 _ 7 32 Tryz.underlying86 hi0 hz0 hz1 hz2 rfl (by decide) (.slice vb (j + 1) vd) (j + 1) _ rfl hown2 a2 (m - j) (fc - j) (flowsC (z.flows.drop j)) rfl (by rw [flowsC_len, HDL.out]) (HA23.out w12 HS12.out) (fun e => by rcases HNL.out with ⟨_, h2, h3⟩ | ⟨g, h1⟩; exact ⟨by omega, by omega⟩; (rw [HA22.out g h1] at e; split at e <;> cases e)) (flowsC_one _) (by unfold maxLen; omega) (by omega) (Below.size HS12.out) ?_
        intro v3 w13 hown3 hgrow3
        have HS13 : Hid (Since w8 w13) := Lib.hid (Below.grown HS12.out hgrow3 (Below.size HS12.out) (fun b hb => hvb1 b hb))
        refine ⟨fun _ => HS13.out, ?_⟩
        simp only [Act.put, List.setIfInBounds_toArray, List.set_cons_zero, List.set_cons_succ]
        have HV3B : Hid (∀ b, v3.ownBlock = some b → w8.heap.size ≤ b ∧ b < w13.heap.size) := Lib.hid (fun b hb => ⟨ownsRow_base hown3 hb, row_lt (World.ownsRow.mono_base hown3) hb⟩)
        obtain ⟨f2, hf2⟩ : ∃ f2, putL z.flows k (nw, t) = f2 := ⟨_, rfl⟩
        have hf3 : z.flows.take j ++ [(k, (nw, t))] ++ z.flows.drop j = f2 := by rw [← hf2, HF2.out]; simp
        have hql : f2.length = j + 1 + (m - j) := by rw [← hf3, List.length_append, List.length_append, HTL.out, HDL.out]; rfl
        have hrow : Row w13 96 7 v3 f2.length (flowsC f2) := by
          rw [hql, ← hf3, flowsC_append, flowsC_append]
          exact World.ownsRow.mono_base hown3
        have HR14 := Lib.hid (HR8.out.reflow HS13.out hrow)
        have hR13 := HR8.out.below HS13.out
        have k0 : w13.cell? ⟨ra, 20, none⟩ = some fv := hR13.cell rfl
        have k1 := hR13.free 20
        obtain ⟨vx, ve, hv3, _⟩ := row_form hrow
        generalize f2.length = q2 at *
        subst hv3
        have HF2 := Lib.hid hf2
        clear hf2 hf3 hql hrow hR13 hown2 hown3 hgrow3 hvb1
        have HT14 : Hid (Turn F' w4 (w13.setCell ⟨ra, 20, none⟩ (.slice vx q2 ve))) := Lib.hid ((Turn.of_below (F := F') (below_then HS48.out HS13.out)).setCell _ _ (.inl HR8.out.fra))
        have HZ14 : Hid (w8.heap.size ≤ w13.heap.size ∧ w13.heap.size = (w13.setCell ⟨ra, 20, none⟩ (.slice vx q2 ve)).heap.size ∧ w4.heap.size ≤ w8.heap.size) := Lib.hid ⟨Below.size HS13.out, by simp [World.setCell], Below.size HS48.out⟩
        --M7
        refine WG.one 24 (by kernel_rfl) rfl (by rfl) ?_
        go_wp2_with fail
        refine ⟨HS13.out, ?_⟩
        refine WG.one 25 (by kernel_rfl) rfl (by rfl) ?_
        go_wp2_with fail
        refine ⟨HS13.out, ?_⟩
        refine WG.one 26 (by kernel_rfl) rfl (by rfl) ?_
        go_wp2_with fail
        refine WG.done (by kernel_rfl) ?_
        generalize hw14 : w13.setCell ⟨ra, 20, none⟩ (.slice vx q2 ve) = w14 at *
        have x0 : w14.cell? ⟨ra, 18, none⟩ = some (.int .u64 (z.g : Nat)) := HR14.out.cell rfl
        have x1 := HR14.out.free 18
        have HR15 := Lib.hid (HR14.out.setg ge)
        have HT15 : Hid (Turn F' w4 (w14.setCell ⟨ra, 18, none⟩ (.int .u64 (ge : Nat)))) := Lib.hid (HT14.out.setCell _ _ (.inl HR8.out.fra))
        have HZ15 : Hid (w14.heap.size = (w14.setCell ⟨ra, 18, none⟩ (.int .u64 (ge : Nat))).heap.size) := Lib.hid (by simp [World.setCell])
        clear hw14 k0 k1
        go_wp2_with fail
        go_ret
        refine ⟨by (rw [HV.out]) <;> rfl, ?_⟩
        rw [HV.out]
        refine HPO.out (fun i => F' i ∨ (Value.slice vx q2 ve).ownBlock = some i) _ _ ⟨rv, .slice vx q2 ve, vs, ?_⟩ HT15.out (fun i hi => ?_)
        · unfold putS
          rw [show (({ z with g := ge } : St)).flows = z.flows from rfl, HF2.out]
          exact HR15.out
        · rcases hi with hi | hi
          · exact .inl hi
          · have h1 := HV3B.out i hi
            have h2 := HZ14.out
            have h3 := HZ15.out
            exact .inr ⟨by omega, by omega⟩
    · have hji : ¬ (0 : Int) < j := by omega
      go_wp2_with fail
      refine WQ.enter wr (Since.refl _) (by kernel_rfl) (by kernel_rfl) ?_
      refine WQ.val (by rfl) (fun v hv => by have k0 := hv.cell t0; have k1 := hv.cell e1; have k2 := hv.cell e2; have k3 := hv.cell e3; have k4 := hv.cell e4; have k5 := hv.cell e5; go_simp; first | done | with_reducible rfl | (rw [if_neg (by omega)])) ?_; simp only [Act.put, List.setIfInBounds_toArray, List.set_cons_zero, List.set_cons_succ]
      refine WQ.val (by rfl) (fun v hv => by have k0 := hv.cell t0; have k1 := hv.cell e1; have k2 := hv.cell e2; have k3 := hv.cell e3; have k4 := hv.cell e4; have k5 := hv.cell e5; go_simp; first | done | with_reducible rfl | (rw [if_neg (by omega)])) ?_; simp only [Act.put, List.setIfInBounds_toArray, List.set_cons_zero, List.set_cons_succ]
      refine WQ.val (by rfl) (fun v hv => by have k0 := hv.cell t0; have k1 := hv.cell e1; have k2 := hv.cell e2; have k3 := hv.cell e3; have k4 := hv.cell e4; have k5 := hv.cell e5; go_simp; first | done | with_reducible rfl | (rw [if_neg (by omega)])) ?_; simp only [Act.put, List.setIfInBounds_toArray, List.set_cons_zero, List.set_cons_succ]
      refine WQ.off (by rfl) ?_; simp only [Act.put, List.setIfInBounds_toArray, List.set_cons_zero, List.set_cons_succ]
      refine WQ.off (by rfl) ?_; simp only [Act.put, List.setIfInBounds_toArray, List.set_cons_zero, List.set_cons_succ]
      refine WQ.off (by rfl) ?_; simp only [Act.put, List.setIfInBounds_toArray, List.set_cons_zero, List.set_cons_succ]
      refine WQ.off (by rfl) ?_; simp only [Act.put, List.setIfInBounds_toArray, List.set_cons_zero, List.set_cons_succ]
      refine WQ.off (by rfl) ?_; simp only [Act.put, List.setIfInBounds_toArray, List.set_cons_zero, List.set_cons_succ]
      refine WQ.off (by rfl) ?_; simp only [Act.put, List.setIfInBounds_toArray, List.set_cons_zero, List.set_cons_succ]
      refine WQ.off (by rfl) ?_; simp only [Act.put, List.setIfInBounds_toArray, List.set_cons_zero, List.set_cons_succ]
      refine WQ.off (by rfl) ?_; simp only [Act.put, List.setIfInBounds_toArray, List.set_cons_zero, List.set_cons_succ]
      refine WQ.off (by rfl) ?_; simp only [Act.put, List.setIfInBounds_toArray, List.set_cons_zero, List.set_cons_succ]
      refine WQ.off (by rfl) ?_; simp only [Act.put, List.setIfInBounds_toArray, List.set_cons_zero, List.set_cons_succ]
      refine WQ.off (by rfl) ?_; simp only [Act.put, List.setIfInBounds_toArray, List.set_cons_zero, List.set_cons_succ]
      refine WQ.val (by rfl) (fun v hv => by have k0 := hv.cell t0; have k1 := hv.cell e1; have k2 := hv.cell e2; have k3 := hv.cell e3; have k4 := hv.cell e4; have k5 := hv.cell e5; go_simp; first | done | with_reducible rfl | (rw [if_neg (by omega)])) ?_; simp only [Act.put, List.setIfInBounds_toArray, List.set_cons_zero, List.set_cons_succ]
      refine WQ.done ?_
      intro w8 hw8
      have HS8 : Hid (Since w7 w8) := Lib.hid (below_then HSR.out hw8)
      have HLO : Hid (∀ p, 0 < j → z.flows[j - 1]? = some p → ¬ ltK k p.1) := Lib.hid (fun p h _ => absurd h hpos)
      clear hw8 e1 e2 e3 e4 e5 t0 hpos hji
      have HR8 := Lib.hid (HA7.out.below HS8.out)
      have HS48 : Hid (Since w4 w8) := Lib.hid (below_then HS5.out (below_then HS7.out HS8.out))
      have u1 := HS8.out.cell d1
      have u2 := HS8.out.cell d2
      have u3 := HS8.out.cell d3
      have u4 := HS8.out.cell d4
      have u5 := HS8.out.cell d5
      have v0 := HS8.out.cell r0
      have HF2 := Lib.hid (putL_here HZ.out.rise HGN.out hj HGE.out HLO.out (nw, t))
      have HTL : Hid ((z.flows.take j).length = j) := Lib.hid (by rw [List.length_take]; omega)
      have HDL : Hid ((z.flows.drop j).length = z.flows.length - j) := Lib.hid List.length_drop
      have HTR := Lib.hid (fun W (h : Since w8 W) => flows_take_read (HR8.out.below h) HFV.out j)
      obtain ⟨a2, ha21, ha22, ha23⟩ := flows_drop_read HR8.out HFV.out j hj
      have HA21 := Lib.hid ha21
      have HA22 := Lib.hid ha22
      have HA23 := Lib.hid (fun W (h : Since w8 W) ad e i u hi => h.cell (ha23 ad e i u hi))
      have HNL := Lib.hid (HR8.out.fnil HFV.out)
      have hjc : j ≤ fc := Nat.le_trans hj HFC.out.1
      have hjm : (j : Int) ≤ (z.flows.length : Int) := by omega
      have hfc2 : (fc : Int) ≤ 9223372036854775807 := by have := HFC.out.2; unfold maxLen at this; omega
      have hmc : z.flows.length ≤ fc := HFC.out.1
      have hsm2 := HZ.out.small
      clear ha21 ha22 ha23 d1 d2 d3 d4 d5 r0 HGE HLO
      generalize hfm : z.flows.length = m at *
      have HM := Lib.hid hfm
      clear hfm
      go_wp2_with fail
      have HS0 : Hid (Since w8 w8.drew) := Lib.hid ((Below.refl _ w8).trans ⟨rfl, rfl, rfl, Nat.le_refl _, fun _ _ => rfl⟩)
      refine WG.enter (Since w8) 26 (by kernel_rfl) 27 rfl ?_
      refine WG.take 0 (some 144) rfl rfl (by kernel_rfl) (by kernel_rfl) (by kernel_rfl) (by kernel_rfl) (fun _ _ _ h => h) (by rfl) (fun v hv => by go_simp; first | done | with_reducible rfl | (rw [if_neg (by omega)])) HS0.out ?_; simp only [Act.put, List.setIfInBounds_toArray, List.set_cons_zero, List.set_cons_succ]
      refine WG.take 2 (some 146) rfl rfl (by kernel_rfl) (by kernel_rfl) (by kernel_rfl) (by kernel_rfl) (fun _ _ _ h => h) (by rfl) (fun v hv => by go_simp; first | done | with_reducible rfl | (rw [if_neg (by omega)])) HS0.out ?_; simp only [Act.put, List.setIfInBounds_toArray, List.set_cons_zero, List.set_cons_succ]
      refine WG.take 3 (some 147) rfl rfl (by kernel_rfl) (by kernel_rfl) (by kernel_rfl) (by kernel_rfl) (fun _ _ _ h => h) (by rfl) (fun v hv => by go_simp; first | done | with_reducible rfl | (rw [if_neg (by omega)])) HS0.out ?_; simp only [Act.put, List.setIfInBounds_toArray, List.set_cons_zero, List.set_cons_succ]
      refine WG.take 4 (some 148) rfl rfl (by kernel_rfl) (by kernel_rfl) (by kernel_rfl) (by kernel_rfl) (fun _ _ _ h => h) (by rfl) (fun v hv => by go_simp; first | done | with_reducible rfl | (rw [if_neg (by omega)])) HS0.out ?_; simp only [Act.put, List.setIfInBounds_toArray, List.set_cons_zero, List.set_cons_succ]
      refine WG.take 5 (some 149) rfl rfl (by kernel_rfl) (by kernel_rfl) (by kernel_rfl) (by kernel_rfl) (fun _ _ _ h => h) (by rfl) (fun v hv => by have k0 := hv.cell v0; have k1 := hv.cell u1; have k2 := hv.cell u2; have k3 := hv.cell u3; have k4 := hv.cell u4; have k5 := hv.cell u5; go_simp; first | done | with_reducible rfl | (rw [if_neg (by omega)])) HS0.out ?_; simp only [Act.put, List.setIfInBounds_toArray, List.set_cons_zero, List.set_cons_succ]
      refine WG.take 6 (some 150) rfl rfl (by kernel_rfl) (by kernel_rfl) (by kernel_rfl) (by kernel_rfl) (fun _ _ _ h => h) (by rfl) (fun v hv => by go_simp; first | done | with_reducible rfl | (rw [if_neg (by omega)])) HS0.out ?_; simp only [Act.put, List.setIfInBounds_toArray, List.set_cons_zero, List.set_cons_succ]
      refine WG.take 7 (some 151) (v := .slice fa j fc) rfl rfl (by kernel_rfl) (by kernel_rfl) (by kernel_rfl) (by kernel_rfl) (fun _ _ _ h => h) (by rfl) (fun v hv => by rcases HNL.out with ⟨h1, h2, h3⟩ | ⟨g, h1⟩; (subst h1 h2 h3; obtain rfl : j = 0 := by omega); (go_simp); (subst h1; go_simp; first | done | (intro h; have := h (by omega); omega) | (rw [if_pos ⟨by omega, by omega⟩]))) HS0.out ?_; simp only [Act.put, List.setIfInBounds_toArray, List.set_cons_zero, List.set_cons_succ]
      refine WG.take 9 (some 153) rfl rfl (by kernel_rfl) (by kernel_rfl) (by kernel_rfl) (by kernel_rfl) (fun _ _ _ h => h) (by rfl) (fun v hv => by have k0 := hv.cell v0; have k1 := hv.cell u1; have k2 := hv.cell u2; have k3 := hv.cell u3; have k4 := hv.cell u4; have k5 := hv.cell u5; go_simp; first | done | with_reducible rfl | (rw [if_neg (by omega)])) HS0.out ?_; simp only [Act.put, List.setIfInBounds_toArray, List.set_cons_zero, List.set_cons_succ]
      refine WG.take 10 (some 154) rfl rfl (by kernel_rfl) (by kernel_rfl) (by kernel_rfl) (by kernel_rfl) (fun _ _ _ h => h) (by rfl) (fun v hv => by go_simp; first | done | with_reducible rfl | (rw [if_neg (by omega)])) HS0.out ?_; simp only [Act.put, List.setIfInBounds_toArray, List.set_cons_zero, List.set_cons_succ]
      refine WG.take 11 (some 155) rfl rfl (by kernel_rfl) (by kernel_rfl) (by kernel_rfl) (by kernel_rfl) (fun _ _ _ h => h) (by rfl) (fun v hv => by go_simp; first | done | with_reducible rfl | (rw [if_neg (by omega)])) HS0.out ?_; simp only [Act.put, List.setIfInBounds_toArray, List.set_cons_zero, List.set_cons_succ]
      refine WG.take 13 (some 157) rfl rfl (by kernel_rfl) (by kernel_rfl) (by kernel_rfl) (by kernel_rfl) (fun _ _ _ h => h) (by rfl) (fun v hv => by go_simp; first | done | with_reducible rfl | (rw [if_neg (by omega)])) HS0.out ?_; simp only [Act.put, List.setIfInBounds_toArray, List.set_cons_zero, List.set_cons_succ]
      refine WG.take 17 (some 161) rfl rfl (by kernel_rfl) (by kernel_rfl) (by kernel_rfl) (by kernel_rfl) (fun _ _ _ h => h) (by rfl) (fun v hv => by go_simp; first | done | with_reducible rfl | (rw [if_neg (by omega)])) HS0.out ?_; simp only [Act.put, List.setIfInBounds_toArray, List.set_cons_zero, List.set_cons_succ]
      refine WG.take 18 (some 162) rfl rfl (by kernel_rfl) (by kernel_rfl) (by kernel_rfl) (by kernel_rfl) (fun _ _ _ h => h) (by rfl) (fun v hv => by go_simp; first | done | with_reducible rfl | (rw [if_neg (by omega)])) HS0.out ?_; simp only [Act.put, List.setIfInBounds_toArray, List.set_cons_zero, List.set_cons_succ]
      refine WG.take 19 (some 163) rfl rfl (by kernel_rfl) (by kernel_rfl) (by kernel_rfl) (by kernel_rfl) (fun _ _ _ h => h) (by rfl) (fun v hv => by go_simp; first | done | with_reducible rfl | (rw [if_neg (by omega)])) HS0.out ?_; simp only [Act.put, List.setIfInBounds_toArray, List.set_cons_zero, List.set_cons_succ]
      refine WG.take 20 (some 164) rfl rfl (by kernel_rfl) (by kernel_rfl) (by kernel_rfl) (by kernel_rfl) (fun _ _ _ h => h) (by rfl) (fun v hv => by have k0 := hv.cell v0; have k1 := hv.cell u1; have k2 := hv.cell u2; have k3 := hv.cell u3; have k4 := hv.cell u4; have k5 := hv.cell u5; go_simp; first | done | with_reducible rfl | (rw [if_neg (by omega)])) HS0.out ?_; simp only [Act.put, List.setIfInBounds_toArray, List.set_cons_zero, List.set_cons_succ]
      refine WG.take 21 (some 165) rfl rfl (by kernel_rfl) (by kernel_rfl) (by kernel_rfl) (by kernel_rfl) (fun _ _ _ h => h) (by rfl) (fun v hv => by go_simp; first | done | with_reducible rfl | (rw [if_neg (by omega)])) HS0.out ?_; simp only [Act.put, List.setIfInBounds_toArray, List.set_cons_zero, List.set_cons_succ]
      refine WG.take 22 (some 166) (v := .slice a2 (m - j) (fc - j)) rfl rfl (by kernel_rfl) (by kernel_rfl) (by kernel_rfl) (by kernel_rfl) (fun _ _ _ h => h) (by rfl) (fun v hv => by rcases HNL.out with ⟨h1, h2, h3⟩ | ⟨g, h1⟩; (subst h1 h2 h3; obtain rfl : j = 0 := by omega); (rw [HA21.out rfl]; go_simp); (subst h1; rw [HA22.out g rfl]; go_simp; first | done | (intro h; have := h (by omega); omega) | (rw [if_pos ⟨by omega, by omega⟩]))) HS0.out ?_; simp only [Act.put, List.setIfInBounds_toArray, List.set_cons_zero, List.set_cons_succ]
      --M4
      have HS1 : Hid (Since w8 (w8.drew.alloc (.cells #[] 96))) := Lib.hid (Below.alloc HS0.out (Nat.le_refl _) _)
      refine WG.one 1 (by kernel_rfl) rfl (by rfl) ?_
      go_wp2_with fail
      refine ⟨HS1.out, ?_⟩
      obtain ⟨i0, hi0, hz0, hz1, hz2⟩ := info_parts flowInfo
      refine WG.one 8 (by kernel_rfl) rfl (by rfl) ?_
      refine oper_append_any _ _ 86 rfl w8.heap.size 96 i0 _ 7 32 Tryz.underlying86 hi0 hz0 hz1 hz2 rfl (by decide) (.slice (some ⟨w8.heap.size, 0, none⟩) 0 0) 0 [] rfl (World.ownsRow_made w8.drew #[] 0 (Nat.le_refl _) (Nat.zero_le _) rfl) fa j fc (flowsC (z.flows.take j)) rfl (by rw [flowsC_len, HTL.out]) (HTR.out _ HS1.out) (fun e => by rcases HNL.out with ⟨_, h2, h3⟩ | ⟨g, h1⟩; exact ⟨by omega, h3⟩; rw [h1] at e; cases e) (flowsC_one _) (by unfold maxLen; omega) (by omega) (Below.size HS1.out) ?_
      intro v1 w9 hown hgrow
      rw [Nat.zero_add, List.nil_append] at hown
      have HS9 : Hid (Since w8 w9) := Lib.hid (Below.grown HS1.out hgrow (by have := Below.size HS1.out; exact this) (by intro b hb; simp [Value.ownBlock] at hb; omega))
      refine ⟨fun _ => HS9.out, ?_⟩
      simp only [Act.put, List.setIfInBounds_toArray, List.set_cons_zero, List.set_cons_succ]
      have hrw1 := World.ownsRow.mono_base hown
      obtain ⟨va, vc, rfl, _⟩ := row_form hrw1
      clear hrw1 hgrow
      refine WG.one 12 (by kernel_rfl) rfl (by rfl) ?_
      go_wp2_with fail
      refine (HWD.out _ ⟨_, _, _, HR8.out.below HS9.out⟩).mono ?_
      rintro e w10 ⟨rfl, h10⟩
      have HS10 : Hid (Since w8 w10) := Lib.hid (Since.step HS9.out h10)
      have hvb0 : ∀ b, (Value.slice va j vc).ownBlock = some b → w8.heap.size ≤ b := fun b hb => ownsRow_base hown hb
      have HOW : Hid (w10.ownsRow w8.heap.size 96 7 (.slice va j vc) j (flowsC (z.flows.take j))) := Lib.hid (ownsRow_keep hown (fun b hb => h10.block b (row_lt (World.ownsRow.mono_base hown) hb)))
      clear h10 hown
      go_wp2_with fail
      refine ⟨HS10.out, ?_⟩
      --M5
      refine WG.take 14 (some 158) (v := .agg #[.int .u32 k.a0, .int .u32 k.a1, .int .u16 k.p0, .int .u16 k.p1, .int .u8 k.pr, .int .u64 (nw : Nat), .bool t]) rfl rfl (by kernel_rfl) (by kernel_rfl) (by kernel_rfl) (by kernel_rfl) (fun _ _ _ h => h) (by rfl) (fun v hv => by go_simp; first | done | rfl) HS10.out ?_; simp only [Act.put, List.setIfInBounds_toArray, List.set_cons_zero, List.set_cons_succ]
      have HS11 : Hid (Since w8 (w10.alloc (.cells #[.int .u32 k.a0, .int .u32 k.a1, .int .u16 k.p0, .int .u16 k.p1, .int .u8 k.pr, .int .u64 (nw : Nat), .bool t] 96))) := Lib.hid (Below.alloc HS10.out (Below.size HS10.out) _)
      have HOW2 : Hid ((w10.alloc (.cells #[.int .u32 k.a0, .int .u32 k.a1, .int .u16 k.p0, .int .u16 k.p1, .int .u8 k.pr, .int .u64 (nw : Nat), .bool t] 96)).ownsRow w8.heap.size 96 7 (.slice va j vc) j (flowsC (z.flows.take j))) := Lib.hid (HOW.out.alloc _)
      refine WG.one 15 (by kernel_rfl) rfl (by rfl) ?_
      go_wp2_with fail
      refine ⟨HS11.out, ?_⟩
      --M6
      refine WG.one 16 (by kernel_rfl) rfl (by rfl) ?_
      refine oper_append_any _ _ 86 rfl w8.heap.size 96 i0 _ 7 32 Tryz.underlying86 hi0 hz0 hz1 hz2 rfl (by decide) (.slice va j vc) j (flowsC (z.flows.take j)) rfl HOW2.out (some ⟨w10.heap.size, 0, none⟩) 1 1 (flowsC [(k, (nw, t))]) rfl rfl (fun ad e i u hi => by cases e; exact cells_new w10 [.int .u32 k.a0, .int .u32 k.a1, .int .u16 k.p0, .int .u16 k.p1, .int .u8 k.pr, .int .u64 (nw : Nat), .bool t] _ i u hi) (fun e => by cases e) (flowsC_one _) (by unfold maxLen; omega) (by omega) (Below.size HS11.out) ?_
      intro v2 w12 hown2 hgrow2
      have HS12 : Hid (Since w8 w12) := Lib.hid (Below.grown HS11.out hgrow2 (Below.size HS11.out) (fun b hb => hvb0 b hb))
      refine ⟨fun _ => HS12.out, ?_⟩
      simp only [Act.put, List.setIfInBounds_toArray, List.set_cons_zero, List.set_cons_succ]
      have hrw2 := World.ownsRow.mono_base hown2
      obtain ⟨vb, vd, rfl, _⟩ := row_form hrw2
      have hvb1 : ∀ b, (Value.slice vb (j + 1) vd).ownBlock = some b → w8.heap.size ≤ b := fun b hb => ownsRow_base hown2 hb
      clear hrw2 hgrow2 hvb0 HOW HOW2
      refine WG.one 23 (by kernel_rfl) rfl (by rfl) ?_
      refine oper_append_any _ _ 86 rfl w8.heap.size 96 i0 _ 7 32 Tryz.underlying86 hi0 hz0 hz1 hz2 rfl (by decide) (.slice vb (j + 1) vd) (j + 1) _ rfl hown2 a2 (m - j) (fc - j) (flowsC (z.flows.drop j)) rfl (by rw [flowsC_len, HDL.out]) (HA23.out w12 HS12.out) (fun e => by rcases HNL.out with ⟨_, h2, h3⟩ | ⟨g, h1⟩; exact ⟨by omega, by omega⟩; (rw [HA22.out g h1] at e; split at e <;> cases e)) (flowsC_one _) (by unfold maxLen; omega) (by omega) (Below.size HS12.out) ?_
      intro v3 w13 hown3 hgrow3
      have HS13 : Hid (Since w8 w13) := Lib.hid (Below.grown HS12.out hgrow3 (Below.size HS12.out) (fun b hb => hvb1 b hb))
      refine ⟨fun _ => HS13.out, ?_⟩
      simp only [Act.put, List.setIfInBounds_toArray, List.set_cons_zero, List.set_cons_succ]
      have HV3B : Hid (∀ b, v3.ownBlock = some b → w8.heap.size ≤ b ∧ b < w13.heap.size) := Lib.hid (fun b hb => ⟨ownsRow_base hown3 hb, row_lt (World.ownsRow.mono_base hown3) hb⟩)
      obtain ⟨f2, hf2⟩ : ∃ f2, putL z.flows k (nw, t) = f2 := ⟨_, rfl⟩
      have hf3 : z.flows.take j ++ [(k, (nw, t))] ++ z.flows.drop j = f2 := by rw [← hf2, HF2.out]; simp
      have hql : f2.length = j + 1 + (m - j) := by rw [← hf3, List.length_append, List.length_append, HTL.out, HDL.out]; rfl
      have hrow : Row w13 96 7 v3 f2.length (flowsC f2) := by
        rw [hql, ← hf3, flowsC_append, flowsC_append]
        exact World.ownsRow.mono_base hown3
      have HR14 := Lib.hid (HR8.out.reflow HS13.out hrow)
      have hR13 := HR8.out.below HS13.out
      have k0 : w13.cell? ⟨ra, 20, none⟩ = some fv := hR13.cell rfl
      have k1 := hR13.free 20
      obtain ⟨vx, ve, hv3, _⟩ := row_form hrow
      generalize f2.length = q2 at *
      subst hv3
      have HF2 := Lib.hid hf2
      clear hf2 hf3 hql hrow hR13 hown2 hown3 hgrow3 hvb1
      have HT14 : Hid (Turn F' w4 (w13.setCell ⟨ra, 20, none⟩ (.slice vx q2 ve))) := Lib.hid ((Turn.of_below (F := F') (below_then HS48.out HS13.out)).setCell _ _ (.inl HR8.out.fra))
      have HZ14 : Hid (w8.heap.size ≤ w13.heap.size ∧ w13.heap.size = (w13.setCell ⟨ra, 20, none⟩ (.slice vx q2 ve)).heap.size ∧ w4.heap.size ≤ w8.heap.size) := Lib.hid ⟨Below.size HS13.out, by simp [World.setCell], Below.size HS48.out⟩
      --M7
      refine WG.one 24 (by kernel_rfl) rfl (by rfl) ?_
      go_wp2_with fail
      refine ⟨HS13.out, ?_⟩
      refine WG.one 25 (by kernel_rfl) rfl (by rfl) ?_
      go_wp2_with fail
      refine ⟨HS13.out, ?_⟩
      refine WG.one 26 (by kernel_rfl) rfl (by rfl) ?_
      go_wp2_with fail
      refine WG.done (by kernel_rfl) ?_
      generalize hw14 : w13.setCell ⟨ra, 20, none⟩ (.slice vx q2 ve) = w14 at *
      have x0 : w14.cell? ⟨ra, 18, none⟩ = some (.int .u64 (z.g : Nat)) := HR14.out.cell rfl
      have x1 := HR14.out.free 18
      have HR15 := Lib.hid (HR14.out.setg ge)
      have HT15 : Hid (Turn F' w4 (w14.setCell ⟨ra, 18, none⟩ (.int .u64 (ge : Nat)))) := Lib.hid (HT14.out.setCell _ _ (.inl HR8.out.fra))
      have HZ15 : Hid (w14.heap.size = (w14.setCell ⟨ra, 18, none⟩ (.int .u64 (ge : Nat))).heap.size) := Lib.hid (by simp [World.setCell])
      clear hw14 k0 k1
      go_wp2_with fail
      go_ret
      refine ⟨by (rw [HV.out]) <;> rfl, ?_⟩
      rw [HV.out]
      refine HPO.out (fun i => F' i ∨ (Value.slice vx q2 ve).ownBlock = some i) _ _ ⟨rv, .slice vx q2 ve, vs, ?_⟩ HT15.out (fun i hi => ?_)
      · unfold putS
        rw [show (({ z with g := ge } : St)).flows = z.flows from rfl, HF2.out]
        exact HR15.out
      · rcases hi with hi | hi
        · exact .inl hi
        · have h1 := HV3B.out i hi
          have h2 := HZ14.out
          have h3 := HZ15.out
          exact .inr ⟨by omega, by omega⟩
theorem ract_any {w : World} {ra : Nat} {F : Nat → Prop} {s : St} {p : Pk} (hp : PkIn p) (h : RefAt w ra F s) (hs : s.Ok) (hF : ∀ i, F i → i < w.heap.size) :
    Calls Tryz.prog 37 #[.pointer (some ⟨ra, 0, none⟩), .agg (pkC p)] w fun e w' => e = .returned (.int .i64 (actS s p).2) ∧ RPost w ra F (actS s p).1 w' := by
  rcases idxI_cases (deleteS s (keyF p).1) (keyF p).1 with ⟨hi, hg⟩ | ⟨n, e, hi, hpn, hg⟩
  · exact ract_new hp h hs hF hi hg
  · exact ract_old hp h hs hF hi hpn hg
end Go.Proofs.YtahgapkecabnjaaGreatDoor
