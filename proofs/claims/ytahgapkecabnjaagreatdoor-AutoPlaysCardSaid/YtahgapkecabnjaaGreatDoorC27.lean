/- The engine and the reference side by side; does. Printed by gen_refg.py. -/
import Derived.Test.YtahgapkecabnjaaGreatDoorC18
import Derived.Test.YtahgapkecabnjaaGreatDoorC26
import Derived.Test.YtahgapkecabnjaaGreatDoorC22
namespace Go.Proofs.YtahgapkecabnjaaGreatDoor
set_option linter.unusedSimpArgs false
set_option linter.unusedVariables false
open Go Go.RowKit Go.Shelf Go.Lib Go.Maps Go.MapKept

/-- The engine and the reference in memory, apart, with one state; nothing that was there in w0 has changed. -/
structure Duo (w0 w : World) (ba ra : Nat) (F G : Nat → Prop) (s t : St) : Prop where
  old : Below w0.heap.size w0 w
  a : AutoAt w ba F s
  b : RefAt w ra G t
  sep : ∀ i, F i → ¬ G i
  la : ∀ i, F i → w0.heap.size ≤ i ∧ i < w.heap.size
  lb : ∀ i, G i → w0.heap.size ≤ i ∧ i < w.heap.size
section
variable {w0 w w' : World} {ba ra : Nat} {F G F2 G2 : Nat → Prop} {s s' t t' : St}
theorem Duo.below (h : Duo w0 w ba ra F G s t) (k : Below w.heap.size w w') : Duo w0 w' ba ra F G s t :=
  ⟨below_then h.old k, h.a.below k, h.b.below k, h.sep, fun i hi => ⟨(h.la i hi).1, Nat.lt_of_lt_of_le (h.la i hi).2 k.size⟩, fun i hi => ⟨(h.lb i hi).1, Nat.lt_of_lt_of_le (h.lb i hi).2 k.size⟩⟩
theorem Duo.left2 (h : Duo w0 w ba ra F G s t) (hA : AutoAt w' ba F2 s') (k : Turn F w w') (hx : ∀ i, F2 i → F i ∨ w.heap.size ≤ i ∧ i < w'.heap.size) : Duo w0 w' ba ra F2 G s' t :=
  ⟨h.old.trans (k.below h.old.size (fun i hi => (h.la i hi).1)), hA, h.b.of_turn k (fun i hg hf => h.sep i hf hg), fun i hf hg => (hx i hf).elim (fun hf => h.sep i hf hg) (fun hl => by have := (h.lb i hg).2; omega), fun i hi => by
    have := k.size
    have h0 := h.old.size
    rcases hx i hi with hg | hl
    · have := h.la i hg; omega
    · omega, fun i hi => ⟨(h.lb i hi).1, Nat.lt_of_lt_of_le (h.lb i hi).2 k.size⟩⟩
theorem Duo.left (h : Duo w0 w ba ra F G s t) (hA : AutoAt w' ba F s') (k : Turn F w w') : Duo w0 w' ba ra F G s' t := h.left2 hA k (fun i h => .inl h)
theorem Duo.right (h : Duo w0 w ba ra F G s t) (hB : RefAt w' ra G2 t') (k : Turn G w w') (hx : ∀ i, G2 i → G i ∨ w.heap.size ≤ i ∧ i < w'.heap.size) : Duo w0 w' ba ra F G2 s t' :=
  ⟨h.old.trans (k.below h.old.size (fun i hi => (h.lb i hi).1)), h.a.of_turn k (fun i hf hg => h.sep i hf hg), hB, fun i hf hg => (hx i hg).elim (h.sep i hf) (fun hl => by have := (h.la i hf).2; omega), fun i hi => ⟨(h.la i hi).1, Nat.lt_of_lt_of_le (h.la i hi).2 k.size⟩, fun i hi => by
    have := k.size
    have h0 := h.old.size
    rcases hx i hi with hg | hl
    · have := h.lb i hg; omega
    · omega⟩
end
/-- What is played on both. -/
def stepP (s : St) (d : Dod) : St :=
  if d.kd % 8 = 0 then tickS s d.n else if d.kd % 8 = 1 then swapS s (d.l.take 70) else if d.kd % 8 = 2 then deleteS s d.k else if d.kd % 8 = 3 then dropS s d.k else if d.kd % 8 = 4 then countF s d.n else (actS s d.p).1
theorem stepP_ok {s : St} (h : s.Ok) {w : World} {d : Dod} (hd : d.In w) : (stepP s d).Ok := by
  unfold stepP
  repeat' split
  · exact tickS_ok h _
  · exact swapS_ok h _
  · exact deleteS_ok h _
  · exact dropS_ok h _
  · exact countF_ok h _
  · exact actS_ok h hd.p
/-- What does leaves. -/
def DoesPost (w0 : World) (ba ra : Nat) (s' : St) (e : Ending) (w' : World) : Prop := e = .returned (.bool true) ∧ ∃ F G, Duo w0 w' ba ra F G s' s'
set_option maxHeartbeats 8000000 in
set_option maxRecDepth 100000 in
theorem does_any {w0 w : World} {ba ra : Nat} {F G : Nat → Prop} {s : St} {d : Dod} (h : Duo w0 w ba ra F G s s) (hs : s.Ok) (hd : d.In w0) (hT : Tabs w0) (hN : d.la = none → d.lc = 0) :
    Calls Tryz.prog 13 #[.pointer (some ⟨ba, 0, none⟩), .pointer (some ⟨ra, 0, none⟩), .agg #[.int .u8 d.kd, .int .i64 d.n, .int .u8 d.p.proto, .int .u32 d.p.src, .int .u32 d.p.dst, .int .u16 d.p.sport, .int .u16 d.p.dport, .int .u8 d.p.flags, .int .u8 d.p.kind, .int .u32 d.k.a0, .int .u32 d.k.a1, .int .u16 d.k.p0, .int .u16 d.k.p1, .int .u8 d.k.pr, .slice d.la d.l.length d.lc]] w (DoesPost w0 ba ra (stepP s d)) := by
  have HAL : Hid (Below w.heap.size w (w.alloc (.cells #[.int .u8 d.kd, .int .i64 d.n, .int .u8 d.p.proto, .int .u32 d.p.src, .int .u32 d.p.dst, .int .u16 d.p.sport, .int .u16 d.p.dport, .int .u8 d.p.flags, .int .u8 d.p.kind, .int .u32 d.k.a0, .int .u32 d.k.a1, .int .u16 d.k.p0, .int .u16 d.k.p1, .int .u8 d.k.pr, .slice d.la d.l.length d.lc] 47))) := Lib.hid ((Below.refl _ w).alloc (Nat.le_refl _) _)
  have HD1 := Lib.hid (h.below HAL.out)
  have HSO := Lib.hid hs
  have HDI := Lib.hid hd
  have hk1 := hd.kd.1
  have hk2 := hd.kd.2
  have HK : Hid (stepP s d = if d.kd % 8 = 0 then tickS s d.n else if d.kd % 8 = 1 then swapS s (d.l.take 70) else if d.kd % 8 = 2 then deleteS s d.k else if d.kd % 8 = 3 then dropS s d.k else if d.kd % 8 = 4 then countF s d.n else (actS s d.p).1) := Lib.hid rfl
  have HNN := Lib.hid hN
  have HTT := Lib.hid hT
  have b0 : (w.alloc (.cells #[.int .u8 d.kd, .int .i64 d.n, .int .u8 d.p.proto, .int .u32 d.p.src, .int .u32 d.p.dst, .int .u16 d.p.sport, .int .u16 d.p.dport, .int .u8 d.p.flags, .int .u8 d.p.kind, .int .u32 d.k.a0, .int .u32 d.k.a1, .int .u16 d.k.p0, .int .u16 d.k.p1, .int .u8 d.k.pr, .slice d.la d.l.length d.lc] 47)).cell? ⟨w.heap.size, 0, none⟩ = some (.int .u8 d.kd) := by simp
  have b1 : (w.alloc (.cells #[.int .u8 d.kd, .int .i64 d.n, .int .u8 d.p.proto, .int .u32 d.p.src, .int .u32 d.p.dst, .int .u16 d.p.sport, .int .u16 d.p.dport, .int .u8 d.p.flags, .int .u8 d.p.kind, .int .u32 d.k.a0, .int .u32 d.k.a1, .int .u16 d.k.p0, .int .u16 d.k.p1, .int .u8 d.k.pr, .slice d.la d.l.length d.lc] 47)).cell? ⟨w.heap.size, 1, none⟩ = some (.int .i64 d.n) := by simp
  have b2 : (w.alloc (.cells #[.int .u8 d.kd, .int .i64 d.n, .int .u8 d.p.proto, .int .u32 d.p.src, .int .u32 d.p.dst, .int .u16 d.p.sport, .int .u16 d.p.dport, .int .u8 d.p.flags, .int .u8 d.p.kind, .int .u32 d.k.a0, .int .u32 d.k.a1, .int .u16 d.k.p0, .int .u16 d.k.p1, .int .u8 d.k.pr, .slice d.la d.l.length d.lc] 47)).cell? ⟨w.heap.size, 2, none⟩ = some (.int .u8 d.p.proto) := by simp
  have b3 : (w.alloc (.cells #[.int .u8 d.kd, .int .i64 d.n, .int .u8 d.p.proto, .int .u32 d.p.src, .int .u32 d.p.dst, .int .u16 d.p.sport, .int .u16 d.p.dport, .int .u8 d.p.flags, .int .u8 d.p.kind, .int .u32 d.k.a0, .int .u32 d.k.a1, .int .u16 d.k.p0, .int .u16 d.k.p1, .int .u8 d.k.pr, .slice d.la d.l.length d.lc] 47)).cell? ⟨w.heap.size, 3, none⟩ = some (.int .u32 d.p.src) := by simp
  have b4 : (w.alloc (.cells #[.int .u8 d.kd, .int .i64 d.n, .int .u8 d.p.proto, .int .u32 d.p.src, .int .u32 d.p.dst, .int .u16 d.p.sport, .int .u16 d.p.dport, .int .u8 d.p.flags, .int .u8 d.p.kind, .int .u32 d.k.a0, .int .u32 d.k.a1, .int .u16 d.k.p0, .int .u16 d.k.p1, .int .u8 d.k.pr, .slice d.la d.l.length d.lc] 47)).cell? ⟨w.heap.size, 4, none⟩ = some (.int .u32 d.p.dst) := by simp
  have b5 : (w.alloc (.cells #[.int .u8 d.kd, .int .i64 d.n, .int .u8 d.p.proto, .int .u32 d.p.src, .int .u32 d.p.dst, .int .u16 d.p.sport, .int .u16 d.p.dport, .int .u8 d.p.flags, .int .u8 d.p.kind, .int .u32 d.k.a0, .int .u32 d.k.a1, .int .u16 d.k.p0, .int .u16 d.k.p1, .int .u8 d.k.pr, .slice d.la d.l.length d.lc] 47)).cell? ⟨w.heap.size, 5, none⟩ = some (.int .u16 d.p.sport) := by simp
  have b6 : (w.alloc (.cells #[.int .u8 d.kd, .int .i64 d.n, .int .u8 d.p.proto, .int .u32 d.p.src, .int .u32 d.p.dst, .int .u16 d.p.sport, .int .u16 d.p.dport, .int .u8 d.p.flags, .int .u8 d.p.kind, .int .u32 d.k.a0, .int .u32 d.k.a1, .int .u16 d.k.p0, .int .u16 d.k.p1, .int .u8 d.k.pr, .slice d.la d.l.length d.lc] 47)).cell? ⟨w.heap.size, 6, none⟩ = some (.int .u16 d.p.dport) := by simp
  have b7 : (w.alloc (.cells #[.int .u8 d.kd, .int .i64 d.n, .int .u8 d.p.proto, .int .u32 d.p.src, .int .u32 d.p.dst, .int .u16 d.p.sport, .int .u16 d.p.dport, .int .u8 d.p.flags, .int .u8 d.p.kind, .int .u32 d.k.a0, .int .u32 d.k.a1, .int .u16 d.k.p0, .int .u16 d.k.p1, .int .u8 d.k.pr, .slice d.la d.l.length d.lc] 47)).cell? ⟨w.heap.size, 7, none⟩ = some (.int .u8 d.p.flags) := by simp
  have b8 : (w.alloc (.cells #[.int .u8 d.kd, .int .i64 d.n, .int .u8 d.p.proto, .int .u32 d.p.src, .int .u32 d.p.dst, .int .u16 d.p.sport, .int .u16 d.p.dport, .int .u8 d.p.flags, .int .u8 d.p.kind, .int .u32 d.k.a0, .int .u32 d.k.a1, .int .u16 d.k.p0, .int .u16 d.k.p1, .int .u8 d.k.pr, .slice d.la d.l.length d.lc] 47)).cell? ⟨w.heap.size, 8, none⟩ = some (.int .u8 d.p.kind) := by simp
  have b9 : (w.alloc (.cells #[.int .u8 d.kd, .int .i64 d.n, .int .u8 d.p.proto, .int .u32 d.p.src, .int .u32 d.p.dst, .int .u16 d.p.sport, .int .u16 d.p.dport, .int .u8 d.p.flags, .int .u8 d.p.kind, .int .u32 d.k.a0, .int .u32 d.k.a1, .int .u16 d.k.p0, .int .u16 d.k.p1, .int .u8 d.k.pr, .slice d.la d.l.length d.lc] 47)).cell? ⟨w.heap.size, 9, none⟩ = some (.int .u32 d.k.a0) := by simp
  have b10 : (w.alloc (.cells #[.int .u8 d.kd, .int .i64 d.n, .int .u8 d.p.proto, .int .u32 d.p.src, .int .u32 d.p.dst, .int .u16 d.p.sport, .int .u16 d.p.dport, .int .u8 d.p.flags, .int .u8 d.p.kind, .int .u32 d.k.a0, .int .u32 d.k.a1, .int .u16 d.k.p0, .int .u16 d.k.p1, .int .u8 d.k.pr, .slice d.la d.l.length d.lc] 47)).cell? ⟨w.heap.size, 10, none⟩ = some (.int .u32 d.k.a1) := by simp
  have b11 : (w.alloc (.cells #[.int .u8 d.kd, .int .i64 d.n, .int .u8 d.p.proto, .int .u32 d.p.src, .int .u32 d.p.dst, .int .u16 d.p.sport, .int .u16 d.p.dport, .int .u8 d.p.flags, .int .u8 d.p.kind, .int .u32 d.k.a0, .int .u32 d.k.a1, .int .u16 d.k.p0, .int .u16 d.k.p1, .int .u8 d.k.pr, .slice d.la d.l.length d.lc] 47)).cell? ⟨w.heap.size, 11, none⟩ = some (.int .u16 d.k.p0) := by simp
  have b12 : (w.alloc (.cells #[.int .u8 d.kd, .int .i64 d.n, .int .u8 d.p.proto, .int .u32 d.p.src, .int .u32 d.p.dst, .int .u16 d.p.sport, .int .u16 d.p.dport, .int .u8 d.p.flags, .int .u8 d.p.kind, .int .u32 d.k.a0, .int .u32 d.k.a1, .int .u16 d.k.p0, .int .u16 d.k.p1, .int .u8 d.k.pr, .slice d.la d.l.length d.lc] 47)).cell? ⟨w.heap.size, 12, none⟩ = some (.int .u16 d.k.p1) := by simp
  have b13 : (w.alloc (.cells #[.int .u8 d.kd, .int .i64 d.n, .int .u8 d.p.proto, .int .u32 d.p.src, .int .u32 d.p.dst, .int .u16 d.p.sport, .int .u16 d.p.dport, .int .u8 d.p.flags, .int .u8 d.p.kind, .int .u32 d.k.a0, .int .u32 d.k.a1, .int .u16 d.k.p0, .int .u16 d.k.p1, .int .u8 d.k.pr, .slice d.la d.l.length d.lc] 47)).cell? ⟨w.heap.size, 13, none⟩ = some (.int .u8 d.k.pr) := by simp
  have b14 : (w.alloc (.cells #[.int .u8 d.kd, .int .i64 d.n, .int .u8 d.p.proto, .int .u32 d.p.src, .int .u32 d.p.dst, .int .u16 d.p.sport, .int .u16 d.p.dport, .int .u8 d.p.flags, .int .u8 d.p.kind, .int .u32 d.k.a0, .int .u32 d.k.a1, .int .u16 d.k.p0, .int .u16 d.k.p1, .int .u8 d.k.pr, .slice d.la d.l.length d.lc] 47)).cell? ⟨w.heap.size, 14, none⟩ = some (.slice d.la d.l.length d.lc) := by simp
  have hz : w.heap.size < (w.alloc (.cells #[.int .u8 d.kd, .int .i64 d.n, .int .u8 d.p.proto, .int .u32 d.p.src, .int .u32 d.p.dst, .int .u16 d.p.sport, .int .u16 d.p.dport, .int .u8 d.p.flags, .int .u8 d.p.kind, .int .u32 d.k.a0, .int .u32 d.k.a1, .int .u16 d.k.p0, .int .u16 d.k.p1, .int .u8 d.k.pr, .slice d.la d.l.length d.lc] 47)).heap.size := by simp
  have hb0 := h.old.size
  have hnF : ¬ F w.heap.size := fun hf => by have := (h.la _ hf).2; omega
  have hnG : ¬ G w.heap.size := fun hf => by have := (h.lb _ hf).2; omega
  have HD : Hid (∀ j v, (dodC d)[j]? = some v → (w.alloc (.cells #[.int .u8 d.kd, .int .i64 d.n, .int .u8 d.p.proto, .int .u32 d.p.src, .int .u32 d.p.dst, .int .u16 d.p.sport, .int .u16 d.p.dport, .int .u8 d.p.flags, .int .u8 d.p.kind, .int .u32 d.k.a0, .int .u32 d.k.a1, .int .u16 d.k.p0, .int .u16 d.k.p1, .int .u8 d.k.pr, .slice d.la d.l.length d.lc] 47)).cell? ⟨w.heap.size, j, none⟩ = some v) := Lib.hid (fun j v hv => by rw [← hv]; simp [dodC])
  clear h hs hd hN hT
  generalize hw1 : w.alloc (.cells #[.int .u8 d.kd, .int .i64 d.n, .int .u8 d.p.proto, .int .u32 d.p.src, .int .u32 d.p.dst, .int .u16 d.p.sport, .int .u16 d.p.dport, .int .u8 d.p.flags, .int .u8 d.p.kind, .int .u32 d.k.a0, .int .u32 d.k.a1, .int .u16 d.k.p0, .int .u16 d.k.p1, .int .u8 d.k.pr, .slice d.la d.l.length d.lc] 47) = w1 at *
  by_cases hr0 : d.kd % 8 = 0
  · have HQ : Hid (stepP s d = tickS s d.n) := Lib.hid (by rw [HK.out, if_pos hr0])
    --M0
    go_enter Tryz.func13, Tryz.ntmps13
    go_wp2_with fail
    refine (tick_any d.n HD1.out.a HSO.out.g).mono ?_
    rintro e w2 ⟨⟨v2, rfl⟩, hA, hT⟩
    have HD2 := Lib.hid (HD1.out.left hA hT)
    have c1 := hT.at_ hz hnF b1
    clear hA hT
    obtain ⟨rv, fv, vs, hR⟩ := HD2.out.b
    have HR := Lib.hid hR
    have g0 : w2.cell? ⟨ra, 18, none⟩ = some (.int .u64 (s.g : Nat)) := hR.cell rfl
    have HTK := Lib.hid (fun W => rgtick_any s.g _ d.n W HSO.out.g rfl)
    have HSx : Hid (Since w2 w2.drew) := Lib.hid ((Below.refl _ w2).trans ⟨rfl, rfl, rfl, Nat.le_refl _, fun _ _ => rfl⟩)
    clear hR
    go_wp2_with fail
    refine WQ.last (Since w2) HSx.out 10 9 (by rfl) (by kernel_rfl) (by kernel_rfl) ?_; simp only [List.take_succ_cons, List.take_zero]
    refine WQ.val (by rfl) (fun v hv => by have k0 := hv.cell g0; have k1 := hv.cell c1; go_simp; first | done | with_reducible rfl | (rw [if_neg (by omega)])) ?_; simp only [Act.put, List.setIfInBounds_toArray, List.set_cons_zero, List.set_cons_succ]
    refine WQ.val (by rfl) (fun v hv => by have k0 := hv.cell g0; have k1 := hv.cell c1; go_simp; first | done | with_reducible rfl | (rw [if_neg (by omega)])) ?_; simp only [Act.put, List.setIfInBounds_toArray, List.set_cons_zero, List.set_cons_succ]
    refine WQ.val (by rfl) (fun v hv => by have k0 := hv.cell g0; have k1 := hv.cell c1; go_simp; first | done | with_reducible rfl | (rw [if_neg (by omega)])) ?_; simp only [Act.put, List.setIfInBounds_toArray, List.set_cons_zero, List.set_cons_succ]
    refine WQ.val (by rfl) (fun v hv => by have k0 := hv.cell g0; have k1 := hv.cell c1; go_simp; first | done | with_reducible rfl | (rw [if_neg (by omega)])) ?_; simp only [Act.put, List.setIfInBounds_toArray, List.set_cons_zero, List.set_cons_succ]
    refine WQ.val (by rfl) (fun v hv => by have k0 := hv.cell g0; have k1 := hv.cell c1; go_simp; first | done | with_reducible rfl | (rw [if_neg (by omega)])) ?_; simp only [Act.put, List.setIfInBounds_toArray, List.set_cons_zero, List.set_cons_succ]
    refine WQ.val (by rfl) (fun v hv => by have k0 := hv.cell g0; have k1 := hv.cell c1; go_simp; first | done | with_reducible rfl | (rw [if_neg (by omega)])) ?_; simp only [Act.put, List.setIfInBounds_toArray, List.set_cons_zero, List.set_cons_succ]
    refine WQ.val (by rfl) (fun v hv => by have k0 := hv.cell g0; have k1 := hv.cell c1; go_simp; first | done | with_reducible rfl | (rw [if_neg (by omega)])) ?_; simp only [Act.put, List.setIfInBounds_toArray, List.set_cons_zero, List.set_cons_succ]
    refine WQ.call (f := 32) (args := #[.int .u64 (s.g : Nat), .int .i64 d.n]) (by rfl) (fun v hv => by go_simp) (fun v hv => (HTK.out v).mono (fun e v' ⟨he, hb⟩ => ⟨he, hv.step hb⟩)) ?_; simp only [Act.put, List.setIfInBounds_toArray, List.set_cons_zero, List.set_cons_succ]
    refine WQ.val (by rfl) (fun v hv => by have k0 := hv.cell g0; have k1 := hv.cell c1; go_simp; first | done | with_reducible rfl | (rw [if_neg (by omega)])) ?_; simp only [Act.put, List.setIfInBounds_toArray, List.set_cons_zero, List.set_cons_succ]
    refine WQ.val (by rfl) (fun v hv => by have k0 := hv.cell g0; have k1 := hv.cell c1; go_simp; first | done | with_reducible rfl | (rw [if_neg (by omega)])) ?_; simp only [Act.put, List.setIfInBounds_toArray, List.set_cons_zero, List.set_cons_succ]
    refine WQ.done ?_
    intro w3 hw3
    refine wpOp_one rfl (by rfl) ?_
    intro K' hK'
    have HR3 := Lib.hid (HR.out.below hw3)
    have HD3 := Lib.hid (HD2.out.below hw3)
    have k0 : w3.cell? ⟨ra, 18, none⟩ = some (.int .u64 (s.g : Nat)) := HR3.out.cell rfl
    have k1 := HR3.out.free 18
    have HD4 := Lib.hid (HD3.out.right (G2 := G) (t' := tickS s d.n) ⟨_, _, _, HR3.out.setg (tickW s.g d.n)⟩ ((Turn.refl G w3).setCell _ _ (.inl HR3.out.fra)) (fun i h => .inl h))
    clear hw3 g0 c1
    go_wp2_with fail
    go_ret
    exact ⟨rfl, F, G, by rw [HQ.out]; exact HD4.out⟩
  ·
    by_cases hr1 : d.kd % 8 = 1
    · have HQ : Hid (stepP s d = swapS s (d.l.take 70)) := Lib.hid (by rw [HK.out, if_neg hr0, if_pos hr1])
      --M1
      have HFE := Lib.hid (fun W (hb : Below w0.heap.size w0 W) => few_any d.la d.lc d.l W (HDI.out.l.below hb) HDI.out.len HDI.out.cap)
      have HSW := Lib.hid (fun W (hb : Below w0.heap.size w0 W) (hA : AutoAt W ba F s) => swap_any (ba := ba) (F := F) (s := s) d.la d.lc (d.l.take 70) ((HDI.out.l.below hb).take 70) (by rw [List.length_take]; exact Nat.le_trans (Nat.min_le_right _ _) (Nat.le_trans HDI.out.len HDI.out.cap)) (HTT.out.below hb) hA HSO.out)
      have HRS := Lib.hid (fun W (hb : Below w0.heap.size w0 W) (hF : ∀ i, G i → w0.heap.size ≤ i) (hA : RefAt W ra G s) => rswap_any d.la d.lc (d.l.take 70) (HDI.out.l.take 70) hb hF (by rw [List.length_take]; exact Nat.le_trans (Nat.min_le_right _ _) HDI.out.len) HDI.out.cap HNN.out hA HSO.out)
      generalize d.l.take 70 = l7 at *
      go_enter Tryz.func13, Tryz.ntmps13
      go_wp2_with fail
      refine (HFE.out _ HD1.out.old).mono ?_
      rintro e w4 ⟨rfl, rfl⟩
      go_wp2_with fail
      refine (HSW.out _ HD1.out.old HD1.out.a).mono ?_
      rintro e w2 ⟨rfl, F2, hA, hT, hx⟩
      have HD2 := Lib.hid (HD1.out.left2 hA hT hx)
      have c14 := hT.at_ hz hnF b14
      clear hA hT hx HSW
      generalize (swapA s l7).1 = x1 at *
      generalize (swapA s l7).2 = x2 at *
      go_wp2_with fail
      refine (HFE.out _ HD2.out.old).mono ?_
      rintro e w4 ⟨rfl, rfl⟩
      go_wp2_with fail
      refine (HRS.out _ HD2.out.old (fun i hi => (HD2.out.lb i hi).1) HD2.out.b).mono ?_
      rintro e w3 ⟨rfl, G2, hB, hT, hx⟩
      have HD3 := Lib.hid (HD2.out.right hB hT hx)
      clear hB hT hx
      go_wp2_with fail
      go_ret
      exact ⟨rfl, F2, G2, by rw [HQ.out]; exact HD3.out⟩
    ·
      by_cases hr2 : d.kd % 8 = 2
      · have HQ : Hid (stepP s d = deleteS s d.k) := Lib.hid (by rw [HK.out, if_neg hr0, if_neg hr1, if_pos hr2])
        --M2
        go_enter Tryz.func13, Tryz.ntmps13
        go_wp2_with fail
        have HDd := Lib.hid (HD1.out.below (w' := w1.drew) ((Below.refl _ w1).trans ⟨rfl, rfl, rfl, Nat.le_refl _, fun _ _ => rfl⟩))
        have HSa : Hid ((fun W : World => ∀ j v, (dodC d)[j]? = some v → W.cell? ⟨w.heap.size, j, none⟩ = some v) w1.drew) := Lib.hid HD.out
        refine WH.enter (fun W : World => ∀ j v, (dodC d)[j]? = some v → W.cell? ⟨w.heap.size, j, none⟩ = some v) (by kernel_rfl) 10 rfl ?_
        refine WH.take 0 (some 58) rfl rfl (by kernel_rfl) (by kernel_rfl) (by kernel_rfl) (fun _ _ _ h => h) (by rfl) (fun v hv => by have k9 := hv 9 (.int .u32 d.k.a0) rfl; have k10 := hv 10 (.int .u32 d.k.a1) rfl; have k11 := hv 11 (.int .u16 d.k.p0) rfl; have k12 := hv 12 (.int .u16 d.k.p1) rfl; have k13 := hv 13 (.int .u8 d.k.pr) rfl; go_simp; first | done | with_reducible rfl | (rw [if_neg (by omega)])) HSa.out ?_; simp only [Act.put, List.setIfInBounds_toArray, List.set_cons_zero, List.set_cons_succ]
        refine WH.take 1 (some 59) rfl rfl (by kernel_rfl) (by kernel_rfl) (by kernel_rfl) (fun _ _ _ h => h) (by rfl) (fun v hv => by have k9 := hv 9 (.int .u32 d.k.a0) rfl; have k10 := hv 10 (.int .u32 d.k.a1) rfl; have k11 := hv 11 (.int .u16 d.k.p0) rfl; have k12 := hv 12 (.int .u16 d.k.p1) rfl; have k13 := hv 13 (.int .u8 d.k.pr) rfl; go_simp; first | done | with_reducible rfl | (rw [if_neg (by omega)])) HSa.out ?_; simp only [Act.put, List.setIfInBounds_toArray, List.set_cons_zero, List.set_cons_succ]
        refine WH.take 2 (some 60) rfl rfl (by kernel_rfl) (by kernel_rfl) (by kernel_rfl) (fun _ _ _ h => h) (by rfl) (fun v hv => by have k9 := hv 9 (.int .u32 d.k.a0) rfl; have k10 := hv 10 (.int .u32 d.k.a1) rfl; have k11 := hv 11 (.int .u16 d.k.p0) rfl; have k12 := hv 12 (.int .u16 d.k.p1) rfl; have k13 := hv 13 (.int .u8 d.k.pr) rfl; go_simp; first | done | with_reducible rfl | (rw [if_neg (by omega)])) HSa.out ?_; simp only [Act.put, List.setIfInBounds_toArray, List.set_cons_zero, List.set_cons_succ]
        refine WH.take 4 (some 62) rfl rfl (by kernel_rfl) (by kernel_rfl) (by kernel_rfl) (fun _ _ _ h => h) (by rfl) (fun v hv => by have k9 := hv 9 (.int .u32 d.k.a0) rfl; have k10 := hv 10 (.int .u32 d.k.a1) rfl; have k11 := hv 11 (.int .u16 d.k.p0) rfl; have k12 := hv 12 (.int .u16 d.k.p1) rfl; have k13 := hv 13 (.int .u8 d.k.pr) rfl; go_simp; first | done | with_reducible rfl | (rw [if_neg (by omega)])) HSa.out ?_; simp only [Act.put, List.setIfInBounds_toArray, List.set_cons_zero, List.set_cons_succ]
        refine WH.take 5 (some 63) rfl rfl (by kernel_rfl) (by kernel_rfl) (by kernel_rfl) (fun _ _ _ h => h) (by rfl) (fun v hv => by have k9 := hv 9 (.int .u32 d.k.a0) rfl; have k10 := hv 10 (.int .u32 d.k.a1) rfl; have k11 := hv 11 (.int .u16 d.k.p0) rfl; have k12 := hv 12 (.int .u16 d.k.p1) rfl; have k13 := hv 13 (.int .u8 d.k.pr) rfl; go_simp; first | done | with_reducible rfl | (rw [if_neg (by omega)])) HSa.out ?_; simp only [Act.put, List.setIfInBounds_toArray, List.set_cons_zero, List.set_cons_succ]
        refine WH.take 6 (some 64) rfl rfl (by kernel_rfl) (by kernel_rfl) (by kernel_rfl) (fun _ _ _ h => h) (by rfl) (fun v hv => by have k9 := hv 9 (.int .u32 d.k.a0) rfl; have k10 := hv 10 (.int .u32 d.k.a1) rfl; have k11 := hv 11 (.int .u16 d.k.p0) rfl; have k12 := hv 12 (.int .u16 d.k.p1) rfl; have k13 := hv 13 (.int .u8 d.k.pr) rfl; go_simp; first | done | with_reducible rfl | (rw [if_neg (by omega)])) HSa.out ?_; simp only [Act.put, List.setIfInBounds_toArray, List.set_cons_zero, List.set_cons_succ]
        refine WH.one 3 (by kernel_rfl) rfl (by rfl) ?_
        go_wp2_with fail
        refine (delete_any HDI.out.k HDd.out.a HSO.out).mono ?_
        rintro e w2 ⟨rfl, hA, hT⟩
        have HD2 := Lib.hid (HDd.out.left hA hT)
        have HSb : Hid ((fun W : World => ∀ j v, (dodC d)[j]? = some v → W.cell? ⟨w.heap.size, j, none⟩ = some v) w2) := Lib.hid (fun j v hj => hT.at_ hz hnF (HSa.out j v hj))
        have hz2 : w.heap.size < w2.heap.size := Nat.lt_of_lt_of_le hz hT.size
        clear hA hT
        go_wp2_with fail
        refine ⟨HSb.out, ?_⟩
        refine WH.one 7 (by kernel_rfl) rfl (by rfl) ?_
        go_wp2_with fail
        refine (rdelete_any HDI.out.k HD2.out.b HSO.out (fun i hi => (HD2.out.lb i hi).2)).mono ?_
        rintro e w3 ⟨rfl, G2, hB, hT, hx⟩
        have HD3 := Lib.hid (HD2.out.right hB hT hx)
        have HSc : Hid ((fun W : World => ∀ j v, (dodC d)[j]? = some v → W.cell? ⟨w.heap.size, j, none⟩ = some v) w3) := Lib.hid (fun j v hj => hT.at_ hz2 hnG (HSb.out j v hj))
        clear hB hT hx
        go_wp2_with fail
        refine ⟨HSc.out, ?_⟩
        refine WH.take 8 (some 66) rfl rfl (by kernel_rfl) (by kernel_rfl) (by kernel_rfl) (fun _ _ _ h => h) (by rfl) (fun v hv => by have k9 := hv 9 (.int .u32 d.k.a0) rfl; have k10 := hv 10 (.int .u32 d.k.a1) rfl; have k11 := hv 11 (.int .u16 d.k.p0) rfl; have k12 := hv 12 (.int .u16 d.k.p1) rfl; have k13 := hv 13 (.int .u8 d.k.pr) rfl; go_simp; first | done | with_reducible rfl | (rw [if_neg (by omega)])) HSc.out ?_; simp only [Act.put, List.setIfInBounds_toArray, List.set_cons_zero, List.set_cons_succ]
        refine WH.take 9 (some 6) rfl rfl (by kernel_rfl) (by kernel_rfl) (by kernel_rfl) (fun _ _ _ h => h) (by rfl) (fun v hv => by have k9 := hv 9 (.int .u32 d.k.a0) rfl; have k10 := hv 10 (.int .u32 d.k.a1) rfl; have k11 := hv 11 (.int .u16 d.k.p0) rfl; have k12 := hv 12 (.int .u16 d.k.p1) rfl; have k13 := hv 13 (.int .u8 d.k.pr) rfl; go_simp; first | done | with_reducible rfl | (rw [if_neg (by omega)])) HSc.out ?_; simp only [Act.put, List.setIfInBounds_toArray, List.set_cons_zero, List.set_cons_succ]
        refine WH.done (by kernel_rfl) ?_
        go_wp2_with fail
        go_ret
        exact ⟨rfl, F, G2, by rw [HQ.out]; exact HD3.out⟩
      ·
        by_cases hr3 : d.kd % 8 = 3
        · have HQ : Hid (stepP s d = dropS s d.k) := Lib.hid (by rw [HK.out, if_neg hr0, if_neg hr1, if_neg hr2, if_pos hr3])
          --M3
          go_enter Tryz.func13, Tryz.ntmps13
          go_wp2_with fail
          have HDd := Lib.hid (HD1.out.below (w' := w1.drew) ((Below.refl _ w1).trans ⟨rfl, rfl, rfl, Nat.le_refl _, fun _ _ => rfl⟩))
          have HSa : Hid ((fun W : World => ∀ j v, (dodC d)[j]? = some v → W.cell? ⟨w.heap.size, j, none⟩ = some v) w1.drew) := Lib.hid HD.out
          refine WH.enter (fun W : World => ∀ j v, (dodC d)[j]? = some v → W.cell? ⟨w.heap.size, j, none⟩ = some v) (by kernel_rfl) 10 rfl ?_
          refine WH.take 0 (some 69) rfl rfl (by kernel_rfl) (by kernel_rfl) (by kernel_rfl) (fun _ _ _ h => h) (by rfl) (fun v hv => by have k9 := hv 9 (.int .u32 d.k.a0) rfl; have k10 := hv 10 (.int .u32 d.k.a1) rfl; have k11 := hv 11 (.int .u16 d.k.p0) rfl; have k12 := hv 12 (.int .u16 d.k.p1) rfl; have k13 := hv 13 (.int .u8 d.k.pr) rfl; go_simp; first | done | with_reducible rfl | (rw [if_neg (by omega)])) HSa.out ?_; simp only [Act.put, List.setIfInBounds_toArray, List.set_cons_zero, List.set_cons_succ]
          refine WH.take 1 (some 70) rfl rfl (by kernel_rfl) (by kernel_rfl) (by kernel_rfl) (fun _ _ _ h => h) (by rfl) (fun v hv => by have k9 := hv 9 (.int .u32 d.k.a0) rfl; have k10 := hv 10 (.int .u32 d.k.a1) rfl; have k11 := hv 11 (.int .u16 d.k.p0) rfl; have k12 := hv 12 (.int .u16 d.k.p1) rfl; have k13 := hv 13 (.int .u8 d.k.pr) rfl; go_simp; first | done | with_reducible rfl | (rw [if_neg (by omega)])) HSa.out ?_; simp only [Act.put, List.setIfInBounds_toArray, List.set_cons_zero, List.set_cons_succ]
          refine WH.take 2 (some 71) rfl rfl (by kernel_rfl) (by kernel_rfl) (by kernel_rfl) (fun _ _ _ h => h) (by rfl) (fun v hv => by have k9 := hv 9 (.int .u32 d.k.a0) rfl; have k10 := hv 10 (.int .u32 d.k.a1) rfl; have k11 := hv 11 (.int .u16 d.k.p0) rfl; have k12 := hv 12 (.int .u16 d.k.p1) rfl; have k13 := hv 13 (.int .u8 d.k.pr) rfl; go_simp; first | done | with_reducible rfl | (rw [if_neg (by omega)])) HSa.out ?_; simp only [Act.put, List.setIfInBounds_toArray, List.set_cons_zero, List.set_cons_succ]
          refine WH.take 4 (some 73) rfl rfl (by kernel_rfl) (by kernel_rfl) (by kernel_rfl) (fun _ _ _ h => h) (by rfl) (fun v hv => by have k9 := hv 9 (.int .u32 d.k.a0) rfl; have k10 := hv 10 (.int .u32 d.k.a1) rfl; have k11 := hv 11 (.int .u16 d.k.p0) rfl; have k12 := hv 12 (.int .u16 d.k.p1) rfl; have k13 := hv 13 (.int .u8 d.k.pr) rfl; go_simp; first | done | with_reducible rfl | (rw [if_neg (by omega)])) HSa.out ?_; simp only [Act.put, List.setIfInBounds_toArray, List.set_cons_zero, List.set_cons_succ]
          refine WH.take 5 (some 74) rfl rfl (by kernel_rfl) (by kernel_rfl) (by kernel_rfl) (fun _ _ _ h => h) (by rfl) (fun v hv => by have k9 := hv 9 (.int .u32 d.k.a0) rfl; have k10 := hv 10 (.int .u32 d.k.a1) rfl; have k11 := hv 11 (.int .u16 d.k.p0) rfl; have k12 := hv 12 (.int .u16 d.k.p1) rfl; have k13 := hv 13 (.int .u8 d.k.pr) rfl; go_simp; first | done | with_reducible rfl | (rw [if_neg (by omega)])) HSa.out ?_; simp only [Act.put, List.setIfInBounds_toArray, List.set_cons_zero, List.set_cons_succ]
          refine WH.take 6 (some 75) rfl rfl (by kernel_rfl) (by kernel_rfl) (by kernel_rfl) (fun _ _ _ h => h) (by rfl) (fun v hv => by have k9 := hv 9 (.int .u32 d.k.a0) rfl; have k10 := hv 10 (.int .u32 d.k.a1) rfl; have k11 := hv 11 (.int .u16 d.k.p0) rfl; have k12 := hv 12 (.int .u16 d.k.p1) rfl; have k13 := hv 13 (.int .u8 d.k.pr) rfl; go_simp; first | done | with_reducible rfl | (rw [if_neg (by omega)])) HSa.out ?_; simp only [Act.put, List.setIfInBounds_toArray, List.set_cons_zero, List.set_cons_succ]
          refine WH.one 3 (by kernel_rfl) rfl (by rfl) ?_
          go_wp2_with fail
          refine (drop_any HDI.out.k HDd.out.a HSO.out.g).mono ?_
          rintro e w2 ⟨rfl, hA, hT⟩
          have HD2 := Lib.hid (HDd.out.left hA hT)
          have HSb : Hid ((fun W : World => ∀ j v, (dodC d)[j]? = some v → W.cell? ⟨w.heap.size, j, none⟩ = some v) w2) := Lib.hid (fun j v hj => hT.at_ hz hnF (HSa.out j v hj))
          have hz2 : w.heap.size < w2.heap.size := Nat.lt_of_lt_of_le hz hT.size
          clear hA hT
          go_wp2_with fail
          refine ⟨HSb.out, ?_⟩
          refine WH.one 7 (by kernel_rfl) rfl (by rfl) ?_
          go_wp2_with fail
          refine (rdrop_any HDI.out.k HD2.out.b HSO.out).mono ?_
          rintro e w3 ⟨rfl, G2, hB, hT, hx⟩
          have HD3 := Lib.hid (HD2.out.right hB hT hx)
          have HSc : Hid ((fun W : World => ∀ j v, (dodC d)[j]? = some v → W.cell? ⟨w.heap.size, j, none⟩ = some v) w3) := Lib.hid (fun j v hj => hT.at_ hz2 hnG (HSb.out j v hj))
          clear hB hT hx
          go_wp2_with fail
          refine ⟨HSc.out, ?_⟩
          refine WH.take 8 (some 77) rfl rfl (by kernel_rfl) (by kernel_rfl) (by kernel_rfl) (fun _ _ _ h => h) (by rfl) (fun v hv => by have k9 := hv 9 (.int .u32 d.k.a0) rfl; have k10 := hv 10 (.int .u32 d.k.a1) rfl; have k11 := hv 11 (.int .u16 d.k.p0) rfl; have k12 := hv 12 (.int .u16 d.k.p1) rfl; have k13 := hv 13 (.int .u8 d.k.pr) rfl; go_simp; first | done | with_reducible rfl | (rw [if_neg (by omega)])) HSc.out ?_; simp only [Act.put, List.setIfInBounds_toArray, List.set_cons_zero, List.set_cons_succ]
          refine WH.take 9 (some 6) rfl rfl (by kernel_rfl) (by kernel_rfl) (by kernel_rfl) (fun _ _ _ h => h) (by rfl) (fun v hv => by have k9 := hv 9 (.int .u32 d.k.a0) rfl; have k10 := hv 10 (.int .u32 d.k.a1) rfl; have k11 := hv 11 (.int .u16 d.k.p0) rfl; have k12 := hv 12 (.int .u16 d.k.p1) rfl; have k13 := hv 13 (.int .u8 d.k.pr) rfl; go_simp; first | done | with_reducible rfl | (rw [if_neg (by omega)])) HSc.out ?_; simp only [Act.put, List.setIfInBounds_toArray, List.set_cons_zero, List.set_cons_succ]
          refine WH.done (by kernel_rfl) ?_
          go_wp2_with fail
          go_ret
          exact ⟨rfl, F, G2, by rw [HQ.out]; exact HD3.out⟩
        ·
          by_cases hr4 : d.kd % 8 = 4
          · have HQ : Hid (stepP s d = countF s d.n) := Lib.hid (by rw [HK.out, if_neg hr0, if_neg hr1, if_neg hr2, if_neg hr3, if_pos hr4])
            --M4
            go_enter Tryz.func13, Tryz.ntmps13
            go_wp2_with fail
            refine (count_any d.n HD1.out.a HSO.out.told).mono ?_
            rintro e w2 ⟨⟨v2, rfl⟩, hA, hT⟩
            have HD2 := Lib.hid (HD1.out.left hA hT)
            have c1 := hT.at_ hz hnF b1
            have hz2 : w.heap.size < w2.heap.size := Nat.lt_of_lt_of_le hz hT.size
            clear hA hT
            go_wp2_with fail
            refine (rcount_any d.n HD2.out.b HSO.out.told).mono ?_
            rintro e w3 ⟨⟨v3, rfl⟩, hB, hT⟩
            have HD3 := Lib.hid (HD2.out.right hB hT (fun i h => .inl h))
            have e1 := hT.at_ hz2 hnG c1
            clear hB hT c1
            have HRES : Hid (∀ w', Since w3 w' → DoesPost w0 ba ra (stepP s d) (.returned (.bool true)) w') := Lib.hid (fun w' h => ⟨rfl, F, G, by rw [HQ.out]; exact HD3.out.below h⟩)
            clear HQ HK
            by_cases hlo : d.n < 1
            · go_wp2_with fail
              refine WQ.enter w3 (Since.refl _) (by kernel_rfl) (by kernel_rfl) ?_
              refine WQ.val (by rfl) (fun v hv => by have k0 := hv.cell e1; go_simp; first | done | with_reducible rfl | (rw [if_neg (by omega)])) ?_; simp only [Act.put, List.setIfInBounds_toArray, List.set_cons_zero, List.set_cons_succ]
              refine WQ.val (by rfl) (fun v hv => by have k0 := hv.cell e1; go_simp; first | done | with_reducible rfl | (rw [if_neg (by omega)])) ?_; simp only [Act.put, List.setIfInBounds_toArray, List.set_cons_zero, List.set_cons_succ]
              refine WQ.val (u := .bool true) (by rfl) (fun v hv => by have k0 := hv.cell e1; go_simp; first | done | omega | (simp; omega)) ?_; simp only [Act.put, List.setIfInBounds_toArray, List.set_cons_zero, List.set_cons_succ]
              refine WQ.val (by rfl) (fun v hv => by have k0 := hv.cell e1; go_simp; first | done | with_reducible rfl | (rw [if_neg (by omega)])) ?_; simp only [Act.put, List.setIfInBounds_toArray, List.set_cons_zero, List.set_cons_succ]
              refine WQ.off (by rfl) ?_; simp only [Act.put, List.setIfInBounds_toArray, List.set_cons_zero, List.set_cons_succ]
              refine WQ.off (by rfl) ?_; simp only [Act.put, List.setIfInBounds_toArray, List.set_cons_zero, List.set_cons_succ]
              refine WQ.off (by rfl) ?_; simp only [Act.put, List.setIfInBounds_toArray, List.set_cons_zero, List.set_cons_succ]
              refine WQ.val (by rfl) (fun v hv => by have k0 := hv.cell e1; go_simp; first | done | with_reducible rfl | (rw [if_neg (by omega)])) ?_; simp only [Act.put, List.setIfInBounds_toArray, List.set_cons_zero, List.set_cons_succ]
              refine WQ.val (by rfl) (fun v hv => by have k0 := hv.cell e1; go_simp; first | done | with_reducible rfl | (rw [if_neg (by omega)])) ?_; simp only [Act.put, List.setIfInBounds_toArray, List.set_cons_zero, List.set_cons_succ]
              refine WQ.off (by rfl) ?_; simp only [Act.put, List.setIfInBounds_toArray, List.set_cons_zero, List.set_cons_succ]
              refine WQ.off (by rfl) ?_; simp only [Act.put, List.setIfInBounds_toArray, List.set_cons_zero, List.set_cons_succ]
              refine WQ.off (by rfl) ?_; simp only [Act.put, List.setIfInBounds_toArray, List.set_cons_zero, List.set_cons_succ]
              refine WQ.off (by rfl) ?_; simp only [Act.put, List.setIfInBounds_toArray, List.set_cons_zero, List.set_cons_succ]
              refine WQ.off (by rfl) ?_; simp only [Act.put, List.setIfInBounds_toArray, List.set_cons_zero, List.set_cons_succ]
              refine WQ.off (by rfl) ?_; simp only [Act.put, List.setIfInBounds_toArray, List.set_cons_zero, List.set_cons_succ]
              refine WQ.off (by rfl) ?_; simp only [Act.put, List.setIfInBounds_toArray, List.set_cons_zero, List.set_cons_succ]
              refine WQ.off (by rfl) ?_; simp only [Act.put, List.setIfInBounds_toArray, List.set_cons_zero, List.set_cons_succ]
              refine WQ.off (by rfl) ?_; simp only [Act.put, List.setIfInBounds_toArray, List.set_cons_zero, List.set_cons_succ]
              refine WQ.off (by rfl) ?_; simp only [Act.put, List.setIfInBounds_toArray, List.set_cons_zero, List.set_cons_succ]
              refine WQ.off (by rfl) ?_; simp only [Act.put, List.setIfInBounds_toArray, List.set_cons_zero, List.set_cons_succ]
              refine WQ.off (by rfl) ?_; simp only [Act.put, List.setIfInBounds_toArray, List.set_cons_zero, List.set_cons_succ]
              refine WQ.val (by rfl) (fun v hv => by have k0 := hv.cell e1; go_simp; first | done | with_reducible rfl | (rw [if_neg (by omega)])) ?_; simp only [Act.put, List.setIfInBounds_toArray, List.set_cons_zero, List.set_cons_succ]
              refine WQ.val (by rfl) (fun v hv => by have k0 := hv.cell e1; go_simp; first | done | with_reducible rfl | (rw [if_neg (by omega)])) ?_; simp only [Act.put, List.setIfInBounds_toArray, List.set_cons_zero, List.set_cons_succ]
              refine WQ.done ?_
              intro w4 hw4
              have HS4 := Lib.hid hw4
              clear hw4 e1
              go_wp2_with fail
              go_ret
              exact HRES.out _ HS4.out
            · by_cases hhi : 5 < d.n
              · go_wp2_with fail
                refine WQ.enter w3 (Since.refl _) (by kernel_rfl) (by kernel_rfl) ?_
                refine WQ.val (by rfl) (fun v hv => by have k0 := hv.cell e1; go_simp; first | done | with_reducible rfl | (rw [if_neg (by omega)])) ?_; simp only [Act.put, List.setIfInBounds_toArray, List.set_cons_zero, List.set_cons_succ]
                refine WQ.val (by rfl) (fun v hv => by have k0 := hv.cell e1; go_simp; first | done | with_reducible rfl | (rw [if_neg (by omega)])) ?_; simp only [Act.put, List.setIfInBounds_toArray, List.set_cons_zero, List.set_cons_succ]
                refine WQ.val (u := .bool false) (by rfl) (fun v hv => by have k0 := hv.cell e1; go_simp; first | done | omega | (simp; omega)) ?_; simp only [Act.put, List.setIfInBounds_toArray, List.set_cons_zero, List.set_cons_succ]
                refine WQ.val (by rfl) (fun v hv => by have k0 := hv.cell e1; go_simp; first | done | with_reducible rfl | (rw [if_neg (by omega)])) ?_; simp only [Act.put, List.setIfInBounds_toArray, List.set_cons_zero, List.set_cons_succ]
                refine WQ.val (by rfl) (fun v hv => by have k0 := hv.cell e1; go_simp; first | done | with_reducible rfl | (rw [if_neg (by omega)])) ?_; simp only [Act.put, List.setIfInBounds_toArray, List.set_cons_zero, List.set_cons_succ]
                refine WQ.val (by rfl) (fun v hv => by have k0 := hv.cell e1; go_simp; first | done | with_reducible rfl | (rw [if_neg (by omega)])) ?_; simp only [Act.put, List.setIfInBounds_toArray, List.set_cons_zero, List.set_cons_succ]
                refine WQ.val (u := .bool true) (by rfl) (fun v hv => by have k0 := hv.cell e1; go_simp; first | done | omega | (simp; omega)) ?_; simp only [Act.put, List.setIfInBounds_toArray, List.set_cons_zero, List.set_cons_succ]
                refine WQ.val (by rfl) (fun v hv => by have k0 := hv.cell e1; go_simp; first | done | with_reducible rfl | (rw [if_neg (by omega)])) ?_; simp only [Act.put, List.setIfInBounds_toArray, List.set_cons_zero, List.set_cons_succ]
                refine WQ.val (by rfl) (fun v hv => by have k0 := hv.cell e1; go_simp; first | done | with_reducible rfl | (rw [if_neg (by omega)])) ?_; simp only [Act.put, List.setIfInBounds_toArray, List.set_cons_zero, List.set_cons_succ]
                refine WQ.off (by rfl) ?_; simp only [Act.put, List.setIfInBounds_toArray, List.set_cons_zero, List.set_cons_succ]
                refine WQ.off (by rfl) ?_; simp only [Act.put, List.setIfInBounds_toArray, List.set_cons_zero, List.set_cons_succ]
                refine WQ.off (by rfl) ?_; simp only [Act.put, List.setIfInBounds_toArray, List.set_cons_zero, List.set_cons_succ]
                refine WQ.off (by rfl) ?_; simp only [Act.put, List.setIfInBounds_toArray, List.set_cons_zero, List.set_cons_succ]
                refine WQ.off (by rfl) ?_; simp only [Act.put, List.setIfInBounds_toArray, List.set_cons_zero, List.set_cons_succ]
                refine WQ.off (by rfl) ?_; simp only [Act.put, List.setIfInBounds_toArray, List.set_cons_zero, List.set_cons_succ]
                refine WQ.off (by rfl) ?_; simp only [Act.put, List.setIfInBounds_toArray, List.set_cons_zero, List.set_cons_succ]
                refine WQ.off (by rfl) ?_; simp only [Act.put, List.setIfInBounds_toArray, List.set_cons_zero, List.set_cons_succ]
                refine WQ.off (by rfl) ?_; simp only [Act.put, List.setIfInBounds_toArray, List.set_cons_zero, List.set_cons_succ]
                refine WQ.off (by rfl) ?_; simp only [Act.put, List.setIfInBounds_toArray, List.set_cons_zero, List.set_cons_succ]
                refine WQ.off (by rfl) ?_; simp only [Act.put, List.setIfInBounds_toArray, List.set_cons_zero, List.set_cons_succ]
                refine WQ.off (by rfl) ?_; simp only [Act.put, List.setIfInBounds_toArray, List.set_cons_zero, List.set_cons_succ]
                refine WQ.val (by rfl) (fun v hv => by have k0 := hv.cell e1; go_simp; first | done | with_reducible rfl | (rw [if_neg (by omega)])) ?_; simp only [Act.put, List.setIfInBounds_toArray, List.set_cons_zero, List.set_cons_succ]
                refine WQ.val (by rfl) (fun v hv => by have k0 := hv.cell e1; go_simp; first | done | with_reducible rfl | (rw [if_neg (by omega)])) ?_; simp only [Act.put, List.setIfInBounds_toArray, List.set_cons_zero, List.set_cons_succ]
                refine WQ.done ?_
                intro w4 hw4
                have HS4 := Lib.hid hw4
                clear hw4 e1
                go_wp2_with fail
                go_ret
                exact HRES.out _ HS4.out
              · have HST := Lib.hid (fun W (hA : AutoAt W ba F (countF s d.n)) => stat_any d.n hA)
                obtain ⟨rv, fv, vs, hR⟩ := HD3.out.b
                have hsv : statF (countF s d.n) d.n = (countF s d.n).told d.n.toNat := by unfold statF; rw [if_pos (by unfold knownF; simp; omega)]
                rw [hsv] at HST
                obtain ⟨m, hm⟩ := Int.eq_ofNat_of_zero_le (show 0 ≤ d.n by omega)
                have t0 := rtold_cell hR (m := m) (by omega)
                have hmn : d.n.toNat = m := by omega
                rw [hmn] at HST
                have HA3 := Lib.hid (fun v (hv : Since w3 v) => HD3.out.a.below hv)
                generalize (countF s d.n).told m = tv at *
                rw [hm] at e1 HST hlo hhi HA3
                have hm0 : (0 : Int) ≤ (m : Int) := by omega
                have hm6 : (m : Int) < 6 := by omega
                clear hR hsv hmn
                go_wp2_with fail
                refine WQ.enter w3 (Since.refl _) (by kernel_rfl) (by kernel_rfl) ?_
                refine WQ.val (by rfl) (fun v hv => by have k0 := hv.cell e1; have k1 := hv.cell t0; go_simp; first | done | with_reducible rfl | (rw [if_neg (by omega)])) ?_; simp only [Act.put, List.setIfInBounds_toArray, List.set_cons_zero, List.set_cons_succ]
                refine WQ.val (by rfl) (fun v hv => by have k0 := hv.cell e1; have k1 := hv.cell t0; go_simp; first | done | with_reducible rfl | (rw [if_neg (by omega)])) ?_; simp only [Act.put, List.setIfInBounds_toArray, List.set_cons_zero, List.set_cons_succ]
                refine WQ.val (u := .bool false) (by rfl) (fun v hv => by have k0 := hv.cell e1; go_simp; first | done | omega | (simp; omega)) ?_; simp only [Act.put, List.setIfInBounds_toArray, List.set_cons_zero, List.set_cons_succ]
                refine WQ.val (by rfl) (fun v hv => by have k0 := hv.cell e1; have k1 := hv.cell t0; go_simp; first | done | with_reducible rfl | (rw [if_neg (by omega)])) ?_; simp only [Act.put, List.setIfInBounds_toArray, List.set_cons_zero, List.set_cons_succ]
                refine WQ.val (by rfl) (fun v hv => by have k0 := hv.cell e1; have k1 := hv.cell t0; go_simp; first | done | with_reducible rfl | (rw [if_neg (by omega)])) ?_; simp only [Act.put, List.setIfInBounds_toArray, List.set_cons_zero, List.set_cons_succ]
                refine WQ.val (by rfl) (fun v hv => by have k0 := hv.cell e1; have k1 := hv.cell t0; go_simp; first | done | with_reducible rfl | (rw [if_neg (by omega)])) ?_; simp only [Act.put, List.setIfInBounds_toArray, List.set_cons_zero, List.set_cons_succ]
                refine WQ.val (u := .bool false) (by rfl) (fun v hv => by have k0 := hv.cell e1; go_simp; first | done | omega | (simp; omega)) ?_; simp only [Act.put, List.setIfInBounds_toArray, List.set_cons_zero, List.set_cons_succ]
                refine WQ.val (by rfl) (fun v hv => by have k0 := hv.cell e1; have k1 := hv.cell t0; go_simp; first | done | with_reducible rfl | (rw [if_neg (by omega)])) ?_; simp only [Act.put, List.setIfInBounds_toArray, List.set_cons_zero, List.set_cons_succ]
                refine WQ.val (by rfl) (fun v hv => by have k0 := hv.cell e1; have k1 := hv.cell t0; go_simp; first | done | with_reducible rfl | (rw [if_neg (by omega)])) ?_; simp only [Act.put, List.setIfInBounds_toArray, List.set_cons_zero, List.set_cons_succ]
                refine WQ.val (by rfl) (fun v hv => by have k0 := hv.cell e1; have k1 := hv.cell t0; go_simp; first | done | with_reducible rfl | (rw [if_neg (by omega)])) ?_; simp only [Act.put, List.setIfInBounds_toArray, List.set_cons_zero, List.set_cons_succ]
                refine WQ.val (by rfl) (fun v hv => by have k0 := hv.cell e1; have k1 := hv.cell t0; go_simp; first | done | with_reducible rfl | (rw [if_neg (by omega)])) ?_; simp only [Act.put, List.setIfInBounds_toArray, List.set_cons_zero, List.set_cons_succ]
                refine WQ.val (by rfl) (fun v hv => by have k0 := hv.cell e1; have k1 := hv.cell t0; go_simp; first | done | with_reducible rfl | (rw [if_neg (by omega)])) ?_; simp only [Act.put, List.setIfInBounds_toArray, List.set_cons_zero, List.set_cons_succ]
                refine WQ.call (f := 16) (args := #[.pointer (some ⟨ba, 0, none⟩), .int .i64 (m : Int)]) (by rfl) (fun v hv => by go_simp) (fun v hv => (HST.out v (HA3.out v hv)).mono (fun e v' ⟨he, hb⟩ => ⟨he, hv.step hb⟩)) ?_; simp only [Act.put, List.setIfInBounds_toArray, List.set_cons_zero, List.set_cons_succ]
                refine WQ.val (by rfl) (fun v hv => by have k0 := hv.cell e1; have k1 := hv.cell t0; go_simp; first | done | with_reducible rfl | (rw [if_neg (by omega)])) ?_; simp only [Act.put, List.setIfInBounds_toArray, List.set_cons_zero, List.set_cons_succ]
                refine WQ.val (by rfl) (fun v hv => by have k0 := hv.cell e1; have k1 := hv.cell t0; go_simp; first | done | with_reducible rfl | (rw [if_neg (by omega)])) ?_; simp only [Act.put, List.setIfInBounds_toArray, List.set_cons_zero, List.set_cons_succ]
                refine WQ.val (by rfl) (fun v hv => by have k0 := hv.cell e1; have k1 := hv.cell t0; go_simp; first | done | with_reducible rfl | (rw [if_neg (by omega)])) ?_; simp only [Act.put, List.setIfInBounds_toArray, List.set_cons_zero, List.set_cons_succ]
                refine WQ.val (by rfl) (fun v hv => by have k0 := hv.cell e1; have k1 := hv.cell t0; go_simp; first | done | with_reducible rfl | (rw [if_neg (by omega)])) ?_; simp only [Act.put, List.setIfInBounds_toArray, List.set_cons_zero, List.set_cons_succ]
                refine WQ.val (by rfl) (fun v hv => by have k0 := hv.cell e1; have k1 := hv.cell t0; go_simp; first | done | with_reducible rfl | (rw [if_neg (by omega)])) ?_; simp only [Act.put, List.setIfInBounds_toArray, List.set_cons_zero, List.set_cons_succ]
                refine WQ.val (by rfl) (fun v hv => by have k0 := hv.cell e1; have k1 := hv.cell t0; go_simp; first | done | with_reducible rfl | (rw [if_neg (by omega)])) ?_; simp only [Act.put, List.setIfInBounds_toArray, List.set_cons_zero, List.set_cons_succ]
                refine WQ.val (by rfl) (fun v hv => by have k0 := hv.cell e1; have k1 := hv.cell t0; go_simp; first | done | with_reducible rfl | (rw [if_neg (by omega)])) ?_; simp only [Act.put, List.setIfInBounds_toArray, List.set_cons_zero, List.set_cons_succ]
                refine WQ.val (by rfl) (fun v hv => by have k0 := hv.cell e1; have k1 := hv.cell t0; go_simp; first | done | with_reducible rfl | (rw [if_neg (by omega)])) ?_; simp only [Act.put, List.setIfInBounds_toArray, List.set_cons_zero, List.set_cons_succ]
                refine WQ.val (by rfl) (fun v hv => by have k0 := hv.cell e1; have k1 := hv.cell t0; go_simp; first | done | with_reducible rfl | (rw [if_neg (by omega)])) ?_; simp only [Act.put, List.setIfInBounds_toArray, List.set_cons_zero, List.set_cons_succ]
                refine WQ.val (by rfl) (fun v hv => by have k0 := hv.cell e1; have k1 := hv.cell t0; go_simp; first | done | with_reducible rfl | (rw [if_neg (by omega)])) ?_; simp only [Act.put, List.setIfInBounds_toArray, List.set_cons_zero, List.set_cons_succ]
                refine WQ.done ?_
                intro w4 hw4
                have HS4 := Lib.hid hw4
                clear hw4 e1 t0
                go_wp2_with fail
                go_ret
                exact HRES.out _ HS4.out
          ·
            have HQ : Hid (stepP s d = (actS s d.p).1) := Lib.hid (by rw [HK.out, if_neg hr0, if_neg hr1, if_neg hr2, if_neg hr3, if_neg hr4])
            --M5
            go_enter Tryz.func13, Tryz.ntmps13
            go_wp2_with fail
            have HDd := Lib.hid (HD1.out.below (w' := w1.drew) ((Below.refl _ w1).trans ⟨rfl, rfl, rfl, Nat.le_refl _, fun _ _ => rfl⟩))
            have HSa : Hid ((fun W : World => ∀ j v, (dodC d)[j]? = some v → W.cell? ⟨w.heap.size, j, none⟩ = some v) w1.drew) := Lib.hid HD.out
            refine WH.enter (fun W : World => ∀ j v, (dodC d)[j]? = some v → W.cell? ⟨w.heap.size, j, none⟩ = some v) (by kernel_rfl) 10 rfl ?_
            refine WH.take 0 (some 110) rfl rfl (by kernel_rfl) (by kernel_rfl) (by kernel_rfl) (fun _ _ _ h => h) (by rfl) (fun v hv => by have k2 := hv 2 (.int .u8 d.p.proto) rfl; have k3 := hv 3 (.int .u32 d.p.src) rfl; have k4 := hv 4 (.int .u32 d.p.dst) rfl; have k5 := hv 5 (.int .u16 d.p.sport) rfl; have k6 := hv 6 (.int .u16 d.p.dport) rfl; have k7 := hv 7 (.int .u8 d.p.flags) rfl; have k8 := hv 8 (.int .u8 d.p.kind) rfl; go_simp; first | done | with_reducible rfl | (rw [if_neg (by omega)])) HSa.out ?_; simp only [Act.put, List.setIfInBounds_toArray, List.set_cons_zero, List.set_cons_succ]
            refine WH.take 1 (some 111) rfl rfl (by kernel_rfl) (by kernel_rfl) (by kernel_rfl) (fun _ _ _ h => h) (by rfl) (fun v hv => by have k2 := hv 2 (.int .u8 d.p.proto) rfl; have k3 := hv 3 (.int .u32 d.p.src) rfl; have k4 := hv 4 (.int .u32 d.p.dst) rfl; have k5 := hv 5 (.int .u16 d.p.sport) rfl; have k6 := hv 6 (.int .u16 d.p.dport) rfl; have k7 := hv 7 (.int .u8 d.p.flags) rfl; have k8 := hv 8 (.int .u8 d.p.kind) rfl; go_simp; first | done | with_reducible rfl | (rw [if_neg (by omega)])) HSa.out ?_; simp only [Act.put, List.setIfInBounds_toArray, List.set_cons_zero, List.set_cons_succ]
            refine WH.take 2 (some 112) rfl rfl (by kernel_rfl) (by kernel_rfl) (by kernel_rfl) (fun _ _ _ h => h) (by rfl) (fun v hv => by have k2 := hv 2 (.int .u8 d.p.proto) rfl; have k3 := hv 3 (.int .u32 d.p.src) rfl; have k4 := hv 4 (.int .u32 d.p.dst) rfl; have k5 := hv 5 (.int .u16 d.p.sport) rfl; have k6 := hv 6 (.int .u16 d.p.dport) rfl; have k7 := hv 7 (.int .u8 d.p.flags) rfl; have k8 := hv 8 (.int .u8 d.p.kind) rfl; go_simp; first | done | with_reducible rfl | (rw [if_neg (by omega)])) HSa.out ?_; simp only [Act.put, List.setIfInBounds_toArray, List.set_cons_zero, List.set_cons_succ]
            refine WH.take 4 (some 114) rfl rfl (by kernel_rfl) (by kernel_rfl) (by kernel_rfl) (fun _ _ _ h => h) (by rfl) (fun v hv => by have k2 := hv 2 (.int .u8 d.p.proto) rfl; have k3 := hv 3 (.int .u32 d.p.src) rfl; have k4 := hv 4 (.int .u32 d.p.dst) rfl; have k5 := hv 5 (.int .u16 d.p.sport) rfl; have k6 := hv 6 (.int .u16 d.p.dport) rfl; have k7 := hv 7 (.int .u8 d.p.flags) rfl; have k8 := hv 8 (.int .u8 d.p.kind) rfl; go_simp; first | done | with_reducible rfl | (rw [if_neg (by omega)])) HSa.out ?_; simp only [Act.put, List.setIfInBounds_toArray, List.set_cons_zero, List.set_cons_succ]
            refine WH.take 5 (some 115) rfl rfl (by kernel_rfl) (by kernel_rfl) (by kernel_rfl) (fun _ _ _ h => h) (by rfl) (fun v hv => by have k2 := hv 2 (.int .u8 d.p.proto) rfl; have k3 := hv 3 (.int .u32 d.p.src) rfl; have k4 := hv 4 (.int .u32 d.p.dst) rfl; have k5 := hv 5 (.int .u16 d.p.sport) rfl; have k6 := hv 6 (.int .u16 d.p.dport) rfl; have k7 := hv 7 (.int .u8 d.p.flags) rfl; have k8 := hv 8 (.int .u8 d.p.kind) rfl; go_simp; first | done | with_reducible rfl | (rw [if_neg (by omega)])) HSa.out ?_; simp only [Act.put, List.setIfInBounds_toArray, List.set_cons_zero, List.set_cons_succ]
            refine WH.take 6 (some 116) rfl rfl (by kernel_rfl) (by kernel_rfl) (by kernel_rfl) (fun _ _ _ h => h) (by rfl) (fun v hv => by have k2 := hv 2 (.int .u8 d.p.proto) rfl; have k3 := hv 3 (.int .u32 d.p.src) rfl; have k4 := hv 4 (.int .u32 d.p.dst) rfl; have k5 := hv 5 (.int .u16 d.p.sport) rfl; have k6 := hv 6 (.int .u16 d.p.dport) rfl; have k7 := hv 7 (.int .u8 d.p.flags) rfl; have k8 := hv 8 (.int .u8 d.p.kind) rfl; go_simp; first | done | with_reducible rfl | (rw [if_neg (by omega)])) HSa.out ?_; simp only [Act.put, List.setIfInBounds_toArray, List.set_cons_zero, List.set_cons_succ]
            refine WH.one 3 (by kernel_rfl) rfl (by rfl) ?_
            go_wp2_with fail
            refine (act_any HDI.out.p HDd.out.a HSO.out (fun i hi => (HDd.out.la i hi).2)).mono ?_
            rintro e w2 ⟨rfl, hA, hT⟩
            have HD2 := Lib.hid (HDd.out.left hA hT)
            have HSb : Hid ((fun W : World => ∀ j v, (dodC d)[j]? = some v → W.cell? ⟨w.heap.size, j, none⟩ = some v) w2) := Lib.hid (fun j v hj => hT.at_ hz hnF (HSa.out j v hj))
            have hz2 : w.heap.size < w2.heap.size := Nat.lt_of_lt_of_le hz hT.size
            clear hA hT
            go_wp2_with fail
            refine ⟨HSb.out, ?_⟩
            refine WH.one 7 (by kernel_rfl) rfl (by rfl) ?_
            go_wp2_with fail
            refine (ract_any HDI.out.p HD2.out.b HSO.out (fun i hi => (HD2.out.lb i hi).2)).mono ?_
            rintro e w3 ⟨rfl, G2, hB, hT, hx⟩
            have HD3 := Lib.hid (HD2.out.right hB hT hx)
            have HSc : Hid ((fun W : World => ∀ j v, (dodC d)[j]? = some v → W.cell? ⟨w.heap.size, j, none⟩ = some v) w3) := Lib.hid (fun j v hj => hT.at_ hz2 hnG (HSb.out j v hj))
            clear hB hT hx
            go_wp2_with fail
            refine ⟨HSc.out, ?_⟩
            refine WH.take 8 (some 118) rfl rfl (by kernel_rfl) (by kernel_rfl) (by kernel_rfl) (fun _ _ _ h => h) (by rfl) (fun v hv => by have k2 := hv 2 (.int .u8 d.p.proto) rfl; have k3 := hv 3 (.int .u32 d.p.src) rfl; have k4 := hv 4 (.int .u32 d.p.dst) rfl; have k5 := hv 5 (.int .u16 d.p.sport) rfl; have k6 := hv 6 (.int .u16 d.p.dport) rfl; have k7 := hv 7 (.int .u8 d.p.flags) rfl; have k8 := hv 8 (.int .u8 d.p.kind) rfl; go_simp; first | done | with_reducible rfl | (rw [if_neg (by omega)])) HSc.out ?_; simp only [Act.put, List.setIfInBounds_toArray, List.set_cons_zero, List.set_cons_succ]
            refine WH.take 9 (some 6) rfl rfl (by kernel_rfl) (by kernel_rfl) (by kernel_rfl) (fun _ _ _ h => h) (by rfl) (fun v hv => by have k2 := hv 2 (.int .u8 d.p.proto) rfl; have k3 := hv 3 (.int .u32 d.p.src) rfl; have k4 := hv 4 (.int .u32 d.p.dst) rfl; have k5 := hv 5 (.int .u16 d.p.sport) rfl; have k6 := hv 6 (.int .u16 d.p.dport) rfl; have k7 := hv 7 (.int .u8 d.p.flags) rfl; have k8 := hv 8 (.int .u8 d.p.kind) rfl; go_simp; first | done | with_reducible rfl | (rw [if_neg (by omega)])) HSc.out ?_; simp only [Act.put, List.setIfInBounds_toArray, List.set_cons_zero, List.set_cons_succ]
            refine WH.done (by kernel_rfl) ?_
            go_wp2_with fail
            go_ret
            exact ⟨rfl, F, G2, by rw [HQ.out]; exact HD3.out⟩
end Go.Proofs.YtahgapkecabnjaaGreatDoor
/- Structs of three ints compared: the gate's value, the flow's. -/
namespace Go.Proofs.YtahgapkecabnjaaGreatDoor
set_option linter.unusedSimpArgs false
set_option linter.unusedVariables false
open Go Go.RowKit Go.Maps Go.MapKept

abbrev triV (a b c : Int) : Value := .agg #[.int .i64 a, .int .i64 b, .int .i64 c]
theorem kcells_int : Tryz.prog.cellsOf 3 = 1 := by kernel_rfl
theorem kcells_gate : Tryz.prog.cellsOf 64 = 3 := by kernel_rfl
theorem kcells_flow : Tryz.prog.cellsOf 50 = 3 := by kernel_rfl
theorem wf_nat {n : Nat} (h : n ≤ 9223372036854775807) : (Lit.int .i64 (n : Int)).wf = true := by
  simp [Lit.wf, IntKind.min, IntKind.max, IntKind.bits, IntKind.signed]; omega
theorem gate_same (d : Nat) {a b c : Nat} (ha : a ≤ 9223372036854775807) (hb : b ≤ 9223372036854775807) (hc : c ≤ 9223372036854775807) (w : World) : (Op.equalIn (d + 3) 64 (triV a b c) (triV a b c)).run Tryz.prog w = .ok true w := by
  have h := run_equalIn_deep (P := Tryz.prog) d 3 64 (by kernel_rfl)
  have h0 := wf_nat ha
  have h1 := wf_nat hb
  have h2 := wf_nat hc
  have hl : Tryz.prog.keyLits 3 64 (triV a b c).cells.toList = some [.int .i64 a, .int .i64 b, .int .i64 c] := by
    simp [triV, Value.cells, Program.keyLits, kcells_gate, kcells_int, Tryz.underlying64, Tryz.underlying3, h0, h1, h2]
  have hf : (triV a b c).formed Tryz.prog 64 = true := by simp [triV, Value.formed, Tryz.underlying64, kcells_gate]
  obtain ⟨r, hr, hiff⟩ := h w 3 3 _ _ _ _ hf hf hl hl
  rw [hr, hiff.2 rfl]
theorem flow_same (d : Nat) {a b c : Nat} (ha : a ≤ 9223372036854775807) (hb : b ≤ 9223372036854775807) (hc : c ≤ 9223372036854775807) (w : World) : (Op.equalIn (d + 3) 50 (triV a b c) (triV a b c)).run Tryz.prog w = .ok true w := by
  have h := run_equalIn_deep (P := Tryz.prog) d 3 50 (by kernel_rfl)
  have h0 := wf_nat ha
  have h1 := wf_nat hb
  have h2 := wf_nat hc
  have hl : Tryz.prog.keyLits 3 50 (triV a b c).cells.toList = some [.int .i64 a, .int .i64 b, .int .i64 c] := by
    simp [triV, Value.cells, Program.keyLits, kcells_flow, kcells_int, Tryz.underlying50, Tryz.underlying3, h0, h1, h2]
  have hf : (triV a b c).formed Tryz.prog 50 = true := by simp [triV, Value.formed, Tryz.underlying50, kcells_flow]
  obtain ⟨r, hr, hiff⟩ := h w 3 3 _ _ _ _ hf hf hl hl
  rw [hr, hiff.2 rfl]
theorem exec_neGate {o : Oper} {ev : Operand → Value} {w : World} (x y : Operand) (ty : TypeId) (ho : o.op = .binOp .neq 64 x y ty) {a b c : Nat} (ha : a ≤ 9223372036854775807) (hb : b ≤ 9223372036854775807) (hc : c ≤ 9223372036854775807) (hx : ev x = triV a b c) (hy : ev y = triV a b c) :
    (execOp ev o).run Tryz.prog w = .ok (.value (.bool false)) w := by
  obtain ⟨d, hd⟩ := depth_three
  have hk := gate_same d ha hb hc w
  rw [← hd] at hk
  unfold execOp
  simp only [ho, hx, hy]
  simp [eqGuard, binOp, Op.equal, Sem.run_bind]
  rw [hk]
  simp [Result.andThen]
theorem exec_neFlow {o : Oper} {ev : Operand → Value} {w : World} (x y : Operand) (ty : TypeId) (ho : o.op = .binOp .neq 50 x y ty) {a b c : Nat} (ha : a ≤ 9223372036854775807) (hb : b ≤ 9223372036854775807) (hc : c ≤ 9223372036854775807) (hx : ev x = triV a b c) (hy : ev y = triV a b c) :
    (execOp ev o).run Tryz.prog w = .ok (.value (.bool false)) w := by
  obtain ⟨d, hd⟩ := depth_three
  have hk := flow_same d ha hb hc w
  rw [← hd] at hk
  unfold execOp
  simp only [ho, hx, hy]
  simp [eqGuard, binOp, Op.equal, Sem.run_bind]
  rw [hk]
  simp [Result.andThen]
end Go.Proofs.YtahgapkecabnjaaGreatDoor
