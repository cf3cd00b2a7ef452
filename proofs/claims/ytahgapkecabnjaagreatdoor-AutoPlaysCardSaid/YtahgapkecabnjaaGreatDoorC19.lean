/- The walk of AutoStays. Printed by gen_autou.py. -/
import Derived.Test.YtahgapkecabnjaaGreatDoorC18
namespace Go.Proofs.YtahgapkecabnjaaGreatDoor
set_option linter.unusedSimpArgs false
set_option linter.unusedVariables false
open Go Go.RowKit Go.Shelf Go.Lib Go.Maps Go.MapKept

theorem actS_swapped {s : St} (h : s.Ok) (rs : List Rl) (p : Pk) : actS (swapS (deleteS s (keyF p).1) rs) p = actK (swapS (deleteS s (keyF p).1) rs) p (keyF p).1 (keyF p).2 := by
  unfold actS
  have e : deleteS (swapS (deleteS s (keyF p).1) rs) (keyF p).1 = swapS (deleteS s (keyF p).1) rs := by
    show (if overS (swapS (deleteS s (keyF p).1) rs) (keyF p).1 = true then _ else _) = _
    rw [overS_swap (deleteS_ok h _), overS_delete]; rfl
  rw [e]
theorem lookW_of {s t : St} {k : Ky} (h : getL s.flows k = getL t.flows k) : lookW s k = lookW t k ∧ hasL s.flows k = hasL t.flows k := by
  unfold lookW entG hasL
  rw [h]
  exact ⟨rfl, rfl⟩
/-- Both firewalls in memory, apart; nothing that was there in w0 has changed. -/
structure Two (w0 w : World) (ba bb : Nat) (F G : Nat → Prop) (s t : St) : Prop where
  old : Below w0.heap.size w0 w
  a : AutoAt w ba F s
  b : AutoAt w bb G t
  sep : ∀ i, F i → ¬ G i
  la : ∀ i, F i → w0.heap.size ≤ i ∧ i < w.heap.size
  lb : ∀ i, G i → w0.heap.size ≤ i ∧ i < w.heap.size
theorem Two.below {w0 w w' : World} {ba bb : Nat} {F G : Nat → Prop} {s t : St} (h : Two w0 w ba bb F G s t) (k : Below w.heap.size w w') : Two w0 w' ba bb F G s t :=
  ⟨below_then h.old k, h.a.below k, h.b.below k, h.sep, fun i hi => ⟨(h.la i hi).1, Nat.lt_of_lt_of_le (h.la i hi).2 k.size⟩, fun i hi => ⟨(h.lb i hi).1, Nat.lt_of_lt_of_le (h.lb i hi).2 k.size⟩⟩
theorem Two.left {w0 w w' : World} {ba bb : Nat} {F G : Nat → Prop} {s s' t : St} (h : Two w0 w ba bb F G s t) (hA : AutoAt w' ba F s') (k : Turn F w w') : Two w0 w' ba bb F G s' t :=
  ⟨h.old.trans (k.below h.old.size (fun i hi => (h.la i hi).1)), hA, h.b.of_turn k (fun i hg hf => h.sep i hf hg), h.sep, fun i hi => ⟨(h.la i hi).1, Nat.lt_of_lt_of_le (h.la i hi).2 k.size⟩, fun i hi => ⟨(h.lb i hi).1, Nat.lt_of_lt_of_le (h.lb i hi).2 k.size⟩⟩
theorem Two.right {w0 w w' : World} {ba bb : Nat} {F G G2 : Nat → Prop} {s t t' : St} (h : Two w0 w ba bb F G s t) (hB : AutoAt w' bb G2 t') (k : Turn G w w') (hx : ∀ i, G2 i → G i ∨ w.heap.size ≤ i ∧ i < w'.heap.size) : Two w0 w' ba bb F G2 s t' :=
  ⟨h.old.trans (k.below h.old.size (fun i hi => (h.lb i hi).1)), h.a.of_turn k (fun i hf hg => h.sep i hf hg), hB, fun i hf hg => (hx i hg).elim (h.sep i hf) (fun hl => by have := (h.la i hf).2; omega), fun i hi => ⟨(h.la i hi).1, Nat.lt_of_lt_of_le (h.la i hi).2 k.size⟩, fun i hi => by
    have := k.size
    have h0 := h.old.size
    rcases hx i hi with hg | hl
    · have := h.lb i hg; omega
    · omega⟩
theorem Two.right0 {w0 w w' : World} {ba bb : Nat} {F G : Nat → Prop} {s t t' : St} (h : Two w0 w ba bb F G s t) (hB : AutoAt w' bb G t') (k : Turn G w w') : Two w0 w' ba bb F G s t' := h.right hB k (fun i h => .inl h)
set_option maxHeartbeats 16000000 in
set_option maxRecDepth 100000 in
theorem autoStays_walk (c : Cf) (la : Option Addr) (lk : Nat) (rs : List Rl) (oa : Option Addr) (ok : Nat) (os : List Rl) (aa : Option Addr) (ak : Nat) (ds : List Dod) (p : Pk) (w : World) (hR : RulesAt w la rs) (hk : rs.length ≤ lk) (hkm : lk ≤ maxLen)
    (hO : RulesAt w oa os) (hok : os.length ≤ ok) (hokm : ok ≤ maxLen) (hD : DosAt w aa ds) (hdl : ds.length ≤ maxLen) (hp : PkIn p) (hT : Tabs w) :
    Calls Tryz.prog 5 #[.agg (cfC c), .slice la rs.length lk, .slice oa os.length ok, .slice aa ds.length ak, .agg (pkC p)] w fun e w' => e = .returned (.bool true) ∧ Below w.heap.size w w' := by
  have HB1 : Hid (Below w.heap.size w ((w.alloc (.cells (cfC c) 24)).alloc (.cells (pkC p) 41))) := Lib.hid (((Below.refl _ w).alloc (Nat.le_refl _) _).alloc (by simp) _)
  have hz : (w.alloc (.cells (cfC c) 24)).heap.size = w.heap.size + 1 := by simp
  have HRG : Hid (((w.alloc (.cells (cfC c) 24)).alloc (.cells (pkC p) 41)).rangeAt w.heap.size 0 (cfC c).toList) := Lib.hid (fun j v hv => by rw [World.cell?_alloc_lt _ _ _ (by simp)]; rw [← hv]; simp)
  have cc : ((w.alloc (.cells (cfC c) 24)).alloc (.cells (pkC p) 41)).cell? ⟨w.heap.size, 1, none⟩ = some (.int .i64 c.cap) := by rw [World.cell?_alloc_lt _ _ _ (by simp)]; simp [cfC]
  have p0 : ((w.alloc (.cells (cfC c) 24)).alloc (.cells (pkC p) 41)).cell? ⟨w.heap.size + 1, 0, none⟩ = some (.int .u8 p.proto) := by rw [← hz]; simp [pkC]
  have p1 : ((w.alloc (.cells (cfC c) 24)).alloc (.cells (pkC p) 41)).cell? ⟨w.heap.size + 1, 1, none⟩ = some (.int .u32 p.src) := by rw [← hz]; simp [pkC]
  have p2 : ((w.alloc (.cells (cfC c) 24)).alloc (.cells (pkC p) 41)).cell? ⟨w.heap.size + 1, 2, none⟩ = some (.int .u32 p.dst) := by rw [← hz]; simp [pkC]
  have p3 : ((w.alloc (.cells (cfC c) 24)).alloc (.cells (pkC p) 41)).cell? ⟨w.heap.size + 1, 3, none⟩ = some (.int .u16 p.sport) := by rw [← hz]; simp [pkC]
  have p4 : ((w.alloc (.cells (cfC c) 24)).alloc (.cells (pkC p) 41)).cell? ⟨w.heap.size + 1, 4, none⟩ = some (.int .u16 p.dport) := by rw [← hz]; simp [pkC]
  have p5 : ((w.alloc (.cells (cfC c) 24)).alloc (.cells (pkC p) 41)).cell? ⟨w.heap.size + 1, 5, none⟩ = some (.int .u8 p.flags) := by rw [← hz]; simp [pkC]
  have p6 : ((w.alloc (.cells (cfC c) 24)).alloc (.cells (pkC p) 41)).cell? ⟨w.heap.size + 1, 6, none⟩ = some (.int .u8 p.kind) := by rw [← hz]; simp [pkC]
  have hi := cfInfo c
  have HSM := Lib.hid (fun W (hb : Below w.heap.size w W) => some_any c la lk rs aa ak ds W (hR.below hb) hk hkm (hD.below hb) hdl (hT.below hb))
  have HT := Lib.hid (fun W (hb : Below w.heap.size w W) => hT.below hb)
  have HSO := Lib.hid (fun h => someS_ok (c := c) (rs := rs) hD h)
  have HSC := Lib.hid (someS_c c rs ds)
  have HP := Lib.hid hp
  have HKI := Lib.hid (keyF_in hp)
  have HOF := Lib.hid (fun W => of_any p W hp)
  have HTW := Lib.hid (fun s => actS_twice s p)
  have HTX := Lib.hid (fun (s : St) (h : s.Ok) (rs : List Rl) => actS_swapped h rs p)
  have HFW := Lib.hid (fun W (hb : Below w.heap.size w W) => few_any oa ok os W (hO.below hb) hok hokm)
  have HSW := Lib.hid (fun W (hb : Below w.heap.size w W) (ba : Nat) (F : Nat → Prop) (s : St) (hA : AutoAt W ba F s) (hs : s.Ok) => swap_any (ba := ba) (F := F) (s := s) oa ok (os.take 70) ((hO.below hb).take 70) (by rw [List.length_take]; exact Nat.le_trans (Nat.min_le_right _ _) (Nat.le_trans hok hokm)) (hT.below hb) hA hs)
  clear hR hk hkm hO hok hokm hD hdl hT hp hz
  generalize os.take 70 = o7 at *
  generalize hX : cfC c = X at *
  clear hX
  generalize (keyF p).1 = k at *
  generalize (keyF p).2 = t at *
  have HOF : Hid (∀ W, Calls Tryz.prog 18 #[.agg (pkC p)] W fun e w' => e = .returned (.tuple #[.agg #[.int .u32 k.a0, .int .u32 k.a1, .int .u16 k.p0, .int .u16 k.p1, .int .u8 k.pr], .bool t]) ∧ Below W.heap.size W w') := HOF
  go_enter Tryz.func5, Tryz.ntmps5
  go_wp2_with fail
  generalize hw1 : ((w.alloc (.cells X 24)).alloc (.cells (pkC p) 41)) = w1 at *
  have hzw : w.heap.size + 2 = w1.heap.size := by rw [← hw1]; simp
  clear hw1
  have HS0 : Hid (Since w1 w1.drew) := Lib.hid ((Below.refl _ w1).trans ⟨rfl, rfl, rfl, Nat.le_refl _, fun _ _ => rfl⟩)
  refine WH.enter (Since w1) (by kernel_rfl) 10 rfl ?_
  refine WH.take 0 (some 23) rfl rfl (by kernel_rfl) (by kernel_rfl) (by kernel_rfl) (fun _ _ _ h => h) (by rfl) (fun v hv => by rw [exec_load_mid 24 (.tmp 5) rfl w.heap.size 0 rfl X.toList _ (Since.range hv HRG.out) Tryz.underlying24 rfl hi, Array.toArray_toList]) HS0.out ?_; simp only [Act.put, List.setIfInBounds_toArray, List.set_cons_zero, List.set_cons_succ]
  refine WH.take 1 (some 24) rfl rfl (by kernel_rfl) (by kernel_rfl) (by kernel_rfl) (fun _ _ _ h => h) (by rfl) (fun v hv => by go_simp; first | done | with_reducible rfl | (rw [if_neg (by omega)])) HS0.out ?_; simp only [Act.put, List.setIfInBounds_toArray, List.set_cons_zero, List.set_cons_succ]
  refine WH.take 2 (some 25) rfl rfl (by kernel_rfl) (by kernel_rfl) (by kernel_rfl) (fun _ _ _ h => h) (by rfl) (fun v hv => by go_simp; first | done | with_reducible rfl | (rw [if_neg (by omega)])) HS0.out ?_; simp only [Act.put, List.setIfInBounds_toArray, List.set_cons_zero, List.set_cons_succ]
  refine WH.take 4 (some 27) rfl rfl (by kernel_rfl) (by kernel_rfl) (by kernel_rfl) (fun _ _ _ h => h) (by rfl) (fun v hv => by rw [exec_load_mid 24 (.tmp 5) rfl w.heap.size 0 rfl X.toList _ (Since.range hv HRG.out) Tryz.underlying24 rfl hi, Array.toArray_toList]) HS0.out ?_; simp only [Act.put, List.setIfInBounds_toArray, List.set_cons_zero, List.set_cons_succ]
  refine WH.take 5 (some 28) rfl rfl (by kernel_rfl) (by kernel_rfl) (by kernel_rfl) (fun _ _ _ h => h) (by rfl) (fun v hv => by go_simp; first | done | with_reducible rfl | (rw [if_neg (by omega)])) HS0.out ?_; simp only [Act.put, List.setIfInBounds_toArray, List.set_cons_zero, List.set_cons_succ]
  refine WH.take 6 (some 29) rfl rfl (by kernel_rfl) (by kernel_rfl) (by kernel_rfl) (fun _ _ _ h => h) (by rfl) (fun v hv => by go_simp; first | done | with_reducible rfl | (rw [if_neg (by omega)])) HS0.out ?_; simp only [Act.put, List.setIfInBounds_toArray, List.set_cons_zero, List.set_cons_succ]
  refine WH.one 3 (by kernel_rfl) rfl (by rfl) ?_
  go_wp2_with fail
  refine (HSM.out _ (below_then HB1.out HS0.out)).mono ?_
  rintro e w2 ⟨hb2, hcase⟩
  have HS2 : Hid (Since w1 w2) := Lib.hid (Since.step HS0.out hb2)
  have hzd : w1.drew.heap.size = w1.heap.size := rfl
  rcases hcase with ⟨hne, rfl⟩ | ⟨h0, ba, F, rfl, hF, hA⟩
  · have HNE := Lib.hid hne
    clear hne hb2
    go_wp2_with fail
    refine ⟨HS2.out, ?_⟩
    refine WH.one 7 (by kernel_rfl) rfl (by rfl) ?_
    go_wp2_with fail
    refine (HSM.out _ (below_then HB1.out HS2.out)).mono ?_
    rintro e w3 ⟨hb3, hcase⟩
    rcases hcase with ⟨-, rfl⟩ | ⟨h0, -⟩
    · have HS3 : Hid (Since w1 w3) := Lib.hid (Since.step HS2.out hb3)
      clear hb3
      go_wp2_with fail
      refine ⟨HS3.out, ?_⟩
      refine WH.take 8 (some 11) rfl rfl (by kernel_rfl) (by kernel_rfl) (by kernel_rfl) (fun _ _ _ h => h) (by rfl) (fun v hv => by go_simp; first | done | with_reducible rfl | (rw [if_neg (by omega)])) HS3.out ?_; simp only [Act.put, List.setIfInBounds_toArray, List.set_cons_zero, List.set_cons_succ]
      refine WH.take 9 (some 12) rfl rfl (by kernel_rfl) (by kernel_rfl) (by kernel_rfl) (fun _ _ _ h => h) (by rfl) (fun v hv => by go_simp; first | done | with_reducible rfl | (rw [if_neg (by omega)])) HS3.out ?_; simp only [Act.put, List.setIfInBounds_toArray, List.set_cons_zero, List.set_cons_succ]
      refine WH.done (by kernel_rfl) ?_
      have HB3 := Lib.hid (below_then HB1.out HS3.out)
      go_wp2_with fail
      refine (awake18_any _ (HT.out _ HB3.out)).mono ?_
      rintro e w4 ⟨rfl, h4⟩
      have HB4 := Lib.hid (below_then HB3.out h4)
      clear h4
      go_wp2_with fail
      go_ret
      exact ⟨rfl, HB4.out⟩
    · exact absurd h0 HNE.out
  generalize hsg : someS c rs ds = s at *
  have HS := Lib.hid (HSO.out h0)
  have HA2 := Lib.hid hA
  have HF := Lib.hid hF
  have H0 := Lib.hid h0
  have HSG := Lib.hid hsg
  clear hA hF hb2 h0 hsg
  go_wp2_with fail
  refine ⟨HS2.out, ?_⟩
  refine WH.one 7 (by kernel_rfl) rfl (by rfl) ?_
  go_wp2_with fail
  refine (HSM.out _ (below_then HB1.out HS2.out)).mono ?_
  rintro e w3 ⟨hb3, hcase⟩
  rcases hcase with ⟨hne, -⟩ | ⟨-, bb, G, rfl, hG, hB⟩
  · exact absurd H0.out hne
  have HS3 : Hid (Since w1 w3) := Lib.hid (Since.step HS2.out hb3)
  have HW3 : Hid (Two w1 w3 ba bb F G s s) := Lib.hid ⟨HS3.out, HA2.out.below hb3, by rw [← HSG.out]; exact hB, fun i hf hg => by have := (HF.out i hf).2; have := (hG i hg).1; omega, fun i hf => ⟨by have := (HF.out i hf).1; rw [hzd] at this; exact this, by have := (HF.out i hf).2; have := hb3.size; omega⟩, fun i hg => ⟨by have := (hG i hg).1; have := Below.size HS2.out; omega, (hG i hg).2⟩⟩
  clear hG hB hb3 HA2 HF hzd
  go_wp2_with fail
  refine ⟨HS3.out, ?_⟩
  refine WH.take 8 (some 11) rfl rfl (by kernel_rfl) (by kernel_rfl) (by kernel_rfl) (fun _ _ _ h => h) (by rfl) (fun v hv => by go_simp; first | done | with_reducible rfl | (rw [if_neg (by omega)])) HS3.out ?_; simp only [Act.put, List.setIfInBounds_toArray, List.set_cons_zero, List.set_cons_succ]
  refine WH.take 9 (some 12) rfl rfl (by kernel_rfl) (by kernel_rfl) (by kernel_rfl) (fun _ _ _ h => h) (by rfl) (fun v hv => by go_simp; first | done | with_reducible rfl | (rw [if_neg (by omega)])) HS3.out ?_; simp only [Act.put, List.setIfInBounds_toArray, List.set_cons_zero, List.set_cons_succ]
  refine WH.done (by kernel_rfl) ?_
  have HPK : Hid (∀ W, Since w1 W → W.cell? ⟨w.heap.size + 1, 0, none⟩ = some (.int .u8 p.proto) ∧ W.cell? ⟨w.heap.size + 1, 1, none⟩ = some (.int .u32 p.src) ∧ W.cell? ⟨w.heap.size + 1, 2, none⟩ = some (.int .u32 p.dst) ∧ W.cell? ⟨w.heap.size + 1, 3, none⟩ = some (.int .u16 p.sport) ∧ W.cell? ⟨w.heap.size + 1, 4, none⟩ = some (.int .u16 p.dport) ∧ W.cell? ⟨w.heap.size + 1, 5, none⟩ = some (.int .u8 p.flags) ∧ W.cell? ⟨w.heap.size + 1, 6, none⟩ = some (.int .u8 p.kind)) := Lib.hid (fun W h => ⟨h.cell p0, h.cell p1, h.cell p2, h.cell p3, h.cell p4, h.cell p5, h.cell p6⟩)
  have HCC : Hid (∀ W, Since w1 W → W.cell? ⟨w.heap.size, 1, none⟩ = some (.int .i64 c.cap)) := Lib.hid (fun W h => h.cell cc)
  clear p0 p1 p2 p3 p4 p5 p6 cc
  obtain ⟨p0, p1, p2, p3, p4, p5, p6⟩ := HPK.out w3 HS3.out
  go_wp2_with fail
  refine (HOF.out _).mono ?_
  rintro e w4 ⟨rfl, h4⟩
  have HW4 := Lib.hid (HW3.out.below h4)
  have HBK : Hid (Below w4.heap.size w4 (w4.alloc (.cells #[.int .u32 k.a0, .int .u32 k.a1, .int .u16 k.p0, .int .u16 k.p1, .int .u8 k.pr] 45))) := Lib.hid ((Below.refl _ _).alloc (Nat.le_refl _) _)
  have hkF : ¬ F w4.heap.size := fun h => by have := (HW4.out.la _ h).2; omega
  have hkG : ¬ G w4.heap.size := fun h => by have := (HW4.out.lb _ h).2; omega
  have hzk : w4.heap.size < (w4.alloc (.cells #[.int .u32 k.a0, .int .u32 k.a1, .int .u16 k.p0, .int .u16 k.p1, .int .u8 k.pr] 45)).heap.size := by simp
  clear h4 p0 p1 p2 p3 p4 p5 p6
  have c1 : (w4.alloc (.cells #[.int .u32 k.a0, .int .u32 k.a1, .int .u16 k.p0, .int .u16 k.p1, .int .u8 k.pr] 45)).cell? ⟨w4.heap.size, 0, none⟩ = some (.int .u32 k.a0) := by simp
  have c2 : (w4.alloc (.cells #[.int .u32 k.a0, .int .u32 k.a1, .int .u16 k.p0, .int .u16 k.p1, .int .u8 k.pr] 45)).cell? ⟨w4.heap.size, 1, none⟩ = some (.int .u32 k.a1) := by simp
  have c3 : (w4.alloc (.cells #[.int .u32 k.a0, .int .u32 k.a1, .int .u16 k.p0, .int .u16 k.p1, .int .u8 k.pr] 45)).cell? ⟨w4.heap.size, 2, none⟩ = some (.int .u16 k.p0) := by simp
  have c4 : (w4.alloc (.cells #[.int .u32 k.a0, .int .u32 k.a1, .int .u16 k.p0, .int .u16 k.p1, .int .u8 k.pr] 45)).cell? ⟨w4.heap.size, 3, none⟩ = some (.int .u16 k.p1) := by simp
  have c5 : (w4.alloc (.cells #[.int .u32 k.a0, .int .u32 k.a1, .int .u16 k.p0, .int .u16 k.p1, .int .u8 k.pr] 45)).cell? ⟨w4.heap.size, 4, none⟩ = some (.int .u8 k.pr) := by simp
  have HW5 := Lib.hid (HW4.out.below HBK.out)
  have HS1 := Lib.hid (deleteS_ok HS.out k)
  have HSB := Lib.hid (swapS_ok HS1.out o7)
  have HCP : Hid ((swapS (deleteS s k) o7).c = c) := Lib.hid (by
    rw [(swapS_flows _ _).2, ← HSC.out]
    unfold deleteS; split <;> rfl)
  have HDA := Lib.hid (fun W (hA : AutoAt W ba F s) => delete_any HKI.out hA HS.out)
  have HDB := Lib.hid (fun W (hA : AutoAt W bb G s) => delete_any HKI.out hA HS.out)
  have HST := Lib.hid (fun (h : hasL (deleteS s k).flows k = true) => stays_law HS1.out o7 p (t := t) h)
  have HTA := HTW.out s
  have HTB := HTX.out s HS.out o7
  have HSA2 := Lib.hid (actK_ok HS1.out p t HKI.out)
  have HSB2 := Lib.hid (actK_ok HSB.out p t HKI.out)
  have HAA := Lib.hid (fun W (hA : AutoAt W ba F (deleteS s k)) (hF : ∀ i, F i → i < W.heap.size) => act_any HP.out hA HS1.out hF)
  have HAB := Lib.hid (fun W (G2 : Nat → Prop) (hA : AutoAt W bb G2 (swapS (deleteS s k) o7)) (hF : ∀ i, G2 i → i < W.heap.size) => act_any HP.out hA HSB.out hF)
  rw [HTA] at HAA
  rw [HTB] at HAB
  have hzc : ((actK (swapS (deleteS s k) o7) p k t).1.flows.length : Int) ≤ c.cap := by
    have h1 := HSB2.out.le
    have h2 : (actK (swapS (deleteS s k) o7) p k t).1.c = c := by
      rw [← HCP.out]
      unfold actK
      split
      · unfold onS; split <;> rfl
      · unfold beginS
        split
        · rfl
        · split
          · rfl
          · split <;> rfl
    rw [h2] at h1; exact h1
  have HL1 := Lib.hid (fun W (hA : AutoAt W ba F (deleteS s k)) => look_any HKI.out hA HS1.out)
  have HL2 := Lib.hid (fun W (hA : AutoAt W ba F (actK (deleteS s k) p k t).1) => look_any HKI.out hA HSA2.out)
  have HL3 := Lib.hid (fun W (G2 : Nat → Prop) (hA : AutoAt W bb G2 (actK (swapS (deleteS s k) o7) p k t).1) => look_any HKI.out hA HSB2.out)
  have HK3 := Lib.hid (fun W (G2 : Nat → Prop) (hA : AutoAt W bb G2 (actK (swapS (deleteS s k) o7) p k t).1) => keys_len hA HSB2.out)
  have HLE : Hid (hasL (deleteS s k).flows k = true → lookW (actK (swapS (deleteS s k) o7) p k t).1 k = lookW (actK (deleteS s k) p k t).1 k ∧ (actK (swapS (deleteS s k) o7) p k t).2 = (actK (deleteS s k) p k t).2) := Lib.hid (fun h => ⟨(lookW_of (HST.out h).2.1).1, (HST.out h).1⟩)
  clear HTA HTB HST
  go_wp2_with fail
  generalize hw5 : w4.alloc (.cells #[.int .u32 k.a0, .int .u32 k.a1, .int .u16 k.p0, .int .u16 k.p1, .int .u8 k.pr] 45) = w5 at *
  clear hw5
  generalize hs1 : deleteS s k = s1 at *
  clear hs1
  generalize hsb : swapS s1 o7 = sb at *
  have HSBE := Lib.hid hsb
  clear hsb
  generalize (actK s1 p k t).1 = sa2 at *
  generalize (actK s1 p k t).2 = va at *
  generalize (actK sb p k t).1 = sb2 at *
  generalize (actK sb p k t).2 = vb at *
  generalize overS s k = dv at *
  generalize hasL s1.flows k = is at *
  generalize lookW s1 k = lw at *
  generalize lookW sa2 k = l2 at *
  generalize lookW sb2 k = l3 at *
  generalize hasL sa2.flows k = ia at *
  generalize hasL sb2.flows k = ib at *
  generalize sb2.flows.length = m at *
  refine (HDA.out _ HW5.out.a).mono ?_
  rintro e w6 ⟨rfl, hA, hT⟩
  have HW6 := Lib.hid (HW5.out.left hA hT)
  replace c1 := hT.at_ hzk hkF c1
  replace c2 := hT.at_ hzk hkF c2
  replace c3 := hT.at_ hzk hkF c3
  replace c4 := hT.at_ hzk hkF c4
  replace c5 := hT.at_ hzk hkF c5
  replace hzk := Nat.lt_of_lt_of_le hzk hT.size
  clear hA hT HDA
  go_wp2_with fail
  refine (HDB.out _ HW6.out.b).mono ?_
  rintro e w7 ⟨rfl, hA, hT⟩
  have HW7 := Lib.hid (HW6.out.right0 hA hT)
  replace c1 := hT.at_ hzk hkG c1
  replace c2 := hT.at_ hzk hkG c2
  replace c3 := hT.at_ hzk hkG c3
  replace c4 := hT.at_ hzk hkG c4
  replace c5 := hT.at_ hzk hkG c5
  replace hzk := Nat.lt_of_lt_of_le hzk hT.size
  clear hA hT HDB
  go_wp2_with fail
  refine (HL1.out _ HW7.out.a).mono ?_
  rintro e w8 ⟨rfl, h8⟩
  unfold flowV
  have HB9 : Hid (Below w7.heap.size w7 (w8.alloc (.cells #[.int .i64 (stW lw), .int .i64 (seqW lw), .int .i64 (untW lw)] 50))) := Lib.hid (below_then h8 ((Below.refl _ _).alloc (Nat.le_refl _) _))
  replace c1 := Since.cell HB9.out c1
  replace c2 := Since.cell HB9.out c2
  replace c3 := Since.cell HB9.out c3
  replace c4 := Since.cell HB9.out c4
  replace c5 := Since.cell HB9.out c5
  replace hzk := Nat.lt_of_lt_of_le hzk (Below.size HB9.out)
  have HW9 := Lib.hid (HW7.out.below HB9.out)
  clear h8 HL1
  go_wp2_with fail
  generalize w8.alloc (.cells #[.int .i64 (stW lw), .int .i64 (seqW lw), .int .i64 (untW lw)] 50) = w9 at *
  refine (HFW.out _ (below_then HB1.out HW9.out.old)).mono ?_
  rintro e w9' ⟨rfl, rfl⟩
  go_wp2_with fail
  refine (HSW.out _ (below_then HB1.out HW9.out.old) bb G s1 HW9.out.b HS1.out).mono ?_
  rintro e w10 ⟨rfl, G2, hA, hT, hx⟩
  have HW10 : Hid (Two w1 w10 ba bb F G2 s1 sb) := Lib.hid (HW9.out.right (by rw [← HSBE.out]; exact hA) hT hx)
  have hkG2 : ¬ G2 w4.heap.size := fun h => (hx _ h).elim hkG (fun hl => by omega)
  replace c1 := hT.at_ hzk hkG c1
  replace c2 := hT.at_ hzk hkG c2
  replace c3 := hT.at_ hzk hkG c3
  replace c4 := hT.at_ hzk hkG c4
  replace c5 := hT.at_ hzk hkG c5
  replace hzk := Nat.lt_of_lt_of_le hzk hT.size
  clear hA hT hx HSW HFW
  generalize swapA s1 o7 = sw at *
  go_wp2_with fail
  have HSD : Hid (Since w1 w10.drew) := Lib.hid (HW10.out.old.trans ⟨rfl, rfl, rfl, Nat.le_refl _, fun _ _ => rfl⟩)
  have HW11 : Hid (Two w1 w10.drew ba bb F G2 s1 sb) := Lib.hid (HW10.out.below ((Below.refl _ w10).trans ⟨rfl, rfl, rfl, Nat.le_refl _, fun _ _ => rfl⟩))
  have hTd : Turn (fun _ => False) w10 w10.drew := (Turn.refl _ _).drew
  replace c1 := Turn.cell hTd c1 (fun h => h)
  replace c2 := Turn.cell hTd c2 (fun h => h)
  replace c3 := Turn.cell hTd c3 (fun h => h)
  replace c4 := Turn.cell hTd c4 (fun h => h)
  replace c5 := Turn.cell hTd c5 (fun h => h)
  replace hzk : w4.heap.size < w10.drew.heap.size := hzk
  clear hTd
  refine WH.enter (Since w1) (by kernel_rfl) 8 rfl ?_
  refine WH.take 0 (some 59) rfl rfl (by kernel_rfl) (by kernel_rfl) (by kernel_rfl) (fun _ _ _ h => h) (by rfl) (fun v hv => by have ⟨k0, k1, k2, k3, k4, k5, k6⟩ := HPK.out v hv; go_simp; first | done | with_reducible rfl | (rw [if_neg (by omega)])) HSD.out ?_; simp only [Act.put, List.setIfInBounds_toArray, List.set_cons_zero, List.set_cons_succ]
  refine WH.take 1 (some 60) rfl rfl (by kernel_rfl) (by kernel_rfl) (by kernel_rfl) (fun _ _ _ h => h) (by rfl) (fun v hv => by have ⟨k0, k1, k2, k3, k4, k5, k6⟩ := HPK.out v hv; go_simp; first | done | with_reducible rfl | (rw [if_neg (by omega)])) HSD.out ?_; simp only [Act.put, List.setIfInBounds_toArray, List.set_cons_zero, List.set_cons_succ]
  refine WH.take 3 (some 62) rfl rfl (by kernel_rfl) (by kernel_rfl) (by kernel_rfl) (fun _ _ _ h => h) (by rfl) (fun v hv => by have ⟨k0, k1, k2, k3, k4, k5, k6⟩ := HPK.out v hv; go_simp; first | done | with_reducible rfl | (rw [if_neg (by omega)])) HSD.out ?_; simp only [Act.put, List.setIfInBounds_toArray, List.set_cons_zero, List.set_cons_succ]
  refine WH.take 4 (some 63) rfl rfl (by kernel_rfl) (by kernel_rfl) (by kernel_rfl) (fun _ _ _ h => h) (by rfl) (fun v hv => by have ⟨k0, k1, k2, k3, k4, k5, k6⟩ := HPK.out v hv; go_simp; first | done | with_reducible rfl | (rw [if_neg (by omega)])) HSD.out ?_; simp only [Act.put, List.setIfInBounds_toArray, List.set_cons_zero, List.set_cons_succ]
  refine WH.one 2 (by kernel_rfl) rfl (by rfl) ?_
  go_wp2_with fail
  refine (HAA.out _ HW11.out.a (fun i h => (HW11.out.la i h).2)).mono ?_
  rintro e w11 ⟨rfl, hA, hT⟩
  have HW12 := Lib.hid (HW11.out.left hA hT)
  have HSD := Lib.hid HW12.out.old
  replace c1 := hT.at_ hzk hkF c1
  replace c2 := hT.at_ hzk hkF c2
  replace c3 := hT.at_ hzk hkF c3
  replace c4 := hT.at_ hzk hkF c4
  replace c5 := hT.at_ hzk hkF c5
  replace hzk := Nat.lt_of_lt_of_le hzk hT.size
  clear hA hT
  go_wp2_with fail
  refine ⟨HSD.out, ?_⟩
  refine WH.one 5 (by kernel_rfl) rfl (by rfl) ?_
  go_wp2_with fail
  refine (HAB.out _ G2 HW12.out.b (fun i h => (HW12.out.lb i h).2)).mono ?_
  rintro e w12 ⟨rfl, hA, hT⟩
  have HW13 := Lib.hid (HW12.out.right0 hA hT)
  have HSD := Lib.hid HW13.out.old
  replace c1 := hT.at_ hzk hkG2 c1
  replace c2 := hT.at_ hzk hkG2 c2
  replace c3 := hT.at_ hzk hkG2 c3
  replace c4 := hT.at_ hzk hkG2 c4
  replace c5 := hT.at_ hzk hkG2 c5
  replace hzk := Nat.lt_of_lt_of_le hzk hT.size
  clear hA hT
  go_wp2_with fail
  refine ⟨HSD.out, ?_⟩
  refine WH.take 6 (some 17) rfl rfl (by kernel_rfl) (by kernel_rfl) (by kernel_rfl) (fun _ _ _ h => h) (by rfl) (fun v hv => by have ⟨k0, k1, k2, k3, k4, k5, k6⟩ := HPK.out v hv; go_simp; first | done | with_reducible rfl | (rw [if_neg (by omega)])) HSD.out ?_; simp only [Act.put, List.setIfInBounds_toArray, List.set_cons_zero, List.set_cons_succ]
  refine WH.take 7 (some 18) rfl rfl (by kernel_rfl) (by kernel_rfl) (by kernel_rfl) (fun _ _ _ h => h) (by rfl) (fun v hv => by have ⟨k0, k1, k2, k3, k4, k5, k6⟩ := HPK.out v hv; go_simp; first | done | with_reducible rfl | (rw [if_neg (by omega)])) HSD.out ?_; simp only [Act.put, List.setIfInBounds_toArray, List.set_cons_zero, List.set_cons_succ]
  refine WH.done (by kernel_rfl) ?_
  have HB12 := Lib.hid (below_then HB1.out HW13.out.old)
  clear HAA HAB
  cases is with
  | false =>
    go_wp2_with fail
    have hle1 : decide ((m : Int) ≤ c.cap) = true := decide_eq_true hzc
    have HSE : Hid (Since w1 w12.drew) := Lib.hid (HW13.out.old.trans ⟨rfl, rfl, rfl, Nat.le_refl _, fun _ _ => rfl⟩)
    have HWE : Hid (Two w1 w12.drew ba bb F G2 sa2 sb2) := Lib.hid (HW13.out.below ((Below.refl _ w12).trans ⟨rfl, rfl, rfl, Nat.le_refl _, fun _ _ => rfl⟩))
    by_cases hv : va = vb
    · subst hv
      refine WH.enter (Since w1) (by kernel_rfl) 15 rfl ?_
      refine WH.one 0 (by kernel_rfl) rfl (by rfl) ?_
      go_wp2_with fail
      refine (awake18_any _ (HT.out _ (below_then HB1.out HSE.out))).mono ?_
      rintro e w14 ⟨rfl, h14⟩
      have HWF := Lib.hid (HWE.out.below h14)
      have HSF := Lib.hid HWF.out.old
      clear h14
      go_wp2_with fail
      refine ⟨HSF.out, ?_⟩
      refine WH.take 1 (some 68) rfl rfl (by kernel_rfl) (by kernel_rfl) (by kernel_rfl) (fun _ _ _ h => h) (by rfl) (fun v hv => by have kc0 := HCC.out v hv; go_simp; first | done | with_reducible rfl | (rw [if_neg (by omega)])) HSF.out ?_; simp only [Act.put, List.setIfInBounds_toArray, List.set_cons_zero, List.set_cons_succ]
      refine WH.take 2 (some 69) rfl rfl (by kernel_rfl) (by kernel_rfl) (by kernel_rfl) (fun _ _ _ h => h) (by rfl) (fun v hv => by have kc0 := HCC.out v hv; go_simp; first | done | with_reducible rfl | (rw [if_neg (by omega)])) HSF.out ?_; simp only [Act.put, List.setIfInBounds_toArray, List.set_cons_zero, List.set_cons_succ]
      refine WH.take 3 (some 70) rfl rfl (by kernel_rfl) (by kernel_rfl) (by kernel_rfl) (fun _ _ _ h => h) (by rfl) (fun v hv => by have kc0 := HCC.out v hv; go_simp; first | done | with_reducible rfl | (rw [if_neg (by omega)])) HSF.out ?_; simp only [Act.put, List.setIfInBounds_toArray, List.set_cons_zero, List.set_cons_succ]
      refine WH.take 4 (some 71) rfl rfl (by kernel_rfl) (by kernel_rfl) (by kernel_rfl) (fun _ _ _ h => h) (by rfl) (fun v hv => by have kc0 := HCC.out v hv; go_simp; first | done | with_reducible rfl | (rw [if_neg (by omega)])) HSF.out ?_; simp only [Act.put, List.setIfInBounds_toArray, List.set_cons_zero, List.set_cons_succ]
      refine WH.take 5 (some 72) rfl rfl (by kernel_rfl) (by kernel_rfl) (by kernel_rfl) (fun _ _ _ h => h) (by rfl) (fun v hv => by have kc0 := HCC.out v hv; go_simp; first | done | with_reducible rfl | (rw [if_neg (by omega)])) HSF.out ?_; simp only [Act.put, List.setIfInBounds_toArray, List.set_cons_zero, List.set_cons_succ]
      refine WH.off 6 (some 73) rfl rfl (by kernel_rfl) (by kernel_rfl) (by kernel_rfl) (fun _ _ _ h => h) (by rfl) HSF.out ?_; simp only [Act.put, List.setIfInBounds_toArray, List.set_cons_zero, List.set_cons_succ]
      refine WH.off 7 (some 74) rfl rfl (by kernel_rfl) (by kernel_rfl) (by kernel_rfl) (fun _ _ _ h => h) (by rfl) HSF.out ?_; simp only [Act.put, List.setIfInBounds_toArray, List.set_cons_zero, List.set_cons_succ]
      refine WH.off 8 (some 75) rfl rfl (by kernel_rfl) (by kernel_rfl) (by kernel_rfl) (fun _ _ _ h => h) (by rfl) HSF.out ?_; simp only [Act.put, List.setIfInBounds_toArray, List.set_cons_zero, List.set_cons_succ]
      refine WH.off 9 (some 76) rfl rfl (by kernel_rfl) (by kernel_rfl) (by kernel_rfl) (fun _ _ _ h => h) (by rfl) HSF.out ?_; simp only [Act.put, List.setIfInBounds_toArray, List.set_cons_zero, List.set_cons_succ]
      refine WH.off 10 (some 77) rfl rfl (by kernel_rfl) (by kernel_rfl) (by kernel_rfl) (fun _ _ _ h => h) (by rfl) HSF.out ?_; simp only [Act.put, List.setIfInBounds_toArray, List.set_cons_zero, List.set_cons_succ]
      refine WH.off 11 (some 78) rfl rfl (by kernel_rfl) (by kernel_rfl) (by kernel_rfl) (fun _ _ _ h => h) (by rfl) HSF.out ?_; simp only [Act.put, List.setIfInBounds_toArray, List.set_cons_zero, List.set_cons_succ]
      refine WH.take 12 (some 79) rfl rfl (by kernel_rfl) (by kernel_rfl) (by kernel_rfl) (fun _ _ _ h => h) (by rfl) (fun v hv => by have kc0 := HCC.out v hv; go_simp; first | done | with_reducible rfl | (rw [if_neg (by omega)])) HSF.out ?_; simp only [Act.put, List.setIfInBounds_toArray, List.set_cons_zero, List.set_cons_succ]
      refine WH.take 13 (some 80) rfl rfl (by kernel_rfl) (by kernel_rfl) (by kernel_rfl) (fun _ _ _ h => h) (by rfl) (fun v hv => by have kc0 := HCC.out v hv; go_simp; first | done | with_reducible rfl | (rw [if_neg (by omega)])) HSF.out ?_; simp only [Act.put, List.setIfInBounds_toArray, List.set_cons_zero, List.set_cons_succ]
      refine WH.take 14 (some 10) rfl rfl (by kernel_rfl) (by kernel_rfl) (by kernel_rfl) (fun _ _ _ h => h) (by rfl) (fun v hv => by have kc0 := HCC.out v hv; go_simp; first | done | with_reducible rfl | (rw [if_neg (by omega)])) HSF.out ?_; simp only [Act.put, List.setIfInBounds_toArray, List.set_cons_zero, List.set_cons_succ]
      refine WH.done (by kernel_rfl) ?_
      have HBE := Lib.hid (below_then HB1.out HSF.out)
      go_wp2_with fail
      go_ret
      exact ⟨rfl, HBE.out⟩
    · have hvb : (va == vb) = false := by simpa using hv
      clear hv
      refine WH.enter (Since w1) (by kernel_rfl) 15 rfl ?_
      refine WH.one 0 (by kernel_rfl) rfl (by rfl) ?_
      go_wp2_with fail
      refine (awake18_any _ (HT.out _ (below_then HB1.out HSE.out))).mono ?_
      rintro e w14 ⟨rfl, h14⟩
      have HWF := Lib.hid (HWE.out.below h14)
      have HSF := Lib.hid HWF.out.old
      clear h14
      go_wp2_with fail
      refine ⟨HSF.out, ?_⟩
      refine WH.take 1 (some 68) rfl rfl (by kernel_rfl) (by kernel_rfl) (by kernel_rfl) (fun _ _ _ h => h) (by rfl) (fun v hv => by have kc0 := HCC.out v hv; go_simp; first | done | with_reducible rfl | (rw [if_neg (by omega)])) HSF.out ?_; simp only [Act.put, List.setIfInBounds_toArray, List.set_cons_zero, List.set_cons_succ]
      refine WH.take 2 (some 69) rfl rfl (by kernel_rfl) (by kernel_rfl) (by kernel_rfl) (fun _ _ _ h => h) (by rfl) (fun v hv => by have kc0 := HCC.out v hv; go_simp; first | done | with_reducible rfl | (rw [if_neg (by omega)])) HSF.out ?_; simp only [Act.put, List.setIfInBounds_toArray, List.set_cons_zero, List.set_cons_succ]
      refine WH.take 3 (some 70) rfl rfl (by kernel_rfl) (by kernel_rfl) (by kernel_rfl) (fun _ _ _ h => h) (by rfl) (fun v hv => by have kc0 := HCC.out v hv; go_simp; first | done | with_reducible rfl | (rw [if_neg (by omega)])) HSF.out ?_; simp only [Act.put, List.setIfInBounds_toArray, List.set_cons_zero, List.set_cons_succ]
      refine WH.take 4 (some 71) rfl rfl (by kernel_rfl) (by kernel_rfl) (by kernel_rfl) (fun _ _ _ h => h) (by rfl) (fun v hv => by have kc0 := HCC.out v hv; go_simp; first | done | with_reducible rfl | (rw [if_neg (by omega)])) HSF.out ?_; simp only [Act.put, List.setIfInBounds_toArray, List.set_cons_zero, List.set_cons_succ]
      refine WH.take 5 (some 72) rfl rfl (by kernel_rfl) (by kernel_rfl) (by kernel_rfl) (fun _ _ _ h => h) (by rfl) (fun v hv => by have kc0 := HCC.out v hv; go_simp; first | done | with_reducible rfl | (rw [if_neg (by omega)])) HSF.out ?_; simp only [Act.put, List.setIfInBounds_toArray, List.set_cons_zero, List.set_cons_succ]
      refine WH.take 6 (some 73) rfl rfl (by kernel_rfl) (by kernel_rfl) (by kernel_rfl) (fun _ _ _ h => h) (by rfl) (fun v hv => by have kc0 := HCC.out v hv; go_simp; first | done | with_reducible rfl | (rw [if_neg (by omega)])) HSF.out ?_; simp only [Act.put, List.setIfInBounds_toArray, List.set_cons_zero, List.set_cons_succ]
      refine WH.take 9 (some 76) rfl rfl (by kernel_rfl) (by kernel_rfl) (by kernel_rfl) (fun _ _ _ h => h) (by rfl) (fun v hv => by have kc0 := HCC.out v hv; go_simp; first | done | with_reducible rfl | (rw [if_neg (by omega)])) HSF.out ?_; simp only [Act.put, List.setIfInBounds_toArray, List.set_cons_zero, List.set_cons_succ]
      refine WH.take 10 (some 77) rfl rfl (by kernel_rfl) (by kernel_rfl) (by kernel_rfl) (fun _ _ _ h => h) (by rfl) (fun v hv => by have kc0 := HCC.out v hv; go_simp; first | done | with_reducible rfl | (rw [if_neg (by omega)])) HSF.out ?_; simp only [Act.put, List.setIfInBounds_toArray, List.set_cons_zero, List.set_cons_succ]
      refine WH.one 7 (by kernel_rfl) rfl (by rfl) ?_
      go_wp2_with fail
      refine (HK3.out _ G2 HWF.out.b).mono ?_
      rintro e w15 ⟨⟨ka, kc, rfl⟩, h15⟩
      have HWG := Lib.hid (HWF.out.below h15)
      have HSG2 := Lib.hid HWG.out.old
      clear h15
      go_wp2_with fail
      refine ⟨HSG2.out, ?_⟩
      refine WH.take 8 (some 75) rfl rfl (by kernel_rfl) (by kernel_rfl) (by kernel_rfl) (fun _ _ _ h => h) (by rfl) (fun v hv => by have kc0 := HCC.out v hv; go_simp; first | done | with_reducible rfl | (rw [if_neg (by omega)])) HSG2.out ?_; simp only [Act.put, List.setIfInBounds_toArray, List.set_cons_zero, List.set_cons_succ]
      refine WH.take 11 (some 78) rfl rfl (by kernel_rfl) (by kernel_rfl) (by kernel_rfl) (fun _ _ _ h => h) (by rfl) (fun v hv => by have kc0 := HCC.out v hv; go_simp; first | done | with_reducible rfl | (rw [if_neg (by omega)])) HSG2.out ?_; simp only [Act.put, List.setIfInBounds_toArray, List.set_cons_zero, List.set_cons_succ]
      refine WH.take 12 (some 79) rfl rfl (by kernel_rfl) (by kernel_rfl) (by kernel_rfl) (fun _ _ _ h => h) (by rfl) (fun v hv => by have kc0 := HCC.out v hv; go_simp; first | done | with_reducible rfl | (rw [if_neg (by omega)])) HSG2.out ?_; simp only [Act.put, List.setIfInBounds_toArray, List.set_cons_zero, List.set_cons_succ]
      refine WH.take 13 (some 80) rfl rfl (by kernel_rfl) (by kernel_rfl) (by kernel_rfl) (fun _ _ _ h => h) (by rfl) (fun v hv => by have kc0 := HCC.out v hv; go_simp; first | done | with_reducible rfl | (rw [if_neg (by omega)])) HSG2.out ?_; simp only [Act.put, List.setIfInBounds_toArray, List.set_cons_zero, List.set_cons_succ]
      refine WH.take 14 (some 10) rfl rfl (by kernel_rfl) (by kernel_rfl) (by kernel_rfl) (fun _ _ _ h => h) (by rfl) (fun v hv => by have kc0 := HCC.out v hv; go_simp; first | done | with_reducible rfl | (rw [if_neg (by omega)])) HSG2.out ?_; simp only [Act.put, List.setIfInBounds_toArray, List.set_cons_zero, List.set_cons_succ]
      refine WH.done (by kernel_rfl) ?_
      have HBE := Lib.hid (below_then HB1.out HSG2.out)
      go_wp2_with fail
      go_ret
      exact ⟨rfl, HBE.out⟩
  | true =>
    obtain ⟨h32, hvv⟩ := HLE.out rfl
    subst h32 hvv
    clear HLE
    go_wp2_with fail
    refine (HL2.out _ HW13.out.a).mono ?_
    rintro e w14 ⟨rfl, h14⟩
    unfold flowV
    have HBA : Hid (Below w12.heap.size w12 (w14.alloc (.cells #[.int .i64 (stW l3), .int .i64 (seqW l3), .int .i64 (untW l3)] 50))) := Lib.hid (below_then h14 ((Below.refl _ _).alloc (Nat.le_refl _) _))
    replace c1 := Since.cell HBA.out c1
    replace c2 := Since.cell HBA.out c2
    replace c3 := Since.cell HBA.out c3
    replace c4 := Since.cell HBA.out c4
    replace c5 := Since.cell HBA.out c5
    have HW14 := Lib.hid (HW13.out.below HBA.out)
    have a0 : (w14.alloc (.cells #[.int .i64 (stW l3), .int .i64 (seqW l3), .int .i64 (untW l3)] 50)).cell? ⟨w14.heap.size, 0, none⟩ = some (.int .i64 (stW l3)) := by simp
    have a1 : (w14.alloc (.cells #[.int .i64 (stW l3), .int .i64 (seqW l3), .int .i64 (untW l3)] 50)).cell? ⟨w14.heap.size, 1, none⟩ = some (.int .i64 (seqW l3)) := by simp
    have a2 : (w14.alloc (.cells #[.int .i64 (stW l3), .int .i64 (seqW l3), .int .i64 (untW l3)] 50)).cell? ⟨w14.heap.size, 2, none⟩ = some (.int .i64 (untW l3)) := by simp
    clear h14 HL2
    go_wp2_with fail
    generalize w14.alloc (.cells #[.int .i64 (stW l3), .int .i64 (seqW l3), .int .i64 (untW l3)] 50) = w15 at *
    refine (HL3.out _ G2 HW14.out.b).mono ?_
    rintro e w16 ⟨rfl, h16⟩
    unfold flowV
    replace a0 := Since.cell h16 a0
    replace a1 := Since.cell h16 a1
    replace a2 := Since.cell h16 a2
    have HBB : Hid (Below w16.heap.size w16 (w16.alloc (.cells #[.int .i64 (stW l3), .int .i64 (seqW l3), .int .i64 (untW l3)] 50))) := Lib.hid ((Below.refl _ _).alloc (Nat.le_refl _) _)
    have HW16 := Lib.hid ((HW14.out.below h16).below HBB.out)
    replace a0 := Since.cell HBB.out a0
    replace a1 := Since.cell HBB.out a1
    replace a2 := Since.cell HBB.out a2
    have b0 : (w16.alloc (.cells #[.int .i64 (stW l3), .int .i64 (seqW l3), .int .i64 (untW l3)] 50)).cell? ⟨w16.heap.size, 0, none⟩ = some (.int .i64 (stW l3)) := by simp
    have b1 : (w16.alloc (.cells #[.int .i64 (stW l3), .int .i64 (seqW l3), .int .i64 (untW l3)] 50)).cell? ⟨w16.heap.size, 1, none⟩ = some (.int .i64 (seqW l3)) := by simp
    have b2 : (w16.alloc (.cells #[.int .i64 (stW l3), .int .i64 (seqW l3), .int .i64 (untW l3)] 50)).cell? ⟨w16.heap.size, 2, none⟩ = some (.int .i64 (untW l3)) := by simp
    clear h16 HL3 c1 c2 c3 c4 c5
    go_wp2_with fail
    generalize w16.alloc (.cells #[.int .i64 (stW l3), .int .i64 (seqW l3), .int .i64 (untW l3)] 50) = w17 at *
    refine (awake18_any _ (HT.out _ (below_then HB1.out HW16.out.old))).mono ?_
    rintro e w18 ⟨rfl, h18⟩
    have HBE := Lib.hid (below_then (below_then HB1.out HW16.out.old) h18)
    replace a0 := Since.cell h18 a0
    replace a1 := Since.cell h18 a1
    replace a2 := Since.cell h18 a2
    replace b0 := Since.cell h18 b0
    replace b1 := Since.cell h18 b1
    replace b2 := Since.cell h18 b2
    clear h18
    go_wp2_with fail
    go_ret
    exact ⟨rfl, HBE.out⟩
end Go.Proofs.YtahgapkecabnjaaGreatDoor
