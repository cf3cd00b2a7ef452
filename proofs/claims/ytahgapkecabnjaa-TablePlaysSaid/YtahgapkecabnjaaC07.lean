/- Walks of the table's Keys and All. -/
import Derived.Test.YtahgapkecabnjaaC06
import Derived.Test.YtahgapkecabnjaaC04
import Derived.DeepKeys
import Derived.Test.YtahgapkecabnjaaC05
import Derived.Laws.BitsLemmas
import Derived.WalkLawsBesides
import Derived.Laws.CopyOwn
import Derived.Deep.RegionLaw
import Derived.Deep.OwnRows
import Derived.LoopTactic
import Derived.RegionTactic
import Derived.Deep.RegionWith
namespace Go.Proofs.Ytahgapkecabnjaa
set_option linter.unusedSimpArgs false
set_option linter.unusedVariables false
open Go Go.RowKit Go.Maps Go.Shelf Go.Sort
open Go.ChangeMaps (setBlock)
attribute [local go_sem] Oper.semAt_some

def Tb.keysR (t : Tb) (th s : Int) : List Ky := if t.may th s = 0 then keysL (inS t.n s.toNat t.fl) else []
def Tb.keysT (t : Tb) (th s : Int) : Tb := if t.may th s = 0 then ⟨t.m.touch th 5 s, t.n, t.fl⟩ else t
theorem Tb.may_zero {t : Tb} {th s : Int} (h : t.may th s = 0) : 0 ≤ s ∧ s < t.n := by
  unfold Tb.may at h
  split at h
  · cases h
  · omega
theorem inS_le {α : Type} (n s : Nat) (l : Kl α) : (inS n s l).length ≤ l.length := List.length_filter_le _ _
/-- What Keys leaves. -/
def KeysPost (w : World) (g bm : Nat) (F : Nat → Prop) (r : Int) (l : List Ky) (t : Tb) (e : Ending) (w' : World) : Prop :=
  ∃ v, e = .returned (.tuple #[v, .int .i64 r]) ∧ KeysAt w' w.heap.size v l ∧ ∃ F', Tab w' g bm F' t ∧ Turn F w w' ∧ Ext w F F'
set_option maxHeartbeats 4000000 in
set_option maxRecDepth 100000 in
theorem tbkeys_any {w : World} {g bm : Nat} {F : Nat → Prop} {t : Tb} (h : Tab w g bm F t) (ok : t.Ok) (th s : Int) :
    Calls Try.prog 12 #[.pointer (some ⟨g, 0, none⟩), .int .i64 th, .int .i64 s] w (KeysPost w g bm F (t.may th s) (t.keysR th s) (t.keysT th s)) := by
  have HMY := Lib.hid (fun (W : World) (h : Tab W g bm F t) => tmay_any h ok th s)
  have HMM := Lib.hid (fun (W : World) (h : Tab W g bm F t) => h.mem_post (fun Fm hm => read_any bm Fm t.m th s _ hm ok.sm))
  have HR0 : Hid (t.keysR th s = if t.may th s = 0 then keysL (inS t.n s.toNat t.fl) else []) := Lib.hid rfl
  have HD0 : Hid (t.keysT th s = if t.may th s = 0 then ⟨t.m.touch th 5 s, t.n, t.fl⟩ else t) := Lib.hid rfl
  have hrng := @Tb.may_zero t th s
  have hle := ok.le
  have HT := Lib.hid h
  have HOK := Lib.hid ok
  clear h ok
  generalize t.keysR th s = res at *
  generalize t.keysT th s = t' at *
  generalize t.may th s = my at *
  refine (callsIn_wide (n := 5)).1 ?_
  have h1 : 1 ≤ 5 := by omega
  have f1 : Fence.wide.fn 36 := trivial
  have f2 : Fence.wide.fn 39 := trivial
  have f3 : Fence.wide.fn 37 := trivial
  have f4 : Fence.wide.fn 33 := trivial
  have f5 : Fence.wide.fn 38 := trivial
  by_cases hz : my = 0
  · subst hz
    have HR : Hid (res = keysL (inS t.n s.toNat t.fl)) := Lib.hid (by rw [HR0.out]; exact if_pos rfl)
    have HD : Hid (t' = ⟨t.m.touch th 5 s, t.n, t.fl⟩) := Lib.hid (by rw [HD0.out]; exact if_pos rfl)
    obtain ⟨hs0, hsn⟩ := hrng rfl
    obtain ⟨j, rfl⟩ : ∃ j : Nat, s = j := ⟨s.toNat, by omega⟩
    have hjn : j < t.n := by omega
    have q0 : ((0 : Int) != 0) = false := by decide
    obtain ⟨Fm, v, bs, fs, hw, hF⟩ := id HT.out
    obtain ⟨b0, b1, -⟩ := hw.cells
    clear hw hF HR0 HD0 hrng
    refine callsIn_of_wp Try.func12 rfl trivial ?_ rfl
    simp only [Try.ntmps12, List.size_toArray, List.length_cons, List.length_nil, Nat.reduceAdd, Nat.reduceSub, Array.replicate_succ, Array.replicate_zero, List.push_toArray, List.append_toArray, List.nil_append, List.cons_append]
    have eg : ∀ args w, (callFunc 53 args).run Try.prog w = .ok (.enter 53 args) w := enters_of Try.func53 (by kernel_rfl) rfl
    have hNN : (inS t.n j t.fl).length ≤ 1000000 := Nat.le_trans (inS_le _ _ _) HOK.out.few
    have hlen : ∀ ss : List Ky, (ss.Nodup ∧ ∀ k, k ∈ ss ↔ k ∈ keysL (inS t.n j t.fl)) → ss.length ≤ 1000000 := fun ss h => by
      have := nodup_le ss (keysL (inS t.n j t.fl)) h.1 (fun x hx => (h.2 x).1 hx)
      simp only [keysL, List.length_map] at this
      omega
    have HRS := Lib.hid (inS_rise (n := t.n) (s := j) HOK.out.rise)
    have HNN := Lib.hid hNN
    have HLEN := Lib.hid hlen
    clear hNN hlen
    gi_wp2_with (first
      | (gi_at_call 33; refine (callsIn_wide.2 (HMY.out _ HT.out)).mono ?_; rintro e W ⟨rfl, rfl⟩)
      | (gi_at_call 38; refine (callsIn_wide.2 (HMM.out _ HT.out)).mono ?_; rintro e W2 ⟨rfl, F3, h3, t3, x3⟩; clear b0 b1; obtain ⟨Fm3, v3, bs3, fs3, hw3, rfl⟩ := id h3; obtain ⟨c0, c1, -⟩ := hw3.cells; obtain ⟨a3, cc3, rfl, hst⟩ := hw3.stripes; obtain ⟨b, gs, hb, rfl, c2⟩ := hst j hjn; have HW3 := Lib.hid hw3; have HBB := Lib.hid hb; clear hst hw3 hb;
          have hb0 : Below W2.heap.size W2 (W2.alloc (.cells #[.map (some b)] 76)) := (Below.refl _ W2).alloc (Nat.le_refl _) _;
          have hfl0 : FlowsAt W2 b evT (inS t.n j t.fl) (fs3 j) := HW3.out.maps j b HBB.out;
          have hfl1 : FlowsAt (W2.alloc (.cells #[.map (some b)] 76)) b evT (inS t.n j t.fl) (fs3 j) := hfl0.of_block (hb0.block b hfl0.is.lt);
          have hseq := tkeys_stops Fence.wide (4 - 1 - 1) trivial rfl (by omega) W2.heap.size b evT (inS t.n j t.fl) (fs3 j) (W2.alloc (.cells #[.map (some b)] 76)) (by simp) (by simp) hfl1;
          have HSQ := Lib.hid hseq; have HB0 := Lib.hid hb0; clear hb0 hfl0 hfl1 hseq)
      | (gi_at_call 36; refine (tkeys_in Fence.wide (5 - 1) trivial rfl (some b) W2).mono ?_; rintro e W3 ⟨rfl, hW3⟩; subst hW3)
      | (gi_at_call 39; refine (collect_in (5 - 1) (by omega) _ _ eg _ _ (inS t.n j t.fl).length _ HNN.out HSQ.out).mono ?_; rintro e W4 ⟨v, ss, rfl, ⟨hn, hm⟩, hrow, hb⟩; have HROW := Lib.hid hrow; have HB4 := Lib.hid hb; have HSS := Lib.hid (sortL_one hn hm HRS.out); have HSL := Lib.hid (HLEN.out ss ⟨hn, hm⟩); clear hrow hb hn hm)
      | (gi_at_call 37; refine (callsIn_wide.2 (sorted_any _ v ss W4 HROW.out HB4.out.size HSL.out)).mono ?_; rintro e W5 ⟨v5, rfl, hks, hb5⟩; rw [HSS.out] at hks; have HKS := Lib.hid hks; have HB5 := Lib.hid hb5; clear hks hb5))
    have HBE : Hid (Below W2.heap.size W2 W5) := Lib.hid (HB0.out.trans ((HB4.out.trans HB5.out).mono (by simp)))
    have ht3 := t3
    refine bodyPost_ret (v := .tuple #[v5, .int .i64 0]) (by simp [results, Try.results12, go_sem]) rfl ⟨v5, rfl, ?_, _, by rw [HD.out]; exact h3.below HBE.out, t3.trans (Turn.of_below (F := fun _ => False) HBE.out) (fun _ h => h.elim), x3⟩
    rw [HR.out]
    simp only [Int.toNat_natCast]
    obtain ⟨a, c, rfl, hk⟩ := HKS.out
    exact ⟨a, c, rfl, fun i x hj => by
      obtain ⟨g', e1, e2, e3⟩ := hk i x hj
      exact ⟨g', e1, by have := t3.size; simp at e2; omega, e3⟩⟩
  · have HR : Hid (res = []) := Lib.hid (by rw [HR0.out, if_neg hz])
    have HD : Hid (t' = t) := Lib.hid (by rw [HD0.out, if_neg hz])
    have q0 : (my != 0) = true := by simp [hz]
    refine callsIn_of_wp Try.func12 rfl trivial ?_ rfl
    simp only [Try.ntmps12, List.size_toArray, List.length_cons, List.length_nil, Nat.reduceAdd, Nat.reduceSub, Array.replicate_succ, Array.replicate_zero, List.push_toArray, List.append_toArray, List.nil_append, List.cons_append]
    gi_wp2_with (first
      | (gi_at_call 33; refine (callsIn_wide.2 (HMY.out _ HT.out)).mono ?_; rintro e W ⟨rfl, rfl⟩))
    refine bodyPost_ret (v := .tuple #[.slice none 0 0, .int .i64 my]) (by simp [results, Try.results12, go_sem]) rfl ⟨_, rfl, ?_, _, by rw [HD.out]; exact HT.out, Turn.refl _ _, Ext.refl _ _⟩
    rw [HR.out]
    exact KeysAt.nil _ _ _ _
theorem all_fit {out : List Ky} {l : Kl (Int × Bool)} {n j : Nat} (hr : Rises (keysL l)) (h1 : out.Nodup) (h2 : ∀ k, k ∈ out ↔ k ∈ keysL l ∧ stripeF k n < j) : out.length + (inS n j l).length ≤ l.length := by
  have h := all_step h1 h2 (inS_rise (n := n) (s := j) hr).nodup (fun k => Iff.rfl)
  have := nodup_le _ (keysL l) h.1 (fun x hx => ((h.2 x).1 hx).1)
  simpa [keysL] using this
set_option maxHeartbeats 4000000 in
set_option maxRecDepth 100000 in
theorem tball_any {w : World} {g bm : Nat} {F : Nat → Prop} {t : Tb} (h : Tab w g bm F t) (ok : t.Ok) :
    Calls Try.prog 10 #[.pointer (some ⟨g, 0, none⟩)] w fun e w' => ∃ v, e = .returned v ∧ KeysAt w' w.heap.size v (keysL t.fl) ∧ Below w.heap.size w w' := by
  refine (callsIn_wide (n := 5)).1 ?_
  have h1 : 1 ≤ 5 := by omega
  have f1 : Fence.wide.fn 36 := trivial
  have f2 : Fence.wide.fn 35 := trivial
  have f3 : Fence.wide.fn 37 := trivial
  have eg : ∀ args w, (callFunc 53 args).run Try.prog w = .ok (.enter 53 args) w := enters_of Try.func53 (by kernel_rfl) rfl
  obtain ⟨Fm, v, bs, fs, hw, hF⟩ := h
  obtain ⟨c0, c1, -⟩ := hw.cells
  obtain ⟨a3, cc3, rfl, hst⟩ := hw.stripes
  have HW := Lib.hid hw
  have HST := Lib.hid hst
  have HOK := Lib.hid ok
  have hle := ok.le
  clear hw hF hst ok
  refine callsIn_of_wp Try.func10 rfl trivial ?_ rfl
  simp only [Try.ntmps10, List.size_toArray, List.length_cons, List.length_nil, Nat.reduceAdd, Nat.reduceSub, Array.replicate_succ, Array.replicate_zero, List.push_toArray, List.append_toArray, List.nil_append, List.cons_append]
  gi_wp2
  gi_loopw [3, 13] (fun u i wr => ∃ y : Nat, y ≤ t.n ∧ i = .int .i64 (y : Nat) ∧ ∃ ss : List Ky, wr.ownsRow w.heap.size 28 5 u ss.length (kysL ss) ∧ ss.Nodup ∧ (∀ k, k ∈ ss ↔ k ∈ keysL t.fl ∧ stripeF k t.n < y) ∧ Below w.heap.size w wr) (fun _ i _ => t.n - (intOf i).toNat)
  case atStart => exact ⟨0, Nat.zero_le _, rfl, [], World.ownsRow_nil _ _ _ _, List.nodup_nil, (fun k => by simp), Below.refl _ _⟩
  case round =>
    obtain ⟨y, hy, rfl, ss, hrow, hn, hm, hb⟩ := hrel
    have HROW := Lib.hid hrow
    have HN := Lib.hid hn
    have HM := Lib.hid hm
    have HB := Lib.hid hb
    clear hrow hn hm hb
    by_cases hyl : y < t.n
    · obtain ⟨b, gs, hbs, rfl, c2⟩ := HST.out y hyl
      have hc2 := HB.out.cell (World.block_lt_of_cell? _ _ c2) |>.trans c2
      have HBB := Lib.hid hbs
      have hb0 : Below wr.heap.size wr (wr.alloc (.cells #[.map (some b)] 76)) := (Below.refl _ wr).alloc (Nat.le_refl _) _
      have hfl0 : FlowsAt wr b evT (inS t.n y t.fl) (fs y) := (HW.out.maps y b hbs).of_block (HB.out.block b (HW.out.maps y b hbs).is.lt)
      have hfl1 : FlowsAt (wr.alloc (.cells #[.map (some b)] 76)) b evT (inS t.n y t.fl) (fs y) := hfl0.of_block (hb0.block b hfl0.is.lt)
      have hseq := tkeys_stops Fence.wide (4 - 1) trivial rfl (by omega) wr.heap.size b evT (inS t.n y t.fl) (fs y) (wr.alloc (.cells #[.map (some b)] 76)) (by simp) (by simp) hfl1
      have HSQ := Lib.hid hseq
      have HFIT : Hid (ss.length + (inS t.n y t.fl).length ≤ 1000000) := Lib.hid (Nat.le_trans (all_fit HOK.out.rise HN.out HM.out) HOK.out.few)
      have HRW1 : Hid ((wr.alloc (.cells #[.map (some b)] 76)).ownsRow w.heap.size 28 5 u3 ss.length (kysL ss)) := Lib.hid (HROW.out.alloc _)
      have HSZ : Hid (w.heap.size ≤ (wr.alloc (.cells #[.map (some b)] 76)).heap.size) := Lib.hid (Nat.le_trans HB.out.size hb0.size)
      have HB1 : Hid (Below w.heap.size w (wr.alloc (.cells #[.map (some b)] 76))) := Lib.hid (HB.out.alloc HB.out.size _)
      have hni : (0 : Int) ≤ (y : Int) := Int.natCast_nonneg y
      have hnl : (y : Int) < (t.n : Int) := by omega
      clear hb0 hfl0 hfl1 hseq c0 c1 c2 hbs
      gi_wp2_with (first
        | (gi_at_call 36; refine (tkeys_in Fence.wide (5 - 1) trivial rfl (some b) wr).mono ?_; rintro e W3 ⟨rfl, hW3⟩; subst hW3)
        | (gi_at_call 35; refine (appendSeq_in Fence.wide (5 - 1) trivial rfl (by omega) _ _ trivial eg _ _ (inS t.n y t.fl).length w.heap.size ss.length _ (kysL ss) _ HSZ.out HRW1.out HFIT.out HSQ.out).mono ?_; rintro e W4 ⟨v4, s4, rfl, ⟨hn4, hm4⟩, hrow4, hb4⟩))
      have hs := all_step HN.out HM.out hn4 hm4
      go_roundw
      case rel => exact ⟨y + 1, by omega, by push_cast; rfl, ss ++ s4, by simpa [kysL] using hrow4, hs.1, hs.2, HB1.out.trans hb4⟩
      case measure => simp [intOf]; omega
    · obtain rfl : y = t.n := by omega
      have hm2 := all_end HOK.out.pos HM.out
      have HSL : Hid (sortL ss = keysL t.fl) := Lib.hid (sortL_one HN.out hm2 HOK.out.rise)
      have hlen : ss.length ≤ 1000000 := by
        have := nodup_le ss (keysL t.fl) HN.out (fun x hx => (hm2 x).1 hx)
        have h2 := HOK.out.few
        simp only [keysL, List.length_map] at this
        omega
      have HLEN := Lib.hid hlen
      clear hm2 hlen c0 c1
      gi_wp2_with (gi_at_call 37; refine (callsIn_wide.2 (sorted_any _ u3 ss wr HROW.out HB.out.size HLEN.out)).mono ?_; rintro e W5 ⟨v5, rfl, hks, hb5⟩; rw [HSL.out] at hks; have HKS := Lib.hid hks; have HB5 := Lib.hid hb5; clear hks hb5)
      go_ret
      exact ⟨v5, rfl, HKS.out, HB.out.trans HB5.out⟩
end Go.Proofs.Ytahgapkecabnjaa
/- Walk of table.New. -/
namespace Go.Proofs.Ytahgapkecabnjaa
set_option linter.unusedSimpArgs false
set_option linter.unusedVariables false
open Go Go.RowKit Go.Shelf Go.Lib Go.Maps Go.MapKept

def powChkT : Bool := (List.range 4097).all fun n => n == 0 || ((n &&& (n - 1) == 0) == pows.contains n)
theorem powChkT_true : powChkT = true := by kernel_rfl
theorem pow_iff {n : Nat} (h1 : 1 ≤ n) (h2 : n ≤ 4096) : n &&& (n - 1) = 0 ↔ n ∈ pows := by
  have h := powChkT_true
  unfold powChkT at h
  rw [List.all_eq_true] at h
  have := h n (List.mem_range.2 (by omega))
  rw [Bool.or_eq_true, beq_iff_eq, beq_iff_eq] at this
  rcases this with h0 | h0
  · omega
  · rw [← beq_iff_eq, h0, List.contains_iff_mem]
theorem tband_less (s : Nat) (h1 : 1 ≤ s) (h2 : s ≤ 4096) : bits .and .i64 (s : Int) ((s : Int) - 1) = ((s &&& (s - 1) : Nat) : Int) := by
  have hx : s &&& (s - 1) ≤ s := Nat.and_le_left
  have e : ((s : Int) - 1) = ((s - 1 : Nat) : Int) := by omega
  rw [e]
  show IntKind.i64.wrap ((BitVec.ofInt 64 (s : Int) &&& BitVec.ofInt 64 ((s - 1 : Nat) : Int)).toNat : Int) = _
  rw [BitVec.toNat_and, ofInt_64 s (by omega), ofInt_64 (s - 1) (by omega)]
  generalize s &&& (s - 1) = q at *
  simp [IntKind.wrap, IntKind.bits, IntKind.signed]
  omega
theorem own_row {w : World} {B : Nat} {e : TypeId} {size n : Nat} {v : Value} {xs : List Value} (h : w.ownsRow B e size v n xs) : Row w e size v n xs := by
  refine ⟨h.1, h.2.imp id ?_⟩
  rintro ⟨g, cap, cur, e1, h2, h3⟩
  exact ⟨g, cap, cur, e1, Nat.zero_le _, h3⟩
theorem tmapInfo : (Try.prog.info? 76).map (fun i => (i.zero, i.size, i.bytes)) = some (some (.map none), 1, 8) := by kernel_rfl
/-- A table that is being made: y stripes. -/
structure Making (w0 w : World) (g bm : Nat) (v : Value) (bs : List Nat) (y : Nat) : Prop where
  len : bs.length = y
  box : w.heap[g]? = some (.cells #[.pointer (some ⟨bm, 0, none⟩), v] 75 (0, 0))
  row : w.ownsRow w0.heap.size 76 1 v y (mapC bs)
  maps : ∀ b ∈ bs, IsMap w Try.prog 28 b (fun _ => none) ∧ w0.heap.size ≤ b
  nodup : bs.Nodup
  below : Below w0.heap.size w0 w
theorem mapC_snoc (bs : List Nat) (b : Nat) : mapC (bs ++ [b]) = mapC bs ++ [.map (some b)] := by simp [mapC]
theorem mapC_one (b : Nat) : ∀ u ∈ [Value.map (some b)], u.oneCell' = true := by
  intro u hu
  obtain rfl := List.mem_singleton.1 hu
  rfl
theorem Making.step {w0 w w1 : World} {g bm y : Nat} {v v' : Value} {bs : List Nat} {T : TypeId} (h : Making w0 w g bm v bs y) (hg : g < w.heap.size) (hg0 : w0.heap.size ≤ g)
    (hgr : ((w.alloc (.map #[] 0)).alloc (.cells #[.map (some w.heap.size)] T)).grownBy w1 v.ownBlock) (hown : w1.ownsRow w0.heap.size 76 1 v' (y + 1) (mapC bs ++ [.map (some w.heap.size)])) (hvg : v.ownBlock ≠ some g) (hvg' : v'.ownBlock ≠ some g) :
    Making w0 (w1.setCell ⟨g, 1, none⟩ v') g bm v' (bs ++ [w.heap.size]) (y + 1) := by
  have hb1 : Below w.heap.size w ((w.alloc (.map #[] 0)).alloc (.cells #[.map (some w.heap.size)] T)) := ((Below.refl _ w).alloc (Nat.le_refl _) _).alloc (by simp) _
  have hB1 := h.below.trans (hb1.mono h.below.size)
  have hB2 : Below w0.heap.size w0 w1 := hB1.grown hgr hB1.size (fun b hb => own_base h.row hb)
  have hB3 : Below w0.heap.size w0 (w1.setCell ⟨g, 1, none⟩ v') := hB2.setCell hg0 _
  have keep : ∀ i, i ≠ g → (w1.setCell ⟨g, 1, none⟩ v').heap[i]? = w1.heap[i]? := fun i hi => Below.heap_setCell _ _ _ i hi
  have hnm : ∀ i es c, w.heap[i]? = some (.map es c) → v.ownBlock ≠ some i ∧ i ≠ g := fun i es c e => by
    refine ⟨fun e2 => ?_, fun e2 => ?_⟩
    · obtain ⟨cur, hc⟩ := row_type (own_row h.row) e2
      rw [e] at hc; cases hc
    · subst e2
      have := h.box
      rw [e] at this; cases this
  have hsz : w.heap.size < ((w.alloc (.map #[] 0)).alloc (.cells #[.map (some w.heap.size)] T)).heap.size := by simp; omega
  have hvn : v.ownBlock ≠ some w.heap.size := fun e => by
    have := row_lt (own_row h.row) e
    omega
  refine ⟨by simp [h.len], ?_, ?_, fun b hb => ?_, ?_, hB3⟩
  · have e1 : w1.heap[g]? = some (.cells #[.pointer (some ⟨bm, 0, none⟩), v] 75 (0, 0)) := by
      rw [hgr.block g (by simp; omega) (fun e => hvg e.symm), hb1.block g hg]
      exact h.box
    rw [set_heap_row e1]
    rfl
  · rw [mapC_snoc]
    rcases hown.2 with ⟨e1, e2⟩ | ⟨gg, cap, cur, e1, h2, h3, h4⟩
    · exact ⟨hown.1, .inl ⟨e1, e2⟩⟩
    · exact ⟨hown.1, .inr ⟨gg, cap, cur, e1, h2, (keep gg (fun e => hvg' (by rw [e1]; exact congrArg some e))).trans h3, h4⟩⟩
  · rcases List.mem_append.1 hb with hb | hb
    · obtain ⟨h1, h2⟩ := h.maps b hb
      obtain ⟨es, c, e, _⟩ := id h1
      obtain ⟨n1, n2⟩ := hnm b es c e
      exact ⟨h1.of_block ((keep b n2).trans ((hgr.block b (Nat.lt_of_lt_of_le h1.lt hb1.size) (fun e => n1 e.symm)).trans (hb1.block b h1.lt))), h2⟩
    · obtain rfl := List.mem_singleton.1 hb
      have hm := (IsMap.made w Try.prog 28).alloc (.cells #[.map (some w.heap.size)] T)
      exact ⟨hm.of_block ((keep _ (by omega)).trans (hgr.block _ hsz (fun e => hvn e.symm))), h.below.size⟩
  · refine List.nodup_append.2 ⟨h.nodup, by simp, fun a ha b hb => ?_⟩
    obtain rfl := List.mem_singleton.1 hb
    have := (h.maps a ha).1.lt
    omega
theorem Making.after {w0 w w1 : World} {g bm y : Nat} {v v' : Value} {bs : List Nat} {T : TypeId} (h : Making w0 w g bm v bs y) (hg : g < w.heap.size) (hg0 : w0.heap.size ≤ g)
    (hgr : ((w.alloc (.map #[] 0)).alloc (.cells #[.map (some w.heap.size)] T)).grownBy w1 v.ownBlock) (hown : w1.ownsRow w0.heap.size 76 1 v' (y + 1) (mapC bs ++ [.map (some w.heap.size)]))
    (hloc : v'.ownBlock = v.ownBlock ∨ v'.ownBlock = some ((w.alloc (.map #[] 0)).alloc (.cells #[.map (some w.heap.size)] T)).heap.size) :
    Making w0 (w1.setCell ⟨g, 1, none⟩ v') g bm v' (bs ++ [w.heap.size]) (y + 1) ∧ w1.cell? ⟨g, 1, none⟩ = some v ∧ w1.frozen? ⟨g, 1, none⟩ = false ∧ g < w1.heap.size := by
  have hvg : v.ownBlock ≠ some g := fun e => by
    obtain ⟨cur, hc⟩ := row_type (own_row h.row) e
    rw [h.box] at hc
    injection hc with hc
    injection hc with _ hc
    exact absurd hc (by decide)
  have hsz : ((w.alloc (.map #[] 0)).alloc (.cells #[.map (some w.heap.size)] T)).heap.size = w.heap.size + 2 := by simp
  have hvg' : v'.ownBlock ≠ some g := fun e => hloc.elim (fun e2 => hvg (by rw [← e2]; exact e)) (fun e2 => by rw [e] at e2; injection e2 with e2; omega)
  have hbx : w1.heap[g]? = some (.cells #[.pointer (some ⟨bm, 0, none⟩), v] 75 (0, 0)) :=
    (hgr.block _ (by omega) (fun e => hvg e.symm)).trans ((Below.block (((Below.refl _ w).alloc (Nat.le_refl _) _).alloc (by simp) _) _ hg).trans h.box)
  exact ⟨h.step hg hg0 hgr hown hvg hvg', by simp [World.cell?, hbx], by simp [World.frozen?, hbx], (Array.getElem?_eq_some_iff.1 hbx).1⟩
theorem Making.end {w0 w : World} {g bm n : Nat} {v : Value} {bs : List Nat} {Fm : Nat → Prop} {m : M} (h : Making w0 w g bm v bs n) (hg : w0.heap.size ≤ g) (hm : Mem w0 bm Fm m) :
    ∃ F, Tab w g bm F ⟨m, n, []⟩ ∧ ∀ i, F i → Fm i ∨ w0.heap.size ≤ i := by
  refine ⟨_, ⟨Fm, v, bs, fun _ _ => none, ⟨h.box, IsMem.turn hm (Turn.of_below (F := fun _ => False) h.below) (fun _ _ h => h), own_row h.row, fun s b hb => ⟨(h.maps b (List.mem_of_getElem? hb)).1, fun k => rfl, fun v x h => by cases h⟩, h.nodup⟩, rfl⟩, ?_⟩
  rintro i (hi | rfl | hi | hi)
  · exact .inl hi
  · exact .inr hg
  · exact .inr (own_base h.row hi)
  · exact .inr (h.maps i hi).2
def TNewPost (w : World) (bm : Nat) (Fm : Nat → Prop) (m : M) (s : Int) (e : Ending) (w' : World) : Prop := Below w.heap.size w w' ∧
  (((∀ n ∈ pows, s ≠ (n : Int)) ∧ e = .returned (.pointer none)) ∨ ∃ n g F, n ∈ pows ∧ s = (n : Int) ∧ e = .returned (.pointer (some ⟨g, 0, none⟩)) ∧ Tab w' g bm F ⟨m, n, []⟩ ∧ ∀ i, F i → Fm i ∨ w.heap.size ≤ i)
theorem pow_not {s : Int} (h : s < 1 ∨ 4096 < s) : ∀ n ∈ pows, s ≠ (n : Int) := fun n hn => by
  have := pows_pos hn
  omega
set_option maxHeartbeats 8000000 in
set_option maxRecDepth 100000 in
theorem tnew_any {w : World} {bm : Nat} {Fm : Nat → Prop} {m : M} (h : Mem w bm Fm m) (s : Int) :
    Calls Try.prog 7 #[.pointer (some ⟨bm, 0, none⟩), .int .i64 s] w (TNewPost w bm Fm m s) := by
  have HM := Lib.hid h
  clear h
  by_cases h1 : s < 1
  · have HV := Lib.hid (pow_not (s := s) (.inl h1))
    go_enter Try.func7, Try.ntmps7
    go_wp2_with fail
    go_ret
    exact ⟨Below.refl _ _, .inl ⟨HV.out, rfl⟩⟩
  · by_cases h2 : 4096 < s
    · have HV := Lib.hid (pow_not (s := s) (.inr h2))
      go_enter Try.func7, Try.ntmps7
      go_wp2_with fail
      go_ret
      exact ⟨Below.refl _ _, .inl ⟨HV.out, rfl⟩⟩
    · obtain ⟨n, rfl⟩ : ∃ n : Nat, s = n := ⟨s.toNat, by omega⟩
      have hn1 : 1 ≤ n := by omega
      have hn2 : n ≤ 4096 := by omega
      have hb := tband_less n hn1 hn2
      have HPI := Lib.hid (pow_iff hn1 hn2)
      by_cases hp : n &&& (n - 1) = 0
      · have HP := Lib.hid (HPI.out.1 hp)
        rw [hp] at hb
        have hb2 : (bits .and .i64 (n : Int) ((n : Int) - 1) != 0) = false := by rw [hb]; rfl
        have hmm := @run_makeMap Try.prog
        clear hp HPI
        go_enter Try.func7, Try.ntmps7
        go_wp2_with fail
        have hM0 : Making w (w.alloc (.cells #[.pointer (some ⟨bm, 0, none⟩), .slice none 0 0] 75)) w.heap.size bm (.slice none 0 0) [] 0 :=
          ⟨rfl, (MapKept.heap_alloc w _).1, World.ownsRow_nil _ _ _ _, (fun b hb => nomatch hb), List.nodup_nil, (Below.refl _ w).alloc (Nat.le_refl _) _⟩
        have hgl : w.heap.size < (w.alloc (.cells #[.pointer (some ⟨bm, 0, none⟩), .slice none 0 0] 75)).heap.size := by simp
        go_loopw [27] (fun i wr => ∃ y : Nat, y ≤ n ∧ i = .int .i64 (y : Nat) ∧ ∃ v bs, Making w wr w.heap.size bm v bs y ∧ w.heap.size < wr.heap.size) (fun i _ => n - (intOf i).toNat)
        case atStart => exact ⟨0, Nat.zero_le _, rfl, _, _, hM0, hgl⟩
        case round =>
          clear hM0 hgl
          obtain ⟨y, hy, rfl, v, bs, hM, hgl⟩ := hrel
          have HMK := Lib.hid hM
          obtain ⟨va, vc, rfl, hvc⟩ := owns_cap hM.row
          by_cases hyl : y < n
          · have hc1 : wr.cell? ⟨w.heap.size, 1, none⟩ = some (.slice va y vc) := by simp [World.cell?, hM.box]
            have hfz : wr.frozen? ⟨w.heap.size, 1, none⟩ = false := by simp [World.frozen?, hM.box]
            obtain ⟨i0, hi, hz0, hz1, hz2⟩ := info_parts tmapInfo
            have HOW : Hid (((wr.alloc (.map #[] 0)).alloc (.cells #[.map (some wr.heap.size)] 76)).ownsRow w.heap.size 76 1 (.slice va y vc) y (mapC bs)) := Lib.hid ((hM.row.alloc _).alloc _)
            have HNW := Lib.hid (cells_new (wr.alloc (.map #[] 0)) [.map (some wr.heap.size)] 76)
            have hsz1 : (wr.alloc (.map #[] 0)).heap.size = wr.heap.size + 1 := by simp
            rw [hsz1] at HNW
            have HBS : Hid (w.heap.size ≤ ((wr.alloc (.map #[] 0)).alloc (.cells #[.map (some wr.heap.size)] 76)).heap.size) := Lib.hid (by simp; omega)
            have HGL := Lib.hid hgl
            clear hM hgl hsz1
            have hb1 : y + 1 ≤ maxLen := by unfold maxLen; omega
            have hb2 : (y + 1) * 8 ≤ 140737488355328 := by omega
            go_wp2_with (at_builtin; refine wpList_append_own_at _ rfl _ _ 73 rfl w.heap.size 76 i0 (.map none) 1 8 Try.underlying73 hi hz0 hz1 hz2 rfl (by decide) _ y _ rfl HOW.out ⟨wr.heap.size + 1, 0, none⟩ 1 1 [.map (some wr.heap.size)] rfl rfl HNW.out (mapC_one _) hb1 hb2 HBS.out ?_; intro v' w2 hown1 hgrow hnil hloc; obtain ⟨va2, vc2, rfl, hvc2⟩ := owns_cap hown1; obtain ⟨hst, hd1, hdz, hsz⟩ := HMK.out.after HGL.out (Nat.le_refl _) hgrow hown1 hloc; have HST := Lib.hid hst; have HSZ := Lib.hid hsz; clear hst hsz hgrow hown1 hloc hnil hc1 hfz)
            go_roundw
            case rel => exact ⟨y + 1, by omega, by push_cast; rfl, _, _, HST.out, by have := HSZ.out; simpa [World.setCell] using this⟩
            case measure => simp [intOf]; omega
          · obtain rfl : y = n := by omega
            obtain ⟨F, hT, hF⟩ := hM.end (Nat.le_refl _) HM.out
            have HT := Lib.hid hT
            have HB := Lib.hid hM.below
            have HFF := Lib.hid hF
            clear hM hT hF
            go_wp2_with fail
            go_ret
            exact ⟨HB.out, .inr ⟨y, _, F, HP.out, rfl, rfl, HT.out, HFF.out⟩⟩
      · have HV : Hid (∀ k ∈ pows, (n : Int) ≠ (k : Int)) := Lib.hid (fun k hk e => hp (HPI.out.2 (by rw [show n = k by omega]; exact hk)))
        have hb2 : (bits .and .i64 (n : Int) ((n : Int) - 1) != 0) = true := by
          rw [hb]
          have : ((n &&& (n - 1) : Nat) : Int) ≠ 0 := by omega
          simpa using this
        clear hp HPI hb
        go_enter Try.func7, Try.ntmps7
        go_wp2_with fail
        go_ret
        exact ⟨Below.refl _ _, .inl ⟨HV.out, rfl⟩⟩
end Go.Proofs.Ytahgapkecabnjaa
/- Keys of flows compared. -/
namespace Go.Proofs.Ytahgapkecabnjaa
set_option linter.unusedSimpArgs false
set_option linter.unusedVariables false
open Go Go.RowKit Go.Maps Go.MapKept

def kyLits (k : Ky) : List Lit := [.int .u32 k.a0, .int .u32 k.a1, .int .u16 k.p0, .int .u16 k.p1, .int .u8 k.pr]
theorem ky_lits {k : Ky} (hk : k.In) (m : Nat) : Try.prog.keyLits (m + 3) 28 (kyV k).cells.toList = some (kyLits k) := by
  have h0 := wf_u32 hk.a0
  have h1 := wf_u32 hk.a1
  have h2 := wf_u16 hk.p0
  have h3 := wf_u16 hk.p1
  have h4 := wf_u8 hk.pr
  have r2 : List.range 2 = [0, 1] := rfl
  simp [kyLits, kyC, Value.cells, Program.keyLits, kcells_key, kcells_u8, kcells_u16, kcells_u32, kcells_a16, kcells_a32, Try.underlying28, Try.underlying5, Try.underlying25, Try.underlying23, Try.underlying26, Try.underlying24, h0, h1, h2, h3, h4, r2]
theorem ky_formed (k : Ky) : (kyV k).formed Try.prog 28 = true := by simp [kyC, Value.formed, Try.underlying28, kcells_key]
theorem kyLits_inj {x y : Ky} (h : kyLits x = kyLits y) : x = y := by
  simp [kyLits] at h
  rw [Ky.same]
  omega
theorem key_eq (d : Nat) {x y : Ky} (hx : x.In) (hy : y.In) (w : World) : (Op.equalIn (d + 3) 28 (kyV x) (kyV y)).run Try.prog w = .ok (decide (x = y)) w := by
  have h := run_equalIn_deep (P := Try.prog) d 3 28 (by kernel_rfl)
  obtain ⟨r, hr, hiff⟩ := h w 3 3 (kyV x) (kyV y) _ _ (ky_formed x) (ky_formed y) (ky_lits hx 0) (ky_lits hy 0)
  refine hr.trans ?_
  have : r = decide (x = y) := by
    rw [Bool.eq_iff_iff, hiff, decide_eq_true_iff]
    exact ⟨kyLits_inj, fun e => by rw [e]⟩
  rw [this]
theorem depth_three : ∃ d, Op.maxDepth = d + 3 := ⟨9997, by decide⟩
theorem exec_eqKey {o : Oper} {ev : Operand → Value} {w : World} (a b : Operand) (ty : TypeId) (ho : o.op = .binOp .eql 28 a b ty) {x y : Ky} (hx : x.In) (hy : y.In) (ha : ev a = kyV x) (hb : ev b = kyV y) :
    (execOp ev o).run Try.prog w = .ok (.value (.bool (decide (x = y)))) w := by
  obtain ⟨d, hd⟩ := depth_three
  have hk := key_eq d hx hy w
  rw [← hd] at hk
  unfold execOp
  simp only [ho, ha, hb]
  simp [eqGuard, binOp, Op.equal, Sem.run_bind]
  rw [hk]
  rfl
theorem exec_neKey {o : Oper} {ev : Operand → Value} {w : World} (a b : Operand) (ty : TypeId) (ho : o.op = .binOp .neq 28 a b ty) {x y : Ky} (hx : x.In) (hy : y.In) (ha : ev a = kyV x) (hb : ev b = kyV y) :
    (execOp ev o).run Try.prog w = .ok (.value (.bool (!decide (x = y)))) w := by
  obtain ⟨d, hd⟩ := depth_three
  have hk := key_eq d hx hy w
  rw [← hd] at hk
  unfold execOp
  simp only [ho, ha, hb]
  simp [eqGuard, binOp, Op.equal, Sem.run_bind]
  rw [hk]
  simp [Result.andThen]
end Go.Proofs.Ytahgapkecabnjaa
/- Lists of keys in memory; the reference's Same. Printed by gen_tabe.py. -/
namespace Go.Proofs.Ytahgapkecabnjaa
set_option linter.unusedSimpArgs false
set_option linter.unusedVariables false
open Go Go.RowKit Go.Maps Go.Shelf Go.Sort

theorem kysL_get (l : List Ky) (j : Nat) (k : Ky) (h : l[j]? = some k) (i : Nat) (v : Value) (hv : (kyC k)[i]? = some v) : (kysL l)[j * 5 + i]? = some v := by
  obtain ⟨hj, e⟩ := List.getElem?_eq_some_iff.1 h
  have hi : i < 5 := (Array.getElem?_eq_some_iff.1 hv).1
  rw [kysL_at l (j * 5 + i) (by omega), show (j * 5 + i) / 5 = j by omega, show (j * 5 + i) % 5 = i by omega]
  have e1 : l.toArray[j]! = k := by rw [getElem!_pos _ j (by simpa using hj)]; simpa using e
  rw [e1]
  have hs : i < (kyL k).length := hi
  rw [List.getElem!_eq_getElem?_getD]
  have : (kyL k)[i]? = some v := by unfold kyL; rw [Array.getElem?_toList]; exact hv
  rw [this]; rfl
/-- One key of a list, cell by cell. -/
theorem KeysAt.cells5 {w : World} {B : Nat} {v : Value} {l : List Ky} (h : KeysAt w B v l) {a : Option Addr} {n c : Nat} (e : v = .slice a n c) {j : Nat} {k : Ky} (hj : l[j]? = some k) : ∃ g, a = some ⟨g, 0, none⟩ ∧ B ≤ g ∧
    w.cell? ⟨g, j * 5, none⟩ = some (.int .u32 k.a0) ∧ w.cell? ⟨g, j * 5 + 1, none⟩ = some (.int .u32 k.a1) ∧ w.cell? ⟨g, j * 5 + 2, none⟩ = some (.int .u16 k.p0) ∧ w.cell? ⟨g, j * 5 + 3, none⟩ = some (.int .u16 k.p1) ∧ w.cell? ⟨g, j * 5 + 4, none⟩ = some (.int .u8 k.pr) := by
  obtain ⟨a', c', e', hc⟩ := h
  rw [e] at e'
  cases e'
  obtain ⟨g, rfl, hB, h0⟩ := hc (j * 5 + 0) _ (kysL_get l j k hj 0 _ rfl)
  refine ⟨g, rfl, hB, h0, ?_, ?_, ?_, ?_⟩
  · obtain ⟨g', e1, _, h1⟩ := hc (j * 5 + 1) _ (kysL_get l j k hj 1 _ rfl); cases e1; exact h1
  · obtain ⟨g', e1, _, h1⟩ := hc (j * 5 + 2) _ (kysL_get l j k hj 2 _ rfl); cases e1; exact h1
  · obtain ⟨g', e1, _, h1⟩ := hc (j * 5 + 3) _ (kysL_get l j k hj 3 _ rfl); cases e1; exact h1
  · obtain ⟨g', e1, _, h1⟩ := hc (j * 5 + 4) _ (kysL_get l j k hj 4 _ rfl); cases e1; exact h1
theorem KeysAt.shape {w : World} {B : Nat} {v : Value} {l : List Ky} (h : KeysAt w B v l) : ∃ a c, v = .slice a l.length c := by
  obtain ⟨a, c, e, _⟩ := h
  exact ⟨a, c, e⟩
theorem KeysAt.below {w w' : World} {B : Nat} {v : Value} {l : List Ky} (h : KeysAt w B v l) (hb : Below w.heap.size w w') : KeysAt w' B v l := h.kept (fun g _ hg => hb.block g hg)
theorem KeysAt.base {w : World} {B B' : Nat} {v : Value} {l : List Ky} (h : KeysAt w B v l) (hb : B' ≤ B) : KeysAt w B' v l := by
  obtain ⟨a, c, e, hc⟩ := h
  exact ⟨a, c, e, fun j x hj => by
    obtain ⟨g, e1, e2, e3⟩ := hc j x hj
    exact ⟨g, e1, by omega, e3⟩⟩
set_option maxHeartbeats 1000000 in
theorem exec_keyAt {o : Oper} {ev : Operand → Value} {w : World} (x y : Operand) (ho : o.op = .indexAddr 38 x y) {g n c j : Nat} (hx : ev x = .slice (some ⟨g, 0, none⟩) n c) (hy : ev y = .int .i64 (j : Nat)) (hj : j < n) : (execOp ev o).run Try.prog w = .ok (.value (.pointer (some ⟨g, j * 5, none⟩))) w := by
  unfold execOp
  have hni : (0 : Int) ≤ (j : Int) := by omega
  have hnl : (j : Int) < (n : Int) := by omega
  simp only [ho, hx, hy]
  go_simp
set_option maxHeartbeats 4000000 in
set_option maxRecDepth 100000 in
theorem sameKeys_any {w : World} {B B' : Nat} {v v' : Value} {l : List Ky} (h : KeysAt w B v l) (h' : KeysAt w B' v' l) (hl : l.length ≤ 1000000) (hk : ∀ k ∈ l, k.In) :
    Calls Try.prog 24 #[v, v'] w fun e w' => e = .returned (.bool true) ∧ Below w.heap.size w w' := by
  obtain ⟨a, c, rfl⟩ := h.shape
  obtain ⟨a', c', rfl⟩ := h'.shape
  have H1 := Lib.hid h
  have H2 := Lib.hid h'
  have HK := Lib.hid hk
  clear h h' hk
  generalize hm : l.length = m at *
  have HM := Lib.hid hm
  clear hm
  have q0 : ((m : Int) != (m : Int)) = false := by simp
  go_enter Try.func24, Try.ntmps24
  go_wp2_with fail
  go_loopw [5] (fun i wr => ∃ y : Nat, y ≤ m ∧ i = .int .i64 (y : Nat) ∧ Below w.heap.size w wr) (fun i _ => m - (intOf i).toNat)
  case atStart => exact ⟨0, Nat.zero_le _, rfl, Below.refl _ _⟩
  case round =>
    obtain ⟨y, hy, rfl, hb⟩ := hrel
    have HB := Lib.hid hb
    by_cases hyl : y < m
    · obtain ⟨k, hk⟩ : ∃ k, l[y]? = some k := ⟨_, List.getElem?_eq_getElem (by rw [HM.out]; exact hyl)⟩
      have HKI := Lib.hid (HK.out k (List.mem_of_getElem? hk))
      obtain ⟨g, rfl, -, d0, d1, d2, d3, d4⟩ := (H1.out.below hb).cells5 rfl hk
      obtain ⟨g', rfl, -, e0, e1, e2, e3, e4⟩ := (H2.out.below hb).cells5 rfl hk
      have HYL := Lib.hid hyl
      clear hb hk
      have hS0 : Since wr wr.drew := (Below.refl _ wr).trans ⟨rfl, rfl, rfl, Nat.le_refl _, fun _ _ => rfl⟩
      go_wp2_with fail
      refine WQ.enter wr (Since.refl _) (by kernel_rfl) (by kernel_rfl) ?_
      refine WQ.val (by rfl) (fun v hv => by have k0 := hv.cell d0; have k1 := hv.cell d1; have k2 := hv.cell d2; have k3 := hv.cell d3; have k4 := hv.cell d4; have k5 := hv.cell e0; have k6 := hv.cell e1; have k7 := hv.cell e2; have k8 := hv.cell e3; have k9 := hv.cell e4; go_simp; first | done | with_reducible rfl | (rw [if_neg (by omega)])) ?_; simp only [Act.put, List.setIfInBounds_toArray, List.set_cons_zero, List.set_cons_succ]
      refine WQ.val (by rfl) (fun v hv => by have k0 := hv.cell d0; have k1 := hv.cell d1; have k2 := hv.cell d2; have k3 := hv.cell d3; have k4 := hv.cell d4; have k5 := hv.cell e0; have k6 := hv.cell e1; have k7 := hv.cell e2; have k8 := hv.cell e3; have k9 := hv.cell e4; go_simp; first | done | with_reducible rfl | (rw [if_neg (by omega)])) ?_; simp only [Act.put, List.setIfInBounds_toArray, List.set_cons_zero, List.set_cons_succ]
      refine WQ.val (by rfl) (fun v hv => exec_keyAt (.tmp 17) (.tmp 18) rfl rfl rfl HYL.out) ?_; simp only [Act.put, List.setIfInBounds_toArray, List.set_cons_zero, List.set_cons_succ]
      refine WQ.val (by rfl) (fun v hv => by have k0 := hv.cell d0; have k1 := hv.cell d1; have k2 := hv.cell d2; have k3 := hv.cell d3; have k4 := hv.cell d4; have k5 := hv.cell e0; have k6 := hv.cell e1; have k7 := hv.cell e2; have k8 := hv.cell e3; have k9 := hv.cell e4; go_simp; first | done | with_reducible rfl | (rw [if_neg (by omega)])) ?_; simp only [Act.put, List.setIfInBounds_toArray, List.set_cons_zero, List.set_cons_succ]
      refine WQ.val (by rfl) (fun v hv => by have k0 := hv.cell d0; have k1 := hv.cell d1; have k2 := hv.cell d2; have k3 := hv.cell d3; have k4 := hv.cell d4; have k5 := hv.cell e0; have k6 := hv.cell e1; have k7 := hv.cell e2; have k8 := hv.cell e3; have k9 := hv.cell e4; go_simp; first | done | with_reducible rfl | (rw [if_neg (by omega)])) ?_; simp only [Act.put, List.setIfInBounds_toArray, List.set_cons_zero, List.set_cons_succ]
      refine WQ.val (by rfl) (fun v hv => by have k0 := hv.cell d0; have k1 := hv.cell d1; have k2 := hv.cell d2; have k3 := hv.cell d3; have k4 := hv.cell d4; have k5 := hv.cell e0; have k6 := hv.cell e1; have k7 := hv.cell e2; have k8 := hv.cell e3; have k9 := hv.cell e4; go_simp; first | done | with_reducible rfl | (rw [if_neg (by omega)])) ?_; simp only [Act.put, List.setIfInBounds_toArray, List.set_cons_zero, List.set_cons_succ]
      refine WQ.val (by rfl) (fun v hv => exec_keyAt (.tmp 21) (.tmp 22) rfl rfl rfl HYL.out) ?_; simp only [Act.put, List.setIfInBounds_toArray, List.set_cons_zero, List.set_cons_succ]
      refine WQ.val (by rfl) (fun v hv => by have k0 := hv.cell d0; have k1 := hv.cell d1; have k2 := hv.cell d2; have k3 := hv.cell d3; have k4 := hv.cell d4; have k5 := hv.cell e0; have k6 := hv.cell e1; have k7 := hv.cell e2; have k8 := hv.cell e3; have k9 := hv.cell e4; go_simp; first | done | with_reducible rfl | (rw [if_neg (by omega)])) ?_; simp only [Act.put, List.setIfInBounds_toArray, List.set_cons_zero, List.set_cons_succ]
      refine WQ.val (u := .bool false) (by rfl) (fun v hv => (exec_neKey (.tmp 20) (.tmp 24) _ rfl HKI.out HKI.out rfl rfl).trans (by simp)) ?_; simp only [Act.put, List.setIfInBounds_toArray, List.set_cons_zero, List.set_cons_succ]
      refine WQ.done ?_
      intro w5 hw5
      have HB5 : Hid (Below w.heap.size w w5) := Lib.hid (HB.out.trans (Below.mono hw5 HB.out.size))
      clear d0 d1 d2 d3 d4 e0 e1 e2 e3 e4 hw5 hS0
      go_wp2_with fail
      go_roundw
      case rel => exact ⟨y + 1, by omega, by push_cast; rfl, HB5.out⟩
      case measure => simp [intOf]; omega
    · obtain rfl : y = m := by omega
      clear hb
      go_wp2_with fail
      go_ret
      exact ⟨rfl, HB.out⟩
end Go.Proofs.Ytahgapkecabnjaa
/- The walks of math/bits.Mul at small numbers, of slices.Repeat at one element, and of New. -/
namespace Go.Proofs.Ytahgapkecabnjaa
set_option linter.unusedSimpArgs false
set_option linter.unusedVariables false
open Go Go.RowKit

set_option maxHeartbeats 1000000 in
theorem mul64_one (n : Int) (w : World) (h0 : 0 ≤ n) (h1 : n ≤ 8192) :
    Calls Try.prog 62 #[.int .u64 1, .int .u64 n] w fun e w' => e = .returned (.tuple #[.int .u64 0, .int .u64 n]) ∧ w' = w := by
  have hb : Go.bits .and .u64 n 4294967295 = n := by
    have := bits_mask .u64 64 (by decide) (fun n h0 h1 => by simp [IntKind.wrap, IntKind.bits, IntKind.signed]; omega) 32 (by decide) n h0 (by omega)
    simp at this
    rw [this]; omega
  have hb1 : Go.bits .and .u64 1 4294967295 = 1 := by decide
  have hb0 : Go.bits .and .u64 0 4294967295 = 0 := by decide
  have hw0 : IntKind.u64.wrap 0 = 0 := by decide
  have hd : n / 4294967296 = 0 := by omega
  have hw : IntKind.u64.wrap n = n := by simp [IntKind.wrap, IntKind.bits, IntKind.signed]; omega
  go_enter Try.func62, Try.ntmps62
  go_wp2
  go_ret2
  exact ⟨by simp [hb, hb1, hb0, hd, hw, hw0], rfl⟩

set_option maxHeartbeats 1000000 in
theorem mul_one (n : Int) (w : World) (h0 : 0 ≤ n) (h1 : n ≤ 8192) :
    Calls Try.prog 49 #[.int .u64 1, .int .u64 n] w fun e w' => e = .returned (.tuple #[.int .u64 0, .int .u64 n]) ∧ w' = w := by
  go_enter Try.func49, Try.ntmps49
  go_wp2_with (go_at_call 62; refine (mul64_one n _ h0 h1).mono ?_; rintro e w' ⟨rfl, rfl⟩)
  go_ret2
  exact ⟨rfl, rfl⟩

def nearM (n : Int) : Int := max 0 (min n 8192)
theorem nearM_bd (n : Int) : 0 ≤ nearM n ∧ nearM n ≤ 8192 := by unfold nearM; omega
set_option maxHeartbeats 1000000 in
theorem nearM_any (n : Int) (w : World) :
    Calls Try.prog 29 #[.int .i64 n] w fun e w' => e = .returned (.int .i64 (nearM n)) ∧ w' = w := by
  go_enter Try.func29, Try.ntmps29
  go_wp2
  all_goals
    go_ret
    exact ⟨congrArg (fun b => Ending.returned (.int .i64 b)) (by unfold nearM; omega), rfl⟩
end Go.Proofs.Ytahgapkecabnjaa
/- The walk of slices.Repeat at one element, and of New. -/
namespace Go.Proofs.Ytahgapkecabnjaa
set_option linter.unusedSimpArgs false
set_option linter.unusedVariables false
open Go Go.RowKit

/-- The first k cells of the list are v. -/
def Full (cur : List Value) (c k : Nat) (v : Value) : Prop := cur.length = c ∧ ∀ j, j < k → cur[j]? = some v
theorem full_splice {cur : List Value} {c k m : Nat} {v : Value} (h : Full cur c k v) (hm : k + m ≤ c) : Full (splice cur k (List.replicate m v)) c (k + m) v := by
  obtain ⟨h1, h2⟩ := h
  refine ⟨by rw [length_splice]; exact h1; simp; omega, fun j hj => ?_⟩
  unfold splice
  by_cases hk : j < k
  · rw [List.getElem?_append_left (by simp; omega), List.getElem?_take, if_pos hk]
    exact h2 j hk
  · rw [List.getElem?_append_right (by simp; omega), List.getElem?_append_left (by simp; omega), List.getElem?_replicate, if_pos (by simp; omega)]
theorem full_all {cur : List Value} {c : Nat} {v : Value} (h : Full cur c c v) : cur = List.replicate c v := by
  apply List.ext_getElem?
  intro j
  rw [List.getElem?_replicate]
  split
  · exact h.2 j ‹_›
  · rw [List.getElem?_eq_none]; rw [h.1]; omega

theorem intInfo : (Try.prog.info? 3).map (fun i => (i.zero, i.size, i.bytes)) = some (some (.int .i64 0), 1, 8) := by kernel_rfl

def RepPost (w : World) (c : Nat) (v : Value) (e : Ending) (w' : World) : Prop := ∃ u, e = .returned u ∧ Row w' 3 1 u c (List.replicate c v) ∧ Below w.heap.size w w' ∧ (∀ b, u.ownBlock = some b → w.heap.size ≤ b)

theorem rep_end {w w' : World} {c g : Nat} {v : Value} {cur : List Value} (hf : Full cur c c v) (hg : w'.heap[g]? = some (.cells cur.toArray 3 (0, 0))) (hb : Below w.heap.size w w') (hle : w.heap.size ≤ g) (hc : c ≤ maxLen) :
    RepPost w c v (.returned (.slice (some ⟨g, 0, none⟩) c c)) w' := by
  have := full_all hf
  subst this
  exact ⟨_, rfl, ⟨by simp, .inr ⟨g, c, _, rfl, Nat.zero_le _, hg, Nat.le_refl _, hc, by simp, by simp [List.take_replicate]⟩⟩, hb, fun b e => by cases e; exact hle⟩

theorem wpop_copy {P : Program} {o : Oper} {a : Act} {w : World} {K : Act → World → Prop} {Q : Exit → Act → World → Prop} (dst : Option Tmp) (hdst : o.dst = dst) (hgd : o.guard = none) (d s : Operand) (dT sT : TypeId)
    (ho : o.op = .call { callee := .builtin .copy, args := #[d, s], argTypes := #[dT, sT] }) (elem : TypeId) (hu : P.underlying dT = some (.slice elem)) (hsz : (P.info? elem).map (·.size) = some 1)
    (dp sp : Option Addr) (dLen dCap sLen sCap : Nat) (hd : a.eval d = .slice dp dLen dCap) (hs : a.eval s = .slice sp sLen sCap)
    (g off : Nat) (cur : List Value) (t : TypeId) (hg : w.heap[g]? = some (.cells cur.toArray t (0, 0))) (cs : List Value) (hn : cs.length = Nat.min sLen dLen)
    (hpos : 0 < cs.length → dp = some ⟨g, off, none⟩ ∧ ∃ ad, sp = some ad ∧ ∀ j v, cs[j]? = some v → w.cell? (ad.add j) = some v)
    (hfit : off + cs.length ≤ cur.length) (h1 : ∀ v ∈ cs, v.oneCell' = true) (B : Nat) (w0 : World) (hb : RowKit.Below B w0 w) (hBg : B ≤ g)
    (h : ∀ w', RowKit.Hid (w'.heap[g]? = some (.cells (splice cur off cs).toArray t (0, 0))) → RowKit.Below B w0 w' → K (a.put dst (goInt cs.length)) w') : Oper.wp P o a w K Q := by
  subst hdst
  have := step_copy_splice (ops := #[]) (E := True) (Q := Q) hgd d s dT sT ho elem hu hsz dp sp dLen dCap sLen sCap hd hs g off cur t hg cs hn hpos hfit h1 B w0 hb hBg h
  rwa [if_pos (by simp [Region.wanted, hgd])] at this

theorem rep_src {w : World} {bx : Nat} {v : Value} {c : Nat} (hx : w.cell? ⟨bx, 0, none⟩ = some v) : ∀ j u, (List.replicate (Nat.min 1 c) v)[j]? = some u → w.cell? ((⟨bx, 0, none⟩ : Addr).add j) = some u := by
  intro j u hj
  rw [List.getElem?_replicate] at hj
  split at hj
  · rename_i hlt
    have hm : Nat.min 1 c ≤ 1 := Nat.min_le_left 1 c
    obtain rfl : j = 0 := by omega
    cases hj
    have e : (⟨bx, 0, none⟩ : Addr).add 0 = ⟨bx, 0, none⟩ := by unfold Addr.add; split <;> simp_all
    rw [e]; exact hx
  · cases hj

set_option maxHeartbeats 4000000 in
set_option maxRecDepth 100000 in
theorem repeat_any (bx : Nat) (c : Nat) (w : World) (hc : c ≤ 8192) (hx : w.cell? ⟨bx, 0, none⟩ = some (.int .i64 (-1))) :
    Calls Try.prog 30 #[.slice (some ⟨bx, 0, none⟩) 1 1, .int .i64 c] w (RepPost w c (.int .i64 (-1))) := by
  obtain ⟨i0, hi, hz0, hz1, hz2⟩ := info_parts intInfo
  have hsz : (Try.prog.info? 3).map (·.size) = some 1 := by rw [hi]; simp [hz1]
  have hw1 : IntKind.u64.wrap (c : Int) = c := by simp [IntKind.wrap, IntKind.bits, IntKind.signed]; omega
  have hw2 : IntKind.u64.wrap 1 = 1 := by decide
  have hw3 : IntKind.i64.wrap (c : Int) = c := IntWalk.i64_in _ (by omega)
  go_enter Try.func30, Try.ntmps30
  go_wp2_with fail
  refine (mul_one c _ (by omega) (by omega)).mono ?_
  rintro e w0 ⟨rfl, rfl⟩
  have hmade : (w0.alloc (.cells (madeCells #[.int .i64 0] c) 3)).heap[w0.heap.size]? = some (.cells (madeCells #[.int .i64 0] c).toList.toArray 3 (0, 0)) := by
    rw [Array.toArray_toList]; exact (MapKept.heap_alloc _ _).1
  have hmlen : (madeCells #[Value.int .i64 0] c).toList.length = c := by rw [Array.length_toList]; simp [madeCells]
  have hx' : (w0.alloc (.cells (madeCells #[.int .i64 0] c) 3)).cell? ⟨bx, 0, none⟩ = some (.int .i64 (-1)) := (World.cell?_of_block (w := w0) (Below.heap_alloc w0 _ _ (World.block_lt_of_cell? w0 _ hx))).trans hx
  have HM := Lib.hid hmade
  have HL := Lib.hid hmlen
  have hb0 : Below w0.heap.size w0 (w0.alloc (.cells (madeCells #[.int .i64 0] c) 3)) := (Below.refl _ _).alloc (Nat.le_refl _) _
  have HB0 := Lib.hid hb0
  clear hmade hmlen hb0
  go_wp2_with (first
    | (refine wpList_make_row _ rfl _ _ 69 rfl 3 i0 (.int .i64 0) Try.underlying69 hi hz0 hz1 rfl .i64 .i64 c rfl rfl (by rw [hz2]; omega) (by omega) ?_)
    | (refine wpList_copy_splice rfl (.tmp 31) (.tmp 32) 69 69 rfl 3 Try.underlying69 hsz _ _ _ _ _ _ rfl rfl w0.heap.size 0 _ _ HM.out (List.replicate (Nat.min 1 c) (.int .i64 (-1))) (by simp) (fun h => ⟨rfl, _, rfl, rep_src hx'⟩) (by rw [HL.out, List.length_replicate, Nat.zero_add]; exact Nat.min_le_right 1 c) (fun v hv => by rw [List.eq_of_mem_replicate hv]; rfl) w0.heap.size w0 HB0.out (Nat.le_refl _) ?_; intro w2 hg2 hb2))

  have hf0 : Full (splice (madeCells #[Value.int .i64 0] c).toList 0 (List.replicate (Nat.min 1 c) (.int .i64 (-1)))) c (Nat.min 1 c) (.int .i64 (-1)) := by
    have := full_splice (cur := (madeCells #[Value.int .i64 0] c).toList) (c := c) (k := 0) (m := Nat.min 1 c) (v := .int .i64 (-1)) ⟨HL.out, fun j hj => absurd hj (by omega)⟩ (by rw [Nat.zero_add]; exact Nat.min_le_right 1 c)
    rwa [Nat.zero_add] at this
  generalize hcur0 : splice (madeCells #[Value.int .i64 0] c).toList 0 (List.replicate (Nat.min 1 c) (.int .i64 (-1))) = cur0 at *
  have hm1 : Nat.min 1 c ≤ c := Nat.min_le_right 1 c
  have hm0 : Nat.min 1 c = 0 → c = 0 := fun h => by
    have : min 1 c = 0 := h
    omega
  generalize Nat.min 1 c = k0 at *
  have HF0 := Lib.hid hf0
  have HM0 := Lib.hid hm0
  clear hcur0 hf0 hm0 HM HL HB0 hx hx' hi hz0 hz1 hz2 hw1 hw2 hw3
  go_loopw [8] (fun n wr => ∃ (k : Nat) (cur : List Value), k ≤ c ∧ Hid (k = 0 → c = 0) ∧ n = .int .i64 k ∧ Hid (Full cur c k (.int .i64 (-1))) ∧ Hid (wr.heap[w0.heap.size]? = some (.cells cur.toArray 3 (0, 0))) ∧ Below w0.heap.size w0 wr) (fun n _ => c - (intOf n).toNat)
  case atStart => exact ⟨k0, cur0, hm1, HM0, rfl, HF0, hg2, hb2⟩
  case round =>
    clear hg2 hb2 HF0 HM0 hm1
    obtain ⟨k, cur, hk, HK, rfl, HF, HG, hb⟩ := hrel
    by_cases hlt : k < c
    · have hkp : 0 < k := Nat.pos_of_ne_zero (fun h => by have := HK.out h; omega)
      obtain ⟨m, hm⟩ : ∃ m, m = Nat.min k (c - k) := ⟨_, rfl⟩
      have hm1 : m ≤ k := by rw [hm]; exact Nat.min_le_left _ _
      have hm2 : m ≤ c - k := by rw [hm]; exact Nat.min_le_right _ _
      have hm3 : 0 < m := by rw [hm]; exact Nat.lt_min.2 ⟨hkp, by omega⟩
      have hmc : k + m ≤ c := by omega
      have HMM := Lib.hid hm
      clear hm
      have hwk : IntKind.i64.wrap ((k : Int) + m) = k + m := IntWalk.i64_in _ (by omega)
      have HWK := Lib.hid hwk
      clear hwk
      have hsrc : ∀ j u, (List.replicate m (Value.int .i64 (-1)))[j]? = some u → wr.drew.cell? ((⟨w0.heap.size, 0, none⟩ : Addr).add j) = some u := fun j u hj => by
        rw [List.getElem?_replicate] at hj
        split at hj
        · rename_i hjl
          cases hj
          have hjk : j < k := by omega
          have e : (⟨w0.heap.size, 0, none⟩ : Addr).add j = ⟨w0.heap.size, j, none⟩ := by unfold Addr.add; split <;> simp_all
          rw [e]
          show wr.cell? _ = _
          simp [World.cell?, HG.out]
          have := HF.out.2 j hjk
          simpa using this
        · cases hj
      have HS := Lib.hid hsrc
      clear hsrc
      go_wp2
      refine wp_region_any (by kernel_rfl) ?_
      refine wpAny_take_d 0 (some 38) (.int .i64 k) rfl rfl (by kernel_rfl) (by kernel_rfl) (by kernel_rfl) (fun _ _ _ h => h) (by rfl) (fun w => by go_simp) ?_
      simp only [Act.put, List.setIfInBounds_toArray, List.set_cons_zero, List.set_cons_succ]
      refine wpAny_take_d 1 (some 39) (.slice (some ⟨w0.heap.size, 0, none⟩) c c) rfl rfl (by kernel_rfl) (by kernel_rfl) (by kernel_rfl) (fun _ _ _ h => h) (by rfl) (fun w => by go_simp) ?_
      simp only [Act.put, List.setIfInBounds_toArray, List.set_cons_zero, List.set_cons_succ]
      refine wpAny_take_d 2 (some 40) (.int .i64 k) rfl rfl (by kernel_rfl) (by kernel_rfl) (by kernel_rfl) (fun _ _ _ h => h) (by rfl) (fun w => by go_simp) ?_
      simp only [Act.put, List.setIfInBounds_toArray, List.set_cons_zero, List.set_cons_succ]
      refine wpAny_take_d 3 (some 41) (.slice (some ⟨w0.heap.size, k, none⟩) (c - k) (c - k)) rfl rfl (by kernel_rfl) (by kernel_rfl) (by kernel_rfl) (fun _ _ _ h => h) (by rfl) (fun w => by go_simp; omega) ?_
      simp only [Act.put, List.setIfInBounds_toArray, List.set_cons_zero, List.set_cons_succ]
      refine wpAny_take_d 4 (some 42) (.slice (some ⟨w0.heap.size, 0, none⟩) c c) rfl rfl (by kernel_rfl) (by kernel_rfl) (by kernel_rfl) (fun _ _ _ h => h) (by rfl) (fun w => by go_simp) ?_
      simp only [Act.put, List.setIfInBounds_toArray, List.set_cons_zero, List.set_cons_succ]
      refine wpAny_take_d 5 (some 43) (.int .i64 k) rfl rfl (by kernel_rfl) (by kernel_rfl) (by kernel_rfl) (fun _ _ _ h => h) (by rfl) (fun w => by go_simp) ?_
      simp only [Act.put, List.setIfInBounds_toArray, List.set_cons_zero, List.set_cons_succ]
      refine wpAny_take_d 6 (some 44) (.slice (some ⟨w0.heap.size, 0, none⟩) k c) rfl rfl (by kernel_rfl) (by kernel_rfl) (by kernel_rfl) (fun _ _ _ h => h) (by rfl) (fun w => by go_simp) ?_
      simp only [Act.put, List.setIfInBounds_toArray, List.set_cons_zero, List.set_cons_succ]
      refine wpAny_one 7 (by kernel_rfl) rfl (by rfl) ?_
      refine wpop_copy (cur := cur) (cs := List.replicate m (.int .i64 (-1))) (g := w0.heap.size) (off := k) (B := w0.heap.size) (w0 := w0) (t := 3) (elem := 3) (dT := 69) (sT := 69) (dp := some ⟨w0.heap.size, k, none⟩) (sp := some ⟨w0.heap.size, 0, none⟩) (dLen := c - k) (dCap := c - k) (sLen := k) (sCap := c) (some 45) rfl ?_ (.tmp 41) (.tmp 44) ?_ ?_ ?_ ?_ ?_ ?_ ?_ ?_ ?_ ?_ ?_ ?_ ?_
      · rfl
      · rfl
      · exact Try.underlying69
      · exact hsz
      · rfl
      · rfl
      · exact HG.out
      · rw [List.length_replicate]; exact HMM.out
      · exact fun h => ⟨rfl, _, rfl, HS.out⟩
      · rw [HF.out.1, List.length_replicate]; exact hmc
      · intro v hv; rw [List.eq_of_mem_replicate hv]; rfl
      · exact hb.drew
      · exact Nat.le_refl _
      intro w4 hg4 hb4
      rw [List.length_replicate]
      simp only [Act.put, List.setIfInBounds_toArray, List.set_cons_zero, List.set_cons_succ]
      have hF4 := Lib.hid (full_splice HF.out hmc)
      have hwk := HWK.out
      refine wpAny_take_d 8 (some 46) (.int .i64 ((k : Int) + m)) rfl rfl (by kernel_rfl) (by kernel_rfl) (by kernel_rfl) (fun _ _ _ h => h) (by rfl) (fun w => by go_simp) ?_
      simp only [Act.put, List.setIfInBounds_toArray, List.set_cons_zero, List.set_cons_succ]
      refine wpAny_take_d 9 (some 8) (.int .i64 ((k : Int) + m)) rfl rfl (by kernel_rfl) (by kernel_rfl) (by kernel_rfl) (fun _ _ _ h => h) (by rfl) (fun w => by go_simp) ?_
      simp only [Act.put, List.setIfInBounds_toArray, List.set_cons_zero, List.set_cons_succ]
      refine wpAny_done (by kernel_rfl) ?_ _
      clear hwk
      go_roundw
      case rel => exact ⟨_, _, _, _, _, _, _, _, _, _, _, _, _, _, ⟨k + m, _, hmc, Lib.hid (by omega), by go_num, hF4, hg4, hb4⟩, rfl⟩
      case measure => simp [intOf]; omega
    · obtain rfl : k = c := by omega
      go_wp2
      go_ret
      exact rep_end HF.out HG.out hb (Nat.le_refl _) (by unfold maxLen; omega)
end Go.Proofs.Ytahgapkecabnjaa
/- The walk of mem.New. -/
namespace Go.Proofs.Ytahgapkecabnjaa
set_option linter.unusedSimpArgs false
set_option linter.unusedVariables false
open Go Go.RowKit

def newM (words locks : Int) : M := ⟨List.replicate (nearM words).toNat 0, List.replicate (nearM locks).toNat (-1), []⟩

def NewPost (w : World) (m : M) (e : Ending) (w' : World) : Prop := ∃ g F, e = .returned (.pointer (some ⟨g, 0, none⟩)) ∧ Mem w' g F m ∧ Below w.heap.size w w' ∧ (∀ i, F i → w.heap.size ≤ i)

theorem nearM_nat (n : Int) : ∃ j : Nat, nearM n = j ∧ j ≤ 8192 := by
  have := nearM_bd n
  obtain ⟨j, hj⟩ := Int.eq_ofNat_of_zero_le this.1
  exact ⟨j, hj, by omega⟩
theorem near_nat (n : Int) (j : Nat) (w : World) (h : nearM n = j) :
    Calls Try.prog 29 #[.int .i64 n] w fun e w' => e = .returned (.int .i64 j) ∧ w' = w := by rw [← h]; exact nearM_any n w


theorem row_below {w w' : World} {e : TypeId} {size n : Nat} {v : Value} {xs : List Value} (h : Row w e size v n xs) (hb : Below w.heap.size w w') : Row w' e size v n xs :=
  row_of_block h fun b hb' => hb.block b (row_lt h hb')

theorem row_made (W : World) (n : Nat) (hn : n ≤ 8192) : Row (W.alloc (.cells (madeCells #[.int .u64 0] n) 93)) 93 1 (.slice (some ⟨W.heap.size, 0, none⟩) n n) n (List.replicate n (.int .u64 0)) :=
  ⟨by simp, .inr ⟨W.heap.size, n, _, rfl, Nat.zero_le _, (MapKept.heap_alloc W _).1, Nat.le_refl _, by unfold maxLen; omega, by rw [size_madeCells]; omega, by rw [toList_madeCells_one]; simp⟩⟩

theorem new_close {w W : World} {words locks : Int} {a b : Nat} {vw vl : Value} (ea : nearM words = a) (eb : nearM locks = b) (hw : Row W 93 1 vw a (List.replicate a (.int .u64 0))) (hl : Row W 3 1 vl b (List.replicate b (.int .i64 (-1))))
    (hB : Below w.heap.size w W) (fw : ∀ i, vw.ownBlock = some i → w.heap.size ≤ i) (fl : ∀ i, vl.ownBlock = some i → w.heap.size ≤ i) :
    NewPost w (newM words locks) (.returned (.pointer (some ⟨W.heap.size, 0, none⟩))) (W.alloc (.cells #[vw, vl, .slice none 0 0] 72)) := by
  refine ⟨W.heap.size, _, rfl, ⟨vw, vl, .slice none 0 0, ⟨(MapKept.heap_alloc W _).1, ?_, ?_, row_nil _ _ _⟩, rfl⟩, hB.alloc hB.size _, ?_⟩
  · have : (newM words locks).W = List.replicate a 0 := by simp [newM, ea]
    rw [this]; simpa using hw.alloc _
  · have : (newM words locks).L = List.replicate b (-1) := by simp [newM, eb]
    rw [this]; simpa using hl.alloc _
  · rintro i (rfl | h | h | h)
    · exact hB.size
    · exact fw i h
    · exact fl i h
    · cases h

theorem new_a1 {w w1 : World} {words locks : Int} {a b : Nat} {vl : Value} {o : Obj} (ea : nearM words = a) (eb : nearM locks = b) (ha : a ≤ 8192)
    (hB : Below ((w.alloc (.cells (madeCells #[.int .u64 0] a) 93)).alloc o).drew.heap.size ((w.alloc (.cells (madeCells #[.int .u64 0] a) 93)).alloc o).drew w1) (hl : Row w1 3 1 vl b (List.replicate b (.int .i64 (-1))))
    (hfr : ∀ i, vl.ownBlock = some i → ((w.alloc (.cells (madeCells #[.int .u64 0] a) 93)).alloc o).drew.heap.size ≤ i) :
    NewPost w (newM words locks) (.returned (.pointer (some ⟨w1.heap.size, 0, none⟩))) (w1.alloc (.cells #[.slice (some ⟨w.heap.size, 0, none⟩) a a, vl, .slice none 0 0] 72)) := by
  have hr : Row ((w.alloc (.cells (madeCells #[.int .u64 0] a) 93)).alloc o).drew 93 1 (.slice (some ⟨w.heap.size, 0, none⟩) a a) a (List.replicate a (.int .u64 0)) := (row_made w a ha).alloc o
  have h0 : Below w.heap.size w ((w.alloc (.cells (madeCells #[.int .u64 0] a) 93)).alloc o).drew := (((Below.refl _ w).alloc (Nat.le_refl _) _).alloc (by simp) _).drew
  exact new_close ea eb (row_below hr hB) hl (h0.trans (hB.mono h0.size)) (fun i e => by cases e; exact Nat.le_refl _) (fun i e => Nat.le_trans h0.size (hfr i e))

theorem new_a2 {w w1 : World} {words locks : Int} {a b : Nat} {vl : Value} {o : Obj} (ea : nearM words = a) (eb : nearM locks = b) (ha : a ≤ 8192)
    (hB : Below ((w.alloc o).alloc (.cells (madeCells #[.int .u64 0] a) 93)).drew.heap.size ((w.alloc o).alloc (.cells (madeCells #[.int .u64 0] a) 93)).drew w1) (hl : Row w1 3 1 vl b (List.replicate b (.int .i64 (-1))))
    (hfr : ∀ i, vl.ownBlock = some i → ((w.alloc o).alloc (.cells (madeCells #[.int .u64 0] a) 93)).drew.heap.size ≤ i) :
    NewPost w (newM words locks) (.returned (.pointer (some ⟨w1.heap.size, 0, none⟩))) (w1.alloc (.cells #[.slice (some ⟨w.heap.size + 1, 0, none⟩) a a, vl, .slice none 0 0] 72)) := by
  have hs : (w.alloc o).heap.size = w.heap.size + 1 := by simp
  have hr : Row ((w.alloc o).alloc (.cells (madeCells #[.int .u64 0] a) 93)).drew 93 1 (.slice (some ⟨w.heap.size + 1, 0, none⟩) a a) a (List.replicate a (.int .u64 0)) := by
    rw [← hs]; exact row_made (w.alloc o) a ha
  have h0 : Below w.heap.size w ((w.alloc o).alloc (.cells (madeCells #[.int .u64 0] a) 93)).drew := (((Below.refl _ w).alloc (Nat.le_refl _) _).alloc (by simp) _).drew
  exact new_close ea eb (row_below hr hB) hl (h0.trans (hB.mono h0.size)) (fun i e => by cases e; exact Nat.le_succ _) (fun i e => Nat.le_trans h0.size (hfr i e))

theorem new_b {w w1 : World} {words locks : Int} {a b : Nat} {vl : Value} {o : Obj} (ea : nearM words = a) (eb : nearM locks = b) (ha : a ≤ 8192)
    (hB : Below (w.alloc o).drew.heap.size (w.alloc o).drew w1) (hl : Row w1 3 1 vl b (List.replicate b (.int .i64 (-1))))
    (hfr : ∀ i, vl.ownBlock = some i → (w.alloc o).drew.heap.size ≤ i) :
    NewPost w (newM words locks) (.returned (.pointer (some ⟨w1.heap.size + 1, 0, none⟩))) ((w1.alloc (.cells (madeCells #[.int .u64 0] a) 93)).alloc (.cells #[.slice (some ⟨w1.heap.size, 0, none⟩) a a, vl, .slice none 0 0] 72)) := by
  have hs : (w1.alloc (.cells (madeCells #[.int .u64 0] a) 93)).heap.size = w1.heap.size + 1 := by simp
  have h0 : Below w.heap.size w (w.alloc o).drew := ((Below.refl _ w).alloc (Nat.le_refl _) _).drew
  have h1 : Below w.heap.size w w1 := h0.trans (hB.mono h0.size)
  have := new_close (w := w) (W := w1.alloc (.cells (madeCells #[.int .u64 0] a) 93)) ea eb (row_made w1 a ha) (hl.alloc _) (h1.alloc h1.size _) (fun i e => by cases e; exact h1.size) (fun i e => Nat.le_trans h0.size (hfr i e))
  rwa [hs] at this

set_option maxHeartbeats 4000000 in
set_option maxRecDepth 100000 in
theorem new_any (words locks : Int) (w : World) :
    Calls Try.prog 6 #[.int .i64 words, .int .i64 locks] w (NewPost w (newM words locks)) := by
  obtain ⟨a, ea, ha⟩ := nearM_nat words
  obtain ⟨b, eb, hb⟩ := nearM_nat locks
  have EA := Lib.hid ea
  have EB := Lib.hid eb
  clear ea eb
  have hmk : ∀ W : World, (Instr.makeSlice 64 (.int .i64 (a : Int)) (.int .i64 (a : Int))).run Try.prog W = .ok (.slice (some ⟨W.heap.size, 0, none⟩) a a) (W.alloc (.cells (madeCells #[.int .u64 0] a) 93)) := fun W => by
    obtain ⟨i0, hi, hz0, hz1, hz2⟩ := info_parts u64Info
    exact run_make_row (P := Try.prog) 64 93 i0 (.int .u64 0) Try.underlying64 hi hz0 hz1 rfl .i64 .i64 a (by rw [hz2]; omega) (by omega) W
  go_enter Try.func6, Try.ntmps6
  go_wp2_with fail
  go_region_with (first
    | (go_at_call_of 29 words; refine (near_nat words a _ EA.out).mono ?_; rintro e w1 ⟨rfl, rfl⟩)
    | (go_at_call_of 29 locks; refine (near_nat locks b _ EB.out).mono ?_; rintro e w1 ⟨rfl, rfl⟩)
    | (go_at_call 30; refine (repeat_any _ b _ hb (by simp)).mono ?_; rintro e w1 ⟨u, rfl, hu, hB, hfr⟩; obtain ⟨ua, uc, rfl, _⟩ := row_form hu))
  all_goals
    go_wp2
    go_ret
    first
      | exact new_a1 EA.out EB.out ha hB hu hfr
      | exact new_a2 EA.out EB.out ha hB hu hfr
      | exact new_b EA.out EB.out ha hB hu hfr
end Go.Proofs.Ytahgapkecabnjaa
