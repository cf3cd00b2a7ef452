/- maps.Keys over a stripe of a table: the iterator's contract. Printed by gen_tit.py. -/
import Derived.Test.YtahgapkecabnjaaC02
import Derived.Maps.AppendAt
import Derived.Below
import Derived.Deep.OwnRows
import Derived.OwnWalk
import Derived.WalkKit
import Derived.Deep.Draws
import Derived.Test.YtahgapkecabnjaaProg
import Derived.Test.YtahgapkecabnjaaC01
import Derived.Lib.Hide
import Derived.Outline
import Derived.KernelRfl
import Derived.Laws.Tables
import Derived.BigQuiet
import Derived.Deep.RegionLaw
import Derived.LoopTactic
import Derived.Test.YtahgapkecabnjaaC00
namespace Go.Proofs.Ytahgapkecabnjaa
set_option linter.unusedSimpArgs false
set_option linter.unusedVariables false
open Go Go.RowKit Go.Maps Go.Shelf Go.Sort
attribute [local go_sem] Oper.semAt_some

set_option maxRecDepth 100000 in
set_option maxHeartbeats 4000000 in
theorem tkeysIter_in {β : Type} (F : Fence) (n : Nat) (h83 : F.fn 53) (hro : F.round = none) (hn : 1 ≤ n) (l Bm b : Nat) (ev : β → Value) (fl : Kl β) (f : Value → Option Value) (J Jx : List Ky → World → Prop)
    (hY : ∀ pre x W, J pre W → pre.length < fl.length → YieldAt F (n - 1) Try.prog l #[kyV x] W fun e W' =>
      (e = .returned (.bool true) ∧ J (pre ++ [x]) W' ∧ KeepsWalks W W') ∨ (e = .returned (.bool false) ∧ Jx (pre ++ [x]) W'))
    (W : World) (hJ : AbidesFrom W.heap.size J) (hm : W.cell? ⟨Bm, 0, none⟩ = some (.map (some b))) (hfl : FlowsAt W b ev fl f) (h0 : J [] W) :
    CallsIn F n Try.prog 53 #[.func (.yield l) #[] #[], .pointer (some ⟨Bm, 0, none⟩)] W fun e W' => (∃ v, e = .returned v) ∧
      ((∃ ss : List Ky, (ss.Nodup ∧ ∀ k, k ∈ ss ↔ k ∈ keysL fl) ∧ J ss W') ∨ (∃ pre : List Ky, True ∧ Jx pre W')) := by
  refine callsIn_of_wp Try.func53 rfl h83 ?_ hro
  simp only [Try.ntmps53, List.size_toArray, List.length_cons, List.length_nil, Nat.reduceAdd, Nat.reduceSub, Array.replicate_succ, Array.replicate_zero, List.push_toArray, List.append_toArray, List.nil_append, List.cons_append]
  gi_wp2_with (first
    | (gi_at_range; refine wpListIn_range_map rfl _ 76 rfl 28 81 Try.underlying76 b f rfl hfl.is ?_; intro w0 hrg0 hg0 hs0)
    | gi_in)
  go_frame
  gi_loopw [3] (fun _ wr => ∃ ss : List Ky, Ranging wr Try.prog 28 b W.heap.size f (ss.map kyV) ∧ J ss wr)
    (fun _ wr => wr.rangeLeft b W.heap.size)
  case atStart =>
    exact ⟨[], hrg0, hJ [] W w0 none h0 hg0 (fun r e => by cases e)⟩
  case round =>
    obtain ⟨ss, hrg, hJs⟩ := hrel
    have hnd : ss.Nodup := by
      obtain ⟨_, _, _, _, _, _, _, _, _, _, _, hn, _⟩ := hrg
      exact List.Pairwise.imp (fun h e => h (by rw [e])) (List.pairwise_map.1 hn)
    gi_wp2_with (first
      | (gi_at_next; refine wpListIn_next_map rfl _ rfl 28 kyV b W.heap.size f hfl.only _ rfl hrg ?_ ?_)
      | gi_in)
    · -- nothing is left
      intro hall
      gi_wp2
      go_end0
      refine ⟨⟨_, rfl⟩, .inl ⟨ss, ⟨hnd, fun k => ?_⟩, hJs⟩⟩
      rw [← came_iff hfl.get]
      constructor
      · intro hk
        exact hrg.sub _ (List.mem_map.2 ⟨k, hk, rfl⟩)
      · rintro ⟨x, hx⟩
        obtain ⟨k', hk', e⟩ := hall _ x hx
        rw [← kyV_inj e]; exact hk'
    · -- an entry has come: yield(k)
      intro x c w2 hf hnew hrg2 hlt hg2 hs2 hen
      have hJ2 : J ss w2 := hJ ss wr w2 (some W.heap.size) hJs hg2 (fun r e => by cases e; exact ⟨Nat.le_refl _, hrg.iter_walk⟩)
      have hle : ss.length < fl.length := by
        have h1 : (ss ++ [x]).Nodup := by
          refine List.nodup_append.2 ⟨hnd, by simp, fun a ha c hc => ?_⟩
          simp at hc; subst hc
          intro e
          subst e
          first | exact hnew (List.mem_map.2 ⟨_, ha, rfl⟩) | exact hnew _ ha rfl
        have := came_le hfl.get h1 (fun k hk => hrg2.sub _ (by rw [show ss.map kyV ++ [kyV x] = (ss ++ [x]).map kyV by simp]; exact List.mem_map.2 ⟨k, hk, rfl⟩))
        simp at this; omega
      clear hs2
      have hJ3 : J ss (w2.alloc (.cells (kyC x) 28)) := hJ ss w2 _ none hJ2 (World.grownBy_alloc w2 _ none) (fun r e => by cases e)
      have hW : KeepsWalks w2 (w2.alloc (.cells (kyC x) 28)) := KeepsWalks.alloc _ _
      obtain ⟨fn, tmps, assign, body, hy, hR⟩ := hY ss x _ hJ3 hle
      obtain ⟨a0, a1, p0, p1, pr⟩ := x
      simp only [kyV, kyC] at hy hen hW
      unfold kyV kyC
      gi_wp2
      refine hR.mono ?_
      rintro e W3 (⟨rfl, hJ4, hk3⟩ | ⟨rfl, hJx3⟩)
      · gi_wp2
        have hrg3 := hrg2.of_walks (hW.trans hk3)
        go_roundw
        case rel => exact ⟨ss ++ [⟨a0, a1, p0, p1, pr⟩], by simpa using hrg3, hJ4⟩
        case measure => rw [hrg2.left_walks (hW.trans hk3)]; exact hlt
      · gi_wp2
        refine bodyPost_ret (results_none rfl _ _ _) rfl ?_
        exact ⟨⟨_, rfl⟩, .inr ⟨_, trivial, hJx3⟩⟩
/-- maps.Keys over flows hands back an iterator of the flows' keys. -/
theorem tkeys_stops {β : Type} (F : Fence) (n : Nat) (h83 : F.fn 53) (hro : F.round = none) (hn : 1 ≤ n) (Bm b : Nat) (ev : β → Value) (fl : Kl β) (f : Value → Option Value) (w : World) (hBm : Bm < w.heap.size)
    (hm : w.cell? ⟨Bm, 0, none⟩ = some (.map (some b))) (hfl : FlowsAt w b ev fl f) :
    SeqStopsK F n Try.prog 53 #[.pointer (some ⟨Bm, 0, none⟩)] (fun x : Ky => #[kyV x]) KeepsWalks (fun ss => ss.Nodup ∧ ∀ k, k ∈ ss ↔ k ∈ keysL fl) (fun _ => True) fl.length w := fun l J Jx W hW hJ _ hY h0 =>
  tkeysIter_in F n h83 hro hn l Bm b ev fl f J Jx hY W hJ ((hW.cell (p := ⟨Bm, 0, none⟩) hBm).trans hm) (hfl.of_block (hW.block b hfl.is.lt)) h0
set_option maxHeartbeats 1000000 in
/-- maps.Keys(m): the map is boxed; the function value captures the box. -/
theorem tkeys_in (F : Fence) (n : Nat) (h50 : F.fn 36) (hro : F.round = none) (mb : Option Nat) (w : World) :
    CallsIn F n Try.prog 36 #[.map mb] w fun e w' => e = .returned (.func (.func 53) #[] #[.pointer (some ⟨w.heap.size, 0, none⟩)]) ∧ w' = w.alloc (.cells #[.map mb] 76) := by
  refine callsIn_of_wp Try.func36 rfl h50 ?_ hro
  simp only [Try.ntmps36, List.size_toArray, List.length_cons, List.length_nil, Nat.reduceAdd, Nat.reduceSub, Array.replicate_succ, Array.replicate_zero, List.push_toArray, List.append_toArray, List.nil_append, List.cons_append]
  gi_wp2
  go_ret
  exact ⟨rfl, rfl⟩
end Go.Proofs.Ytahgapkecabnjaa
/- The table's comparison of keys; the library's sort by it; sorted. Printed by gen_tit.py. -/
namespace Go.Proofs.Ytahgapkecabnjaa
set_option linter.unusedSimpArgs false
set_option linter.unusedVariables false
open Go Go.RowKit Go.Maps Go.Shelf Go.Sort
attribute [local go_sem] Oper.semAt_some

set_option maxHeartbeats 16000000 in
set_option maxRecDepth 100000 in
theorem cmpT_any (x y : Ky) (w : World) :
    Calls Try.prog 55 #[kyV x, kyV y] w fun e w' => e = .returned (.int .i64 (cfK x y)) ∧ Grew w w' := by
  have C1 := Lib.hid (fun W => less_any x y W)
  have C2 := Lib.hid (fun W => less_any y x W)
  have HR : Hid (cfK x y = if lessK x y = true then -1 else if lessK y x = true then 1 else 0) := Lib.hid rfl
  generalize cfK x y = res at *
  obtain ⟨a0, a1, p0, p1, pr⟩ := x
  obtain ⟨b0, b1, q0, q1, qr⟩ := y
  unfold kyV kyC at *
  generalize lessK ⟨a0, a1, p0, p1, pr⟩ ⟨b0, b1, q0, q1, qr⟩ = r1 at *
  generalize lessK ⟨b0, b1, q0, q1, qr⟩ ⟨a0, a1, p0, p1, pr⟩ = r2 at *
  go_enter Try.func55, Try.ntmps55
  go_wp2_with fail
  have HG : Hid (Grew w ((w.alloc (.cells #[.int .u32 a0, .int .u32 a1, .int .u16 p0, .int .u16 p1, .int .u8 pr] 28)).alloc (.cells #[.int .u32 b0, .int .u32 b1, .int .u16 q0, .int .u16 q1, .int .u8 qr] 28))) := Lib.hid (((Grew.refl w).alloc _).alloc _)
  have xk0 : ((w.alloc (.cells #[.int .u32 a0, .int .u32 a1, .int .u16 p0, .int .u16 p1, .int .u8 pr] 28)).alloc (.cells #[.int .u32 b0, .int .u32 b1, .int .u16 q0, .int .u16 q1, .int .u8 qr] 28)).cell? ⟨w.heap.size, 0, none⟩ = some (.int .u32 a0) := by simp
  have xm0 : ((w.alloc (.cells #[.int .u32 a0, .int .u32 a1, .int .u16 p0, .int .u16 p1, .int .u8 pr] 28)).alloc (.cells #[.int .u32 b0, .int .u32 b1, .int .u16 q0, .int .u16 q1, .int .u8 qr] 28)).cell? ⟨w.heap.size + 1, 0, none⟩ = some (.int .u32 b0) := by simp
  have xk1 : ((w.alloc (.cells #[.int .u32 a0, .int .u32 a1, .int .u16 p0, .int .u16 p1, .int .u8 pr] 28)).alloc (.cells #[.int .u32 b0, .int .u32 b1, .int .u16 q0, .int .u16 q1, .int .u8 qr] 28)).cell? ⟨w.heap.size, 1, none⟩ = some (.int .u32 a1) := by simp
  have xm1 : ((w.alloc (.cells #[.int .u32 a0, .int .u32 a1, .int .u16 p0, .int .u16 p1, .int .u8 pr] 28)).alloc (.cells #[.int .u32 b0, .int .u32 b1, .int .u16 q0, .int .u16 q1, .int .u8 qr] 28)).cell? ⟨w.heap.size + 1, 1, none⟩ = some (.int .u32 b1) := by simp
  have xk2 : ((w.alloc (.cells #[.int .u32 a0, .int .u32 a1, .int .u16 p0, .int .u16 p1, .int .u8 pr] 28)).alloc (.cells #[.int .u32 b0, .int .u32 b1, .int .u16 q0, .int .u16 q1, .int .u8 qr] 28)).cell? ⟨w.heap.size, 2, none⟩ = some (.int .u16 p0) := by simp
  have xm2 : ((w.alloc (.cells #[.int .u32 a0, .int .u32 a1, .int .u16 p0, .int .u16 p1, .int .u8 pr] 28)).alloc (.cells #[.int .u32 b0, .int .u32 b1, .int .u16 q0, .int .u16 q1, .int .u8 qr] 28)).cell? ⟨w.heap.size + 1, 2, none⟩ = some (.int .u16 q0) := by simp
  have xk3 : ((w.alloc (.cells #[.int .u32 a0, .int .u32 a1, .int .u16 p0, .int .u16 p1, .int .u8 pr] 28)).alloc (.cells #[.int .u32 b0, .int .u32 b1, .int .u16 q0, .int .u16 q1, .int .u8 qr] 28)).cell? ⟨w.heap.size, 3, none⟩ = some (.int .u16 p1) := by simp
  have xm3 : ((w.alloc (.cells #[.int .u32 a0, .int .u32 a1, .int .u16 p0, .int .u16 p1, .int .u8 pr] 28)).alloc (.cells #[.int .u32 b0, .int .u32 b1, .int .u16 q0, .int .u16 q1, .int .u8 qr] 28)).cell? ⟨w.heap.size + 1, 3, none⟩ = some (.int .u16 q1) := by simp
  have xk4 : ((w.alloc (.cells #[.int .u32 a0, .int .u32 a1, .int .u16 p0, .int .u16 p1, .int .u8 pr] 28)).alloc (.cells #[.int .u32 b0, .int .u32 b1, .int .u16 q0, .int .u16 q1, .int .u8 qr] 28)).cell? ⟨w.heap.size, 4, none⟩ = some (.int .u8 pr) := by simp
  have xm4 : ((w.alloc (.cells #[.int .u32 a0, .int .u32 a1, .int .u16 p0, .int .u16 p1, .int .u8 pr] 28)).alloc (.cells #[.int .u32 b0, .int .u32 b1, .int .u16 q0, .int .u16 q1, .int .u8 qr] 28)).cell? ⟨w.heap.size + 1, 4, none⟩ = some (.int .u8 qr) := by simp
  generalize ((w.alloc (.cells #[.int .u32 a0, .int .u32 a1, .int .u16 p0, .int .u16 p1, .int .u8 pr] 28)).alloc (.cells #[.int .u32 b0, .int .u32 b1, .int .u16 q0, .int .u16 q1, .int .u8 qr] 28)) = wx at *
  generalize w.heap.size = n0 at *
  refine (C1.out _).mono ?_
  rintro e w1 ⟨rfl, hg1⟩
  have HS1 : Hid (Grew w w1) := Lib.hid (HG.out.trans hg1)
  have yk0 := hg1.cell xk0
  have ym0 := hg1.cell xm0
  have yk1 := hg1.cell xk1
  have ym1 := hg1.cell xm1
  have yk2 := hg1.cell xk2
  have ym2 := hg1.cell xm2
  have yk3 := hg1.cell xk3
  have ym3 := hg1.cell xm3
  have yk4 := hg1.cell xk4
  have ym4 := hg1.cell xm4
  clear hg1
  cases r1
  · go_wp2_with fail
    refine (C2.out _).mono ?_
    rintro e w2 ⟨rfl, hg2⟩
    have HS2 : Hid (Grew w w2) := Lib.hid (HS1.out.trans hg2)
    clear hg2
    cases r2
    · go_wp2_with fail
      go_ret
      exact ⟨by rw [HR.out]; rfl, HS2.out⟩
    · go_wp2_with fail
      go_ret
      exact ⟨by rw [HR.out]; rfl, HS2.out⟩
  · go_wp2_with fail
    go_ret
    exact ⟨by rw [HR.out]; rfl, HS1.out⟩
/-! ### Rows of keys -/
theorem cmpLaysT (blk off size : Nat) (w : World) : CmpLays Try.prog 55 #[] kyL 5 cfK blk off size w := fun m os dk hs x y => by
  refine (cmpT_any x y _).mono ?_
  rintro e w' ⟨rfl, q, os', rfl⟩
  exact ⟨rfl, q, os', rfl⟩
set_option maxHeartbeats 1000000 in
theorem tsortFunc_any (B : Nat) (v : Value) (ss : List Ky) (w : World) (hrow : w.ownsRow B 28 5 v ss.length (kysL ss)) (hB : B ≤ w.heap.size) (hN : ss.length ≤ 1000000) :
    Calls Try.prog 54 #[v, .func (.func 55) #[] #[]] w fun e w' => e = .returned (.tuple #[]) ∧ w'.ownsRow B 28 5 v ss.length (kysL (sortL ss)) ∧ Below B w w' := by
  have hrow' := hrow
  rcases hrow.2 with ⟨rfl, hz⟩ | ⟨gb, cap, cur, rfl, hbase, hgb, r1, r2, r3, r4⟩
  · have hss : ss = [] := List.eq_nil_of_length_eq_zero hz
    subst hss
    refine (AnyF.slices_SortFunc_none (P := Try.prog) (ρ := Try.sortK_ren) Try.sortK none 0 _ w).mono ?_
    rintro e w' ⟨rfl, rfl⟩
    exact ⟨rfl, by simpa [sortL] using hrow', Below.refl _ _⟩
  · have eg : ∀ args w, (callFunc 55 args).run Try.prog w = .ok (.enter 55 args) w := enters_of Try.func55 (by kernel_rfl) rfl
    have hH : HoldsK kyL 5 w gb 0 ss.toArray := holds_row hgb (by rw [flat_keys]; simpa using r4)
    have hgl : gb < w.heap.size := (Array.getElem?_eq_some_iff.1 hgb).1
    have hsz : ss.length < 4611686018427387904 := by omega
    have hc := AnyQ.slices_SortFunc_total Try.sortK 5 key_agg key_size kyL (fun _ => rfl) (fun x => kyL_one x) cfK swoK 55 #[] gb 0 cap ss.toArray w eg (cmpLaysT gb 0 _ w) hH hgl (by simpa using hsz) cfK_one
    refine (show Calls Try.prog 54 #[.slice (some ⟨gb, 0, none⟩) ss.length cap, .func (.func 55) #[] #[]] w _ from hc).mono ?_
    rintro e w' ⟨rfl, n, os, rfl⟩
    refine ⟨rfl, ownsRow_keys (by simp [sortL]) hbase hgb r1 r2 r3, ?_⟩
    exact (Below.refl _ w).grown (grownBy_row _) hB (fun j hj => by cases hj; exact hbase)

/-! ### Collect, SortedFunc, Clip, Auto.Keys -/
set_option maxHeartbeats 1000000 in
theorem sorted_any (B : Nat) (v : Value) (ss : List Ky) (w : World) (hrow : w.ownsRow B 28 5 v ss.length (kysL ss)) (hB : B ≤ w.heap.size) (hN : ss.length ≤ 1000000) :
    Calls Try.prog 37 #[v] w fun e w' => ∃ v', e = .returned v' ∧ KeysAt w' B v' (sortL ss) ∧ Below B w w' := by
  have HR := Lib.hid hrow
  have hl : (sortL ss).length = ss.length := by simp [sortL]
  have HL := Lib.hid hl
  clear hrow hl
  go_enter Try.func37, Try.ntmps37
  go_wp2_with fail
  refine (tsortFunc_any B v ss _ HR.out hB hN).mono ?_
  rintro e w1 ⟨rfl, hr1, hb1⟩
  have H1 := Lib.hid hr1
  have HB1 := Lib.hid hb1
  clear hr1 hb1
  go_wp2_with fail
  refine (clip_any B v (sortL ss) w1 (by rw [HL.out]; exact H1.out)).mono ?_
  rintro e w2 ⟨v', rfl, hk, rfl⟩
  have HK := Lib.hid hk
  clear hk
  go_wp2_with fail
  go_ret
  exact ⟨v', rfl, HK.out, HB1.out⟩
end Go.Proofs.Ytahgapkecabnjaa
/- What a call may change of memory: footprints; rows of a call's own under them. -/
namespace Go.Proofs.Ytahgapkecabnjaa
set_option linter.unusedSimpArgs false
set_option linter.unusedVariables false
open Go Go.RowKit

/-- Of what was there only blocks of F may have changed. -/
structure Turn (F : Nat → Prop) (w w' : World) : Prop where
  os : w'.os = w.os
  tape : w'.tape = w.tape
  output : w'.output = w.output
  size : w.heap.size ≤ w'.heap.size
  block : ∀ i, i < w.heap.size → ¬ F i → w'.heap[i]? = w.heap[i]?

theorem Turn.refl (F : Nat → Prop) (w : World) : Turn F w w := ⟨rfl, rfl, rfl, Nat.le_refl _, fun _ _ _ => rfl⟩
theorem Turn.trans {F G : Nat → Prop} {w w1 w2 : World} (h : Turn F w w1) (k : Turn G w1 w2) (hG : ∀ i, G i → F i ∨ w.heap.size ≤ i) : Turn F w w2 :=
  ⟨k.os.trans h.os, k.tape.trans h.tape, k.output.trans h.output, Nat.le_trans h.size k.size, fun i hi hf => (k.block i (Nat.lt_of_lt_of_le hi h.size) (fun hg => (hG i hg).elim hf (fun hle => by omega))).trans (h.block i hi hf)⟩
theorem Turn.mono {F G : Nat → Prop} {w w' : World} (h : Turn F w w') (hG : ∀ i, F i → G i) : Turn G w w' := ⟨h.os, h.tape, h.output, h.size, fun i hi hg => h.block i hi (fun hf => hg (hG i hf))⟩
theorem Turn.of_below {F : Nat → Prop} {w w' : World} (h : Below w.heap.size w w') : Turn F w w' := ⟨h.os, h.tape, h.output, h.size, fun i hi _ => h.block i hi⟩
theorem Turn.below {F : Nat → Prop} {w w' : World} {B : Nat} (h : Turn F w w') (hB : B ≤ w.heap.size) (hF : ∀ i, F i → B ≤ i) : Below B w w' :=
  ⟨h.os, h.tape, h.output, h.size, fun i hi => h.block i (by omega) (fun hf => by have := hF i hf; omega)⟩
theorem Turn.grown {F : Nat → Prop} {w w1 w2 : World} {row : Option Nat} (h : Turn F w w1) (k : w1.grownBy w2 row) (hr : ∀ b, row = some b → F b ∨ w.heap.size ≤ b) : Turn F w w2 :=
  ⟨k.os.trans h.os, k.tape.trans h.tape, k.output.trans h.output, Nat.le_trans h.size k.size, fun i hi hf => (k.block i (Nat.lt_of_lt_of_le hi h.size) (fun e => (hr i e.symm).elim hf (fun hle => by omega))).trans (h.block i hi hf)⟩
theorem Turn.alloc {F : Nat → Prop} {w w1 : World} (h : Turn F w w1) (o : Obj) : Turn F w (w1.alloc o) :=
  h.grown (World.grownBy_alloc w1 o none) (fun b e => by cases e)
theorem Turn.setCell {F : Nat → Prop} {w w1 : World} (h : Turn F w w1) (a : Addr) (v : Value) (ha : F a.block ∨ w.heap.size ≤ a.block) : Turn F w (w1.setCell a v) :=
  ⟨h.os, h.tape, h.output, by simpa [World.setCell] using h.size, fun i hi hf => by
    rw [Below.heap_setCell _ _ _ _ (fun e => by subst e; exact ha.elim hf (fun hle => by omega))]; exact h.block i hi hf⟩
theorem Turn.drew {F : Nat → Prop} {w w1 : World} (h : Turn F w w1) : Turn F w w1.drew := ⟨h.os, h.tape, h.output, h.size, h.block⟩
theorem Turn.drewN {F : Nat → Prop} {w w1 : World} (h : Turn F w w1) (n : Nat) : Turn F w (w1.drewN n) := ⟨h.os, h.tape, h.output, h.size, h.block⟩
theorem Turn.cell {F : Nat → Prop} {w w' : World} (h : Turn F w w') {a : Addr} {v : Value} (hc : w.cell? a = some v) (hf : ¬ F a.block) : w'.cell? a = some v :=
  (World.cell?_of_block (w := w) (h.block a.block (World.block_lt_of_cell? w a hc) hf)).trans hc

/-- A footprint that has grown by new blocks alone. -/
def Ext (w : World) (F F' : Nat → Prop) : Prop := ∀ i, F' i → F i ∨ w.heap.size ≤ i
def Sep (F G : Nat → Prop) : Prop := ∀ i, F i → ¬ G i
theorem Ext.refl (w : World) (F : Nat → Prop) : Ext w F F := fun _ h => .inl h
theorem Ext.trans {w w1 : World} {F G K : Nat → Prop} (h : Ext w F G) (k : Ext w1 G K) (hs : w.heap.size ≤ w1.heap.size) : Ext w F K := fun i hi => (k i hi).elim (h i) (fun hle => .inr (by omega))
theorem Sep.symm {F G : Nat → Prop} (h : Sep F G) : Sep G F := fun i hg hf => h i hf hg
theorem Sep.ext {w : World} {F F' G : Nat → Prop} (h : Sep F G) (k : Ext w F F') (hG : ∀ i, G i → i < w.heap.size) : Sep F' G := fun i hi hg => (k i hi).elim (fun hf => h i hf hg) (fun hle => by have := hG i hg; omega)
theorem Ext.base {w : World} {F F' : Nat → Prop} {B : Nat} (k : Ext w F F') (hB : B ≤ w.heap.size) (hF : ∀ i, F i → B ≤ i) : ∀ i, F' i → B ≤ i := fun i hi => (k i hi).elim (hF i) (fun hle => by omega)

/-! ### Rows -/
/-- Slice value v owns, in a block of its own, just the cells xs: n elements of type e, of 'size' cells. -/
abbrev Row (w : World) (e : TypeId) (size : Nat) (v : Value) (n : Nat) (xs : List Value) : Prop := w.ownsRow 0 e size v n xs

def rowFoot (v : Value) : Nat → Prop := fun i => v.ownBlock = some i

theorem row_of_block {w w' : World} {e : TypeId} {size n : Nat} {v : Value} {xs : List Value} (h : Row w e size v n xs) (hb : ∀ b, v.ownBlock = some b → w'.heap[b]? = w.heap[b]?) : Row w' e size v n xs := by
  refine ⟨h.1, ?_⟩
  rcases h.2 with h1 | ⟨g, cap, cur, rfl, h2, h3, h4⟩
  · exact .inl h1
  · exact .inr ⟨g, cap, cur, rfl, h2, (hb g rfl).trans h3, h4⟩
theorem row_lt {w : World} {e : TypeId} {size n : Nat} {v : Value} {xs : List Value} (h : Row w e size v n xs) {b : Nat} (hb : v.ownBlock = some b) : b < w.heap.size := by
  rcases h.2 with ⟨rfl, _⟩ | ⟨g, cap, cur, rfl, h2, h3, h4⟩
  · cases hb
  · cases hb
    exact (Array.getElem?_eq_some_iff.1 h3).1
theorem row_turn {F : Nat → Prop} {w w' : World} {e : TypeId} {size n : Nat} {v : Value} {xs : List Value} (h : Row w e size v n xs) (t : Turn F w w') (hF : ∀ b, v.ownBlock = some b → ¬ F b) : Row w' e size v n xs :=
  row_of_block h fun b hb => t.block b (row_lt h hb) (hF b hb)
theorem row_nil (w : World) (e : TypeId) (size : Nat) : Row w e size (.slice none 0 0) 0 [] := ⟨by simp, .inl ⟨rfl, rfl⟩⟩
theorem row_type {w : World} {e : TypeId} {size n : Nat} {v : Value} {xs : List Value} (h : Row w e size v n xs) {b : Nat} (hb : v.ownBlock = some b) : ∃ cur, w.heap[b]? = some (.cells cur e (0, 0)) := by
  rcases h.2 with ⟨rfl, _⟩ | ⟨g, cap, cur, rfl, h2, h3, h4⟩
  · cases hb
  · cases hb; exact ⟨cur, h3⟩
theorem row_len {w : World} {e : TypeId} {size n : Nat} {v : Value} {xs : List Value} (h : Row w e size v n xs) : n ≤ maxLen := by
  rcases h.2 with ⟨_, rfl⟩ | ⟨g, cap, cur, rfl, h2, h3, h4, h5, _⟩
  · exact Nat.zero_le _
  · omega
/-- The shape of the slice: what its cells hold. -/
theorem row_form {w : World} {e : TypeId} {size n : Nat} {v : Value} {xs : List Value} (h : Row w e size v n xs) : ∃ a c, v = .slice a n c ∧ (∀ j x, xs[j]? = some x → ∃ g, a = some ⟨g, 0, none⟩ ∧ w.cell? ⟨g, j, none⟩ = some x ∧ w.frozen? ⟨g, j, none⟩ = false) := by
  rcases h.2 with ⟨rfl, rfl⟩ | ⟨g, cap, cur, rfl, h2, h3, h4, h5, h6, h7⟩
  · refine ⟨none, 0, rfl, fun j x hj => ?_⟩
    have : xs = [] := List.eq_nil_of_length_eq_zero (by rw [h.1]; omega)
    subst this
    simp at hj
  · refine ⟨_, cap, rfl, fun j x hj => ⟨g, rfl, ?_, ?_⟩⟩
    · rw [← h7, List.getElem?_take] at hj
      split at hj
      · simp [World.cell?, h3]; simpa using hj
      · cases hj
    · simp [World.frozen?, h3]
/-- One cell of the row is written. -/
theorem row_set {w : World} {e : TypeId} {size n : Nat} {v : Value} {xs : List Value} (h : Row w e size v n xs) {g : Nat} (hg : v.ownBlock = some g) (j : Nat) (x : Value) (hj : j < xs.length) : Row (w.setCell ⟨g, j, none⟩ x) e size v n (xs.set j x) := by
  refine ⟨by rw [List.length_set]; exact h.1, ?_⟩
  rcases h.2 with ⟨rfl, _⟩ | ⟨g', cap, cur, rfl, h2, h3, h4, h5, h6, h7⟩
  · cases hg
  · cases hg
    refine .inr ⟨g', cap, cur.setIfInBounds j x, rfl, h2, ?_, h4, h5, by simpa using h6, ?_⟩
    · show (w.heap.modify g' _)[g']? = _
      rw [Array.getElem?_modify, if_pos rfl, h3]; rfl
    · rw [← h7, Array.toList_setIfInBounds, List.take_set]
/-- The cells of a new block, as the laws on append ask for them. -/
theorem cells_new (w : World) (l : List Value) (t : TypeId) : ∀ j u, l[j]? = some u → (w.alloc (.cells l.toArray t)).cell? ((⟨w.heap.size, 0, none⟩ : Addr).add j) = some u := by
  intro j u hj
  have e : (⟨w.heap.size, 0, none⟩ : Addr).add j = ⟨w.heap.size, j, none⟩ := by unfold Addr.add; split <;> simp_all
  rw [e]
  simp [hj]
theorem set_heap_row {w : World} {g o : Nat} {cs : Array Value} {T : TypeId} {fr : Nat × Nat} (h : w.heap[g]? = some (.cells cs T fr)) (v : Value) : (w.setCell ⟨g, o, none⟩ v).heap[g]? = some (.cells (cs.setIfInBounds o v) T fr) := by
  show (w.heap.modify g _)[g]? = _
  rw [Array.getElem?_modify, if_pos rfl, h]; rfl
end Go.Proofs.Ytahgapkecabnjaa
/- Slices of bytes that can be read; walk of field.Cut: a number as bytes. -/
namespace Go.Proofs.Ytahgapkecabnjaa
set_option linter.unusedSimpArgs false
set_option linter.unusedVariables false
open Go Go.RowKit

def byteC (l : List Nat) : List Value := l.map fun n => .int .u8 (n : Nat)
theorem byteC_append (l m : List Nat) : byteC (l ++ m) = byteC l ++ byteC m := by simp [byteC]
theorem byteC_len (l : List Nat) : (byteC l).length = l.length := by simp [byteC]
theorem byteC_one (l : List Nat) : ∀ u ∈ byteC l, u.oneCell' = true := by
  intro u hu
  obtain ⟨n, _, rfl⟩ := List.mem_map.1 hu
  rfl
/-- The slice reads as these bytes. -/
def RdB (w : World) (v : Value) (l : List Nat) : Prop := ∃ a c, v = .slice a l.length c ∧ l.length ≤ c ∧ (∀ ad, a = some ad → ∃ b o, ad = ⟨b, o, none⟩) ∧ ∀ j x, l[j]? = some x → ∃ b o, a = some ⟨b, o, none⟩ ∧ w.cell? ⟨b, o + j, none⟩ = some (.int .u8 (x : Nat))
theorem RdB.below {w w' : World} {v : Value} {l : List Nat} (h : RdB w v l) (k : Below w.heap.size w w') : RdB w' v l := by
  obtain ⟨a, c, rfl, h0, hp, h1⟩ := h
  refine ⟨a, c, rfl, h0, hp, fun j x hj => ?_⟩
  obtain ⟨b, o, e, h2⟩ := h1 j x hj
  exact ⟨b, o, e, (k.cell (World.block_lt_of_cell? w _ h2)).trans h2⟩
theorem RdB.nil (w : World) : RdB w (.slice none 0 0) [] := ⟨none, 0, rfl, Nat.le_refl _, (fun ad h => nomatch h), fun j x h => by simp at h⟩
/-- Bytes in a block of their own. -/
abbrev RowB (w : World) (v : Value) (l : List Nat) : Prop := Row w 5 1 v l.length (byteC l)
theorem RdB.of_row {w : World} {v : Value} {l : List Nat} {B : Nat} (h : w.ownsRow B 5 1 v l.length (byteC l)) : RdB w v l := by
  rcases h.2 with ⟨rfl, e⟩ | ⟨g, cap, cur, rfl, h2, h3, h4, h5, h6, h7⟩
  · have : l = [] := List.eq_nil_of_length_eq_zero e
    subst this
    exact RdB.nil w
  · refine ⟨_, cap, rfl, h4, fun ad h => ⟨g, 0, by cases h; rfl⟩, fun j x hj => ⟨g, 0, rfl, ?_⟩⟩
    have hb : (byteC l)[j]? = some (.int .u8 (x : Nat)) := by simp [byteC, hj]
    have hlt := (List.getElem?_eq_some_iff.1 hj).1
    rw [← h7, List.getElem?_take_of_lt (by omega)] at hb
    simp only [World.cell?, h3, Nat.zero_add]
    simpa using hb
theorem u8Info : (Try.prog.info? 5).map (fun i => (i.zero, i.size, i.bytes)) = some (some (.int .u8 0), 1, 1) := by kernel_rfl

/-- A nil slice is appended. -/
theorem run_append_nilx {P : Program} {w : World} {t ty e : TypeId} {i : TypeInfo} (ht : P.underlying t = some (.slice e)) (hi : P.info? e = some i) (a : Option Addr) (n c m : Nat) (hn : n ≤ c) :
    (Builtin.append_ #[t, t] ty #[.slice a n c, .slice none 0 m]).run P w = .ok (.slice a n c) w := by
  cases a <;> simp [Builtin.append_, run_underlying ht, sizeOf, typeInfo, hi, Builtin.lenOf, Builtin.firstCells, loadCells, loadCellsFrom, storeCells, hn]
theorem wpList_append_nilx {P : Program} {w : World} {ops : Array Oper} {rest : List Oper} {o : Oper} {a : Act} {Q : Exit → Act → World → Prop} (hgd : o.guard = none) (s x : Operand) (t : TypeId)
    (ho : o.op = .call { callee := .builtin .append, args := #[s, x], argTypes := #[t, t] }) {e : TypeId} {i : TypeInfo} (ht : P.underlying t = some (.slice e)) (hi : P.info? e = some i)
    (b : Option Addr) (n c m : Nat) (hs : a.eval s = .slice b n c) (hx : a.eval x = .slice none 0 m) (hn : n ≤ c) (h : wpList P ops Q rest (a.put o.dst (.slice b n c)) w) : wpList P ops Q (o :: rest) a w := by
  refine wpList_plain hgd fun K hK => ?_
  unfold Oper.wp execOp
  simp only [ho, resolve, invoke, builtin, Sem.run_bind, Sem.run_pure, Result.andThen_ok, List.map_toArray, List.map_cons, List.map_nil, hs, hx, run_append_nilx ht hi b n c m hn]
  exact hK _ _ h
theorem owns_cap {w : World} {B : Nat} {e : TypeId} {size n : Nat} {v : Value} {xs : List Value} (h : w.ownsRow B e size v n xs) : ∃ a c, v = .slice a n c ∧ n ≤ c := by
  rcases h.2 with ⟨rfl, rfl⟩ | ⟨g, cap, cur, rfl, h2, h3, h4, h5, h6, h7⟩
  · exact ⟨none, 0, rfl, Nat.le_refl _⟩
  · exact ⟨_, _, rfl, h4⟩

theorem own_base {w : World} {B : Nat} {e : TypeId} {size n : Nat} {v : Value} {xs : List Value} (h : w.ownsRow B e size v n xs) {b : Nat} (hb : v.ownBlock = some b) : B ≤ b := by
  rcases h.2 with ⟨rfl, rfl⟩ | ⟨g, cap, cur, rfl, h2, _⟩
  · cases hb
  · cases hb; exact h2

/-- A number as n bytes. -/
def cutF (v n : Nat) : List Nat := (List.range n).map fun i => v / 2 ^ (8 * (n - 1 - i)) % 256
theorem cutF_len (v n : Nat) : (cutF v n).length = n := by simp [cutF]
/-- The cells after k rounds. -/
def cutC (v n k : Nat) : List Value := (List.range n).map fun i => if i < k then .int .u8 ((v / 2 ^ (8 * (n - 1 - i)) % 256 : Nat) : Int) else .int .u8 0
theorem cutC_len (v n k : Nat) : (cutC v n k).length = n := by simp [cutC]
theorem cutC_zero (v n : Nat) : (madeCells #[Value.int .u8 0] n) = (cutC v n 0).toArray := by
  apply Array.ext
  · simp [madeCells, cutC]
  · intro i h1 h2
    simp [madeCells, cutC, Nat.mod_one] at *
theorem cutC_all (v n : Nat) : cutC v n n = byteC (cutF v n) := by
  apply List.ext_getElem?
  intro i
  simp [cutC, byteC, cutF]
  by_cases h : i < n
  · simp [h]
  · simp [h]
theorem cutC_set (v n k : Nat) (h : k < n) : (cutC v n k).set k (.int .u8 ((v / 2 ^ (8 * (n - 1 - k)) % 256 : Nat) : Int)) = cutC v n (k + 1) := by
  apply List.ext_getElem?
  intro i
  by_cases e : k = i
  · subst e
    rw [List.getElem?_set_self (by rw [cutC_len]; exact h)]
    simp [cutC, h]
  · rw [List.getElem?_set_ne e]
    simp only [cutC, List.getElem?_map]
    by_cases hi : i < n
    · rw [List.getElem?_range hi]
      simp only [Option.map_some]
      by_cases h1 : i < k
      · rw [if_pos h1, if_pos (by omega)]
      · rw [if_neg h1, if_neg (by omega)]
    · rw [List.getElem?_eq_none (by simp; omega)]
      rfl

def CutPost (w : World) (l : List Nat) (e : Ending) (w' : World) : Prop := ∃ u, e = .returned u ∧ w'.ownsRow w.heap.size 5 1 u l.length (byteC l) ∧ Below w.heap.size w w'
theorem cut_end {w w' : World} {g v n : Nat} (hg : w'.heap[g]? = some (.cells (cutC v n n).toArray 5 (0, 0))) (hb : Below w.heap.size w w') (hle : w.heap.size ≤ g) (hn : n ≤ 8) : CutPost w (cutF v n) (.returned (.slice (some ⟨g, 0, none⟩) n n)) w' := by
  refine ⟨_, rfl, ⟨by simp [byteC], .inr ⟨g, n, (cutC v n n).toArray, by rw [cutF_len], hle, hg, by rw [cutF_len]; exact Nat.le_refl _, ?_, by simp [cutC], ?_⟩⟩, hb⟩
  · unfold maxLen; omega
  · rw [cutC_all]
    rw [cutF_len, Nat.mul_one, List.take_of_length_le (by simp [byteC, cutF])]

set_option maxHeartbeats 4000000 in
set_option maxRecDepth 100000 in
theorem cut_any (v n : Nat) (w : World) (h1 : 1 ≤ n) (h8 : n ≤ 8) (hv : v < 18446744073709551616) :
    Calls Try.prog 74 #[.int .u64 (v : Nat), .int .i64 (n : Nat)] w (CutPost w (cutF v n)) := by
  obtain ⟨i0, hi, hz0, hz1, hz2⟩ := info_parts u8Info
  have hmk : ∀ (W : World), (Instr.makeSlice 121 (.int .i64 (n : Int)) (.int .i64 (n : Int))).run Try.prog W = .ok (.slice (some ⟨W.heap.size, 0, none⟩) n n) (W.alloc (.cells (madeCells #[.int .u8 0] n) 5)) := fun W => by
    exact run_make_row (P := Try.prog) 121 5 i0 (.int .u8 0) Try.underlying121 hi hz0 hz1 rfl .i64 .i64 n (by rw [hz2]; omega) (by omega) W
  go_enter Try.func74, Try.ntmps74
  go_wp2_with fail
  rw [cutC_zero v n]
  have hB0 : Below w.heap.size w (w.alloc (.cells (cutC v n 0).toArray 5)) := (Below.refl _ w).alloc (Nat.le_refl _) _
  have hg0 : (w.alloc (.cells (cutC v n 0).toArray 5)).heap[w.heap.size]? = some (.cells (cutC v n 0).toArray 5 (0, 0)) := (MapKept.heap_alloc w _).1
  obtain ⟨g, hgd⟩ : ∃ g, w.heap.size = g := ⟨_, rfl⟩
  have hle : w.heap.size ≤ g := by omega
  rw [hgd]
  rw [hgd] at hg0
  clear hmk hi hz0 hz1 hz2
  go_loopw [17] (fun i wr => ∃ y : Nat, y ≤ n ∧ i = .int .i64 (y : Nat) ∧ wr.heap[g]? = some (.cells (cutC v n y).toArray 5 (0, 0)) ∧ Below w.heap.size w wr) (fun i _ => n - (intOf i).toNat)
  case atStart => exact ⟨0, Nat.zero_le _, rfl, hg0, hB0⟩
  case round =>
    obtain ⟨y, hy, rfl, hg, hb⟩ := hrel
    have HB := Lib.hid hb
    have HG := Lib.hid hg
    clear hb hg0 hB0
    by_cases hyl : y < n
    · have hc : wr.cell? ⟨g, y, none⟩ = some (.int .u8 0) := by simp [World.cell?, hg, cutC, hyl]
      have hf : wr.frozen? ⟨g, y, none⟩ = false := by simp [World.frozen?, hg]
      have hset := cutC_set v n y hyl
      clear hg
      go_wp2_with fail
      have e : (Value.int IntKind.u8 ((v : Int) / 2 ^ (8 * (n - 1 - y)) % 256)) = .int .u8 ((v / 2 ^ (8 * (n - 1 - y)) % 256 : Nat) : Int) := by push_cast; rfl
      rw [e]
      refine ⟨⟨y + 1, by omega, by push_cast; rfl, ?_, ?_⟩, by simp [intOf]; omega⟩
      · rw [set_heap_row HG.out, List.setIfInBounds_toArray, hset]
      · exact HB.out.setCell (by show w.heap.size ≤ g; omega) _
    · have hyn : y = n := by omega
      subst hyn
      clear hg
      go_wp2_with fail
      go_ret
      exact cut_end HG.out HB.out hle h8
end Go.Proofs.Ytahgapkecabnjaa
/- Walks of slices.Grow at the nil slice of bytes and of slices.Concat at slices of bytes. -/
namespace Go.Proofs.Ytahgapkecabnjaa
set_option linter.unusedSimpArgs false
set_option linter.unusedVariables false
open Go Go.RowKit Go.Shelf

theorem zeroCells_size (z : Array Value) (n : Nat) (h : z.size = 1) : (Builtin.zeroCells z n).size = n := by
  simp [Builtin.zeroCells, h]
theorem grow_nil (n : Nat) (w : World) (hn : n ≤ 1000000) :
    Calls Try.prog 88 #[.slice none 0 0, .int .i64 (n : Nat)] w fun e w' => ∃ v, e = .returned v ∧ w'.ownsRow w.heap.size 5 1 v 0 [] ∧ Below w.heap.size w w' := by
  by_cases h0 : n = 0
  · subst h0
    refine (show Calls Try.prog 88 #[.slice none 0 0, .int .i64 ((0 : Nat) : Int)] w _ from Any8.slices_Grow_room (P := Try.prog) (ρ := Try.growB_ren) Try.growB none 0 0 0 w (Nat.le_refl _) (by decide) (by decide) (Nat.le_refl _)).mono ?_
    rintro e w' ⟨rfl, rfl⟩
    exact ⟨_, rfl, World.ownsRow_nil _ _ _ _, Below.refl _ _⟩
  · obtain ⟨i0, hi, hz0, hz1, hz2⟩ := info_parts u8Info
    refine (show Calls Try.prog 88 #[.slice none 0 0, .int .i64 (n : Int)] w _ from Any8.slices_Grow_grow (P := Try.prog) (ρ := Try.growB_ren) Try.growB i0 (.int .u8 0) hi hz0 (by rw [hz1]; decide) none 0 0 n [] w (Nat.le_refl _) (by omega) (by rw [hz2]; omega) (by omega) (by simp) (fun _ => rfl) (fun a h => nomatch h)).mono ?_
    rintro e w' ⟨rfl, rfl⟩
    have hge : 0 + n ≤ grownCap w (0 + n) 0 5 := grownCap_ge _ _ _ _
    have hle : grownCap w (0 + n) 0 5 ≤ maxLen := grownCap_le_maxLen _ _ _ _ (by unfold maxLen; omega)
    refine ⟨_, rfl, ⟨by simp, .inr ⟨w.heap.size, _, _, rfl, Nat.le_refl _, (MapKept.heap_alloc w.drew _).1, Nat.zero_le _, hle, ?_, by simp⟩⟩, ((Below.refl _ w).drew).alloc (Nat.le_refl _) _⟩
    simp only [Array.size_append, zeroCells_size #[Value.int .u8 0] _ rfl, List.size_toArray, List.length_nil, Value.cells]
    show _ + _ + _ = grownCap w (0 + n) 0 5 * 1
    have e : grownCap w (0 + n) 0 (Try.growB_ren.t 25) = grownCap w (0 + n) 0 5 := rfl
    omega
/-- The bytes of the parts. -/
def partsB (ps : List (Value × List Nat)) : List Nat := ps.flatMap (·.2)
theorem partsB_snoc (ps : List (Value × List Nat)) (p : Value × List Nat) : partsB (ps ++ [p]) = partsB ps ++ p.2 := by simp [partsB]
theorem partsB_take (ps : List (Value × List Nat)) (k : Nat) (p : Value × List Nat) (h : ps[k]? = some p) : partsB (ps.take (k + 1)) = partsB (ps.take k) ++ p.2 := by
  rw [List.take_add_one, h, Option.toList_some, partsB_snoc]
theorem partsB_le (ps : List (Value × List Nat)) (k : Nat) : (partsB (ps.take k)).length ≤ (partsB ps).length := by
  have e : partsB ps = partsB (ps.take k) ++ partsB (ps.drop k) := by unfold partsB; rw [← List.flatMap_append, List.take_append_drop]
  rw [e, List.length_append]
  omega
set_option maxHeartbeats 4000000 in
set_option maxRecDepth 100000 in
theorem concat_any (ps : List (Value × List Nat)) (p c : Nat) (w : World) (hp : ∀ j q, ps[j]? = some q → w.cell? ⟨p, j, none⟩ = some q.1) (hr : ∀ q ∈ ps, RdB w q.1 q.2) (hn : (partsB ps).length ≤ 1000000) (hk : ps.length ≤ 1000000) :
    Calls Try.prog 73 #[.slice (some ⟨p, 0, none⟩) ps.length c] w (CutPost w (partsB ps)) := by
  have HP := Lib.hid hp
  have HR := Lib.hid hr
  have HN := Lib.hid hn
  clear hp hr hn
  obtain ⟨k, hkl⟩ : ∃ k, ps.length = k := ⟨_, rfl⟩
  have HKL := Lib.hid hkl
  rw [hkl] at hk
  rw [hkl]
  clear hkl
  go_enter Try.func73, Try.ntmps73
  go_wp2_with fail
  go_loopw [3, 11] (fun s i wr => ∃ y : Nat, y ≤ k ∧ i = .int .i64 (y : Nat) ∧ s = .int .i64 ((partsB (ps.take y)).length : Nat) ∧ wr = w) (fun _ i _ => k - (intOf i).toNat)
  case atStart => exact ⟨0, Nat.zero_le _, rfl, rfl, rfl⟩
  case round =>
    obtain ⟨y, hy, rfl, rfl, rfl⟩ := hrel
    obtain ⟨wz, rfl⟩ : ∃ x, x = wr := ⟨_, rfl⟩
    by_cases hyl : y < k
    · obtain ⟨q, hq⟩ : ∃ q, ps[y]? = some q := ⟨_, List.getElem?_eq_getElem (by rw [HKL.out]; exact hyl)⟩
      have hc := HP.out y q hq
      obtain ⟨a, c', e1, _, hpl, hrd⟩ := HR.out q (List.mem_of_getElem? hq)
      rw [e1] at hc
      have HT := Lib.hid (partsB_take ps y q hq)
      have hle := partsB_le ps (y + 1)
      have HN2 := HN.out
      have hsum : (partsB (ps.take (y + 1))).length = (partsB (ps.take y)).length + q.2.length := by rw [HT.out, List.length_append]
      rw [hsum] at hle
      have HS := Lib.hid hsum
      clear hsum HT
      generalize hm1 : (partsB (ps.take y)).length = m1 at *
      generalize hm2 : q.2.length = m2 at *
      have hw : IntKind.i64.wrap ((m1 : Int) + (m2 : Int)) = (m1 : Int) + m2 := IntWalk.i64_in _ (by omega)
      go_wp2_with fail
      go_roundw
      case rel => exact ⟨y + 1, by omega, by push_cast; rfl, by rw [HS.out]; push_cast; rfl, trivial⟩
      case measure => simp [intOf]; omega
    · have hyk : y = k := by omega
      subst hyk
      have e : ps.take y = ps := List.take_of_length_le (by rw [HKL.out]; exact Nat.le_refl _)
      rw [e]
      have HN2 := HN.out
      generalize hm1 : (partsB ps).length = m1 at *
      go_wp2_with fail
      refine (grow_nil m1 _ HN2).mono ?_
      rintro e w1 ⟨v, rfl, hrow, hb⟩
      have HW := Lib.hid hrow
      have HB := Lib.hid hb
      clear hrow hb
      go_wp2_with fail
      go_loopw [6, 27] (fun v i wv => ∃ z : Nat, z ≤ y ∧ i = .int .i64 (z : Nat) ∧ wv.ownsRow wz.heap.size 5 1 v (partsB (ps.take z)).length (byteC (partsB (ps.take z))) ∧ Below wz.heap.size wz wv) (fun _ i _ => y - (intOf i).toNat)
      case atStart => exact ⟨0, Nat.zero_le _, rfl, HW.out, HB.out⟩
      case round =>
        clear HW HB
        obtain ⟨z, hz, rfl, hrow, hb⟩ := hrel
        have HW := Lib.hid hrow
        have HB := Lib.hid hb
        clear hrow hb
        by_cases hzl : z < y
        · obtain ⟨q, hq⟩ : ∃ q, ps[z]? = some q := ⟨_, List.getElem?_eq_getElem (by rw [HKL.out]; exact hzl)⟩
          have hc := (HB.out.cell (World.block_lt_of_cell? _ _ (HP.out z q hq))).trans (HP.out z q hq)
          obtain ⟨a, c', e1, hcc, hpl, hrd⟩ := (HR.out q (List.mem_of_getElem? hq)).below HB.out
          rw [e1] at hc
          have hsum := partsB_take ps z q hq
          have hle := partsB_le ps (z + 1)
          have hl2 : (partsB (ps.take (z + 1))).length = (partsB (ps.take z)).length + q.2.length := by rw [hsum, List.length_append]
          rw [hl2] at hle
          have HS := Lib.hid hsum
          have HL2 := Lib.hid hl2
          clear hsum hl2
          generalize hm1l : (partsB (ps.take z)).length = k1 at *
          generalize hm2l : q.2.length = k2 at *
          have HK1 := Lib.hid hm1l
          have HK2 := Lib.hid hm2l
          clear hm1l hm2l
          obtain ⟨vb, vc, rfl, hvc⟩ := owns_cap HW.out
          cases a with
          | none =>
            have hz0 : k2 = 0 := by
              rw [← HK2.out]
              cases hq2 : q.2 with
              | nil => rfl
              | cons x l =>
                obtain ⟨b, o, e, _⟩ := hrd 0 x (by rw [hq2]; rfl)
                cases e
            subst hz0
            obtain ⟨i0, hi, hz0, hz1, hz2⟩ := info_parts u8Info
            have hq2 : q.2 = [] := List.eq_nil_of_length_eq_zero HK2.out
            have HZ := Lib.hid (show wr.ownsRow wz.heap.size 5 1 (.slice vb k1 vc) (partsB (ps.take (z + 1))).length (byteC (partsB (ps.take (z + 1)))) from by
              rw [HL2.out, HS.out, hq2, List.append_nil]; exact HW.out)
            clear hcc hrd hpl hq2
            go_wp2_with (at_builtin; refine wpList_append_nilx rfl _ _ 121 rfl Try.underlying121 hi vb k1 vc c' rfl rfl hvc ?_)
            go_roundw
            case rel => exact ⟨z + 1, by omega, by push_cast; rfl, HZ.out, HB.out⟩
            case measure => simp [intOf]; omega
          | some ad =>
            obtain ⟨b, o, rfl⟩ := hpl ad rfl
            obtain ⟨i0, hi, hz0, hz1, hz2⟩ := info_parts u8Info
            have hnews : ∀ j u, (byteC q.2)[j]? = some u → wr.cell? ((⟨b, o, none⟩ : Addr).add j) = some u := fun j u hj => by
              simp only [byteC, List.getElem?_map, Option.map_eq_some_iff] at hj
              obtain ⟨x, hx, rfl⟩ := hj
              obtain ⟨b', o', e, hcx⟩ := hrd j x hx
              cases e
              have e : (⟨b, o, none⟩ : Addr).add j = ⟨b, o + j, none⟩ := by unfold Addr.add; split <;> simp_all
              rw [e]; exact hcx
            have HNW := Lib.hid hnews
            have HLB : Hid ((byteC q.2).length = k2 * 1) := Lib.hid (by rw [byteC_len, HK2.out, Nat.mul_one])
            have HLE := Lib.hid hle
            have hb1 : k1 + k2 ≤ maxLen := by unfold maxLen; omega
            have hb2 : (k1 + k2) * 1 ≤ 140737488355328 := by omega
            clear hcc hrd hpl hnews
            go_wp2_with (at_builtin; refine wpList_append_own_at _ rfl _ _ 121 rfl wz.heap.size 5 i0 (.int .u8 0) 1 1 Try.underlying121 hi hz0 hz1 hz2 rfl (by decide) _ k1 _ rfl HW.out ⟨b, o, none⟩ k2 c' (byteC q.2) rfl HLB.out HNW.out (byteC_one _) hb1 hb2 HB.out.size ?_; intro v' w2 hown1 hgrow hnil hloc)
            have hw2 : w2.ownsRow wz.heap.size 5 1 v' (partsB (ps.take (z + 1))).length (byteC (partsB (ps.take (z + 1)))) := by
              rw [HL2.out, HS.out, byteC_append]; exact hown1
            have hB2 : Below wz.heap.size wz w2 := HB.out.grown hgrow HB.out.size (fun b' hb' => own_base HW.out hb')
            go_roundw
            case rel => exact ⟨z + 1, by omega, by push_cast; rfl, hw2, hB2⟩
            case measure => simp [intOf]; omega
        · have hzy : z = y := by omega
          subst hzy
          rw [e] at HW
          clear e
          obtain ⟨vb, vc, rfl, hvc⟩ := owns_cap HW.out
          go_wp2_with fail
          go_ret
          exact ⟨_, rfl, HW.out, HB.out⟩
end Go.Proofs.Ytahgapkecabnjaa
/- Plain law: flows in the order of their keys, place by place, as the reference keeps them. -/
namespace Go.Proofs.Ytahgapkecabnjaa
set_option linter.unusedSimpArgs false
set_option linter.unusedVariables false

variable {α : Type}
/-- The place of a key; none: it is not there. -/
def placeL (l : Kl α) (k : Ky) : Option Nat := l.findIdx? fun p => decide (p.1 = k)
theorem placeL_some {l : Kl α} {k : Ky} {n : Nat} (h : placeL l k = some n) : ∃ x, l[n]? = some (k, x) ∧ getL l k = some x := by
  unfold placeL at h
  obtain ⟨hn, h1, h2⟩ := List.findIdx?_eq_some_iff_getElem.1 h
  have hk : l[n].1 = k := by simpa using h1
  refine ⟨l[n].2, ?_, ?_⟩
  · rw [List.getElem?_eq_getElem hn]; exact congrArg some (Prod.ext hk rfl)
  · unfold getL
    have : l.find? (fun p => decide (p.1 = k)) = some l[n] := by
      rw [List.find?_eq_some_iff_getElem]
      exact ⟨by simpa using hk, n, hn, rfl, fun j hj => by simpa using h2 j hj⟩
    rw [this]; rfl
theorem placeL_none {l : Kl α} {k : Ky} (h : placeL l k = none) : getL l k = none := by
  unfold placeL at h
  rw [List.findIdx?_eq_none_iff] at h
  unfold getL
  rw [List.find?_eq_none.2 (fun x hx => by simpa using h x hx)]; rfl
theorem getL_at {l : Kl α} (hr : Rises (keysL l)) {n : Nat} {k : Ky} {x : α} (h : l[n]? = some (k, x)) : getL l k = some x := getL_of_mem hr (List.mem_of_getElem? h)
theorem split_at {l : Kl α} {n : Nat} {p : Ky × α} (h : l[n]? = some p) : l = l.take n ++ p :: l.drop (n + 1) := by
  have hn := (List.getElem?_eq_some_iff.1 h).1
  have hp := (List.getElem?_eq_some_iff.1 h).2
  conv => lhs; rw [← List.take_append_drop n l, List.drop_eq_getElem_cons hn, hp]
theorem rises_parts {a b : Kl α} {p : Ky × α} (h : Rises (keysL (a ++ p :: b))) : (∀ q ∈ a, ltK q.1 p.1) ∧ (∀ q ∈ b, ltK p.1 q.1) ∧ Rises (keysL a) ∧ Rises (keysL b) ∧ ∀ q ∈ a, ∀ r ∈ b, ltK q.1 r.1 := by
  unfold keysL Rises at *
  rw [List.map_append, List.map_cons, List.pairwise_append, List.pairwise_cons] at h
  obtain ⟨h1, ⟨h2, h3⟩, h4⟩ := h
  exact ⟨fun q hq => h4 _ (List.mem_map.2 ⟨q, hq, rfl⟩) _ (List.mem_cons_self ..), fun q hq => h2 _ (List.mem_map.2 ⟨q, hq, rfl⟩), h1, h3, fun q hq r hr => h4 _ (List.mem_map.2 ⟨q, hq, rfl⟩) _ (List.mem_cons_of_mem _ (List.mem_map.2 ⟨r, hr, rfl⟩))⟩
theorem filter_all {β : Type} {l : List β} {f : β → Bool} (h : ∀ x ∈ l, f x = true) : l.filter f = l := List.filter_eq_self.2 h
theorem filter_none {β : Type} {l : List β} {f : β → Bool} (h : ∀ x ∈ l, f x = false) : l.filter f = [] := List.filter_eq_nil_iff.2 (fun x hx => by simp [h x hx])
theorem delL_parts {a b : Kl α} {p : Ky × α} (h : Rises (keysL (a ++ p :: b))) : delL (a ++ p :: b) p.1 = a ++ b := by
  obtain ⟨h1, h2, _⟩ := rises_parts h
  unfold delL
  rw [List.filter_append, List.filter_cons, if_neg (by simp), filter_all (fun q hq => by have := ltK_ne (h1 q hq); simpa using this), filter_all (fun q hq => by have := ltK_ne (h2 q hq); simp; exact fun e => this e.symm)]
theorem putL_parts {a b : Kl α} {k : Ky} (ha : ∀ q ∈ a, ltK q.1 k) (hb : ∀ q ∈ b, ltK k q.1) (x : α) : putL (a ++ b) k x = a ++ (k, x) :: b := by
  unfold putL
  rw [List.filter_append, List.filter_append, filter_all (l := a) (fun q hq => lessK_iff.2 (ha q hq)), filter_none (l := b) (fun q hq => lessK_not.2 (ltK_asymm (hb q hq))), filter_none (l := a) (fun q hq => lessK_not.2 (ltK_asymm (ha q hq))), filter_all (l := b) (fun q hq => lessK_iff.2 (hb q hq)), List.append_nil, List.nil_append]
theorem putL_parts_old {a b : Kl α} {p : Ky × α} (h : Rises (keysL (a ++ p :: b))) (x : α) : putL (a ++ p :: b) p.1 x = a ++ (p.1, x) :: b := by
  obtain ⟨h1, h2, _⟩ := rises_parts h
  unfold putL
  rw [List.filter_append, List.filter_cons, if_neg (by rw [lessK_not.2 (ltK_irrefl _)]; decide), List.filter_append, List.filter_cons, if_neg (by rw [lessK_not.2 (ltK_irrefl _)]; decide)]
  rw [filter_all (l := a) (fun q hq => lessK_iff.2 (h1 q hq)), filter_none (l := b) (fun q hq => lessK_not.2 (ltK_asymm (h2 q hq))), filter_none (l := a) (fun q hq => lessK_not.2 (ltK_asymm (h1 q hq))), filter_all (l := b) (fun q hq => lessK_iff.2 (h2 q hq)), List.append_nil, List.nil_append]
/-- A flow goes. -/
theorem delL_at {l : Kl α} (hr : Rises (keysL l)) {n : Nat} {k : Ky} {x : α} (h : l[n]? = some (k, x)) : delL l k = l.take n ++ l.drop (n + 1) := by
  have e := split_at h
  have hr2 := hr
  rw [e] at hr2
  conv => lhs; rw [e]
  exact delL_parts hr2
/-- A flow's word is stored anew. -/
theorem putL_at {l : Kl α} (hr : Rises (keysL l)) {n : Nat} {k : Ky} {x : α} (h : l[n]? = some (k, x)) (y : α) : putL l k y = l.set n (k, y) := by
  have e := split_at h
  have hr2 := hr
  rw [e] at hr2
  have h3 := putL_parts_old hr2 y
  conv => lhs; rw [e]
  rw [h3]
  have hn := (List.getElem?_eq_some_iff.1 h).1
  rw [List.set_eq_take_append_cons_drop, if_pos hn]
/-- A flow more, behind all that are before it. -/
theorem putL_here {l : Kl α} (hr : Rises (keysL l)) {k : Ky} (hk : getL l k = none) {n : Nat} (hn : n ≤ l.length) (hb : ∀ j p, n ≤ j → l[j]? = some p → ltK k p.1) (ha : ∀ p, 0 < n → l[n - 1]? = some p → ¬ ltK k p.1) (x : α) :
    putL l k x = l.take n ++ (k, x) :: l.drop n := by
  have e := (List.take_append_drop n l).symm
  have hb2 : ∀ q ∈ l.drop n, ltK k q.1 := fun q hq => by
    obtain ⟨j, hj, rfl⟩ := List.getElem_of_mem hq
    rw [List.length_drop] at hj
    rw [List.getElem_drop]
    exact hb (n + j) _ (by omega) (List.getElem?_eq_getElem (by omega))
  have ha2 : ∀ q ∈ l.take n, ltK q.1 k := fun q hq => by
    obtain ⟨j, hj, rfl⟩ := List.getElem_of_mem hq
    rw [List.length_take] at hj
    rw [List.getElem_take]
    have hne : ∀ i (hi : i < l.length), l[i].1 ≠ k := fun i hi e => by
      have := getL_of_mem (k := k) (x := l[i].2) hr (by rw [← e]; exact List.getElem_mem hi)
      rw [hk] at this; cases this
    have hlast : ltK (l[n - 1]'(by omega)).1 k := by
      have h1 := ha _ (by omega) (List.getElem?_eq_getElem (show n - 1 < l.length by omega))
      rcases ltK_total (hne (n - 1) (by omega)) with h | h
      · exact h
      · exact absurd h h1
    by_cases hjn : j = n - 1
    · subst hjn; exact hlast
    · have hp := List.pairwise_iff_getElem.1 hr j (n - 1) (by simp [keysL]; omega) (by simp [keysL]; omega) (by omega)
      simp [keysL] at hp
      exact ltK_trans hp hlast
  conv => lhs; rw [e]
  exact putL_parts ha2 hb2 x
end Go.Proofs.Ytahgapkecabnjaa
/- Plain law: a flow's hash and its stripe; what lies in a stripe. -/
namespace Go.Proofs.Ytahgapkecabnjaa
set_option linter.unusedSimpArgs false
set_option linter.unusedVariables false

def stepH (h b : Nat) : Nat := (h ^^^ b) * 16777619 % 4294967296
/-- The 13 bytes of a key, in the order in which they are hashed. -/
def bytesK (k : Ky) : List Nat := [k.pr, k.a0 / 16777216 % 256, k.a0 / 65536 % 256, k.a0 / 256 % 256, k.a0 % 256, k.p0 / 256 % 256, k.p0 % 256, k.a1 / 16777216 % 256, k.a1 / 65536 % 256, k.a1 / 256 % 256, k.a1 % 256, k.p1 / 256 % 256, k.p1 % 256]
def hashF (k : Ky) : Nat := (bytesK k).foldl stepH 2166136261
def stripeF (k : Ky) (n : Nat) : Nat := hashF k % n
theorem stepH_lt (h b : Nat) : stepH h b < 4294967296 := Nat.mod_lt _ (by decide)
theorem hash_fold : ∀ (l : List Nat) (h : Nat), h < 4294967296 → l.foldl stepH h < 4294967296
  | [], _, h => h
  | b :: l, a, _ => hash_fold l (stepH a b) (stepH_lt a b)
theorem hashF_lt (k : Ky) : hashF k < 4294967296 := hash_fold (bytesK k) 2166136261 (by decide)
theorem stripeF_lt (k : Ky) {n : Nat} (h : 0 < n) : stripeF k n < n := Nat.mod_lt _ h
/-- The flows of a stripe. -/
def inS {α : Type} (n s : Nat) (l : Kl α) : Kl α := l.filter fun p => decide (stripeF p.1 n = s)
theorem mem_inS {α : Type} {n s : Nat} {l : Kl α} {p : Ky × α} : p ∈ inS n s l ↔ p ∈ l ∧ stripeF p.1 n = s := by
  unfold inS
  rw [List.mem_filter, decide_eq_true_iff]
theorem inS_rise {α : Type} {n s : Nat} {l : Kl α} (h : Rises (keysL l)) : Rises (keysL (inS n s l)) := by
  unfold Rises keysL inS at *
  exact List.Pairwise.sublist (List.Sublist.map _ List.filter_sublist) h
theorem inS_get {α : Type} {n s : Nat} {l : Kl α} {k : Ky} (h : stripeF k n = s) : getL (inS n s l) k = getL l k := by
  unfold getL inS
  rw [List.find?_filter]
  congr 1
  congr 1
  funext p
  by_cases e : p.1 = k
  · subst e; simp [h]
  · simp [e]
theorem inS_put {α : Type} {n : Nat} {l : Kl α} (k : Ky) (x : α) (s : Nat) : inS n s (putL l k x) = if stripeF k n = s then putL (inS n s l) k x else inS n s (putL l k x) := by
  split
  · rename_i h
    unfold inS putL
    rw [List.filter_append, List.filter_cons, if_pos (by simpa using h)]
    simp only [List.filter_filter]
    congr 1
    · exact List.filter_congr (fun p _ => Bool.and_comm _ _)
    · congr 1
      exact List.filter_congr (fun p _ => Bool.and_comm _ _)
  · rfl
theorem inS_del {α : Type} {n : Nat} {l : Kl α} (k : Ky) (s : Nat) : inS n s (delL l k) = delL (inS n s l) k := by
  unfold inS delL
  simp only [List.filter_filter]
  exact List.filter_congr (fun p _ => Bool.and_comm _ _)
theorem keys_inS {α : Type} {n s : Nat} {l : Kl α} {k : Ky} : k ∈ keysL (inS n s l) ↔ k ∈ keysL l ∧ stripeF k n = s := by
  unfold keysL
  constructor
  · intro h
    obtain ⟨p, hp, rfl⟩ := List.mem_map.1 h
    exact ⟨List.mem_map.2 ⟨p, (mem_inS.1 hp).1, rfl⟩, (mem_inS.1 hp).2⟩
  · rintro ⟨h, hs⟩
    obtain ⟨p, hp, rfl⟩ := List.mem_map.1 h
    exact List.mem_map.2 ⟨p, mem_inS.2 ⟨hp, hs⟩, rfl⟩
/-- All: the keys of one stripe more are taken. -/
theorem all_step {α : Type} {out ss : List Ky} {l : Kl α} {n j : Nat} (h1 : out.Nodup) (h2 : ∀ k, k ∈ out ↔ k ∈ keysL l ∧ stripeF k n < j) (h3 : ss.Nodup) (h4 : ∀ k, k ∈ ss ↔ k ∈ keysL (inS n j l)) :
    (out ++ ss).Nodup ∧ ∀ k, k ∈ out ++ ss ↔ k ∈ keysL l ∧ stripeF k n < j + 1 := by
  refine ⟨List.nodup_append.2 ⟨h1, h3, fun a ha b hb e => ?_⟩, fun k => ?_⟩
  · subst e
    have e1 := ((h2 a).1 ha).2
    have e2 := (keys_inS.1 ((h4 a).1 hb)).2
    omega
  · rw [List.mem_append, h2, h4, keys_inS]
    constructor
    · rintro (⟨a, b⟩ | ⟨a, b⟩)
      · exact ⟨a, by omega⟩
      · exact ⟨a, by omega⟩
    · rintro ⟨a, b⟩
      by_cases h : stripeF k n < j
      · exact .inl ⟨a, h⟩
      · exact .inr ⟨a, by omega⟩
theorem all_end {α : Type} {out : List Ky} {l : Kl α} {n : Nat} (hn : 0 < n) (h2 : ∀ k, k ∈ out ↔ k ∈ keysL l ∧ stripeF k n < n) : ∀ k, k ∈ out ↔ k ∈ keysL l := fun k => by
  rw [h2]
  exact ⟨fun h => h.1, fun h => ⟨h, stripeF_lt k hn⟩⟩
/-- The number of flows of all stripes. -/
theorem inS_count {α : Type} (l : Kl α) (n : Nat) : ∀ m, ((List.range m).map fun s => (inS n s l).length).sum = (l.filter fun p => decide (stripeF p.1 n < m)).length
  | 0 => by
    rw [List.filter_eq_nil_iff.2 (fun p _ => by simp)]; rfl
  | m + 1 => by
    rw [List.range_succ, List.map_append, List.sum_append, inS_count l n m]
    simp only [List.map_cons, List.map_nil, List.sum_cons, List.sum_nil, Nat.add_zero]
    unfold inS
    induction l with
    | nil => rfl
    | cons p l ih =>
      simp only [List.filter_cons]
      by_cases h1 : stripeF p.1 n < m
      · have h2 : ¬ stripeF p.1 n = m := by omega
        have h3 : stripeF p.1 n < m + 1 := by omega
        simp [h1, h2, h3]
        omega
      · by_cases h2 : stripeF p.1 n = m
        · simp [h2]
          omega
        · have h3 : ¬ stripeF p.1 n < m + 1 := by omega
          simp [h1, h2, h3]
          omega
/-- The place that the reference finds: all before it are less, and what lies there is not. -/
theorem place_here {α : Type} {l : Kl α} (hr : Rises (keysL l)) {k : Ky} {n : Nat} (hn : n ≤ l.length) (hb : ∀ j p, j < n → l[j]? = some p → ltK p.1 k) (ha : ∀ p, l[n]? = some p → ¬ ltK p.1 k) :
    (∃ x, l[n]? = some (k, x) ∧ getL l k = some x) ∨ ((∀ p, l[n]? = some p → p.1 ≠ k) ∧ getL l k = none ∧ ∀ y, putL l k y = l.take n ++ (k, y) :: l.drop n) := by
  have after : ∀ p, l[n]? = some p → p.1 ≠ k → ∀ j q, n ≤ j → l[j]? = some q → ltK k q.1 := fun p hp hne j q hj hq => by
    have h0 : ltK k p.1 := by
      rcases ltK_total hne with h | h
      · exact absurd h (ha p hp)
      · exact h
    by_cases e : j = n
    · subst e
      rw [hp] at hq
      cases hq
      exact h0
    · obtain ⟨hn', e1⟩ := List.getElem?_eq_some_iff.1 hp
      obtain ⟨hj', e2⟩ := List.getElem?_eq_some_iff.1 hq
      have h1 := List.pairwise_iff_getElem.1 hr n j (by simpa [keysL] using hn') (by simpa [keysL] using hj') (by omega)
      simp [keysL] at h1
      rw [e1, e2] at h1
      exact ltK_trans h0 h1
  have none_of : (∀ j q, n ≤ j → l[j]? = some q → ltK k q.1) → getL l k = none := fun h => by
    unfold getL
    rw [List.find?_eq_none.2 (fun q hq => ?_)]; rfl
    obtain ⟨j, hj, e⟩ := List.getElem_of_mem hq
    have hq' : l[j]? = some q := by rw [List.getElem?_eq_getElem hj, e]
    by_cases hjn : j < n
    · have := ltK_ne (hb j q hjn hq')
      simpa using this
    · have := ltK_ne (h j q (by omega) hq')
      simp; exact fun e => this e.symm
  have fin : (∀ j q, n ≤ j → l[j]? = some q → ltK k q.1) → getL l k = none ∧ ∀ y, putL l k y = l.take n ++ (k, y) :: l.drop n := fun h =>
    ⟨none_of h, fun y => putL_here hr (none_of h) hn h (fun p h0 hp => ltK_asymm (hb (n - 1) p (by omega) hp)) y⟩
  cases hp : l[n]? with
  | none =>
    refine .inr ⟨fun p h => (by cases h), fin (fun j q hj hq => ?_)⟩
    have h1 := (List.getElem?_eq_some_iff.1 hq).1
    have h2 := List.getElem?_eq_none_iff.1 hp
    omega
  | some p =>
    by_cases e : p.1 = k
    · exact .inl ⟨p.2, by rw [← e], by rw [← e]; exact getL_at hr (by rw [hp])⟩
    · exact .inr ⟨fun q h => (by cases h; exact e), fin (after p hp e)⟩
end Go.Proofs.Ytahgapkecabnjaa
