/- maps.Keys over a map of flows: the iterator's contract. After Derived/Shelf/SlIter/Stops.lean, at keys that are structs. -/
import Derived.Test.YtahgapkecabnjaaGreatDoorC09
import Derived.Test.YtahgapkecabnjaaGreatDoorC04
import Derived.RangeFuncNested
import Derived.RangeFuncBound
import Derived.RangeFuncCalls
import Derived.RangeFuncLeaves
import Derived.Shelf.Abstract
import Derived.Shelf.RegionOpen
import Derived.WalkKit
import Derived.OwnWalkIn
import Derived.TacticsInMore
import Derived.LoopNIn
import Derived.LoopIn
import Derived.Maps.AppendAt
import Derived.Test.YtahgapkecabnjaaGreatDoorC02
import Derived.Shelf.SlSortCmp.NoneTotal
import Derived.Sort.OwnSorted
import Derived.Test.YtahgapkecabnjaaGreatDoorC06
namespace Go.Proofs.YtahgapkecabnjaaGreatDoor
set_option linter.unusedSimpArgs false
set_option linter.unusedVariables false
open Go Go.RowKit Go.Maps Go.Shelf
attribute [local go_sem] Oper.semAt_some

/-- Block b is a map that holds flows. -/
structure FlowsAt {β : Type} (w : World) (b : Nat) (ev : β → Value) (fl : Kl β) (f : Value → Option Value) : Prop where
  is : IsMap w Tryz.prog 45 b f
  get : ∀ k, f (kyV k) = (getL fl k).map ev
  only : ∀ v x, f v = some x → ∃ k, v = kyV k
theorem kyV_inj {x y : Ky} (h : kyV x = kyV y) : x = y := by
  simp [kyC] at h
  rw [Ky.same]
  omega
theorem FlowsAt.of_block {β : Type} {w w' : World} {b : Nat} {ev : β → Value} {fl : Kl β} {f : Value → Option Value} (h : FlowsAt w b ev fl f) (e : w'.heap[b]? = w.heap[b]?) : FlowsAt w' b ev fl f := ⟨h.is.of_block e, h.get, h.only⟩
theorem nodup_le : ∀ (s l : List Ky), s.Nodup → (∀ x ∈ s, x ∈ l) → s.length ≤ l.length
  | [], l, _, _ => Nat.zero_le _
  | x :: s, l, hn, h => by
    have hx := h x (by simp)
    have h1 := nodup_le s (l.erase x) (List.nodup_cons.1 hn).2 (fun y hy => (List.mem_erase_of_ne (fun (e : y = x) => (List.nodup_cons.1 hn).1 (by rw [← e]; exact hy))).2 (h y (by simp [hy])))
    rw [List.length_erase_of_mem hx] at h1
    have := List.length_pos_of_mem hx
    simp only [List.length_cons]
    omega
/-- What has come of a range over flows. -/
theorem came_le {β : Type} {fl : Kl β} {ev : β → Value} {f : Value → Option Value} (hg : ∀ k, f (kyV k) = (getL fl k).map ev) {ss : List Ky} (hn : ss.Nodup) (hs : ∀ k ∈ ss, ∃ x, f (kyV k) = some x) : ss.length ≤ fl.length := by
  have h1 : ∀ k ∈ ss, k ∈ keysL fl := fun k hk => by
    obtain ⟨x, hx⟩ := hs k hk
    rw [hg] at hx
    cases h : getL fl k with
    | none => rw [h] at hx; cases hx
    | some y => exact List.mem_map.2 ⟨(k, y), getL_mem h, rfl⟩
  have := nodup_le ss (keysL fl) hn h1
  simpa [keysL] using this
theorem came_iff {β : Type} {fl : Kl β} {ev : β → Value} {f : Value → Option Value} (hg : ∀ k, f (kyV k) = (getL fl k).map ev) {k : Ky} : (∃ x, f (kyV k) = some x) ↔ k ∈ keysL fl := by
  constructor
  · rintro ⟨x, hx⟩
    rw [hg] at hx
    cases h : getL fl k with
    | none => rw [h] at hx; cases hx
    | some y => exact List.mem_map.2 ⟨(k, y), getL_mem h, rfl⟩
  · intro hk
    cases h : getL fl k with
    | none => exact absurd hk (getL_none.1 h)
    | some y => exact ⟨ev y, by rw [hg, h]; rfl⟩
set_option maxRecDepth 100000 in
set_option maxHeartbeats 4000000 in
theorem keysIter_in {β : Type} (F : Fence) (n : Nat) (h83 : F.fn 83) (hro : F.round = none) (hn : 1 ≤ n) (l Bm b : Nat) (ev : β → Value) (fl : Kl β) (f : Value → Option Value) (J Jx : List Ky → World → Prop)
    (hY : ∀ pre x W, J pre W → pre.length < fl.length → YieldAt F (n - 1) Tryz.prog l #[kyV x] W fun e W' =>
      (e = .returned (.bool true) ∧ J (pre ++ [x]) W' ∧ KeepsWalks W W') ∨ (e = .returned (.bool false) ∧ Jx (pre ++ [x]) W'))
    (W : World) (hJ : AbidesFrom W.heap.size J) (hm : W.cell? ⟨Bm, 0, none⟩ = some (.map (some b))) (hfl : FlowsAt W b ev fl f) (h0 : J [] W) :
    CallsIn F n Tryz.prog 83 #[.func (.yield l) #[] #[], .pointer (some ⟨Bm, 0, none⟩)] W fun e W' => (∃ v, e = .returned v) ∧
      ((∃ ss : List Ky, (ss.Nodup ∧ ∀ k, k ∈ ss ↔ k ∈ keysL fl) ∧ J ss W') ∨ (∃ pre : List Ky, True ∧ Jx pre W')) := by
  refine callsIn_of_wp Tryz.func83 rfl h83 ?_ hro
  simp only [Tryz.ntmps83, List.size_toArray, List.length_cons, List.length_nil, Nat.reduceAdd, Nat.reduceSub, Array.replicate_succ, Array.replicate_zero, List.push_toArray, List.append_toArray, List.nil_append, List.cons_append]
  gi_wp2_with (first
    | (gi_at_range; refine wpListIn_range_map rfl _ 81 rfl 45 99 Tryz.underlying81 b f rfl hfl.is ?_; intro w0 hrg0 hg0 hs0)
    | gi_in)
  go_frame
  gi_loopw [3] (fun _ wr => ∃ ss : List Ky, Ranging wr Tryz.prog 45 b W.heap.size f (ss.map kyV) ∧ J ss wr)
    (fun _ wr => wr.rangeLeft b W.heap.size)
  case atStart =>
    exact ⟨[], hrg0, hJ [] W w0 none h0 hg0 (fun r e => by cases e)⟩
  case round =>
    obtain ⟨ss, hrg, hJs⟩ := hrel
    have hnd : ss.Nodup := by
      obtain ⟨_, _, _, _, _, _, _, _, _, _, _, hn, _⟩ := hrg
      exact List.Pairwise.imp (fun h e => h (by rw [e])) (List.pairwise_map.1 hn)
    gi_wp2_with (first
      | (gi_at_next; refine wpListIn_next_map rfl _ rfl 45 kyV b W.heap.size f hfl.only _ rfl hrg ?_ ?_)
      | gi_in)
    · -- nothing is left
      intro hall
      gi_wp2
      go_end0
      refine ⟨⟨_, rfl⟩, .inl ⟨ss, ⟨hnd, fun k => ?_⟩, hJs⟩⟩
      rw [← came_iff hfl.get]
      constructor
      · intro hk
        exact hrg.sub _ (List.mem_map.2 ⟨k, hk, rfl⟩)
      · rintro ⟨x, hx⟩
        obtain ⟨k', hk', e⟩ := hall _ x hx
        rw [← kyV_inj e]; exact hk'
    · -- an entry has come: yield(k)
      intro x c w2 hf hnew hrg2 hlt hg2 hs2 hen
      have hJ2 : J ss w2 := hJ ss wr w2 (some W.heap.size) hJs hg2 (fun r e => by cases e; exact ⟨Nat.le_refl _, hrg.iter_walk⟩)
      have hle : ss.length < fl.length := by
        have h1 : (ss ++ [x]).Nodup := by
          refine List.nodup_append.2 ⟨hnd, by simp, fun a ha c hc => ?_⟩
          simp at hc; subst hc
          intro e
          subst e
          first | exact hnew (List.mem_map.2 ⟨_, ha, rfl⟩) | exact hnew _ ha rfl
        have := came_le hfl.get h1 (fun k hk => hrg2.sub _ (by rw [show ss.map kyV ++ [kyV x] = (ss ++ [x]).map kyV by simp]; exact List.mem_map.2 ⟨k, hk, rfl⟩))
        simp at this; omega
      clear hs2
      have hJ3 : J ss (w2.alloc (.cells (kyC x) 45)) := hJ ss w2 _ none hJ2 (World.grownBy_alloc w2 _ none) (fun r e => by cases e)
      have hW : KeepsWalks w2 (w2.alloc (.cells (kyC x) 45)) := KeepsWalks.alloc _ _
      obtain ⟨fn, tmps, assign, body, hy, hR⟩ := hY ss x _ hJ3 hle
      obtain ⟨a0, a1, p0, p1, pr⟩ := x
      simp only [kyV, kyC] at hy hen hW
      unfold kyV kyC
      gi_wp2
      refine hR.mono ?_
      rintro e W3 (⟨rfl, hJ4, hk3⟩ | ⟨rfl, hJx3⟩)
      · gi_wp2
        have hrg3 := hrg2.of_walks (hW.trans hk3)
        go_roundw
        case rel => exact ⟨ss ++ [⟨a0, a1, p0, p1, pr⟩], by simpa using hrg3, hJ4⟩
        case measure => rw [hrg2.left_walks (hW.trans hk3)]; exact hlt
      · gi_wp2
        refine bodyPost_ret (results_none rfl _ _ _) rfl ?_
        exact ⟨⟨_, rfl⟩, .inr ⟨_, trivial, hJx3⟩⟩
/-- maps.Keys over flows hands back an iterator of the flows' keys. -/
theorem keys_stops {β : Type} (F : Fence) (n : Nat) (h83 : F.fn 83) (hro : F.round = none) (hn : 1 ≤ n) (Bm b : Nat) (ev : β → Value) (fl : Kl β) (f : Value → Option Value) (w : World) (hBm : Bm < w.heap.size)
    (hm : w.cell? ⟨Bm, 0, none⟩ = some (.map (some b))) (hfl : FlowsAt w b ev fl f) :
    SeqStopsK F n Tryz.prog 83 #[.pointer (some ⟨Bm, 0, none⟩)] (fun x : Ky => #[kyV x]) KeepsWalks (fun ss => ss.Nodup ∧ ∀ k, k ∈ ss ↔ k ∈ keysL fl) (fun _ => True) fl.length w := fun l J Jx W hW hJ _ hY h0 =>
  keysIter_in F n h83 hro hn l Bm b ev fl f J Jx hY W hJ ((hW.cell (p := ⟨Bm, 0, none⟩) hBm).trans hm) (hfl.of_block (hW.block b hfl.is.lt)) h0
set_option maxHeartbeats 1000000 in
/-- maps.Keys(m): the map is boxed; the function value captures the box. -/
theorem keys_in (F : Fence) (n : Nat) (h50 : F.fn 50) (hro : F.round = none) (mb : Option Nat) (w : World) :
    CallsIn F n Tryz.prog 50 #[.map mb] w fun e w' => e = .returned (.func (.func 83) #[] #[.pointer (some ⟨w.heap.size, 0, none⟩)]) ∧ w' = w.alloc (.cells #[.map mb] 81) := by
  refine callsIn_of_wp Tryz.func50 rfl h50 ?_ hro
  simp only [Tryz.ntmps50, List.size_toArray, List.length_cons, List.length_nil, Nat.reduceAdd, Nat.reduceSub, Array.replicate_succ, Array.replicate_zero, List.push_toArray, List.append_toArray, List.nil_append, List.cons_append]
  gi_wp2
  go_ret
  exact ⟨rfl, rfl⟩
end Go.Proofs.YtahgapkecabnjaaGreatDoor
/- slices.AppendSeq and slices.Collect at keys of flows, against whatever iterator. After the kit's worked text GgPosAtTheDump. -/
namespace Go.Proofs.YtahgapkecabnjaaGreatDoor
set_option linter.unusedSimpArgs false
set_option linter.unusedVariables false
open Go Go.RowKit Go.Maps Go.Shelf
attribute [local go_sem] Oper.semAt_some

theorem KeepsOthers.walks {W W' : World} (h : KeepsOthers W W') : KeepsWalks W W' := ⟨h.size, fun k o hk hw => h.same k o hk (Obj.not_cells_of_walk hw)⟩
def kyL (k : Ky) : List Value := (kyC k).toList
def kysL (l : List Ky) : List Value := l.flatMap kyL
theorem kysL_snoc (l : List Ky) (k : Ky) : kysL (l ++ [k]) = kysL l ++ kyL k := by simp [kysL]
theorem kyL_one (k : Ky) : ∀ u ∈ kyL k, u.oneCell' = true := by
  intro u hu
  simp only [kyL, kyC, List.mem_cons, List.not_mem_nil, or_false] at hu
  rcases hu with rfl | rfl | rfl | rfl | rfl <;> rfl
theorem keyInfo : (Tryz.prog.info? 45).map (fun i => (i.zero, i.size, i.bytes)) = some (some (.agg #[.int .u32 0, .int .u32 0, .int .u16 0, .int .u16 0, .int .u8 0]), 5, 16) := by kernel_rfl
/-- A key in a box. -/
def KBox (W : World) (b : Nat) (k : Ky) : Prop := W.heap[b]? = some (.cells (kyC k) 45 (0, 0))
theorem KBox.cell {W : World} {b : Nat} {k : Ky} (h : KBox W b k) {j : Nat} {v : Value} (hj : (kyC k)[j]? = some v) : W.cell? ⟨b, j, none⟩ = some v := by
  unfold KBox at h
  simp [World.cell?, h, hj]
theorem KBox.kept {W W' : World} {row : Option Nat} {b : Nat} {k : Ky} (h : KBox W b k) (hg : W.grownBy W' row) (hne : some b ≠ row) : KBox W' b k := (hg.block b (Array.getElem?_eq_some_iff.1 h).1 hne).trans h
theorem cells_newL (w : World) (l : List Value) (t : TypeId) : ∀ j u, l[j]? = some u → (w.alloc (.cells l.toArray t)).cell? ((⟨w.heap.size, 0, none⟩ : Addr).add j) = some u := by
  intro j u hj
  have e : (⟨w.heap.size, 0, none⟩ : Addr).add j = ⟨w.heap.size, j, none⟩ := by unfold Addr.add; split <;> simp_all
  rw [e]
  simp [hj]
set_option maxRecDepth 100000 in
set_option maxHeartbeats 4000000 in
theorem appendSeq_in (F : Fence) (n : Nat) (h105 : F.fn 105) (hro : F.round = none) (hn : 2 ≤ n) (g : Nat) (lb : Array Value) (hFg : F.fn g) (eg : ∀ args w, (callFunc g args).run Tryz.prog w = .ok (.enter g args) w)
    (S Sp : List Ky → Prop) (N : Nat) (B k : Nat) (sv : Value) (xs : List Value) (w : World) (hB : B ≤ w.heap.size) (hsv : w.ownsRow B 45 5 sv k xs) (hN : k + N ≤ 1000000)
    (hseq : SeqStopsK F (n - 1) Tryz.prog g lb (fun x : Ky => #[kyV x]) KeepsWalks S Sp N w) :
    CallsIn F n Tryz.prog 105 #[sv, .func (.func g) #[] lb] w fun e w' => ∃ (v : Value) (ss : List Ky), e = .returned v ∧ S ss ∧ w'.ownsRow B 45 5 v (k + ss.length) (xs ++ kysL ss) ∧ Below B w w' := by
  have h1 : 1 ≤ n := by omega
  obtain ⟨sa, sc, rfl⟩ : ∃ a c, sv = .slice a k c := by
    rcases hsv.2 with ⟨e, e2⟩ | ⟨g, cap, cur, e, _⟩
    · exact ⟨none, 0, by rw [e, e2]⟩
    · exact ⟨_, _, e⟩
  have HSV := Lib.hid hsv
  have HSQ := Lib.hid hseq
  clear hsv hseq
  obtain ⟨i0, hi, hz0, hz1, hz2⟩ := info_parts keyInfo
  refine callsIn_of_wp_marks Tryz.func105 rfl h105 ?_ hro
  simp only [Tryz.ntmps105, List.size_toArray, List.length_cons, List.length_nil, Nat.reduceAdd, Nat.reduceSub, Array.replicate_succ, Array.replicate_zero, List.push_toArray, List.append_toArray, List.nil_append, List.cons_append]
  gi_wp2
  have bO := Boxed.new w 60 (.slice sa k sc)
  have hB0 : Below B w (w.alloc (.cells #[.slice sa k sc] 60)) := (Below.refl _ w).alloc hB _
  have hr0 : (w.alloc (.cells #[.slice sa k sc] 60)).ownsRow B 45 5 (.slice sa k sc) k xs := HSV.out.alloc _
  have hseq' : SeqStopsK F (n - 1) Tryz.prog g lb (fun x : Ky => #[kyV x]) KeepsWalks S Sp N w := HSQ.out
  refine wpIn_rangeFunc_ownH hro h1 (gf := g) (lb := lb) rfl hFg eg hseq' walksK_t walksK_b ((Below.refl _ w).alloc (Nat.le_refl _) _) (fun _ => rfl)
    (fun pre W => (∃ v, Boxed W w.heap.size 60 v ∧ W.ownsRow B 45 5 v (k + pre.length) (xs ++ kysL pre) ∧ True) ∧ Below B w W)
    (fun _ _ _ => False)
    (OwnFrom.and (Own.from (holdsRow_own B w.heap.size 60 45 5 (fun pre => k + pre.length) (fun pre => xs ++ kysL pre) (fun _ _ => True)) _) (ownFrom_below hB (by simp; omega)))
    (fun _ _ _ _ _ hs _ _ => hs)
    ⟨⟨_, bO, by simpa [kysL] using hr0, trivial⟩, hB0⟩
    (fun x a' W => ∃ Bx, w.heap.size < Bx ∧ KBox W Bx x ∧ a' = { tmps := #[.slice sa k sc, .func (.func g) #[] lb, .pointer (some ⟨w.heap.size, 0, none⟩), undef, .slice none 0 0, .pointer (some ⟨Bx, 0, none⟩), .func (.func g) #[] lb, kyV x, undef, undef, undef, undef, undef], defers := [] })
    (fun x a' _ W W' row hs hg hr => by
      obtain ⟨Bx, h1, h2, h3⟩ := hs
      refine ⟨Bx, h1, h2.kept hg (fun e => ?_), h3⟩
      obtain ⟨o, ho, hc⟩ := (hr Bx e.symm).2
      unfold KBox at h2
      rw [h2] at ho; cases ho; cases hc)
    ?assign ?body ?done ?stop
  case assign =>
    rintro l pre x W K ⟨⟨v, hv, hrow, -⟩, hBW⟩ hK
    gi_wp2
    rw [kyC]
    gi_wp2
    exact hK _ _ ((KeepsOthers.alloc W (.cells (kyC x) 45)).from _) (KeepsOthers.alloc W (.cells (kyC x) 45)).walks
      ⟨⟨v, hv.alloc _, hrow.alloc _, trivial⟩, hBW.alloc (Nat.le_trans hB hBW.size) _⟩ ⟨W.heap.size, hv.lt, World.alloc_heap_new W _, rfl⟩
  case body =>
    rintro l pre x a' W hl hrec ⟨⟨v, hv, hrow, -⟩, hBW⟩ ⟨Bx, hBx, hx, rfl⟩ hlt
    have hc := hv.cell
    have hx0 := hx.cell (j := 0) rfl
    have hx1 := hx.cell (j := 1) rfl
    have hx2 := hx.cell (j := 2) rfl
    have hx3 := hx.cell (j := 3) rfl
    have hx4 := hx.cell (j := 4) rfl
    have hB2 : B ≤ W.heap.size := Nat.le_trans hB hBW.size
    gi_wp2_with (gi_at_builtin; refine wpListIn_append_own _ rfl _ _ 60 rfl B 45 i0 (.agg #[.int .u32 0, .int .u32 0, .int .u16 0, .int .u16 0, .int .u8 0]) 5 16 Tryz.underlying60 hi hz0 hz1 hz2 rfl (by decide) _ _ _ rfl (hrow.alloc _) ⟨W.heap.size, 0, none⟩ 1 1 (kyL x) rfl rfl (cells_newL _ (kyL x) _) (kyL_one _) (by simp only [maxLen]; omega) (by omega) (by simp; omega) ?_; intro v' w1 hown' hgrow _; obtain ⟨g', cap', rfl⟩ := ownsRow_succ hown'; obtain ⟨hv1, hv2, hr2, hk2, hb2⟩ := hv.appended (by decide) hrow hB2 hB hown' hgrow; have hc1 := hv1.cell; have hf1 := hv1.frozen)
    exact ⟨hk2.from _, hk2.walks, ⟨⟨_, hv2, by rw [kysL_snoc]; simpa [Nat.add_assoc] using hr2, trivial⟩, hBW.trans hb2⟩⟩
  case done =>
    rintro D ys W hD hS ⟨⟨v, hv, hrow, -⟩, hBW⟩ hK
    have hc := hv.cell
    gi_wp2
    refine ⟨by simp, .inl ⟨_, _, rfl, run_takeDeferred hK, ?_⟩⟩
    exact ⟨_, results_tmp rfl _ _ _, v, ys, rfl, hS, ownsRow_putObj hrow _ hK rfl, hBW.trans (belowK_b (w := w) hB W D _ _ (by simp at hD; omega) hK rfl rfl)⟩
  case stop =>
    rintro D c pre W _ _ h _
    exact h.elim
end Go.Proofs.YtahgapkecabnjaaGreatDoor
/- Auto.Keys: its comparison; the library's sort at keys; SortedFunc, Clip. Printed by gen_iterc.py. -/
namespace Go.Proofs.YtahgapkecabnjaaGreatDoor
set_option linter.unusedSimpArgs false
set_option linter.unusedVariables false
open Go Go.RowKit Go.Maps Go.Shelf Go.Sort
attribute [local go_sem] Oper.semAt_some

def cfK (x y : Ky) : Int := if lessK x y = true then -1 else if lessK y x = true then 1 else 0
theorem ltOf_cfK (x y : Ky) : ltOf cfK x y = lessK x y := by
  unfold ltOf cfK
  cases lessK x y <;> cases lessK y x <;> simp
theorem swoK : SWO (ltOf cfK) where
  irrefl x := by rw [ltOf_cfK, lessK_not]; exact ltK_irrefl x
  trans x y z h1 h2 := by rw [ltOf_cfK, lessK_iff] at *; exact ltK_trans h1 h2
  ntrans x y z h1 h2 := by rw [ltOf_cfK, lessK_not] at *; exact ltK_ntrans h1 h2
theorem cfK_one (x y : Ky) (h : ltOf cfK x y = false) (k : ltOf cfK y x = false) : x = y := by
  rw [ltOf_cfK, lessK_not] at *
  by_cases e : x = y
  · exact e
  · exact ((ltK_total e).elim h k).elim
set_option maxHeartbeats 16000000 in
set_option maxRecDepth 100000 in
theorem cmpKey_any (x y : Ky) (w : World) :
    Calls Tryz.prog 51 #[kyV x, kyV y] w fun e w' => e = .returned (.int .i64 (cfK x y)) ∧ Grew w w' := by
  have C1 := Lib.hid (fun W => less_any x y W)
  have C2 := Lib.hid (fun W => less_any y x W)
  have HR : Hid (cfK x y = if lessK x y = true then -1 else if lessK y x = true then 1 else 0) := Lib.hid rfl
  generalize cfK x y = res at *
  obtain ⟨a0, a1, p0, p1, pr⟩ := x
  obtain ⟨b0, b1, q0, q1, qr⟩ := y
  unfold kyV kyC at *
  generalize lessK ⟨a0, a1, p0, p1, pr⟩ ⟨b0, b1, q0, q1, qr⟩ = r1 at *
  generalize lessK ⟨b0, b1, q0, q1, qr⟩ ⟨a0, a1, p0, p1, pr⟩ = r2 at *
  go_enter Tryz.func51, Tryz.ntmps51
  go_wp2_with fail
  have HG : Hid (Grew w ((w.alloc (.cells #[.int .u32 a0, .int .u32 a1, .int .u16 p0, .int .u16 p1, .int .u8 pr] 45)).alloc (.cells #[.int .u32 b0, .int .u32 b1, .int .u16 q0, .int .u16 q1, .int .u8 qr] 45))) := Lib.hid (((Grew.refl w).alloc _).alloc _)
  have xk0 : ((w.alloc (.cells #[.int .u32 a0, .int .u32 a1, .int .u16 p0, .int .u16 p1, .int .u8 pr] 45)).alloc (.cells #[.int .u32 b0, .int .u32 b1, .int .u16 q0, .int .u16 q1, .int .u8 qr] 45)).cell? ⟨w.heap.size, 0, none⟩ = some (.int .u32 a0) := by simp
  have xm0 : ((w.alloc (.cells #[.int .u32 a0, .int .u32 a1, .int .u16 p0, .int .u16 p1, .int .u8 pr] 45)).alloc (.cells #[.int .u32 b0, .int .u32 b1, .int .u16 q0, .int .u16 q1, .int .u8 qr] 45)).cell? ⟨w.heap.size + 1, 0, none⟩ = some (.int .u32 b0) := by simp
  have xk1 : ((w.alloc (.cells #[.int .u32 a0, .int .u32 a1, .int .u16 p0, .int .u16 p1, .int .u8 pr] 45)).alloc (.cells #[.int .u32 b0, .int .u32 b1, .int .u16 q0, .int .u16 q1, .int .u8 qr] 45)).cell? ⟨w.heap.size, 1, none⟩ = some (.int .u32 a1) := by simp
  have xm1 : ((w.alloc (.cells #[.int .u32 a0, .int .u32 a1, .int .u16 p0, .int .u16 p1, .int .u8 pr] 45)).alloc (.cells #[.int .u32 b0, .int .u32 b1, .int .u16 q0, .int .u16 q1, .int .u8 qr] 45)).cell? ⟨w.heap.size + 1, 1, none⟩ = some (.int .u32 b1) := by simp
  have xk2 : ((w.alloc (.cells #[.int .u32 a0, .int .u32 a1, .int .u16 p0, .int .u16 p1, .int .u8 pr] 45)).alloc (.cells #[.int .u32 b0, .int .u32 b1, .int .u16 q0, .int .u16 q1, .int .u8 qr] 45)).cell? ⟨w.heap.size, 2, none⟩ = some (.int .u16 p0) := by simp
  have xm2 : ((w.alloc (.cells #[.int .u32 a0, .int .u32 a1, .int .u16 p0, .int .u16 p1, .int .u8 pr] 45)).alloc (.cells #[.int .u32 b0, .int .u32 b1, .int .u16 q0, .int .u16 q1, .int .u8 qr] 45)).cell? ⟨w.heap.size + 1, 2, none⟩ = some (.int .u16 q0) := by simp
  have xk3 : ((w.alloc (.cells #[.int .u32 a0, .int .u32 a1, .int .u16 p0, .int .u16 p1, .int .u8 pr] 45)).alloc (.cells #[.int .u32 b0, .int .u32 b1, .int .u16 q0, .int .u16 q1, .int .u8 qr] 45)).cell? ⟨w.heap.size, 3, none⟩ = some (.int .u16 p1) := by simp
  have xm3 : ((w.alloc (.cells #[.int .u32 a0, .int .u32 a1, .int .u16 p0, .int .u16 p1, .int .u8 pr] 45)).alloc (.cells #[.int .u32 b0, .int .u32 b1, .int .u16 q0, .int .u16 q1, .int .u8 qr] 45)).cell? ⟨w.heap.size + 1, 3, none⟩ = some (.int .u16 q1) := by simp
  have xk4 : ((w.alloc (.cells #[.int .u32 a0, .int .u32 a1, .int .u16 p0, .int .u16 p1, .int .u8 pr] 45)).alloc (.cells #[.int .u32 b0, .int .u32 b1, .int .u16 q0, .int .u16 q1, .int .u8 qr] 45)).cell? ⟨w.heap.size, 4, none⟩ = some (.int .u8 pr) := by simp
  have xm4 : ((w.alloc (.cells #[.int .u32 a0, .int .u32 a1, .int .u16 p0, .int .u16 p1, .int .u8 pr] 45)).alloc (.cells #[.int .u32 b0, .int .u32 b1, .int .u16 q0, .int .u16 q1, .int .u8 qr] 45)).cell? ⟨w.heap.size + 1, 4, none⟩ = some (.int .u8 qr) := by simp
  generalize ((w.alloc (.cells #[.int .u32 a0, .int .u32 a1, .int .u16 p0, .int .u16 p1, .int .u8 pr] 45)).alloc (.cells #[.int .u32 b0, .int .u32 b1, .int .u16 q0, .int .u16 q1, .int .u8 qr] 45)) = wx at *
  generalize w.heap.size = n0 at *
  refine (C1.out _).mono ?_
  rintro e w1 ⟨rfl, hg1⟩
  have HS1 : Hid (Grew w w1) := Lib.hid (HG.out.trans hg1)
  have yk0 := hg1.cell xk0
  have ym0 := hg1.cell xm0
  have yk1 := hg1.cell xk1
  have ym1 := hg1.cell xm1
  have yk2 := hg1.cell xk2
  have ym2 := hg1.cell xm2
  have yk3 := hg1.cell xk3
  have ym3 := hg1.cell xm3
  have yk4 := hg1.cell xk4
  have ym4 := hg1.cell xm4
  clear hg1
  cases r1
  · go_wp2_with fail
    refine (C2.out _).mono ?_
    rintro e w2 ⟨rfl, hg2⟩
    have HS2 : Hid (Grew w w2) := Lib.hid (HS1.out.trans hg2)
    clear hg2
    cases r2
    · go_wp2_with fail
      go_ret
      exact ⟨by rw [HR.out]; rfl, HS2.out⟩
    · go_wp2_with fail
      go_ret
      exact ⟨by rw [HR.out]; rfl, HS2.out⟩
  · go_wp2_with fail
    go_ret
    exact ⟨by rw [HR.out]; rfl, HS1.out⟩
/-! ### Rows of keys -/
theorem kysL_len (l : List Ky) : (kysL l).length = l.length * 5 := by
  induction l with
  | nil => rfl
  | cons x l ih => simp only [kysL, List.flatMap_cons, List.length_append, List.length_cons] at *; rw [ih]; simp [kyL, kyC]; omega
theorem kysL_at : ∀ (l : List Ky) (t : Nat), t < l.length * 5 → (kysL l)[t]? = some ((kyL (l.toArray[t / 5]!))[t % 5]!)
  | [], t, h => by simp at h
  | x :: l, t, h => by
    have e : kysL (x :: l) = kyL x ++ kysL l := by simp [kysL]
    rw [e]
    by_cases ht : t < 5
    · rw [List.getElem?_append_left (by simpa [kyL, kyC] using ht), show t / 5 = 0 by omega, show t % 5 = t by omega]
      match t, ht with
      | 0, _ => rfl
      | 1, _ => rfl
      | 2, _ => rfl
      | 3, _ => rfl
      | 4, _ => rfl
    · rw [List.getElem?_append_right (by simp [kyL, kyC]; omega)]
      have hl : (kyL x).length = 5 := rfl
      rw [hl, kysL_at l (t - 5) (by simp at h; omega), show (t - 5) / 5 = t / 5 - 1 by omega, show (t - 5) % 5 = t % 5 by omega]
      obtain ⟨u, hu⟩ : ∃ u, t / 5 = u + 1 := ⟨t / 5 - 1, by omega⟩
      rw [hu]
      simp
theorem flat_keys (l : List Ky) : (flatK kyL 5 l.toArray).toList = kysL l := by
  apply List.ext_getElem?
  intro t
  by_cases h : t < l.length * 5
  · rw [kysL_at l t h]
    have := get_flatK kyL 5 l.toArray t (by simpa using h)
    rw [← this, Array.getElem?_toList, Array.getElem?_eq_getElem (by simpa using h), getElem!_pos _ t (by simpa using h)]
  · rw [List.getElem?_eq_none (by simpa using h), List.getElem?_eq_none (by rw [kysL_len]; omega)]
theorem holds_row {w : World} {g : Nat} {cur : Array Value} {e : TypeId} {F : Array Value} (hb : w.heap[g]? = some (.cells cur e (0, 0))) (ht : cur.toList.take F.size = F.toList) : Holds id w g 0 F := by
  intro j hj
  refine ⟨?_, by simp [World.frozen?, hb]⟩
  have h1 : (cur.toList.take F.size)[j]? = F.toList[j]? := by rw [ht]
  rw [List.getElem?_take_of_lt hj] at h1
  simp only [World.cell?, hb, Nat.zero_add]
  simp only [Option.isSome_none, Bool.false_eq_true, if_false]
  rw [← Array.getElem?_toList, h1]
  simp [hj]
theorem heap_row {w : World} {g n : Nat} {os : Array Obj} {cur : Array Value} {e : TypeId} {fr : Nat × Nat} (F : Array Value) (hb : w.heap[g]? = some (.cells cur e fr)) :
    (grow (putRow id (Sort.ahead w n) g 0 F) os).heap[g]? = some (.cells (putCells id 0 F cur) e fr) := by
  have hg : g < w.heap.size := (Array.getElem?_eq_some_iff.1 hb).1
  rw [heap_grow_old _ _ (by simpa using hg)]
  simp [putRow, mapBlock, Sort.ahead, Array.getElem?_modify, hb, onCells]
theorem grownBy_row {w : World} {g n : Nat} {os : Array Obj} (F : Array Value) : w.grownBy (grow (putRow id (Sort.ahead w n) g 0 F) os) (some g) := by
  refine ⟨rfl, rfl, rfl, by simp, fun k hk hne => ?_⟩
  rw [heap_grow_old _ _ (by simpa using hk)]
  have : g ≠ k := fun e => hne (by rw [e])
  simp [putRow, mapBlock, Sort.ahead, Array.getElem?_modify, this]
theorem take_row (cur F : Array Value) (h : F.size ≤ cur.size) : (putCells id 0 F cur).toList.take F.size = F.toList := by
  apply List.ext_getElem?
  intro j
  by_cases hj : j < F.size
  · rw [List.getElem?_take_of_lt hj, Array.getElem?_toList]
    simp [putCells, hj, show j < cur.size by omega]
  · rw [List.getElem?_take_eq_none (by omega), List.getElem?_eq_none (by simp; omega)]
/-- Behind the sort the same slice owns the list in its order. -/
theorem ownsRow_keys {w : World} {base g cap n : Nat} {e : TypeId} {os : Array Obj} {cur : Array Value} {ss ts : List Ky} (hl : ts.length = ss.length) (hbase : base ≤ g) (hb : w.heap[g]? = some (.cells cur e (0, 0)))
    (h1 : ss.length ≤ cap) (h2 : cap ≤ maxLen) (h3 : cur.size = cap * 5) :
    (sortWorldK kyL 5 w g 0 n ts.toArray os).ownsRow base e 5 (.slice (some ⟨g, 0, none⟩) ss.length cap) ss.length (kysL ts) := by
  have hF : (flatK kyL 5 ts.toArray).size = ss.length * 5 := by simp [hl]
  refine ⟨by rw [kysL_len, hl], .inr ⟨g, cap, _, rfl, hbase, heap_row (flatK kyL 5 ts.toArray) hb, h1, h2, by simp [putCells, h3], ?_⟩⟩
  rw [← hF, ← flat_keys]
  exact take_row cur _ (by rw [hF, h3]; exact Nat.mul_le_mul_right 5 h1)
theorem key_agg : ∀ w, (isAgg 45).run Tryz.prog w = .ok true w := Tryz.isAgg45
theorem key_size : ∀ w, (Go.sizeOf 45).run Tryz.prog w = .ok 5 w := Tryz.sizeOf45
/-- The list in its order. -/
def sortL (ss : List Ky) : List Ky := ss.mergeSort fun x y => !(ltOf cfK) y x
theorem cmpLaysK (blk off size : Nat) (w : World) : CmpLays Tryz.prog 51 #[] kyL 5 cfK blk off size w := fun m os dk hs x y => by
  refine (cmpKey_any x y _).mono ?_
  rintro e w' ⟨rfl, q, os', rfl⟩
  exact ⟨rfl, q, os', rfl⟩
set_option maxHeartbeats 1000000 in
theorem sortFunc_any (B : Nat) (v : Value) (ss : List Ky) (w : World) (hrow : w.ownsRow B 45 5 v ss.length (kysL ss)) (hB : B ≤ w.heap.size) (hN : ss.length ≤ 1000000) :
    Calls Tryz.prog 82 #[v, .func (.func 51) #[] #[]] w fun e w' => e = .returned (.tuple #[]) ∧ w'.ownsRow B 45 5 v ss.length (kysL (sortL ss)) ∧ Below B w w' := by
  have hrow' := hrow
  rcases hrow.2 with ⟨rfl, hz⟩ | ⟨gb, cap, cur, rfl, hbase, hgb, r1, r2, r3, r4⟩
  · have hss : ss = [] := List.eq_nil_of_length_eq_zero hz
    subst hss
    refine (AnyF.slices_SortFunc_none (P := Tryz.prog) (ρ := Tryz.sortK_ren) Tryz.sortK none 0 _ w).mono ?_
    rintro e w' ⟨rfl, rfl⟩
    exact ⟨rfl, by simpa [sortL] using hrow', Below.refl _ _⟩
  · have eg : ∀ args w, (callFunc 51 args).run Tryz.prog w = .ok (.enter 51 args) w := enters_of Tryz.func51 (by kernel_rfl) rfl
    have hH : HoldsK kyL 5 w gb 0 ss.toArray := holds_row hgb (by rw [flat_keys]; simpa using r4)
    have hgl : gb < w.heap.size := (Array.getElem?_eq_some_iff.1 hgb).1
    have hsz : ss.length < 4611686018427387904 := by omega
    have hc := AnyQ.slices_SortFunc_total Tryz.sortK 5 key_agg key_size kyL (fun _ => rfl) (fun x => kyL_one x) cfK swoK 51 #[] gb 0 cap ss.toArray w eg (cmpLaysK gb 0 _ w) hH hgl (by simpa using hsz) cfK_one
    refine (show Calls Tryz.prog 82 #[.slice (some ⟨gb, 0, none⟩) ss.length cap, .func (.func 51) #[] #[]] w _ from hc).mono ?_
    rintro e w' ⟨rfl, n, os, rfl⟩
    refine ⟨rfl, ownsRow_keys (by simp [sortL]) hbase hgb r1 r2 r3, ?_⟩
    exact (Below.refl _ w).grown (grownBy_row _) hB (fun j hj => by cases hj; exact hbase)

/-! ### Collect, SortedFunc, Clip, Auto.Keys -/
set_option maxHeartbeats 1000000 in
theorem collect_in (n : Nat) (hn : 3 ≤ n) (g : Nat) (lb : Array Value) (eg : ∀ args w, (callFunc g args).run Tryz.prog w = .ok (.enter g args) w)
    (S Sp : List Ky → Prop) (N : Nat) (w : World) (hN : N ≤ 1000000) (hseq : SeqStopsK Fence.wide (n - 1 - 1) Tryz.prog g lb (fun x : Ky => #[kyV x]) KeepsWalks S Sp N w) :
    CallsIn Fence.wide n Tryz.prog 81 #[.func (.func g) #[] lb] w fun e w' => ∃ (v : Value) (ss : List Ky), e = .returned v ∧ S ss ∧ w'.ownsRow w.heap.size 45 5 v ss.length (kysL ss) ∧ Below w.heap.size w w' := by
  have h1 : 1 ≤ n := by omega
  have f1 : Fence.wide.fn 105 := trivial
  refine callsIn_of_wp Tryz.func81 rfl trivial ?_ rfl
  simp only [Tryz.ntmps81, List.size_toArray, List.length_cons, List.length_nil, Nat.reduceAdd, Nat.reduceSub, Array.replicate_succ, Array.replicate_zero, List.push_toArray, List.append_toArray, List.nil_append, List.cons_append]
  gi_wp2_with (gi_at_call 105; refine (appendSeq_in Fence.wide (n - 1) trivial rfl (by omega) g lb trivial eg S Sp N w.heap.size 0 (.slice none 0 0) [] w (Nat.le_refl _) (World.ownsRow_nil _ _ _ _) (by omega) hseq).mono ?_; rintro e W ⟨v, ss, rfl, hS, hrow, hb⟩)
  go_ret
  exact ⟨v, ss, rfl, hS, by simpa using hrow, hb⟩
set_option maxHeartbeats 1000000 in
theorem sortedFunc_in (n : Nat) (hn : 4 ≤ n) (g : Nat) (lb : Array Value) (eg : ∀ args w, (callFunc g args).run Tryz.prog w = .ok (.enter g args) w)
    (S Sp : List Ky → Prop) (N : Nat) (w : World) (hN : N ≤ 1000000) (hS : ∀ ss, S ss → ss.length ≤ 1000000) (hseq : SeqStopsK Fence.wide (n - 1 - 1 - 1) Tryz.prog g lb (fun x : Ky => #[kyV x]) KeepsWalks S Sp N w) :
    CallsIn Fence.wide n Tryz.prog 49 #[.func (.func g) #[] lb, .func (.func 51) #[] #[]] w fun e w' => ∃ (v : Value) (ss : List Ky), e = .returned v ∧ S ss ∧ w'.ownsRow w.heap.size 45 5 v ss.length (kysL (sortL ss)) ∧ Below w.heap.size w w' := by
  have h1 : 1 ≤ n := by omega
  have f1 : Fence.wide.fn 81 := trivial
  have f2 : Fence.wide.fn 82 := trivial
  refine callsIn_of_wp Tryz.func49 rfl trivial ?_ rfl
  simp only [Tryz.ntmps49, List.size_toArray, List.length_cons, List.length_nil, Nat.reduceAdd, Nat.reduceSub, Array.replicate_succ, Array.replicate_zero, List.push_toArray, List.append_toArray, List.nil_append, List.cons_append]
  gi_wp2_with (first
    | (gi_at_call 81; refine (collect_in (n - 1) (by omega) g lb eg S Sp N w hN hseq).mono ?_; rintro e W ⟨v, ss, rfl, hSs, hrow, hb⟩)
    | (gi_at_call 82; refine (callsIn_wide.2 (sortFunc_any w.heap.size v ss W hrow hb.size (hS _ hSs))).mono ?_; rintro e W2 ⟨rfl, hrow2, hb2⟩))
  go_ret
  exact ⟨v, ss, rfl, hSs, hrow2, hb.trans hb2⟩
/-- A slice in whose places the keys of a list can be read. -/
def KeysAt (w : World) (B : Nat) (v : Value) (l : List Ky) : Prop :=
  ∃ a c, v = .slice a l.length c ∧ ∀ j x, (kysL l)[j]? = some x → ∃ g, a = some ⟨g, 0, none⟩ ∧ B ≤ g ∧ w.cell? ⟨g, j, none⟩ = some x
theorem KeysAt.nil (w : World) (B : Nat) (a : Option Addr) (c : Nat) : KeysAt w B (.slice a 0 c) [] := ⟨a, c, rfl, fun j x h => by simp [kysL] at h⟩
theorem KeysAt.kept {w w' : World} {B : Nat} {v : Value} {l : List Ky} (h : KeysAt w B v l) (hk : ∀ g, B ≤ g → g < w.heap.size → w'.heap[g]? = w.heap[g]?) : KeysAt w' B v l := by
  obtain ⟨a, c, rfl, h⟩ := h
  refine ⟨a, c, rfl, fun j x hj => ?_⟩
  obtain ⟨g, rfl, hB, hc⟩ := h j x hj
  exact ⟨g, rfl, hB, (World.cell?_of_block (hk g hB (World.block_lt_of_cell? w _ hc))).trans hc⟩
set_option maxHeartbeats 1000000 in
theorem clip_any (B : Nat) (v : Value) (l : List Ky) (w : World) (hrow : w.ownsRow B 45 5 v l.length (kysL l)) :
    Calls Tryz.prog 48 #[v] w fun e w' => ∃ v', e = .returned v' ∧ KeysAt w B v' l ∧ w' = w := by
  rcases hrow.2 with ⟨rfl, hz⟩ | ⟨gb, cap, cur, rfl, hbase, hgb, r1, r2, r3, r4⟩
  · have hss : l = [] := List.eq_nil_of_length_eq_zero hz
    subst hss
    go_enter Tryz.func48, Tryz.ntmps48
    go_wp2
    go_ret
    exact ⟨_, rfl, KeysAt.nil _ _ _ _, rfl⟩
  · have hcell : ∀ j x, (kysL l)[j]? = some x → w.cell? ⟨gb, j, none⟩ = some x := fun j x hj => by
      have hlt : j < l.length * 5 := by rw [← kysL_len]; exact (List.getElem?_eq_some_iff.1 hj).1
      rw [← r4, List.getElem?_take_of_lt hlt] at hj
      simp only [World.cell?, hgb]
      simpa using hj
    generalize hl : l.length = m at *
    clear hrow r3 r4 hgb
    have HC := Lib.hid hcell
    clear hcell
    go_enter Tryz.func48, Tryz.ntmps48
    go_wp2
    go_ret
    exact ⟨.slice (some ⟨gb, 0, none⟩) m m, rfl, ⟨_, _, by rw [hl], fun j x hj => ⟨gb, rfl, hbase, HC.out j x hj⟩⟩, rfl⟩
theorem sortL_one {ss l : List Ky} (hn : ss.Nodup) (hm : ∀ k, k ∈ ss ↔ k ∈ l) (hr : Rises l) : sortL ss = l := by
  have hp : (sortL ss).Perm ss := List.mergeSort_perm ss _
  refine rises_one (rises_of_sorted ?_ (hp.nodup_iff.2 hn)) hr (fun x => (hp.mem_iff).trans (hm x))
  refine List.Pairwise.imp (R := fun x y => (!(ltOf cfK) y x) = true) (fun {x y} h => ?_) (List.pairwise_mergeSort (le := fun x y => !(ltOf cfK) y x) ?_ ?_ ss)
  · rw [ltOf_cfK] at h
    simpa [lessK_not] using h
  · intro x y z h1 h2
    rw [ltOf_cfK] at *
    simp only [Bool.not_eq_true', lessK_not] at *
    exact ltK_ntrans h2 h1
  · intro x y
    simp only [ltOf_cfK]
    by_cases e : lessK y x = true
    · have : lessK x y = false := lessK_not.2 (ltK_asymm (lessK_iff.1 e))
      simp [this]
    · simp [e]
set_option maxHeartbeats 2000000 in
/-- Auto.Keys, of an engine's map of flows. -/
theorem autoKeys_any {β : Type} (ba b : Nat) (ev : β → Value) (fl : Kl β) (f : Value → Option Value) (w : World) (hp : w.cell? ⟨ba, 20, none⟩ = some (.map (some b))) (hfl : FlowsAt w b ev fl f) (hN : fl.length ≤ 1000000) (hr : Rises (keysL fl)) :
    Calls Tryz.prog 20 #[.pointer (some ⟨ba, 0, none⟩)] w fun e w' => ∃ v, e = .returned v ∧ KeysAt w' w.heap.size v (keysL fl) ∧ Below w.heap.size w w' := by
  refine (callsIn_wide (n := 5)).1 ?_
  have h1 : 1 ≤ 5 := by omega
  have f1 : Fence.wide.fn 50 := trivial
  have f2 : Fence.wide.fn 49 := trivial
  have f3 : Fence.wide.fn 48 := trivial
  have eg : ∀ args w, (callFunc 83 args).run Tryz.prog w = .ok (.enter 83 args) w := enters_of Tryz.func83 (by kernel_rfl) rfl
  have hb0 : Below w.heap.size w (w.alloc (.cells #[.map (some b)] 81)) := (Below.refl _ w).alloc (Nat.le_refl _) _
  have hfl1 : FlowsAt (w.alloc (.cells #[.map (some b)] 81)) b ev fl f := hfl.of_block (hb0.block b hfl.is.lt)
  have hseq := keys_stops Fence.wide (4 - 1 - 1 - 1) trivial rfl (by omega) w.heap.size b ev fl f (w.alloc (.cells #[.map (some b)] 81)) (by simp) (by simp) hfl1
  have hlen : ∀ ss : List Ky, (ss.Nodup ∧ ∀ k, k ∈ ss ↔ k ∈ keysL fl) → ss.length ≤ 1000000 := fun ss h => by
    have := nodup_le ss (keysL fl) h.1 (fun x hx => (h.2 x).1 hx)
    simp [keysL] at this
    omega
  refine callsIn_of_wp Tryz.func20 rfl trivial ?_ rfl
  simp only [Tryz.ntmps20, List.size_toArray, List.length_cons, List.length_nil, Nat.reduceAdd, Nat.reduceSub, Array.replicate_succ, Array.replicate_zero, List.push_toArray, List.append_toArray, List.nil_append, List.cons_append]
  gi_wp2_with (first
    | (gi_at_call 50; refine (keys_in Fence.wide (5 - 1) trivial rfl (some b) w).mono ?_; rintro e W ⟨rfl, rfl⟩)
    | (gi_at_call 49; refine (sortedFunc_in (5 - 1) (by omega) _ _ eg _ _ fl.length _ hN hlen hseq).mono ?_; rintro e W2 ⟨v, ss, rfl, ⟨hn, hm⟩, hrow, hb⟩)
    | (gi_at_call 48; refine (callsIn_wide.2 (clip_any _ v (sortL ss) W2 (by rw [show (sortL ss).length = ss.length by simp [sortL]]; exact hrow))).mono ?_; rintro e W3 ⟨v3, rfl, hks, rfl⟩))
  go_ret
  rw [sortL_one hn hm hr] at hks
  refine ⟨v3, rfl, ?_, hb0.trans (hb.mono (by simp))⟩
  obtain ⟨a, c, rfl, hk⟩ := hks
  exact ⟨a, c, rfl, fun j x hj => by
    obtain ⟨g, e1, e2, e3⟩ := hk j x hj
    exact ⟨g, e1, by simp at e2; omega, e3⟩⟩
end Go.Proofs.YtahgapkecabnjaaGreatDoor
/- The firewall's state, plain, and how it lies in memory. -/
namespace Go.Proofs.YtahgapkecabnjaaGreatDoor
set_option linter.unusedSimpArgs false
set_option linter.unusedVariables false
open Go Go.RowKit Go.Shelf Go.Lib

/-- A firewall. -/
structure St where
  c : Cf
  g : Nat
  rules : List (List Rl)
  flows : Kl (Nat × Bool)
  told : Nat → Nat
/-- An entry of the engine's map. -/
def evE (p : Nat × Bool) : Value := .agg #[.int .u64 (p.1 : Nat), .bool p.2]
/-- The engine's 27 cells: rv the slice of rules, mb the map's block. -/
def autoC (s : St) (rv : Value) (mb : Nat) : Array Value :=
  #[.int .i64 s.c.st, .int .i64 s.c.cap, .int .i64 (s.c.ts 0), .int .i64 (s.c.ts 1), .int .i64 (s.c.ts 2), .int .i64 (s.c.ts 3), .int .i64 (s.c.ts 4), .int .i64 (s.c.ts 5), .int .i64 (s.c.ts 6), .int .i64 (s.c.ts 7), .int .i64 (s.c.ts 8), .int .i64 (s.c.ts 9), .int .i64 (s.c.ts 10), .int .i64 (s.c.ts 11), .int .i64 (s.c.ts 12), .int .i64 (s.c.ts 13), .int .i64 (s.c.ts 14), .int .i64 (s.c.ts 15),
    .int .u64 (s.g : Nat), rv, .map (some mb), .int .u64 (s.told 0 : Nat), .int .u64 (s.told 1 : Nat), .int .u64 (s.told 2 : Nat), .int .u64 (s.told 3 : Nat), .int .u64 (s.told 4 : Nat), .int .u64 (s.told 5 : Nat)]
/-- A list of rules, in a block of its own. -/
structure Inner (w : World) (F : Nat → Prop) (v : Value) (rs : List Rl) : Prop where
  row : Row w 79 10 v rs.length (rowsC rs)
  all : ∀ r ∈ rs, r.In
  foot : ∀ b, v.ownBlock = some b → F b
theorem Inner.keep {w w' : World} {F F' : Nat → Prop} {v : Value} {rs : List Rl} (h : Inner w F v rs) (hb : ∀ b, v.ownBlock = some b → w'.heap[b]? = w.heap[b]?) (hF : ∀ i, F i → F' i) : Inner w' F' v rs := ⟨row_of_block h.row hb, h.all, fun b e => hF b (h.foot b e)⟩
theorem Inner.rules {w : World} {F : Nat → Prop} {v : Value} {rs : List Rl} (h : Inner w F v rs) : ∃ a c, v = .slice a rs.length c ∧ RulesAt w a rs := rules_of_row h.row h.all
/-- The engine lies in the blocks F, its box in block ba. -/
structure AutoW (w : World) (ba : Nat) (F : Nat → Prop) (s : St) (rv : Value) (mb : Nat) (f : Value → Option Value) (vs : List Value) : Prop where
  box : w.heap[ba]? = some (.cells (autoC s rv mb) 84 (0, 0))
  row : Row w 25 1 rv s.rules.length vs
  inner : ∀ (i : Nat) (rs : List Rl), s.rules[i]? = some rs → ∃ v : Value, vs[i]? = some v ∧ Inner w F v rs
  fl : FlowsAt w mb evE s.flows f
  fba : F ba
  fmb : F mb
  frv : ∀ b, rv.ownBlock = some b → F b
def AutoAt (w : World) (ba : Nat) (F : Nat → Prop) (s : St) : Prop := ∃ rv mb f vs, AutoW w ba F s rv mb f vs
theorem AutoW.of_turn {w w' : World} {ba mb : Nat} {F G : Nat → Prop} {s : St} {rv : Value} {f : Value → Option Value} {vs : List Value} (h : AutoW w ba F s rv mb f vs) (t : Turn G w w') (hs : Sep F G) : AutoW w' ba F s rv mb f vs := by
  refine ⟨(t.block ba (Array.getElem?_eq_some_iff.1 h.box).1 (hs _ h.fba)).trans h.box, row_turn h.row t (fun b e => hs _ (h.frv b e)), fun i rs hi => ?_, h.fl.of_block (t.block mb h.fl.is.lt (hs _ h.fmb)), h.fba, h.fmb, h.frv⟩
  obtain ⟨v, e, hv⟩ := h.inner i rs hi
  exact ⟨v, e, hv.keep (fun b eb => t.block b (row_lt hv.row eb) (hs _ (hv.foot b eb))) (fun _ h => h)⟩
theorem AutoAt.of_turn {w w' : World} {ba : Nat} {F G : Nat → Prop} {s : St} (h : AutoAt w ba F s) (t : Turn G w w') (hs : Sep F G) : AutoAt w' ba F s := by
  obtain ⟨rv, mb, f, vs, h⟩ := h
  exact ⟨rv, mb, f, vs, h.of_turn t hs⟩
theorem AutoAt.below {w w' : World} {ba : Nat} {F : Nat → Prop} {s : St} (h : AutoAt w ba F s) (t : Below w.heap.size w w') : AutoAt w' ba F s := by
  refine h.of_turn (Turn.of_below (F := fun _ => False) t) (fun _ _ h => h)
/-- What lies of the engine in its box. -/
theorem AutoW.cell {w : World} {ba mb : Nat} {F : Nat → Prop} {s : St} {rv : Value} {f : Value → Option Value} {vs : List Value} (h : AutoW w ba F s rv mb f vs) {j : Nat} {v : Value} (hj : (autoC s rv mb)[j]? = some v) : w.cell? ⟨ba, j, none⟩ = some v := by
  have := h.box
  simp [World.cell?, this, hj]
theorem AutoW.free {w : World} {ba mb : Nat} {F : Nat → Prop} {s : St} {rv : Value} {f : Value → Option Value} {vs : List Value} (h : AutoW w ba F s rv mb f vs) (j : Nat) : w.frozen? ⟨ba, j, none⟩ = false := by
  have := h.box
  simp [World.frozen?, this]
theorem AutoAt.keys {w : World} {ba : Nat} {F : Nat → Prop} {s : St} (h : AutoAt w ba F s) (hN : s.flows.length ≤ 1000000) (hr : Rises (keysL s.flows)) :
    Calls Tryz.prog 20 #[.pointer (some ⟨ba, 0, none⟩)] w fun e w' => ∃ v, e = .returned v ∧ KeysAt w' w.heap.size v (keysL s.flows) ∧ Below w.heap.size w w' := by
  obtain ⟨rv, mb, f, vs, h⟩ := h
  exact autoKeys_any ba mb evE s.flows f w (h.cell rfl) h.fl hN hr
end Go.Proofs.YtahgapkecabnjaaGreatDoor
/- Plain law: fields of words, the gate's word, the flow's word. No program in sight. -/
namespace Go.Proofs.YtahgapkecabnjaaGreatDoor
set_option linter.unusedSimpArgs false
set_option linter.unusedVariables false

/-! ### Fields -/
def getN (w at_ s : Nat) : Nat := w / 2 ^ at_ % 2 ^ s
def putN (w at_ s v : Nat) : Nat := 2 ^ at_ * (2 ^ s * (w / 2 ^ (at_ + s)) + v % 2 ^ s) + w % 2 ^ at_
theorem tb_mask (at_ s j : Nat) : ((2 ^ s - 1) * 2 ^ at_).testBit j = (decide (at_ ≤ j) && decide (j - at_ < s)) := by
  rw [← Nat.shiftLeft_eq, Nat.testBit_shiftLeft, Nat.testBit_two_pow_sub_one]
theorem nat_put {w at_ s v : Nat} (hw : w < 2 ^ 64) (h : at_ + s ≤ 64) :
    (w &&& (2 ^ 64 - 1 - (2 ^ s - 1) * 2 ^ at_)) ||| (v * 2 ^ at_ % 2 ^ 64 &&& (2 ^ s - 1) * 2 ^ at_) = putN w at_ s v := by
  have hm : (2 ^ s - 1) * 2 ^ at_ < 2 ^ 64 := by
    have h1 : (2 ^ s - 1) * 2 ^ at_ < 2 ^ s * 2 ^ at_ := Nat.mul_lt_mul_of_pos_right (by have := Nat.two_pow_pos s; omega) (Nat.two_pow_pos at_)
    have h2 : 2 ^ s * 2 ^ at_ = 2 ^ (at_ + s) := by rw [← Nat.pow_add, Nat.add_comm]
    have h3 : 2 ^ (at_ + s) ≤ 2 ^ 64 := Nat.pow_le_pow_right (by omega) h
    omega
  apply Nat.eq_of_testBit_eq
  intro j
  have hlo : w % 2 ^ at_ < 2 ^ at_ := Nat.mod_lt _ (Nat.two_pow_pos _)
  have hmid : v % 2 ^ s < 2 ^ s := Nat.mod_lt _ (Nat.two_pow_pos _)
  have hc : 2 ^ 64 - 1 - (2 ^ s - 1) * 2 ^ at_ = 2 ^ 64 - ((2 ^ s - 1) * 2 ^ at_ + 1) := by omega
  unfold putN
  rw [Nat.testBit_or, Nat.testBit_and, Nat.testBit_and, hc, Nat.testBit_two_pow_sub_succ hm, tb_mask, Nat.testBit_two_pow_mul_add _ hlo, Nat.testBit_two_pow_mul_add _ hmid, Nat.testBit_mod_two_pow, Nat.testBit_mod_two_pow, Nat.testBit_mod_two_pow, Nat.testBit_div_two_pow, ← Nat.shiftLeft_eq, Nat.testBit_shiftLeft]
  by_cases h1 : j < at_
  · have : ¬ at_ ≤ j := by omega
    simp [h1, this]; intro _; omega
  · have h1' : at_ ≤ j := by omega
    by_cases h2 : j - at_ < s
    · have h4 : j < 64 := by omega
      simp [h1, h1', h2, h4]
    · have e : at_ + s + (j - at_ - s) = j := by omega
      have e' : j - at_ - s + (at_ + s) = j := by omega
      by_cases h4 : j < 64
      · simp [h1, h1', h2, h4, e, e']
      · have hz : w.testBit j = false := Nat.testBit_lt_two_pow (Nat.lt_of_lt_of_le hw (Nat.pow_le_pow_right (by omega) (by omega)))
        simp [h1, h1', h2, h4, e, e', hz]
theorem nat_get (w at_ s : Nat) : w / 2 ^ at_ &&& (2 ^ s - 1) = getN w at_ s := by unfold getN; rw [Nat.and_two_pow_sub_one_eq_mod]

/-! ### The gate's word -/
def verW (w : Nat) : Nat := w / 4503599627370496
def cntW (w : Nat) : Nat := w / 1099511627776 % 4096
def clkW (w : Nat) : Nat := w % 1099511627776
abbrev U64 (w : Nat) : Prop := w < 18446744073709551616
theorem get_ver {w : Nat} (h : U64 w) : getN w 52 12 = verW w := by unfold getN verW; unfold U64 at h; omega
theorem get_cnt (w : Nat) : getN w 40 12 = cntW w := by unfold getN cntW; omega
theorem get_clk (w : Nat) : getN w 0 40 = clkW w := by unfold getN clkW; omega
theorem gate_parts {w : Nat} (h : U64 w) : w = (verW w * 4096 + cntW w) * 1099511627776 + clkW w ∧ verW w ≤ 4095 ∧ cntW w ≤ 4095 ∧ clkW w ≤ 1099511627775 := by
  unfold verW cntW clkW; unfold U64 at h; omega
def packG (v c t : Nat) : Nat := (v * 4096 + c) * 1099511627776 + t
theorem pack_parts {v c t : Nat} (hv : v ≤ 4095) (hc : c ≤ 4095) (ht : t ≤ 1099511627775) : verW (packG v c t) = v ∧ cntW (packG v c t) = c ∧ clkW (packG v c t) = t ∧ U64 (packG v c t) := by
  unfold verW cntW clkW packG U64; omega
/-- How much a clock goes on. -/
def goesBy (w : Nat) (n : Int) : Nat := (min (max n 0) (1099511627775 - (clkW w : Int))).toNat
def tickW (w : Nat) (n : Int) : Nat := w + goesBy w n
theorem goesBy_le {w : Nat} (h : U64 w) (n : Int) : clkW w + goesBy w n ≤ 1099511627775 := by
  have := (gate_parts h).2.2.2
  unfold goesBy; omega
theorem tick_parts {w : Nat} (h : U64 w) (n : Int) : verW (tickW w n) = verW w ∧ cntW (tickW w n) = cntW w ∧ clkW (tickW w n) = clkW w + goesBy w n ∧ U64 (tickW w n) := by
  have h1 := goesBy_le h n
  unfold tickW
  generalize goesBy w n = d at *
  unfold verW cntW clkW U64 at *; omega
theorem put_clk {w : Nat} (h : U64 w) (n : Int) : putN w 0 40 (clkW w + goesBy w n) = tickW w n := by
  have h1 := goesBy_le h n
  unfold tickW putN
  generalize goesBy w n = d at *
  unfold clkW U64 at *; omega
/-- The clock, as the reference goes on. -/
theorem tick_ref {w : Nat} (h : U64 w) {n : Int} (hn : 0 < n) : packG (verW w) (cntW w) (if 1099511627776 ≤ clkW w + (min n 1099511627776).toNat then 1099511627775 else clkW w + (min n 1099511627776).toNat) = tickW w n := by
  have h1 := (gate_parts h).1
  have h2 := (gate_parts h).2.2.2
  unfold tickW packG goesBy
  split <;> omega
theorem tick_none {w : Nat} (h : U64 w) {n : Int} (hn : n ≤ 0) : tickW w n = w := by
  have h2 := (gate_parts h).2.2.2
  unfold tickW goesBy; omega
/-- One flow more: none: there is no room. -/
def roomW (w : Nat) (limit : Int) : Bool := decide ((cntW w : Int) < min limit 4095)
def enterW (w : Nat) (limit : Int) : Nat := if roomW w limit then w + 1099511627776 else w
theorem enter_parts {w : Nat} (h : U64 w) {limit : Int} (hr : roomW w limit = true) : verW (enterW w limit) = verW w ∧ cntW (enterW w limit) = cntW w + 1 ∧ clkW (enterW w limit) = clkW w ∧ U64 (enterW w limit) := by
  unfold enterW
  rw [if_pos hr]
  unfold roomW at hr
  rw [decide_eq_true_iff] at hr
  unfold verW cntW clkW U64 at *; omega
theorem enter_ref {w : Nat} (h : U64 w) {limit : Int} (hr : roomW w limit = true) : packG (verW w) (cntW w + 1) (clkW w) = enterW w limit := by
  have h1 := (gate_parts h).1
  unfold enterW packG
  rw [if_pos hr]; omega
def leaveOk (w : Nat) : Bool := decide (cntW w ≠ 0)
def leaveW (w : Nat) : Nat := if leaveOk w then w - 1099511627776 else w
theorem leave_parts {w : Nat} (h : U64 w) (hr : leaveOk w = true) : verW (leaveW w) = verW w ∧ cntW (leaveW w) + 1 = cntW w ∧ clkW (leaveW w) = clkW w ∧ U64 (leaveW w) := by
  unfold leaveW
  rw [if_pos hr]
  unfold leaveOk at hr
  rw [decide_eq_true_iff] at hr
  unfold verW cntW clkW U64 at *; omega
theorem leave_ref {w : Nat} (h : U64 w) (hr : leaveOk w = true) : packG (verW w) (cntW w - 1) (clkW w) = leaveW w := by
  have h1 := (gate_parts h).1
  unfold leaveW packG
  rw [if_pos hr]
  unfold leaveOk at hr
  rw [decide_eq_true_iff] at hr
  omega
theorem leave_ge {w : Nat} (h : U64 w) (hr : leaveOk w = true) : 1099511627776 ≤ w := by
  unfold leaveOk at hr
  rw [decide_eq_true_iff] at hr
  unfold cntW at hr
  omega
def swapOk (w : Nat) : Bool := decide (verW w ≠ 4095)
def swapW (w : Nat) : Nat := if swapOk w then w + 4503599627370496 else w
theorem swap_parts {w : Nat} (h : U64 w) (hr : swapOk w = true) : verW (swapW w) = verW w + 1 ∧ cntW (swapW w) = cntW w ∧ clkW (swapW w) = clkW w ∧ U64 (swapW w) := by
  have h3 := (gate_parts h).2.1
  unfold swapW
  rw [if_pos hr]
  unfold swapOk at hr
  rw [decide_eq_true_iff] at hr
  unfold verW cntW clkW U64 at *; omega
theorem swap_ref {w : Nat} (h : U64 w) (hr : swapOk w = true) : packG (verW w + 1) (cntW w) (clkW w) = swapW w := by
  have h1 := (gate_parts h).1
  unfold swapW packG
  rw [if_pos hr]; omega

/-! ### The flow's word -/
def stW (w : Nat) : Nat := w / 1152921504606846976
def seqW (w : Nat) : Nat := w / 1099511627776 % 1048576
def untW (w : Nat) : Nat := w % 1099511627776
theorem get_st {w : Nat} (h : U64 w) : getN w 60 4 = stW w := by unfold getN stW; unfold U64 at h; omega
theorem get_seq (w : Nat) : getN w 40 20 = seqW w := by unfold getN seqW; omega
theorem get_unt (w : Nat) : getN w 0 40 = untW w := by unfold getN untW; omega
theorem flow_parts {w : Nat} (h : U64 w) : w = (stW w * 1048576 + seqW w) * 1099511627776 + untW w ∧ stW w ≤ 15 ∧ seqW w ≤ 1048575 ∧ untW w ≤ 1099511627775 := by
  unfold stW seqW untW; unfold U64 at h; omega
def packF (s q t : Nat) : Nat := (s * 1048576 + q) * 1099511627776 + t
theorem packF_parts {s q t : Nat} (hs : s ≤ 15) (hq : q ≤ 1048575) (ht : t ≤ 1099511627775) : stW (packF s q t) = s ∧ seqW (packF s q t) = q ∧ untW (packF s q t) = t ∧ U64 (packF s q t) := by
  unfold stW seqW untW packF U64; omega
def lastF (last : Int) : Nat := (max 0 (min last 1099511627775)).toNat
theorem lastF_le (last : Int) : lastF last ≤ 1099511627775 := by unfold lastF; omega
/-- A flow that goes on. -/
def flowNext (w : Nat) (to last : Int) : Nat := packF (to % 16).toNat (min (seqW w + 1) 1048575) (lastF last)
theorem flowNext_parts (w : Nat) (to last : Int) : stW (flowNext w to last) = (to % 16).toNat ∧ seqW (flowNext w to last) = min (seqW w + 1) 1048575 ∧ untW (flowNext w to last) = lastF last ∧ U64 (flowNext w to last) :=
  packF_parts (by omega) (by omega) (lastF_le last)
theorem flowNext_put {w : Nat} (h : U64 w) {to : Nat} (last : Int) : putN (putN (putN w 60 4 to) 40 20 (min (seqW w + 1) 1048575)) 0 40 (lastF last) = packF (to % 16) (min (seqW w + 1) 1048575) (lastF last) := by
  have h1 := lastF_le last
  generalize lastF last = t at *
  unfold packF putN seqW U64 at *; omega
theorem putN_lt {w at_ s v : Nat} (hw : U64 w) (h : at_ + s ≤ 64) : U64 (putN w at_ s v) := by
  have e := nat_put (v := v) (show w < 2 ^ 64 from hw) h
  rw [← e]
  have h1 : w &&& (2 ^ 64 - 1 - (2 ^ s - 1) * 2 ^ at_) < 2 ^ 64 := Nat.lt_of_le_of_lt Nat.and_le_left hw
  have h2 : v * 2 ^ at_ % 2 ^ 64 &&& (2 ^ s - 1) * 2 ^ at_ < 2 ^ 64 := Nat.lt_of_le_of_lt Nat.and_le_left (Nat.mod_lt _ (by decide))
  exact Nat.or_lt_two_pow h1 h2
def overW (w : Nat) (clock : Int) : Bool := decide (stW w = 0 ∨ stW w = 15 ∨ (untW w : Int) ≤ clock ∨ seqW w = 1048575)
theorem over_ref {w : Nat} (h : U64 w) (clock : Int) : overW w clock = decide (stW w % 15 = 0 ∨ seqW w = 1048575 ∨ (untW w : Int) ≤ clock) := by
  have h1 := (flow_parts h).2.1
  unfold overW
  rw [decide_eq_decide]; omega
end Go.Proofs.YtahgapkecabnjaaGreatDoor
