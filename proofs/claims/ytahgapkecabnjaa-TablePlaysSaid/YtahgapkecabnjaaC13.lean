/- The reference's All and Keys. Printed by gen_tabo.py. -/
import Derived.Test.YtahgapkecabnjaaC12
import Derived.Test.YtahgapkecabnjaaC06
import Derived.Test.YtahgapkecabnjaaC08
import Derived.Test.YtahgapkecabnjaaC07
namespace Go.Proofs.Ytahgapkecabnjaa
set_option linter.unusedSimpArgs false
set_option linter.unusedVariables false
open Go Go.RowKit Go.Maps Go.Shelf Go.Sort

theorem kysAt_of_row {w : World} {B : Nat} {v : Value} {l : List Ky} (h : w.ownsRow B 28 5 v l.length (kysL l)) : KeysAt w B v l := by
  obtain ⟨a, c, hv, hx⟩ := row_form (own_row h)
  refine ⟨a, c, hv, fun j x hj => ?_⟩
  obtain ⟨g, e, hc, _⟩ := hx j x hj
  exact ⟨g, e, own_base h (by rw [hv, e]; rfl), hc⟩
theorem own_below {w w' : World} {base : Nat} {e : TypeId} {size : Nat} {v : Value} {n : Nat} {xs : List Value} (h : w.ownsRow base e size v n xs) (hb : Below w.heap.size w w') : w'.ownsRow base e size v n xs := by
  refine ⟨h.1, h.2.imp id ?_⟩
  rintro ⟨g, cap, cur, h1, h2, h3, h4⟩
  refine ⟨g, cap, cur, h1, h2, ?_, h4⟩
  have hlt : g < w.heap.size := by
    rcases Nat.lt_or_ge g w.heap.size with h | h
    · exact h
    · rw [Array.getElem?_eq_none h] at h3; cases h3
  rw [← h3]
  exact hb.block g hlt
set_option maxHeartbeats 8000000 in
set_option maxRecDepth 100000 in
theorem rtall_any {w : World} {u rm : Nat} {F : Nat → Prop} {t : Tb} (h : RTab w u rm F t) (ok : t.Ok) :
    Calls Try.prog 26 #[.pointer (some ⟨u, 0, none⟩)] w fun e w' => ∃ v, e = .returned v ∧ KeysAt w' w.heap.size v (keysL t.fl) ∧ Below w.heap.size w w' := by
  obtain ⟨Fm, fv, hw, hF⟩ := h
  obtain ⟨-, -, c2, -⟩ := hw.cells
  obtain ⟨a, c, rfl, hfl⟩ := hw.flows
  have HFL := Lib.hid hfl
  have hsm := ok.few
  have d0 : w.cell? ⟨u, 2, none⟩ = some (.slice a t.fl.length c) := c2
  clear hw hF c2 hfl
  generalize hm : t.fl.length = m at *
  have HM := Lib.hid hm
  clear hm
  go_enter Try.func26, Try.ntmps26
  go_wp2_with fail
  have HR0 : Hid ((w.alloc (.cells #[] 28)).ownsRow w.heap.size 28 5 (.slice (some ⟨w.heap.size, 0, none⟩) 0 0) 0 (kysL (keysL (t.fl.take 0)))) := Lib.hid (World.ownsRow_made w #[] 0 (Nat.le_refl _) (Nat.zero_le _) rfl)
  have HB0 : Hid (Below w.heap.size w (w.alloc (.cells #[] 28))) := Lib.hid ((Below.refl _ w).alloc (Nat.le_refl _) _)
  have HD0 := Lib.hid d0
  clear d0
  go_loopw [3, 4] (fun v i wr => ∃ y : Nat, y ≤ m ∧ i = .int .i64 (y : Nat) ∧ Hid (wr.ownsRow w.heap.size 28 5 v y (kysL (keysL (t.fl.take y)))) ∧ Hid (Below w.heap.size w wr)) (fun _ i _ => m - (intOf i).toNat)
  case atStart => exact ⟨0, Nat.zero_le _, rfl, HR0, HB0⟩
  case round =>
    clear HR0 HB0
    obtain ⟨y, hy, rfl, HR, HB⟩ := hrel
    obtain ⟨va, vc, rfl, hvc⟩ := owns_cap HR.out
    have d0 : wr.cell? ⟨u, 2, none⟩ = some (.slice a m c) := (HB.out.cell (World.block_lt_of_cell? w _ HD0.out)).trans HD0.out
    by_cases hyl : y < m
    · obtain ⟨⟨k, x⟩, hp⟩ : ∃ p, t.fl[y]? = some p := ⟨_, List.getElem?_eq_getElem (by rw [HM.out]; exact hyl)⟩
      obtain ⟨g, rfl, hc⟩ := HFL.out y _ hp
      have e0 : wr.cell? ⟨g, y * 7 + 0, none⟩ = some (.int .u32 k.a0) := (HB.out.cell (World.block_lt_of_cell? w _ (hc 0 _ rfl))).trans (hc 0 _ rfl)
      have e1 : wr.cell? ⟨g, y * 7 + 1, none⟩ = some (.int .u32 k.a1) := (HB.out.cell (World.block_lt_of_cell? w _ (hc 1 _ rfl))).trans (hc 1 _ rfl)
      have e2 : wr.cell? ⟨g, y * 7 + 2, none⟩ = some (.int .u16 k.p0) := (HB.out.cell (World.block_lt_of_cell? w _ (hc 2 _ rfl))).trans (hc 2 _ rfl)
      have e3 : wr.cell? ⟨g, y * 7 + 3, none⟩ = some (.int .u16 k.p1) := (HB.out.cell (World.block_lt_of_cell? w _ (hc 3 _ rfl))).trans (hc 3 _ rfl)
      have e4 : wr.cell? ⟨g, y * 7 + 4, none⟩ = some (.int .u8 k.pr) := (HB.out.cell (World.block_lt_of_cell? w _ (hc 4 _ rfl))).trans (hc 4 _ rfl)
      clear hc
      rw [Nat.add_zero] at e0
      obtain ⟨i0, hi, hz0, hz1, hz2⟩ := info_parts keyInfo
      have HOW := Lib.hid (HR.out.alloc (.cells (kyC k) 28))
      have HNW := Lib.hid (cells_new wr (kyL k) 28)
      have HSZ : Hid (w.heap.size ≤ (wr.alloc (.cells (kyC k) 28)).heap.size) := Lib.hid (by have := HB.out.size; simp; omega)
      have HBN : Hid (Below w.heap.size w (wr.alloc (.cells (kyC k) 28))) := Lib.hid (HB.out.alloc HB.out.size _)
      have HP := Lib.hid hp
      have hb1 : y + 1 ≤ maxLen := by unfold maxLen; omega
      have hb2 : (y + 1) * 16 ≤ 140737488355328 := by omega
      clear hp
      go_wp2_with (first
        | ((with_reducible show wpList _ _ _ _ _ _); refine wpList_valx (v := .pointer (some ⟨g, y * 7, none⟩)) ?_ (exec_flowAt (.tmp 19) (.tmp 20) ?_ (g := g) (n := m) (c := c) (j := y) ?_ ?_ hyl) ?_; rfl; rfl; rfl; rfl)
        | (at_builtin; refine wpList_append_own_at _ rfl _ _ 38 rfl w.heap.size 28 i0 _ 5 16 Try.underlying38 hi hz0 hz1 hz2 rfl (by decide) _ y _ rfl HOW.out ⟨wr.heap.size, 0, none⟩ 1 1 (kyL k) rfl rfl HNW.out (kyL_one k) hb1 hb2 HSZ.out ?_; intro v' w2 hown1 hgrow hnil hloc; obtain ⟨va2, vc2, rfl, hvc2⟩ := owns_cap hown1; have HO1 := Lib.hid hown1; have HG1 := Lib.hid hgrow; clear hown1 hgrow hnil hloc))
      have HRN : Hid (w2.ownsRow w.heap.size 28 5 (.slice va2 (y + 1) vc2) (y + 1) (kysL (keysL (t.fl.take (y + 1))))) := Lib.hid (by
        have e : keysL (t.fl.take (y + 1)) = keysL (t.fl.take y) ++ [k] := by rw [List.take_add_one, HP.out]; simp [keysL]
        rw [e, kysL_snoc]
        exact HO1.out)
      have HB2 : Hid (Below w.heap.size w w2) := Lib.hid (HBN.out.grown HG1.out HBN.out.size (fun b hb => own_base HR.out hb))
      go_roundw
      case rel => exact ⟨y + 1, by omega, by push_cast; rfl, HRN, HB2⟩
      case measure => simp [intOf]; omega
    · obtain rfl : y = m := by omega
      go_wp2_with fail
      go_ret
      exact ⟨_, rfl, kysAt_of_row (by have h := HR.out; rw [List.take_of_length_le (by have := HM.out; omega)] at h; rw [show (keysL t.fl).length = y by simp only [keysL, List.length_map]; exact HM.out]; exact h), HB.out⟩
/-- What the reference's Keys leaves. -/
def RKeysPost (w : World) (u rm : Nat) (F : Nat → Prop) (r : Int) (l : List Ky) (t : Tb) (e : Ending) (w' : World) : Prop :=
  ∃ v, e = .returned (.tuple #[v, .int .i64 r]) ∧ KeysAt w' w.heap.size v l ∧ ∃ F', RTab w' u rm F' t ∧ Turn F w w' ∧ Ext w F F'
set_option maxHeartbeats 8000000 in
set_option maxRecDepth 100000 in
theorem rtkeys_any {w : World} {u rm : Nat} {F : Nat → Prop} {t : Tb} (h : RTab w u rm F t) (ok : t.Ok) (hrm : t.m.Lg.length + 1 < 1073741824) (hh : t.m.held) (th s : Int) :
    Calls Try.prog 23 #[.pointer (some ⟨u, 0, none⟩), .int .i64 th, .int .i64 s] w (RKeysPost w u rm F (t.may th s) (t.keysR th s) (t.keysT th s)) := by
  have HMY := Lib.hid (rtmay_any h ok hh th s)
  have HMM := Lib.hid (h.mem_post (fun Fm hm => rtouch_any rm Fm t.m th 5 s _ hm ok.sm))
  have HR0 : Hid (t.keysR th s = if t.may th s = 0 then keysL (inS t.n s.toNat t.fl) else []) := Lib.hid rfl
  have HD0 : Hid (t.keysT th s = if t.may th s = 0 then ⟨t.m.touch th 5 s, t.n, t.fl⟩ else t) := Lib.hid rfl
  have hrng := @Tb.may_zero t th s
  have hle := ok.le
  have HT := Lib.hid h
  have HOK := Lib.hid ok
  have HRM := Lib.hid hrm
  obtain ⟨Fm0, fv0, hw0, -⟩ := id h
  obtain ⟨b0, b1, b2, -⟩ := hw0.cells
  clear hw0 h ok hrm hh
  generalize t.keysR th s = res at *
  generalize t.keysT th s = t' at *
  generalize t.may th s = my at *
  by_cases hz : my = 0
  · subst hz
    have HR : Hid (res = keysL (inS t.n s.toNat t.fl)) := Lib.hid (by rw [HR0.out]; exact if_pos rfl)
    have HD : Hid (t' = ⟨t.m.touch th 5 s, t.n, t.fl⟩) := Lib.hid (by rw [HD0.out]; exact if_pos rfl)
    obtain ⟨hs0, hsn⟩ := hrng rfl
    obtain ⟨j, rfl⟩ : ∃ j : Nat, s = j := ⟨s.toNat, by omega⟩
    have hjn : j < t.n := by omega
    have HR : Hid (res = keysL (inS t.n j t.fl)) := Lib.hid HR.out
    have q0 : ((0 : Int) != 0) = false := by decide
    clear HR0 HD0 hrng
    go_enter Try.func23, Try.ntmps23
    go_wp2_with fail
    refine HMY.out.mono ?_
    rintro e w1 ⟨rfl, hw1⟩
    subst hw1
    go_wp2_with fail
    refine HMM.out.mono ?_
    rintro e w2 ⟨rfl, F2, h2, t2, x2⟩
    have HU2 := Lib.hid t2
    have HX2 := Lib.hid x2
    have HT2 := Lib.hid h2
    have ok2 : (⟨t.m.touch th 5 (j : Nat), t.n, t.fl⟩ : Tb).Ok := ⟨HOK.out.pow, HOK.out.rise, HOK.out.kin, HOK.out.few, M.touch_small HOK.out.sm _ _ _ (by have := HRM.out; omega)⟩
    have HOF := Lib.hid (fun (W : World) (hb : Below w2.heap.size w2 W) (k : Ky) (hk : k.In) => (show Calls Try.prog 44 #[.pointer (some ⟨u, 0, none⟩), kyV k] W fun e w' => e = .returned (.int .i64 (stripeF k t.n : Nat)) ∧ Below W.heap.size W w' from rtof_any (HT2.out.below hb) ok2 hk))
    obtain ⟨Fm, fv, hw, hF⟩ := id h2
    obtain ⟨-, -, c2, -⟩ := hw.cells
    obtain ⟨a, c, rfl, hfl⟩ := hw.flows
    simp only at hfl c2
    have HFL := Lib.hid hfl
    have hsm := HOK.out.few
    have HKI := Lib.hid HOK.out.kin
    have d0 : w2.cell? ⟨u, 2, none⟩ = some (.slice a t.fl.length c) := c2
    clear hw hF c2 hfl t2 x2 h2 ok2 HMY HMM b0 b1 b2
    generalize hm : t.fl.length = m at *
    have HM := Lib.hid hm
    clear hm
    go_wp2_with fail
    have HRW0 : Hid ((w2.alloc (.cells #[] 28)).ownsRow w2.heap.size 28 5 (.slice (some ⟨w2.heap.size, 0, none⟩) 0 0) (keysL (inS t.n j (t.fl.take 0))).length (kysL (keysL (inS t.n j (t.fl.take 0))))) := Lib.hid (World.ownsRow_made w2 #[] 0 (Nat.le_refl _) (Nat.zero_le _) rfl)
    have HB0 : Hid (Below w2.heap.size w2 (w2.alloc (.cells #[] 28))) := Lib.hid ((Below.refl _ w2).alloc (Nat.le_refl _) _)
    have HD0 := Lib.hid d0
    clear d0
    go_loopw [9, 10] (fun v i wr => ∃ y : Nat, y ≤ m ∧ i = .int .i64 (y : Nat) ∧ Hid (wr.ownsRow w2.heap.size 28 5 v (keysL (inS t.n j (t.fl.take y))).length (kysL (keysL (inS t.n j (t.fl.take y))))) ∧ Hid (Below w2.heap.size w2 wr)) (fun _ i _ => m - (intOf i).toNat)
    case atStart => exact ⟨0, Nat.zero_le _, rfl, HRW0, HB0⟩
    case round =>
      clear HRW0 HB0
      obtain ⟨y, hy, rfl, HRW, HB⟩ := hrel
      have hq9 : (keysL (inS t.n j (t.fl.take y))).length ≤ y := by
        simp only [keysL, List.length_map]
        exact Nat.le_trans (inS_le _ _ _) (by rw [List.length_take]; omega)
      obtain ⟨q, hq⟩ : ∃ q, (keysL (inS t.n j (t.fl.take y))).length = q := ⟨_, rfl⟩
      have HRV := Lib.hid HRW.out
      rw [hq] at HRV hq9
      obtain ⟨va, vc, rfl, hvc⟩ := owns_cap HRV.out
      have HQ := Lib.hid hq
      clear hq HRW
      have d0 : wr.cell? ⟨u, 2, none⟩ = some (.slice a m c) := (HB.out.cell (World.block_lt_of_cell? w2 _ HD0.out)).trans HD0.out
      by_cases hyl : y < m
      · obtain ⟨⟨k, x⟩, hp⟩ : ∃ p, t.fl[y]? = some p := ⟨_, List.getElem?_eq_getElem (by rw [HM.out]; exact hyl)⟩
        obtain ⟨g, rfl, hc⟩ := HFL.out y _ hp
        have hkin : k.In := HKI.out _ (by simp only [keysL]; exact List.mem_map_of_mem (List.mem_of_getElem? hp))
        have HOF2 := Lib.hid (HOF.out wr HB.out k hkin)
        have HTK : Hid (inS t.n j (t.fl.take (y + 1)) = inS t.n j (t.fl.take y) ++ if stripeF k t.n = j then [(k, x)] else []) := Lib.hid (by
          rw [List.take_add_one, hp]
          unfold inS
          rw [List.filter_append]
          congr 1
          by_cases e : stripeF k t.n = j
          · simp [e]
          · simp [e])
        have e0 : wr.cell? ⟨g, y * 7 + 0, none⟩ = some (.int .u32 k.a0) := (HB.out.cell (World.block_lt_of_cell? w2 _ (hc 0 _ rfl))).trans (hc 0 _ rfl)
        have e1 : wr.cell? ⟨g, y * 7 + 1, none⟩ = some (.int .u32 k.a1) := (HB.out.cell (World.block_lt_of_cell? w2 _ (hc 1 _ rfl))).trans (hc 1 _ rfl)
        have e2 : wr.cell? ⟨g, y * 7 + 2, none⟩ = some (.int .u16 k.p0) := (HB.out.cell (World.block_lt_of_cell? w2 _ (hc 2 _ rfl))).trans (hc 2 _ rfl)
        have e3 : wr.cell? ⟨g, y * 7 + 3, none⟩ = some (.int .u16 k.p1) := (HB.out.cell (World.block_lt_of_cell? w2 _ (hc 3 _ rfl))).trans (hc 3 _ rfl)
        have e4 : wr.cell? ⟨g, y * 7 + 4, none⟩ = some (.int .u8 k.pr) := (HB.out.cell (World.block_lt_of_cell? w2 _ (hc 4 _ rfl))).trans (hc 4 _ rfl)
        have HC : Hid (∀ i v, (flowT (k, x))[i]? = some v → w2.cell? ⟨g, y * 7 + i, none⟩ = some v) := Lib.hid hc
        clear hc hkin hp
        rw [Nat.add_zero] at e0
        generalize stripeF k t.n = oq at HTK HOF2
        go_wp2_with ((with_reducible show wpList _ _ _ _ _ _); refine wpList_valx (v := .pointer (some ⟨g, y * 7, none⟩)) ?_ (exec_flowAt (.tmp 39) (.tmp 40) ?_ (g := g) (n := m) (c := c) (j := y) ?_ ?_ hyl) ?_; rfl; rfl; rfl; rfl)
        refine HOF2.out.mono ?_
        rintro e w3 ⟨rfl, h3⟩
        have HB3 : Hid (Below w2.heap.size w2 w3) := Lib.hid (below_then HB.out h3)
        have HRV3 : Hid (w3.ownsRow w2.heap.size 28 5 (.slice va q vc) q (kysL (keysL (inS t.n j (t.fl.take y))))) := Lib.hid (own_below HRV.out h3)
        have d3 : w3.cell? ⟨u, 2, none⟩ = some (.slice (some ⟨g, 0, none⟩) m c) := (HB3.out.cell (World.block_lt_of_cell? w2 _ HD0.out)).trans HD0.out
        have r0 : w3.cell? ⟨g, y * 7, none⟩ = some (.int .u32 k.a0) := (HB3.out.cell (World.block_lt_of_cell? w2 _ (HC.out 0 _ rfl))).trans (HC.out 0 _ rfl)
        have r1 : w3.cell? ⟨g, y * 7 + 1, none⟩ = some (.int .u32 k.a1) := (HB3.out.cell (World.block_lt_of_cell? w2 _ (HC.out 1 _ rfl))).trans (HC.out 1 _ rfl)
        have r2 : w3.cell? ⟨g, y * 7 + 2, none⟩ = some (.int .u16 k.p0) := (HB3.out.cell (World.block_lt_of_cell? w2 _ (HC.out 2 _ rfl))).trans (HC.out 2 _ rfl)
        have r3 : w3.cell? ⟨g, y * 7 + 3, none⟩ = some (.int .u16 k.p1) := (HB3.out.cell (World.block_lt_of_cell? w2 _ (HC.out 3 _ rfl))).trans (HC.out 3 _ rfl)
        have r4 : w3.cell? ⟨g, y * 7 + 4, none⟩ = some (.int .u8 k.pr) := (HB3.out.cell (World.block_lt_of_cell? w2 _ (HC.out 4 _ rfl))).trans (HC.out 4 _ rfl)
        clear e0 e1 e2 e3 e4 d0 h3 HOF2 HC
        by_cases e : oq = j
        · subst e
          have q9 : ((oq : Int) == (oq : Int)) = true := by simp
          obtain ⟨i0, hi, hz0, hz1, hz2⟩ := info_parts keyInfo
          have HOW := Lib.hid (HRV3.out.alloc (.cells (kyC k) 28))
          have HNW := Lib.hid (cells_new w3 (kyL k) 28)
          have HSZ : Hid (w2.heap.size ≤ (w3.alloc (.cells (kyC k) 28)).heap.size) := Lib.hid (by have := HB3.out.size; simp; omega)
          have HBN : Hid (Below w2.heap.size w2 (w3.alloc (.cells (kyC k) 28))) := Lib.hid (HB3.out.alloc HB3.out.size _)
          have hb1 : q + 1 ≤ maxLen := by unfold maxLen; omega
          have hb2 : (q + 1) * 16 ≤ 140737488355328 := by omega
          go_wp2_with (first
            | ((with_reducible show wpList _ _ _ _ _ _); refine wpList_valx (v := .pointer (some ⟨g, y * 7, none⟩)) ?_ (exec_flowAt (.tmp 51) (.tmp 52) ?_ (g := g) (n := m) (c := c) (j := y) ?_ ?_ hyl) ?_; rfl; rfl; rfl; rfl)
            | (at_builtin; refine wpList_append_own_at _ rfl _ _ 38 rfl w2.heap.size 28 i0 _ 5 16 Try.underlying38 hi hz0 hz1 hz2 rfl (by decide) _ q _ rfl HOW.out ⟨w3.heap.size, 0, none⟩ 1 1 (kyL k) rfl rfl HNW.out (kyL_one k) hb1 hb2 HSZ.out ?_; intro v' w4 hown1 hgrow hnil hloc; obtain ⟨va2, vc2, rfl, hvc2⟩ := owns_cap hown1; have HO1 := Lib.hid hown1; have HG1 := Lib.hid hgrow; clear hown1 hgrow hnil hloc))
          have HRN : Hid (w4.ownsRow w2.heap.size 28 5 (.slice va2 (q + 1) vc2) (keysL (inS t.n oq (t.fl.take (y + 1)))).length (kysL (keysL (inS t.n oq (t.fl.take (y + 1)))))) := Lib.hid (by
            have e : keysL (inS t.n oq (t.fl.take (y + 1))) = keysL (inS t.n oq (t.fl.take y)) ++ [k] := by rw [HTK.out]; simp [keysL]
            rw [e, kysL_snoc, List.length_append, HQ.out]
            exact HO1.out)
          have HB4 : Hid (Below w2.heap.size w2 w4) := Lib.hid (HBN.out.grown HG1.out HBN.out.size (fun b hb => own_base HRV3.out hb))
          go_roundw
          case rel => exact ⟨y + 1, by omega, by push_cast; rfl, HRN, HB4⟩
          case measure => simp [intOf]; omega
        · have q9 : ((oq : Int) == (j : Int)) = false := by simp; omega
          have HRN : Hid (w3.ownsRow w2.heap.size 28 5 (.slice va q vc) (keysL (inS t.n j (t.fl.take (y + 1)))).length (kysL (keysL (inS t.n j (t.fl.take (y + 1)))))) := Lib.hid (by
            rw [HTK.out, if_neg e, List.append_nil, HQ.out]
            exact HRV3.out)
          go_wp2_with fail
          go_roundw
          case rel => exact ⟨y + 1, by omega, by push_cast; rfl, HRN, HB3⟩
          case measure => simp [intOf]; omega
      · obtain rfl : y = m := by omega
        have HKA : Hid (KeysAt wr w2.heap.size (.slice va q vc) res) := Lib.hid (by
          have e := HQ.out
          rw [List.take_of_length_le (by have := HM.out; omega)] at e
          have h := HRV.out
          rw [List.take_of_length_le (by have := HM.out; omega), ← e] at h
          have h2 := kysAt_of_row h
          rw [e] at h2
          rw [HR.out]
          exact h2)
        go_wp2_with fail
        exact bodyPost_ret (v := .tuple #[.slice va q vc, .int .i64 0]) (by simp [results, Try.results23, go_sem]) rfl ⟨_, rfl, HKA.out.base HU2.out.size, F2, by rw [HD.out]; exact HT2.out.below HB.out, HU2.out.trans (Turn.of_below (F := fun _ => False) HB.out) (fun _ h => h.elim), HX2.out⟩
  · have q0 : (my != 0) = true := by simp [hz]
    have HR : Hid (res = []) := Lib.hid (by rw [HR0.out, if_neg hz])
    have HD : Hid (t' = t) := Lib.hid (by rw [HD0.out, if_neg hz])
    clear HMM HR0 HD0
    go_enter Try.func23, Try.ntmps23
    go_wp2_with fail
    refine HMY.out.mono ?_
    rintro e w1 ⟨rfl, hw1⟩
    subst hw1
    go_wp2_with fail
    exact bodyPost_ret (v := .tuple #[.slice none 0 0, .int .i64 my]) (by simp [results, Try.results23, go_sem]) rfl ⟨_, rfl, by rw [HR.out]; exact KeysAt.nil _ _ _ _, F, by rw [HD.out]; exact HT.out, Turn.refl _ _, Ext.refl _ _⟩
end Go.Proofs.Ytahgapkecabnjaa
/- The reference's New. Printed by gen_tabs.py. -/
namespace Go.Proofs.Ytahgapkecabnjaa
set_option linter.unusedSimpArgs false
set_option linter.unusedVariables false
open Go Go.RowKit Go.Maps Go.Shelf Go.Sort

def RTNewPost (w : World) (rm : Nat) (Fm : Nat → Prop) (m : M) (s : Int) (e : Ending) (w' : World) : Prop := Below w.heap.size w w' ∧
  (((∀ n ∈ pows, s ≠ (n : Int)) ∧ e = .returned (.pointer none)) ∨ ∃ n u F, n ∈ pows ∧ s = (n : Int) ∧ e = .returned (.pointer (some ⟨u, 0, none⟩)) ∧ RTab w' u rm F ⟨m, n, []⟩ ∧ ∀ i, F i → Fm i ∨ w.heap.size ≤ i)
theorem pow_at : ∀ j, j < 13 → 2 ^ j ∈ pows := by decide
theorem pow_of {n : Nat} (h : n ∈ pows) : ∃ j, j < 13 ∧ n = 2 ^ j := ⟨n.log2, (by decide : ∀ n ∈ pows, n.log2 < 13) n h, (by decide : ∀ n ∈ pows, n = 2 ^ n.log2) n h⟩
set_option maxHeartbeats 4000000 in
set_option maxRecDepth 100000 in
theorem rtnew_any {w : World} {rm : Nat} {Fm : Nat → Prop} {m : M} (h : RMem w rm Fm m) (s : Int) :
    Calls Try.prog 17 #[.pointer (some ⟨rm, 0, none⟩), .int .i64 s] w (RTNewPost w rm Fm m s) := by
  have HM := Lib.hid h
  clear h
  go_enter Try.func17, Try.ntmps17
  go_wp2_with fail
  go_loopw [5] (fun i wz => ∃ j k : Nat, j ≤ 13 ∧ k = 2 ^ j ∧ i = .int .i64 (k : Nat) ∧ (∀ y, y < j → s ≠ ((2 ^ y : Nat) : Int)) ∧ wz = w) (fun i _ => 8192 - (intOf i).toNat)
  case atStart => exact ⟨0, 1, Nat.zero_le _, rfl, rfl, fun y hy => absurd hy (Nat.not_lt_zero _), rfl⟩
  case round =>
    obtain ⟨j, k, hj, hk, rfl, hno, hwz⟩ := hrel
    subst hwz
    have HNO := Lib.hid hno
    clear hno
    by_cases hjl : j < 13
    · have hkp : k ∈ pows := by rw [hk]; exact pow_at j hjl
      have hkb := pows_pos hkp
      have HKP := Lib.hid hkp
      have HK2 : Hid (k * 2 = 2 ^ (j + 1)) := Lib.hid (by rw [Nat.pow_succ, ← hk])
      have HKJ := Lib.hid hk
      clear hkp hk
      by_cases e : s = (k : Int)
      · subst e
        have q9 : ((k : Int) == (k : Int)) = true := by simp
        go_wp2_with fail
        go_ret
        have hb : Below wr.heap.size wr (wr.alloc (.cells #[.pointer (some ⟨rm, 0, none⟩), .int .i64 (k : Nat), .slice none 0 0] 92)) := (Below.refl _ wr).alloc (Nat.le_refl _) _
        refine ⟨hb, .inr ⟨k, _, _, HKP.out, rfl, rfl, ⟨Fm, .slice none 0 0, ⟨(MapKept.heap_alloc wr _).1, HM.out.turn (Turn.of_below (F := fun _ => False) hb) (fun _ _ h => h), row_nil _ _ _⟩, rfl⟩, ?_⟩⟩
        rintro i (h | rfl | h)
        · exact .inl h
        · exact .inr (Nat.le_refl _)
        · cases h
      · have q9 : ((k : Int) == s) = false := by simp; omega
        have HN2 : Hid (∀ y, y < j + 1 → s ≠ ((2 ^ y : Nat) : Int)) := Lib.hid (fun y hy => by
          by_cases ey : y = j
          · subst ey; rw [← HKJ.out]; exact e
          · exact HNO.out y (by omega))
        go_wp2_with fail
        refine ⟨⟨j + 1, k * 2, by omega, HK2.out, by push_cast; rfl, HN2.out, trivial⟩, ?_⟩
        simp only [intOf]
        omega
    · obtain rfl : j = 13 := by omega
      obtain rfl : k = 8192 := by rw [hk]
      have HV : Hid (∀ n ∈ pows, s ≠ (n : Int)) := Lib.hid (fun n hn => by
        obtain ⟨y, hy, rfl⟩ := pow_of hn
        exact HNO.out y hy)
      clear hk hj hjl
      go_wp2_with fail
      go_ret
      exact ⟨Below.refl _ _, .inl ⟨HV.out, rfl⟩⟩
end Go.Proofs.Ytahgapkecabnjaa
/- Plain law: a table whose mutexes are free; a flow is put under its stripe's mutex. -/
namespace Go.Proofs.Ytahgapkecabnjaa
set_option linter.unusedSimpArgs false
set_option linter.unusedVariables false
open Go Go.RowKit

def free16 : List Int := List.replicate 16 (-1)
theorem free16_len : free16.length = 16 := by simp [free16]
theorem free16_get {s : Nat} (h : s < 16) : free16.getD s 0 = -1 := by
  unfold free16
  rw [List.getD_eq_getElem?_getD, List.getElem?_replicate, if_pos h]; rfl
theorem free16_set {s : Nat} (h : s < 16) : (free16.set s 1).set s (-1) = free16 := by
  rw [List.set_set]
  apply List.ext_getElem?
  intro i
  by_cases e : s = i
  · subst e
    rw [List.getElem?_set_self (by rw [free16_len]; exact h)]
    unfold free16
    rw [List.getElem?_replicate, if_pos h]
  · rw [List.getElem?_set_ne e]
section
variable {L : List Int} {Lg : List Acc} {s : Nat}
theorem hasL_16 (hl : L.length = 16) (hs : s < 16) : M.hasL ⟨[], L, Lg⟩ (s : Nat) = true := by
  unfold M.hasL
  rw [decide_eq_true_eq, hl]
  omega
theorem lock_free (hl : L.length = 16) (hs : s < 16) (h0 : L.getD s 0 = -1) : M.lock ⟨[], L, Lg⟩ 1 (s : Nat) = ⟨[], L.set s 1, Lg ++ [⟨1, 1, 3 * (s : Int) + 1⟩]⟩ := by
  have : M.lockOk ⟨[], L, Lg⟩ 1 (s : Nat) = true := by
    unfold M.lockOk
    rw [hasL_16 hl hs, Int.toNat_natCast, h0]
    decide
  unfold M.lock
  rw [if_pos this, Int.toNat_natCast]
  rfl
theorem set_16 (hl : L.length = 16) (hs : s < 16) (v : Int) : (L.set s v).length = 16 ∧ (L.set s v).getD s 0 = v := by
  refine ⟨by rw [List.length_set]; exact hl, ?_⟩
  rw [List.getD_eq_getElem?_getD, List.getElem?_set_self (by omega)]; rfl
theorem holder_16 (hl : L.length = 16) (hs : s < 16) : M.holder ⟨[], L, Lg⟩ (s : Nat) = L.getD s 0 := by
  unfold M.holder
  rw [if_pos (hasL_16 hl hs), Int.toNat_natCast]
theorem may_held {n : Nat} {fl : Kl (Int × Bool)} (hl : L.length = 16) (hs : s < 16) (hn : s < n) (h1 : L.getD s 0 = 1) : Tb.may ⟨⟨[], L, Lg⟩, n, fl⟩ 1 (s : Nat) = 0 := by
  unfold Tb.may
  rw [if_neg (by simp only; omega), if_neg]
  simp only
  rw [holder_16 hl hs, h1]
  decide
theorem touch_16 : M.touch ⟨[], L, Lg⟩ 1 6 (s : Nat) = (if (s : Int) ≤ 1099511627776 then ⟨[], L, Lg ++ [⟨1, 6, 3 * (s : Int) + 2⟩]⟩ else ⟨[], L, Lg⟩) := by
  unfold M.touch
  by_cases h : (s : Int) ≤ 1099511627776
  · rw [if_pos ⟨by omega, h⟩, if_pos h]; rfl
  · rw [if_neg (fun q => h q.2), if_neg h]
theorem unlock_held (hl : L.length = 16) (hs : s < 16) (h1 : L.getD s 0 = 1) : M.unlock ⟨[], L, Lg⟩ 1 (s : Nat) = ⟨[], L.set s (-1), Lg ++ [⟨1, 2, 3 * (s : Int) + 1⟩]⟩ := by
  have : M.unlockE ⟨[], L, Lg⟩ 1 (s : Nat) = 0 := by
    unfold M.unlockE
    rw [if_pos (hasL_16 hl hs), Int.toNat_natCast, if_pos ⟨h1, by decide⟩]
  unfold M.unlock
  rw [if_pos this, Int.toNat_natCast]
  rfl
end
/-- All mutexes are free. -/
structure Free (n j : Nat) (t : Tb) : Prop where
  n : t.n = n
  rise : Rises (keysL t.fl)
  kin : ∀ k ∈ keysL t.fl, k.In
  few : t.fl.length ≤ j
  W : t.m.W = []
  L : t.m.L = free16
  Lg : t.m.Lg.length ≤ 3 * j
theorem Free.ok {n j : Nat} {t : Tb} (h : Free n j t) (hn : n ∈ pows) (hj : j ≤ 100) : t.Ok :=
  ⟨by rw [h.n]; exact hn, h.rise, h.kin, by have := h.few; omega, ⟨by rw [h.W]; decide, by rw [h.L, free16_len]; decide, by have := h.Lg; omega⟩⟩
theorem Free.may {n j : Nat} {t : Tb} (h : Free n j t) (th s : Int) : t.may th s = if s < 0 ∨ (n : Int) ≤ s then 1 else 13 := by
  unfold Tb.may
  rw [h.n]
  by_cases hs : s < 0 ∨ (n : Int) ≤ s
  · rw [if_pos hs, if_pos hs]
  · rw [if_neg hs, if_neg hs, if_pos]
    by_cases h0 : th < 0
    · exact .inl h0
    · refine .inr (fun e => h0 ?_)
      have hh : t.m.holder s = -1 := by
        unfold M.holder
        split
        · rename_i hl
          simp only [M.hasL, h.L, free16_len, decide_eq_true_eq] at hl
          rw [h.L]
          exact free16_get (by omega)
        · rfl
      omega
theorem keysL_putL {l : Kl (Int × Bool)} {k : Ky} {x : Int × Bool} (hk : k.In) (h : ∀ y ∈ keysL l, y.In) : ∀ y ∈ keysL (putL l k x), y.In := fun y hy => by
  rw [keysL_put] at hy
  rcases List.mem_append.1 hy with hy | hy
  · exact h y (List.mem_filter.1 hy).1
  · rcases List.mem_cons.1 hy with rfl | hy
    · exact hk
    · exact h y (List.mem_filter.1 hy).1
theorem length_putL (l : Kl (Int × Bool)) (k : Ky) (x : Int × Bool) (hr : Rises (keysL l)) : (putL l k x).length ≤ l.length + 1 := by
  cases h : getL l k with
  | none => rw [length_put_new h]; exact Nat.le_refl _
  | some y => rw [length_put_old hr h]; omega
/-- A flow is put, under its stripe's mutex, and the mutex is free again. -/
theorem Free.round {n j : Nat} {t : Tb} (h : Free n j t) (hn : n ∈ pows) (h16 : n ≤ 16) (k : Ky) (hk : k.In) (x : Int) (tu : Bool) :
    ∃ t1 t2 t3 : Tb, (⟨t.m.lock 1 (t.of k : Nat), t.n, t.fl⟩ : Tb) = t1 ∧ t1.put 1 k x tu = t2 ∧ (⟨t2.m.unlock 1 (t.of k : Nat), t2.n, t2.fl⟩ : Tb) = t3 ∧ t1.may 1 (t1.of k : Nat) = 0 ∧ (j ≤ 99 → t1.Ok) ∧ (j ≤ 99 → t2.Ok) ∧ Free n (j + 1) t3 := by
  obtain ⟨⟨W, L, Lg⟩, tn, fl⟩ := t
  obtain ⟨e, hr, hki, hfe, hW, hL, hLg⟩ := h
  simp only at e hr hki hfe hW hL hLg
  subst e hW
  have hs : stripeF k tn < tn := stripeF_lt k (pows_pos hn).1
  obtain ⟨s, hsf⟩ : ∃ s, stripeF k tn = s := ⟨_, rfl⟩
  have hof : ∀ m fl, Tb.of ⟨m, tn, fl⟩ k = s := fun m fl => by unfold Tb.of; exact hsf
  rw [hsf] at hs
  clear hsf
  have hs16 : s < 16 := by omega
  have hl : L.length = 16 := by rw [hL]; exact free16_len
  have h0 : L.getD s 0 = -1 := by rw [hL]; exact free16_get hs16
  have hss : (L.set s 1).set s (-1) = L := by rw [hL]; exact free16_set hs16
  obtain ⟨g1, g2⟩ := set_16 hl hs16 1
  have hp1 : Tb.put ⟨⟨[], L.set s 1, Lg ++ [⟨1, 1, 3 * (s : Int) + 1⟩]⟩, tn, fl⟩ 1 k x tu = ⟨⟨[], L.set s 1, Lg ++ [⟨1, 1, 3 * (s : Int) + 1⟩] ++ [⟨1, 6, 3 * (s : Int) + 2⟩]⟩, tn, putL fl k (x, tu)⟩ := by
    unfold Tb.put
    rw [hof, may_held g1 hs16 hs g2, if_pos rfl, touch_16, if_pos (by omega)]
  refine ⟨⟨⟨[], L.set s 1, Lg ++ [⟨1, 1, 3 * (s : Int) + 1⟩]⟩, tn, fl⟩, ⟨⟨[], L.set s 1, Lg ++ [⟨1, 1, 3 * (s : Int) + 1⟩] ++ [⟨1, 6, 3 * (s : Int) + 2⟩]⟩, tn, putL fl k (x, tu)⟩, ⟨⟨[], L, Lg ++ [⟨1, 1, 3 * (s : Int) + 1⟩] ++ [⟨1, 6, 3 * (s : Int) + 2⟩] ++ [⟨1, 2, 3 * (s : Int) + 1⟩]⟩, tn, putL fl k (x, tu)⟩, ?_, hp1, ?_, ?_, fun hj => ?_, fun hj => ?_, ?_⟩
  · rw [hof]
    simp only
    rw [lock_free hl hs16 h0]
  · rw [hof]
    simp only
    rw [unlock_held g1 hs16 g2, hss]
  · rw [hof]; exact may_held g1 hs16 hs g2
  · exact ⟨hn, hr, hki, Nat.le_trans hfe (by omega), ⟨(by decide : (0 : Nat) < 1073741824), by show (L.set s 1).length < _; omega, by show (Lg ++ [_]).length < _; simp; omega⟩⟩
  · exact ⟨hn, rises_put hr k _, keysL_putL hk hki, Nat.le_trans (length_putL fl k (x, tu) hr) (by omega), ⟨(by decide : (0 : Nat) < 1073741824), by show (L.set s 1).length < _; omega, by show (Lg ++ [_] ++ [_]).length < _; simp; omega⟩⟩
  · exact ⟨rfl, rises_put hr k _, keysL_putL hk hki, Nat.le_trans (length_putL fl k (x, tu) hr) (by omega), rfl, hL, by show (Lg ++ [_] ++ [_] ++ [_]).length ≤ _; simp; omega⟩
theorem Free.of_may {n j : Nat} {t : Tb} (h : Free n j t) (hn : n ∈ pows) (th : Int) (k : Ky) : t.may th (t.of k : Nat) = 13 := by
  have hlt : t.of k < n := by have := stripeF_lt k (pows_pos hn).1; unfold Tb.of; rw [h.n]; exact this
  rw [h.may, if_neg (by omega)]
theorem Free.same {n j : Nat} {t : Tb} (h : Free n j t) (hn : n ∈ pows) (th : Int) (k : Ky) (x : Int) (tu : Bool) :
    t.find th k = t ∧ t.findR th k = .tuple #[.int .i64 0, .bool false, .bool false, .int .i64 13] ∧ t.put th k x tu = t ∧ t.remove th k = t ∧ t.removeE th k = 13 := by
  have e := h.of_may hn th k
  unfold Tb.find Tb.findR Tb.put Tb.remove Tb.removeE
  rw [e]
  exact ⟨if_neg (by decide), if_neg (by decide), if_neg (by decide), if_neg (by decide), if_neg (by decide)⟩
theorem Free.may_ne {n j : Nat} {t : Tb} (h : Free n j t) (th s : Int) : t.may th s ≠ 0 := by
  rw [h.may]
  split <;> decide
theorem Free.new {n : Nat} (hn : n ∈ pows) : Free n 0 ⟨newM 0 16, n, []⟩ := ⟨rfl, List.Pairwise.nil, (fun k hk => nomatch hk), Nat.le_refl _, rfl, rfl, Nat.le_refl _⟩
theorem shift_val {s n : Nat} (h : n = 2 ^ (s % 5)) (h16 : n ≤ 16) : wrap64 ((2 : Int) ^ (s % 5)) = (n : Int) := by
  have e : ((2 : Int) ^ (s % 5)) = ((2 ^ (s % 5) : Nat) : Int) := by push_cast; rfl
  rw [e, ← h]
  unfold wrap64
  omega
theorem shift_pow (s : Nat) : ∃ n, n ∈ pows ∧ n ≤ 16 ∧ n = 2 ^ (s % 5) := by
  have h5 : s % 5 < 5 := Nat.mod_lt _ (by decide)
  generalize s % 5 = q at *
  obtain rfl | rfl | rfl | rfl | rfl : q = 0 ∨ q = 1 ∨ q = 2 ∨ q = 3 ∨ q = 4 := by omega
  all_goals exact ⟨_, by decide, by decide, rfl⟩
end Go.Proofs.Ytahgapkecabnjaa
/- Plain law: a table whose stripes are all held by thread 1. -/
namespace Go.Proofs.Ytahgapkecabnjaa
set_option linter.unusedSimpArgs false
set_option linter.unusedVariables false
open Go Go.RowKit

def lockL (y : Nat) : List Int := (List.range 16).map fun i => if i < y then 1 else -1
theorem lockL_len (y : Nat) : (lockL y).length = 16 := by simp [lockL]
theorem lockL_get {y s : Nat} (h : s < 16) : (lockL y).getD s 0 = if s < y then 1 else -1 := by
  unfold lockL
  rw [List.getD_eq_getElem?_getD, List.getElem?_map, List.getElem?_range h]; rfl
theorem lockL_set {y : Nat} (h : y < 16) : (lockL y).set y 1 = lockL (y + 1) := by
  apply List.ext_getElem?
  intro i
  by_cases e : y = i
  · subst e
    rw [List.getElem?_set_self (by rw [lockL_len]; exact h)]
    unfold lockL
    rw [List.getElem?_map, List.getElem?_range h]
    simp
  · rw [List.getElem?_set_ne e]
    unfold lockL
    rw [List.getElem?_map, List.getElem?_map]
    by_cases hi : i < 16
    · rw [List.getElem?_range hi]
      simp only [Option.map_some]
      by_cases h1 : i < y
      · rw [if_pos h1, if_pos (by omega)]
      · rw [if_neg h1, if_neg (by omega)]
    · rw [List.getElem?_eq_none (by simp; omega)]
      rfl
theorem newM_lockL : newM 0 16 = ⟨[], lockL 0, []⟩ := by rfl
theorem lock_step {Lg : List Acc} {y : Nat} (h : y < 16) : M.lock ⟨[], lockL y, Lg⟩ 1 (y : Nat) = ⟨[], lockL (y + 1), Lg ++ [⟨1, 1, 3 * (y : Int) + 1⟩]⟩ := by
  rw [lock_free (lockL_len y) h (by rw [lockL_get h, if_neg (by omega)]), lockL_set h]
/-- All n stripes are held by thread 1. -/
structure HeldT (n B C : Nat) (t : Tb) : Prop where
  nn : t.n = n
  rise : Rises (keysL t.fl)
  kin : ∀ k ∈ keysL t.fl, k.In
  few : t.fl.length ≤ C
  W : t.m.W = []
  len : t.m.L.length = 16
  L : ∀ s, s < n → t.m.L.getD s 0 = 1
  Lg : t.m.Lg.length ≤ B
theorem HeldT.ok {n B C : Nat} {t : Tb} (h : HeldT n B C t) (hn : n ∈ pows) (hB : B ≤ 10000) (hC : C ≤ 10000) : t.Ok :=
  ⟨by rw [h.nn]; exact hn, h.rise, h.kin, by have := h.few; omega, ⟨by rw [h.W]; decide, by rw [h.len]; decide, by have := h.Lg; omega⟩⟩
theorem HeldT.may {n B C : Nat} {t : Tb} (h : HeldT n B C t) (h16 : n ≤ 16) {s : Nat} (hs : s < n) : t.may 1 (s : Nat) = 0 := by
  obtain ⟨⟨W, L, Lg⟩, tn, fl⟩ := t
  have h0 : W = [] := h.W
  subst h0
  exact may_held h.len (by omega) (by have := h.nn; simp only at this; omega) (h.L s hs)
theorem HeldT.of_lt {n B C : Nat} {t : Tb} (h : HeldT n B C t) (hn : n ∈ pows) (k : Ky) : t.of k < n := by
  have := stripeF_lt k (pows_pos hn).1
  unfold Tb.of
  rw [h.nn]; exact this
theorem touch_note (m : M) (kd : Int) {p : Nat} (h : p ≤ 16) : m.touch 1 kd (p : Nat) = m.note 1 kd (3 * (p : Int) + 2) := by
  unfold M.touch
  rw [if_pos (by omega)]
theorem HeldT.next {n B C C' : Nat} {t : Tb} (h : HeldT n B C t) (kd p : Int) {fl : Kl (Int × Bool)} (hr : Rises (keysL fl)) (hk : ∀ k ∈ keysL fl, k.In) (hf : fl.length ≤ C') : HeldT n (B + 1) C' ⟨t.m.note 1 kd p, t.n, fl⟩ :=
  ⟨h.nn, hr, hk, hf, h.W, h.len, h.L, by show (t.m.Lg ++ [_]).length ≤ _; have := h.Lg; simp; omega⟩
theorem HeldT.put {n B C : Nat} {t : Tb} (h : HeldT n B C t) (hn : n ∈ pows) (h16 : n ≤ 16) {k : Ky} (hk : k.In) (x : Int) (tu : Bool) :
    ∃ t2, t.put 1 k x tu = t2 ∧ HeldT n (B + 1) (C + 1) t2 ∧ t2.fl = putL t.fl k (x, tu) ∧ t.may 1 (t.of k : Nat) = 0 := by
  have hlt := h.of_lt hn k
  have hm := h.may h16 hlt
  refine ⟨⟨t.m.note 1 6 (3 * ((t.of k : Nat) : Int) + 2), t.n, putL t.fl k (x, tu)⟩, ?_, h.next _ _ (rises_put h.rise k _) (keysL_putL hk h.kin) (Nat.le_trans (length_putL t.fl k (x, tu) h.rise) (by have := h.few; omega)), rfl, hm⟩
  unfold Tb.put
  rw [hm, if_pos rfl, touch_note _ _ (by omega)]
theorem HeldT.find {n B C : Nat} {t : Tb} (h : HeldT n B C t) (hn : n ∈ pows) (h16 : n ≤ 16) (k : Ky) :
    ∃ t2, t.find 1 k = t2 ∧ HeldT n (B + 1) C t2 ∧ t2.fl = t.fl ∧ t.findR 1 k = .tuple #[.int .i64 (entT t.fl k).1, .bool (entT t.fl k).2, .bool (hasL t.fl k), .int .i64 0] := by
  have hlt := h.of_lt hn k
  have hm := h.may h16 hlt
  refine ⟨⟨t.m.note 1 5 (3 * ((t.of k : Nat) : Int) + 2), t.n, t.fl⟩, ?_, h.next _ _ h.rise h.kin h.few, rfl, ?_⟩
  · unfold Tb.find
    rw [hm, if_pos rfl, touch_note _ _ (by omega)]
  · unfold Tb.findR
    rw [hm, if_pos rfl]
theorem keysL_delL {l : Kl (Int × Bool)} {k : Ky} (h : ∀ y ∈ keysL l, y.In) : ∀ y ∈ keysL (delL l k), y.In := fun y hy => by
  rw [keysL_del] at hy
  exact h y (List.mem_filter.1 hy).1
theorem HeldT.remove {n B C : Nat} {t : Tb} (h : HeldT n B C t) (hn : n ∈ pows) (h16 : n ≤ 16) (k : Ky) :
    ∃ t2, t.remove 1 k = t2 ∧ HeldT n (B + 1) C t2 ∧ t2.fl = delL t.fl k ∧ t.removeE 1 k = if hasL t.fl k = true then 0 else 15 := by
  have hlt := h.of_lt hn k
  have hm := h.may h16 hlt
  refine ⟨⟨t.m.note 1 6 (3 * ((t.of k : Nat) : Int) + 2), t.n, delL t.fl k⟩, ?_, h.next _ _ (rises_del h.rise k) (keysL_delL h.kin) (Nat.le_trans (List.length_filter_le _ _) h.few), rfl, ?_⟩
  · unfold Tb.remove
    rw [hm, if_pos rfl, touch_note _ _ (by omega)]
  · unfold Tb.removeE
    rw [hm, if_pos rfl]
theorem HeldT.keys {n B C : Nat} {t : Tb} (h : HeldT n B C t) (h16 : n ≤ 16) {s : Nat} (hs : s < n) :
    ∃ t2, t.keysT 1 (s : Nat) = t2 ∧ HeldT n (B + 1) C t2 ∧ t2.fl = t.fl ∧ t.keysR 1 (s : Nat) = keysL (inS n s t.fl) ∧ t.may 1 (s : Nat) = 0 := by
  have hm := h.may h16 hs
  refine ⟨⟨t.m.note 1 5 (3 * (s : Int) + 2), t.n, t.fl⟩, ?_, h.next _ _ h.rise h.kin h.few, rfl, ?_, hm⟩
  · unfold Tb.keysT
    rw [hm, if_pos rfl, touch_note _ _ (by omega)]
  · unfold Tb.keysR
    rw [hm, if_pos rfl, h.nn, Int.toNat_natCast]
/-- The number of flows in the first y stripes. -/
def sumS (n : Nat) (l : Kl (Int × Bool)) (y : Nat) : Nat := (l.filter fun p => decide (stripeF p.1 n < y)).length
theorem sumS_zero (n : Nat) (l : Kl (Int × Bool)) : sumS n l 0 = 0 := by
  unfold sumS
  rw [List.filter_eq_nil_iff.2 (fun p _ => by simp)]; rfl
theorem sumS_step (n : Nat) (l : Kl (Int × Bool)) (y : Nat) : sumS n l (y + 1) = sumS n l y + (inS n y l).length := by
  unfold sumS
  rw [← inS_count l n (y + 1), ← inS_count l n y, List.range_succ, List.map_append, List.sum_append]
  simp
theorem sumS_all {n : Nat} (hn : 0 < n) (l : Kl (Int × Bool)) : sumS n l n = l.length := by
  unfold sumS
  rw [List.filter_eq_self.2 (fun p _ => by rw [decide_eq_true_eq]; exact stripeF_lt p.1 hn)]
theorem sumS_le (n : Nat) (l : Kl (Int × Bool)) (y : Nat) : sumS n l y ≤ l.length := List.length_filter_le _ _
theorem had_more (l : Kl (Int × Bool)) (hr : Rises (keysL l)) (k : Ky) (x : Int × Bool) : hasL l k = decide ((putL l k x).length = l.length) := by
  unfold hasL
  cases h : getL l k with
  | none => rw [length_put_new h]; simp
  | some y => rw [length_put_old hr h]; simp
theorem del_put (l : Kl (Int × Bool)) (hr : Rises (keysL l)) (k : Ky) (x : Int × Bool) : (delL (putL l k x) k).length + 1 = (putL l k x).length := length_del (rises_put hr k x) (x := x) (by rw [getL_put, if_pos rfl])
theorem has_put (l : Kl (Int × Bool)) (k : Ky) (x : Int × Bool) : hasL (putL l k x) k = true ∧ entT (putL l k x) k = x := by
  unfold hasL entT
  rw [getL_put, if_pos rfl]
  exact ⟨rfl, rfl⟩
theorem has_del (l : Kl (Int × Bool)) (k : Ky) : hasL (delL l k) k = false := by
  unfold hasL
  rw [getL_del, if_pos rfl]; rfl
end Go.Proofs.Ytahgapkecabnjaa
