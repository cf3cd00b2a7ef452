/- The walks of the laws FsmTcp and FsmUntil. -/
import Derived.Test.YtpmhlcnnbkicaaaFsmC
namespace Go.Proofs.Ytpmhlcnnbkicaaa
set_option linter.unusedSimpArgs false
set_option linter.unusedVariables false
open Go Go.RowKit

theorem fopen_other (p : Pk) (h : (p.proto == 6) = false) (t : Int) (ok : Bool) (e : fopenF p = (t, ok)) : ok = true → t = 8 := by
  unfold fopenF at e
  rw [if_neg (by simp [h])] at e
  split at e
  · cases e; intro; rfl
  · split at e
    · split at e
      · cases e; intro; rfl
      · cases e; intro hh; cases hh
    · cases e; intro hh; cases hh
theorem fnext_other (s : Int) (r : Bool) (p : Pk) (h : (p.proto == 6) = false) (t : Int) (ok : Bool) (e : fnextF s r p = (t, ok)) : ok = true → (8 ≤ s ∧ s ≤ 9 ∧ s ≤ t ∧ t ≤ 9) := by
  unfold fnextF at e
  rw [if_neg (by simp [h])] at e
  split at e
  · cases e; intro hh; cases hh
  · rename_i hs
    have h89 : s = 8 ∨ s = 9 := by
      simp only [beq_eq_false_iff_ne, ne_eq] at hs
      omega
    split at e
    · cases e; intro hh; cases hh
    · split at e <;> cases e <;> intro <;> omega

set_option maxHeartbeats 4000000 in
set_option maxRecDepth 100000 in
theorem fsmTcp_walk (s : Int) (r : Bool) (p : Pk) (w : World) (ws : (Lit.int .i64 s).wf = true) (wp : PkWf p) :
    Calls Try.prog 7 #[.int .i64 s, .bool r, .agg (pkC p)] w fun e w' => e = .returned (.bool true) ∧ Below w.heap.size w w' := by
  obtain ⟨t1, b1, e1⟩ : ∃ t b, fopenF p = (t, b) := ⟨_, _, rfl⟩
  obtain ⟨t2, b2, e2⟩ : ∃ t b, fnextF s r p = (t, b) := ⟨_, _, rfl⟩
  have E1 := Lib.hid e1
  have E2 := Lib.hid e2
  have P0 : PkAt (w.alloc (.cells (pkC p) 32)) w.heap.size p := PkAt.new w p 32
  have B0 : Below w.heap.size w (w.alloc (.cells (pkC p) 32)) := (Below.refl _ _).alloc (Nat.le_refl _) _
  by_cases h6 : (p.proto == 6) = true
  · have e3 : openF p.flags = (t1, b1) := by rw [← e1]; unfold fopenF; rw [if_pos h6]
    have e4 : nextF s r p.flags = (t2, b2) := by rw [← e2]; unfold fnextF; rw [if_pos h6]
    have E3 := Lib.hid e3
    have E4 := Lib.hid e4
    clear e1 e2 e3 e4
    unfold pkC at *
    go_enter Try.func7, Try.ntmps7
    go_wp2_with fail
    refine (fopen_val p t1 b1 _ E1.out).mono ?_
    generalize w.alloc (.cells _ 32) = w0 at *
    have HB0 := Lib.hid B0
    clear B0
    rintro e w1 ⟨rfl, h1⟩
    have P1 := P0.below h1
    have HB1 := Lib.hid (below_then HB0.out h1)
    clear h1 P0
    obtain ⟨c0, c1, c2, c3, c4, c5, c6⟩ := P1.cells
    go_wp2_with fail
    refine (fnext_val s r p t2 b2 _ ws E2.out).mono ?_
    rintro e w2 ⟨rfl, h2⟩
    clear c0 c1 c2 c3 c4 c5 c6
    have P2 := P1.below h2
    have HB2 := Lib.hid (below_then HB1.out h2)
    clear h2 P1
    obtain ⟨c0, c1, c2, c3, c4, c5, c6⟩ := P2.cells
    go_wp2_with fail
    refine (open_val p.flags t1 b1 _ E3.out).mono ?_
    rintro e w3 ⟨rfl, rfl⟩
    go_wp2_with fail
    refine (next_val s r p.flags t2 b2 _ ws E4.out).mono ?_
    rintro e w4 ⟨rfl, h4⟩
    clear c0 c1 c2 c3 c4 c5 c6
    have HB4 := Lib.hid (below_then HB2.out h4)
    clear h4 P2
    go_wp2_with fail
    refine (awake17_any _).mono ?_
    rintro e w5 ⟨rfl, h5⟩
    go_wp2_with fail
    go_ret
    exact ⟨by simp, below_then HB4.out h5⟩
  · have h6 : (p.proto == 6) = false := by simpa using h6
    have l1 := fopen_other p h6 t1 b1 e1
    have l2 := fnext_other s r p h6 t2 b2 e2
    clear e1 e2
    have L1 := Lib.hid l1
    have L2 := Lib.hid l2
    clear l1 l2
    unfold pkC at *
    go_enter Try.func7, Try.ntmps7
    go_wp2_with fail
    refine (fopen_val p t1 b1 _ E1.out).mono ?_
    generalize w.alloc (.cells _ 32) = w0 at *
    have HB0 := Lib.hid B0
    clear B0
    rintro e w1 ⟨rfl, h1⟩
    have P1 := P0.below h1
    have HB1 := Lib.hid (below_then HB0.out h1)
    clear h1 P0
    obtain ⟨c0, c1, c2, c3, c4, c5, c6⟩ := P1.cells
    go_wp2_with fail
    refine (fnext_val s r p t2 b2 _ ws E2.out).mono ?_
    rintro e w2 ⟨rfl, h2⟩
    clear c0 c1 c2 c3 c4 c5 c6
    have P2 := P1.below h2
    have HB2 := Lib.hid (below_then HB1.out h2)
    clear h2 P1
    obtain ⟨c0, c1, c2, c3, c4, c5, c6⟩ := P2.cells
    go_wp2_with fail
    refine (awake17_any _).mono ?_
    rintro e w5 ⟨rfl, h5⟩
    have HB5 := Lib.hid (below_then HB2.out h5)
    clear h5 c0 c1 c2 c3 c4 c5 c6 P2
    cases b1 with
    | false =>
      cases b2 with
      | false =>
        go_wp2_with fail
        go_ret
        exact ⟨by simp, HB5.out⟩
      | true =>
        obtain ⟨g1, g2, g3, g4⟩ := L2.out rfl
        go_wp2_with fail
        go_ret
        exact ⟨by simp, HB5.out⟩
    | true =>
      obtain rfl := L1.out rfl
      cases b2 with
      | false =>
        go_wp2_with fail
        go_ret
        exact ⟨by simp, HB5.out⟩
      | true =>
        obtain ⟨g1, g2, g3, g4⟩ := L2.out rfl
        go_wp2_with fail
        go_ret
        exact ⟨by simp, HB5.out⟩
theorem until_plain (ts : Nat → Int) (s c : Int) (h0 : 0 ≤ c) (h1 : c ≤ 8589934592) : untilF ts s c = c + nearF (longF ts s) 1 1048576 := by
  have := nearF_bd (longF ts s) 1 1048576 (by omega)
  unfold untilF
  have e : nearF c 0 1099511627775 = c := by unfold nearF; omega
  rw [e]
  omega
theorem until_max (ts : Nat → Int) (s : Int) : untilF ts s 1099511627775 = 1099511627775 := by
  have := nearF_bd (longF ts s) 1 1048576 (by omega)
  unfold untilF
  have e : nearF 1099511627775 0 1099511627775 = 1099511627775 := by unfold nearF; omega
  rw [e]
  omega

set_option maxHeartbeats 4000000 in
set_option maxRecDepth 100000 in
theorem fsmUntil_walk (ts : Nat → Int) (st c mo : Int) (w : World) (wst : (Lit.int .u8 st).wf = true) (wc : (Lit.int .u32 c).wf = true) (wmo : (Lit.int .u16 mo).wf = true) :
    Calls Try.prog 8 #[.agg (arr16 ts), .int .u8 st, .int .u32 c, .int .u16 mo] w fun e w' => e = .returned (.bool true) ∧ Below w.heap.size w w' := by
  obtain ⟨s0, s1⟩ := wf_u8 wst
  have hc : 0 ≤ c ∧ c ≤ 4294967295 := by
    have h2 : IntKind.u32.min ≤ c ∧ c ≤ IntKind.u32.max := by simpa [Lit.wf] using wc
    exact ⟨(show IntKind.u32.min = 0 from rfl) ▸ h2.1, (show IntKind.u32.max = 4294967295 from rfl) ▸ h2.2⟩
  have hm : 0 ≤ mo ∧ mo ≤ 65535 := by
    have h2 : IntKind.u16.min ≤ mo ∧ mo ≤ IntKind.u16.max := by simpa [Lit.wf] using wmo
    exact ⟨(show IntKind.u16.min = 0 from rfl) ▸ h2.1, (show IntKind.u16.max = 65535 from rfl) ▸ h2.2⟩
  clear wst wc wmo
  obtain ⟨m, em⟩ : ∃ m, nearF (longF ts (st % 16)) 1 1048576 = m := ⟨_, rfl⟩
  have bm := nearF_bd (longF ts (st % 16)) 1 1048576 (by omega)
  rw [em] at bm
  have E1 := Lib.hid (show untilF ts (st % 16) c = c + m by rw [until_plain ts _ c hc.1 (by omega), em])
  have E2 := Lib.hid (show untilF ts (st % 16) (c + mo) = c + mo + m by rw [until_plain ts _ (c + mo) (by omega) (by omega), em])
  have E3 := Lib.hid (until_max ts (st % 16))
  clear em
  have T0 : (w.alloc (.cells (arr16 ts) 33)).rangeAt w.heap.size 0 (arr16 ts).toList := TsAt.new w ts 33
  have B0 : Below w.heap.size w (w.alloc (.cells (arr16 ts) 33)) := (Below.refl _ _).alloc (Nat.le_refl _) _
  have hu := Try.underlying33
  have hi : (Try.prog.info? 33).map (·.size) = some (arr16 ts).toList.length := by kernel_rfl
  have hx : IntKind.i64.wrap (c + mo) = c + mo := IntWalk.i64_in _ (by omega)
  have hx1 : IntKind.i64.wrap c = c := IntWalk.i64_in _ (by omega)
  have hx2 : IntKind.i64.wrap mo = mo := IntWalk.i64_in _ (by omega)
  go_enter Try.func8, Try.ntmps8
  go_wp2_with fail
  generalize w.alloc (.cells (arr16 ts) 33) = w0 at *
  have HB0 := Lib.hid B0
  clear B0
  refine wp_region_since w0 (Since.refl _) (by kernel_rfl) (by kernel_rfl) ?_
  (refine wpQ_load_mid (by rfl) 33 _ rfl w.heap.size 0 rfl (arr16 ts).toList _ (fun v hv => hv.range T0) hu rfl hi ?_; simp only [Act.put, List.setIfInBounds_toArray, List.set_cons_zero, List.set_cons_succ])
  iterate 3 (refine wpQ_val (by rfl) (fun v hv => by go_simp; first | done | with_reducible rfl) ?_; simp only [Act.put, List.setIfInBounds_toArray, List.set_cons_zero, List.set_cons_succ])
  refine wpQ_call (f := 26) (args := #[.agg (arr16 ts), .int .i64 (st % 16), .int .i64 c]) (by rfl) (fun v hv => by go_simp) (fun v hv => (until_val ts _ c _ v E1.out).mono (fun e v' ⟨he, hb⟩ => ⟨he, hv.step hb⟩)) ?_
  simp only [Act.put, List.setIfInBounds_toArray, List.set_cons_zero, List.set_cons_succ]
  (refine wpQ_load_mid (by rfl) 33 _ rfl w.heap.size 0 rfl (arr16 ts).toList _ (fun v hv => hv.range T0) hu rfl hi ?_; simp only [Act.put, List.setIfInBounds_toArray, List.set_cons_zero, List.set_cons_succ])
  iterate 6 (refine wpQ_val (by rfl) (fun v hv => by go_simp; first | done | with_reducible rfl) ?_; simp only [Act.put, List.setIfInBounds_toArray, List.set_cons_zero, List.set_cons_succ])
  refine wpQ_call (f := 26) (args := #[.agg (arr16 ts), .int .i64 (st % 16), .int .i64 (c + mo)]) (by rfl) (fun v hv => by go_simp) (fun v hv => (until_val ts _ _ _ v E2.out).mono (fun e v' ⟨he, hb⟩ => ⟨he, hv.step hb⟩)) ?_
  simp only [Act.put, List.setIfInBounds_toArray, List.set_cons_zero, List.set_cons_succ]
  iterate 2 (refine wpQ_val (by rfl) (fun v hv => by go_simp; first | done | with_reducible rfl) ?_; simp only [Act.put, List.setIfInBounds_toArray, List.set_cons_zero, List.set_cons_succ])
  refine wpQ_done ?_
  intro w5 hw5
  clear hx hx1 hx2
  have HB5 := Lib.hid (below_then HB0.out hw5)
  have T5 := hw5.range T0
  clear hw5 T0
  go_wp2_with fail
  refine (awake17_any _).mono ?_
  rintro e w6 ⟨rfl, h6⟩
  have HB6 := Lib.hid (below_then HB5.out h6)
  have T6 := Since.range (w := w5) h6 T5
  clear h6 T5
  have hd : (c + mo + m - (c + m) == mo) = true := by rw [beq_iff_eq]; omega
  go_wp2_with (first
    | (refine wpList_load_mid_w (by rfl) 33 _ rfl w.heap.size 0 rfl (arr16 ts).toList _ T6 hu rfl hi ?_)
    | (go_at_call 26; refine (until_val ts _ _ _ _ E3.out).mono ?_; rintro e w7 ⟨rfl, h7⟩))
  go_ret
  exact ⟨by simp, below_then HB6.out h7⟩
end Go.Proofs.Ytpmhlcnnbkicaaa
