/- Regions that draw and have effects in their midst, whose last operation may break what the loads rest on. After Derived/OrdersHeld.lean: the condition S is not asked behind the last operation, which waits for all others. -/
import Derived.Test.YtahgapkecabnjaaC01
import Derived.OrdersHeld
import Derived.Test.YtahgapkecabnjaaC10
namespace Go.Proofs.Ytahgapkecabnjaa
set_option linter.unusedSimpArgs false
set_option linter.unusedVariables false
open Go Go.RowKit

section
variable {P : Program} {ops : Array Oper} {Q : Exit → Act → World → Prop} {S : World → Prop} {l : Nat}

/-- Whatever order is picked from here on, and S holds behind every operation but the last, l. -/
def wpAnyG (P : Program) (ops : Array Oper) (Q : Exit → Act → World → Prop) (S : World → Prop) (l : Nat) : Nat → Array Bool → Act → World → Prop
  | 0, listed, a, w => Region.ready .any ops listed = [] ∧ Q .normal a w
  | fuel + 1, listed, a, w =>
    (Region.ready .any ops listed = [] → Q .normal a w) ∧
    ∀ i ∈ Region.ready .any ops listed, wpOp P ops Q i (fun a' w' => (i ≠ l → S w') ∧ wpAnyG P ops Q S l fuel (listed.setIfInBounds i true) a' w') a w
theorem wpAny_of_G : ∀ (fuel : Nat) (listed : Array Bool) (a : Act) (w : World), wpAnyG P ops Q S l fuel listed a w → wpAny P .any ops Q fuel listed a w
  | 0, _, _, _, h => h
  | fuel + 1, _, _, _, h => ⟨h.1, fun i hi => wpOp_mono (fun a' w' h' => wpAny_of_G fuel _ a' w' h'.2) (h.2 i hi)⟩
theorem unlisted_of_ready {md : Region.Mode} {ops : Array Oper} {listed : Array Bool} {i j : Nat} {oj : Oper} (hi : i ∈ Region.ready md ops listed) (hj : j ∈ Region.ready md ops listed) (hoj : ops[j]? = some oj) {e : Edge} (he : e ∈ oj.after) (hb : Region.binds md e = true) : e.on ≠ i := fun heq => by
  obtain ⟨_, oj', hoj', hall⟩ := mem_ready.1 hj
  rw [hoj] at hoj'
  cases hoj'
  have h1 := hall e he hb
  have h0 := (mem_ready.1 hi).1
  rw [heq] at h1
  rcases Nat.lt_or_ge i listed.size with h' | h'
  · simp [h'] at h0 h1; rw [h0] at h1; cases h1
  · simp [Array.getElem?_eq_none h'] at h1
/-- Does the last operation wait for i? -/
def waitsB (ops : Array Oper) (l i : Nat) : Bool := match ops[l]? with | some o => o.after.any fun e => Region.binds .any e && e.on == i | none => true
theorem not_last {listed : Array Bool} {i j : Nat} (hw : waitsB ops l i = true) (hi : i ∈ Region.ready .any ops listed) (hj : j ∈ Region.ready .any ops listed) : j ≠ l := fun hjl => by
  subst hjl
  obtain ⟨_, oj, hoj, hall⟩ := mem_ready.1 hj
  unfold waitsB at hw
  rw [hoj] at hw
  simp only [Array.any_eq_true] at hw
  obtain ⟨n, hn, hx⟩ := hw
  rw [Bool.and_eq_true, beq_iff_eq] at hx
  exact unlisted_of_ready hi hj hoj (Array.getElem_mem hn) hx.1 hx.2
theorem wpAnyG_first {i : Nat} {oi : Oper} {v : Value} (hi : ops[i]? = some oi) (hsel : ∀ (j : Nat) (o : Oper) cs b, ops[j]? = some o → o.op ≠ .select cs b) (hl : waitsB ops l i = true)
    (hQ : ∀ c a w, Q (.panic c) (a.put oi.dst v) w → Q (.panic c) a w) :
    ∀ (fuel : Nat) (listed : Array Bool) (a : Act) (w : World),
      (∀ j oj, ops[j]? = some oj → j ≠ i → listed.getD j true = false → (∀ e ∈ oj.after, Region.binds .any e = true → e.on ≠ i) → oi.apart ops oj = true) →
      i ∈ Region.ready .any ops listed → YieldsIf P ops S oi v a → S w →
      wpAnyG P ops Q S l fuel (listed.setIfInBounds i true) (a.put oi.dst v) w → wpAnyG P ops Q S l (fuel + 1) listed a w := by
  intro fuel
  induction fuel with
  | zero =>
    intro listed a w _ hr hy hS H
    refine ⟨fun h => (by rw [h] at hr; cases hr), fun j hj => ?_⟩
    by_cases hji : j = i
    · subst hji; exact hy.wpOp hi hS ⟨fun _ => hS, H⟩
    · have := ready_mono hj hji
      rw [H.1] at this
      cases this
  | succ fuel ih =>
    intro listed a w hfree hr hy hS H
    refine ⟨fun h => (by rw [h] at hr; cases hr), fun j hj => ?_⟩
    by_cases hji : j = i
    · subst hji; exact hy.wpOp hi hS ⟨fun _ => hS, H⟩
    · have h1 := H.2 j (ready_mono hj hji)
      have hjl := not_last hl hr hj
      obtain ⟨hjun, oj, hoj, hall⟩ := mem_ready.1 hj
      have hnot : ∀ e ∈ oj.after, Region.binds .any e = true → e.on ≠ i := fun e he hb => unlisted_of_ready hr hj hoj he hb
      have h2 := wpOp_putIf hoj (hfree j oj hoj hji hjun hnot) (fun cs b => hsel i oi cs b hi) (fun cs b => hsel j oj cs b hoj) hQ hy h1
      have hfree' : ∀ k ok, ops[k]? = some ok → k ≠ i → (listed.setIfInBounds j true).getD k true = false →
          (∀ e ∈ ok.after, Region.binds .any e = true → e.on ≠ i) → oi.apart ops ok = true := fun k ok hk hki hun hno => by
        refine hfree k ok hk hki ?_ hno
        by_cases hjk : j = k
        · subst hjk; exact hjun
        · rw [getD_set_ne true hjk] at hun; exact hun
      refine wpOp_mono (fun a' w' h3 => ⟨fun _ => h3.2.1 hjl, ih (listed.setIfInBounds j true) a' w' hfree' (ready_mono hr (Ne.symm hji)) h3.1 (h3.2.1 hjl) ?_⟩) h2
      rw [Array.setIfInBounds_comm _ _ hji]
      exact h3.2.2
end

/-- 'wpAnyG' under a name that does not unfold. -/
structure WG (P : Program) (ops : Array Oper) (Q : Exit → Act → World → Prop) (S : World → Prop) (l : Nat) (fuel : Nat) (listed : Array Bool) (a : Act) (w : World) : Prop where
  mk :: (out : wpAnyG P ops Q S l fuel listed a w)
section
variable {P : Program} {Q : Exit → Act → World → Prop} {ops : Array Oper} {S : World → Prop} {l : Nat}
theorem WG.enter {id : Nat} {a : Act} {w : World} (S : World → Prop) (l : Nat) (hm : P.follows .mixedOrders = true) (n : Nat) (hn : ops.size = n)
    (h : WG P ops Q S l n (Array.replicate n false) a w.drew) : (Code.region id ops true).wp P Q a w := wp_region_any hm (wpAny_of_G _ _ _ _ (by subst hn; exact h.out))
theorem WG.take (i : Nat) (d : Option Tmp) {v : Value} {oi : Oper} {fuel : Nat} {listed : Array Bool} {a : Act} {w : World} (hi : ops[i]? = some oi) (hd : oi.dst = d) (hs : Region.noSelect ops = true) (hl : waitsB ops l i = true)
    (hf : Region.free .any ops listed i = true) (hr : (Region.ready .any ops listed).contains i = true) (hQ : ∀ c a w, Q (.panic c) (a.put oi.dst v) w → Q (.panic c) a w) (hw : Region.wanted oi (yielded ops a.tmps) = true) (hy : ∀ w, S w → (execOp a.eval oi).run P w = .ok (.value v) w) (hS : S w)
    (h : WG P ops Q S l fuel (listed.setIfInBounds i true) (a.put d v) w) : WG P ops Q S l (fuel + 1) listed a w := by
  subst hd
  exact ⟨wpAnyG_first hi (Region.noSelect_spec hs) hl hQ fuel listed a w (Region.free_spec hi hf) (by simpa using hr) (.inl ⟨hw, hy⟩) hS h.out⟩
theorem WG.one (i : Nat) {o : Oper} {fuel : Nat} {listed : Array Bool} {a : Act} {w : World} (hr : Region.ready .any ops listed = [i]) (ho : ops[i]? = some o) (hw : Region.wanted o (yielded ops a.tmps) = true)
    (h : o.wp P a w (fun a' w' => (i ≠ l → S w') ∧ WG P ops Q S l fuel (listed.setIfInBounds i true) a' w') Q) : WG P ops Q S l (fuel + 1) listed a w :=
  ⟨⟨(fun h0 => by rw [hr] at h0; cases h0), fun j hj => by
    rw [hr] at hj
    obtain rfl := List.mem_singleton.1 hj
    unfold wpOp
    rw [ho]
    simp only [hw, if_true]
    exact .inl (Oper.wp_mono (fun a' w' h' => ⟨h'.1, h'.2.out⟩) h)⟩⟩
theorem WG.two (i j : Nat) {oi oj : Oper} {fuel : Nat} {listed : Array Bool} {a : Act} {w : World} (hr : Region.ready .any ops listed = [i, j]) (hi : ops[i]? = some oi) (hj : ops[j]? = some oj)
    (hwi : Region.wanted oi (yielded ops a.tmps) = true) (hwj : Region.wanted oj (yielded ops a.tmps) = true)
    (h1 : oi.wp P a w (fun a' w' => (i ≠ l → S w') ∧ WG P ops Q S l fuel (listed.setIfInBounds i true) a' w') Q)
    (h2 : oj.wp P a w (fun a' w' => (j ≠ l → S w') ∧ WG P ops Q S l fuel (listed.setIfInBounds j true) a' w') Q) : WG P ops Q S l (fuel + 1) listed a w :=
  ⟨⟨(fun h0 => by rw [hr] at h0; cases h0), fun k hk => by
    rw [hr] at hk
    rcases List.mem_cons.1 hk with rfl | hk
    · unfold wpOp
      rw [hi]
      simp only [hwi, if_true]
      exact .inl (Oper.wp_mono (fun a' w' h' => ⟨h'.1, h'.2.out⟩) h1)
    · obtain rfl := List.mem_singleton.1 hk
      unfold wpOp
      rw [hj]
      simp only [hwj, if_true]
      exact .inl (Oper.wp_mono (fun a' w' h' => ⟨h'.1, h'.2.out⟩) h2)⟩⟩
theorem WG.done {fuel : Nat} {listed : Array Bool} {a : Act} {w : World} (hr : Region.ready .any ops listed = []) (h : Q .normal a w) : WG P ops Q S l fuel listed a w := by
  constructor
  cases fuel with
  | zero => exact ⟨hr, h⟩
  | succ n => exact ⟨fun _ => h, by rw [hr]; simp⟩
end
end Go.Proofs.Ytahgapkecabnjaa
/- Walks of the reference's table: Find, Remove. Printed by gen_tabl.py. -/
namespace Go.Proofs.Ytahgapkecabnjaa
set_option linter.unusedSimpArgs false
set_option linter.unusedVariables false
open Go Go.RowKit Go.Maps Go.Shelf Go.Sort

/-- What the front of each call leaves: the key in its box and the pointer to the memory. -/
def RCells (u rm b : Nat) (k : Ky) (W : World) : Prop := W.cell? ⟨u, 0, none⟩ = some (.pointer (some ⟨rm, 0, none⟩)) ∧ W.cell? ⟨b, 0, none⟩ = some (.int .u32 k.a0) ∧ W.cell? ⟨b, 1, none⟩ = some (.int .u32 k.a1) ∧ W.cell? ⟨b, 2, none⟩ = some (.int .u16 k.p0) ∧ W.cell? ⟨b, 3, none⟩ = some (.int .u16 k.p1) ∧ W.cell? ⟨b, 4, none⟩ = some (.int .u8 k.pr)
theorem RCells.below {u rm b : Nat} {k : Ky} {W W' : World} (h : RCells u rm b k W) (hb : Below W.heap.size W W') : RCells u rm b k W' := by
  obtain ⟨a, b0, b1, b2, b3, b4⟩ := h
  exact ⟨Since.cell hb a, Since.cell hb b0, Since.cell hb b1, Since.cell hb b2, Since.cell hb b3, Since.cell hb b4⟩
set_option maxHeartbeats 8000000 in
set_option maxRecDepth 100000 in
theorem rtfind_any {w : World} {u rm : Nat} {F : Nat → Prop} {t : Tb} (h : RTab w u rm F t) (ok : t.Ok) (hrm : t.m.Lg.length + 1 < 1073741824) (hh : t.m.held) {k : Ky} (hk : k.In) (th : Int) :
    Calls Try.prog 25 #[.pointer (some ⟨u, 0, none⟩), .int .i64 th, kyV k] w (RTabPost w u rm F (t.findR th k) (t.find th k)) := by
  have HB1 : Hid (Below w.heap.size w (w.alloc (.cells (kyC k) 28))) := Lib.hid ((Below.refl _ w).alloc (Nat.le_refl _) _)
  have HNF : Hid (¬ F w.heap.size) := Lib.hid (fun hf => Nat.lt_irrefl _ (h.foot_lt _ hf))
  have d0 : (w.alloc (.cells (kyC k) 28)).cell? ⟨w.heap.size, 0, none⟩ = some (.int .u32 k.a0) := by simp [kyC]
  have d1 : (w.alloc (.cells (kyC k) 28)).cell? ⟨w.heap.size, 1, none⟩ = some (.int .u32 k.a1) := by simp [kyC]
  have d2 : (w.alloc (.cells (kyC k) 28)).cell? ⟨w.heap.size, 2, none⟩ = some (.int .u16 k.p0) := by simp [kyC]
  have d3 : (w.alloc (.cells (kyC k) 28)).cell? ⟨w.heap.size, 3, none⟩ = some (.int .u16 k.p1) := by simp [kyC]
  have d4 : (w.alloc (.cells (kyC k) 28)).cell? ⟨w.heap.size, 4, none⟩ = some (.int .u8 k.pr) := by simp [kyC]
  have HOF := Lib.hid (fun (W : World) (h : RTab W u rm F t) => rtof_any h ok hk)
  have HMY := Lib.hid (fun (W : World) (h : RTab W u rm F t) => rtmay_any h ok hh th (t.of k : Nat))
  have HMM := Lib.hid (fun (W : World) (h : RTab W u rm F t) => h.mem_post (fun Fm hm => rtouch_any rm Fm t.m th 5 (t.of k : Nat) _ hm ok.sm))
  have hol := ok.of_lt k
  have hle := ok.le
  have HTW := Lib.hid h
  have HOK := Lib.hid ok
  have HK := Lib.hid hk
  have HRI := Lib.hid ok.rise
  have HRM := Lib.hid hrm
  clear hrm
  have HV : Hid (t.findR th k = if t.may th (t.of k : Nat) = 0 then .tuple #[.int .i64 (entT t.fl k).1, .bool (entT t.fl k).2, .bool (hasL t.fl k), .int .i64 0] else .tuple #[.int .i64 0, .bool false, .bool false, .int .i64 (t.may th (t.of k : Nat))]) := Lib.hid rfl
  have HD0 : Hid (t.find th k = if t.may th (t.of k : Nat) = 0 then ⟨t.m.touch th 5 (t.of k : Nat), t.n, t.fl⟩ else t) := Lib.hid rfl
  generalize t.findR th k = res at *
  generalize t.find th k = t' at *
  clear h ok hk hh
  generalize hof : t.of k = sf at *
  generalize hmy : t.may th (sf : Nat) = my at *
  clear hof
  go_enter Try.func25, Try.ntmps25
  go_wp2_with fail
  have HT1 := Lib.hid (HTW.out.below HB1.out)
  generalize w.alloc (.cells (kyC k) 28) = w1 at *
  refine (HOF.out _ HT1.out).mono ?_
  rintro e w2 ⟨rfl, h2⟩
  have HB2 := Lib.hid (below_then HB1.out h2)
  have HT2 := Lib.hid (HTW.out.below HB2.out)
  have e0 := Since.cell h2 d0
  have e1 := Since.cell h2 d1
  have e2 := Since.cell h2 d2
  have e3 := Since.cell h2 d3
  have e4 := Since.cell h2 d4
  clear d0 d1 d2 d3 d4 h2
  go_wp2_with fail
  refine (HMY.out _ HT2.out).mono ?_
  rintro e w2' ⟨rfl, hw2'⟩
  subst w2'
  by_cases hz : my = 0
  · subst hz
    have q0 : ((0 : Int) != 0) = false := by decide
    obtain ⟨Fm, fv, hw, hF⟩ := id HT2.out
    have HS : Hid (RCells u rm w.heap.size k w2) := Lib.hid ⟨hw.cells.1, e0, e1, e2, e3, e4⟩
    clear hw hF e0 e1 e2 e3 e4
    go_wp2_with fail
    have HBD : Hid (Below w2.heap.size w2 w2.drew) := Lib.hid (Below.drew (Below.refl w2.heap.size w2))
    have HS0 := Lib.hid (HS.out.below HBD.out)
    have HT3 := Lib.hid (HT2.out.below HBD.out)
    refine WH.enter (RCells u rm w.heap.size k) (by kernel_rfl) 9 rfl ?_
    refine WH.take 0 (some 22) rfl rfl (by kernel_rfl) (by kernel_rfl) (by kernel_rfl) (fun _ _ _ h => h) (by rfl) (fun v hv => by obtain ⟨k0, k1, k2, k3, k4, k5⟩ := hv; go_simp; first | done | with_reducible rfl | (rw [if_neg (by omega)])) HS0.out ?_; simp only [Act.put, List.setIfInBounds_toArray, List.set_cons_zero, List.set_cons_succ]
    refine WH.take 1 (some 23) rfl rfl (by kernel_rfl) (by kernel_rfl) (by kernel_rfl) (fun _ _ _ h => h) (by rfl) (fun v hv => by obtain ⟨k0, k1, k2, k3, k4, k5⟩ := hv; go_simp; first | done | with_reducible rfl | (rw [if_neg (by omega)])) HS0.out ?_; simp only [Act.put, List.setIfInBounds_toArray, List.set_cons_zero, List.set_cons_succ]
    refine WH.take 2 (some 24) rfl rfl (by kernel_rfl) (by kernel_rfl) (by kernel_rfl) (fun _ _ _ h => h) (by rfl) (fun v hv => by obtain ⟨k0, k1, k2, k3, k4, k5⟩ := hv; go_simp; first | done | with_reducible rfl | (rw [if_neg (by omega)])) HS0.out ?_; simp only [Act.put, List.setIfInBounds_toArray, List.set_cons_zero, List.set_cons_succ]
    refine WH.take 3 (some 25) rfl rfl (by kernel_rfl) (by kernel_rfl) (by kernel_rfl) (fun _ _ _ h => h) (by rfl) (fun v hv => by obtain ⟨k0, k1, k2, k3, k4, k5⟩ := hv; go_simp; first | done | with_reducible rfl | (rw [if_neg (by omega)])) HS0.out ?_; simp only [Act.put, List.setIfInBounds_toArray, List.set_cons_zero, List.set_cons_succ]
    refine WH.take 4 (some 26) rfl rfl (by kernel_rfl) (by kernel_rfl) (by kernel_rfl) (fun _ _ _ h => h) (by rfl) (fun v hv => by obtain ⟨k0, k1, k2, k3, k4, k5⟩ := hv; go_simp; first | done | with_reducible rfl | (rw [if_neg (by omega)])) HS0.out ?_; simp only [Act.put, List.setIfInBounds_toArray, List.set_cons_zero, List.set_cons_succ]
    refine WH.take 5 (some 27) rfl rfl (by kernel_rfl) (by kernel_rfl) (by kernel_rfl) (fun _ _ _ h => h) (by rfl) (fun v hv => by obtain ⟨k0, k1, k2, k3, k4, k5⟩ := hv; go_simp; first | done | with_reducible rfl | (rw [if_neg (by omega)])) HS0.out ?_; simp only [Act.put, List.setIfInBounds_toArray, List.set_cons_zero, List.set_cons_succ]
    refine WH.take 6 (some 28) rfl rfl (by kernel_rfl) (by kernel_rfl) (by kernel_rfl) (fun _ _ _ h => h) (by rfl) (fun v hv => by obtain ⟨k0, k1, k2, k3, k4, k5⟩ := hv; go_simp; first | done | with_reducible rfl | (rw [if_neg (by omega)])) HS0.out ?_; simp only [Act.put, List.setIfInBounds_toArray, List.set_cons_zero, List.set_cons_succ]
    refine WH.one 7 (by kernel_rfl) rfl (by rfl) ?_
    go_wp2_with fail
    refine (HOF.out _ HT3.out).mono ?_
    rintro e w4 ⟨rfl, h4⟩
    have HT4 := Lib.hid (HT3.out.below h4)
    have HS4 := Lib.hid (HS0.out.below h4)
    have HB4 := Lib.hid (HBD.out.trans (Below.mono h4 HBD.out.size))
    clear h4
    go_wp2_with fail
    refine ⟨HS4.out, ?_⟩
    refine WH.one 8 (by kernel_rfl) rfl (by rfl) ?_
    go_wp2_with fail
    refine (HMM.out _ HT4.out).mono ?_
    rintro e w5 ⟨rfl, F5, h5, t5, x5⟩
    have HT5 := Lib.hid h5
    have HU5 : Hid (Turn F w w5) := Lib.hid (((Turn.of_below (F := F) HB2.out).trans (Turn.of_below (F := F) HB4.out) (fun i hi => .inl hi)).trans t5 (fun i hi => .inl hi))
    have HX5 : Hid (Ext w F F5) := Lib.hid (fun i hi => (x5 i hi).imp id (fun hle => Nat.le_trans HB2.out.size (Nat.le_trans HB4.out.size hle)))
    obtain ⟨Fm5, fv5, hw5, hF5⟩ := id h5
    have HS5 : Hid (RCells u rm w.heap.size k w5) := Lib.hid ⟨hw5.cells.1, t5.cell HS4.out.2.1 HNF.out, t5.cell HS4.out.2.2.1 HNF.out, t5.cell HS4.out.2.2.2.1 HNF.out, t5.cell HS4.out.2.2.2.2.1 HNF.out, t5.cell HS4.out.2.2.2.2.2 HNF.out⟩
    clear hw5 hF5 h5 t5 x5
    go_wp2_with fail
    refine ⟨HS5.out, ?_⟩
    refine WH.done (by kernel_rfl) ?_
    obtain ⟨-, d0, d1, d2, d3, d4⟩ := HS5.out
    have ok5 : (⟨t.m.touch th 5 (sf : Nat), t.n, t.fl⟩ : Tb).Ok := ⟨HOK.out.pow, HOK.out.rise, HOK.out.kin, HOK.out.few, M.touch_small HOK.out.sm _ _ _ (by have := HRM.out; omega)⟩
    have HPL := Lib.hid (rplace_any HT5.out ok5 HK.out)
    clear ok5
    go_wp2_with fail
    refine HPL.out.mono ?_
    rintro e w6 ⟨n, rfl, hst, h6⟩
    have HST := Lib.hid hst
    have HT6 := Lib.hid (HT5.out.below h6)
    have HU6 : Hid (Turn F w w6) := Lib.hid (HU5.out.trans (Turn.of_below (F := fun _ => False) h6) (fun _ h => h.elim))
    have f0 := Since.cell h6 d0
    have f1 := Since.cell h6 d1
    have f2 := Since.cell h6 d2
    have f3 := Since.cell h6 d3
    have f4 := Since.cell h6 d4
    have HZ6 : Hid (w.heap.size ≤ w6.heap.size) := Lib.hid HU6.out.size
    clear hst h6 d0 d1 d2 d3 d4 HPL HMM HMY HOF
    have HR0 : Hid (res = .tuple #[.int .i64 (entT t.fl k).1, .bool (entT t.fl k).2, .bool (hasL t.fl k), .int .i64 0]) := Lib.hid (by rw [HV.out]; simp)
    have HD : Hid (t' = ⟨t.m.touch th 5 (sf : Nat), t.n, t.fl⟩) := Lib.hid (HD0.out.trans (if_pos trivial))
    clear HV HD0
    rcases stands_has HRI.out HST.out with ⟨x, hx1, hx2, hx3⟩ | ⟨hn1, hn2, hn3, hn4⟩
    · have HR : Hid (res = .tuple #[.int .i64 x.1, .bool x.2, .bool true, .int .i64 0]) := Lib.hid (by rw [HR0.out, hx2]; unfold entT; rw [hx3]; rfl)
      rw [hx2]
      obtain ⟨Fm6, fv6, hw6, hF6⟩ := id HT6.out
      obtain ⟨-, -, c2, -⟩ := hw6.cells
      obtain ⟨a6, cc6, rfl, hfl⟩ := hw6.flows
      obtain ⟨g, rfl, hc⟩ := hfl n (k, x) hx1
      have b5 : w6.cell? ⟨g, n * 7 + 5, none⟩ = some (.int .i64 x.1) := hc 5 _ rfl
      have b6 : w6.cell? ⟨g, n * 7 + 6, none⟩ = some (.bool x.2) := hc 6 _ rfl
      have HYL : Hid (n < t.fl.length) := Lib.hid (List.getElem?_eq_some_iff.1 hx1).1
      clear hw6 hF6 hfl hc hx1 hx2 hx3 HR0 f0 f1 f2 f3 f4
      simp only at c2
      go_wp2_with fail
      refine WQ.enter w6 (Since.refl _) (by kernel_rfl) (by kernel_rfl) ?_
      refine WQ.val (by rfl) (fun v hv => by have k0 := hv.cell c2; have k1 := hv.cell b5; have k2 := hv.cell b6; go_simp; first | done | with_reducible rfl | (rw [if_neg (by omega)])) ?_; simp only [Act.put, List.setIfInBounds_toArray, List.set_cons_zero, List.set_cons_succ]
      refine WQ.val (by rfl) (fun v hv => by have k0 := hv.cell c2; have k1 := hv.cell b5; have k2 := hv.cell b6; go_simp; first | done | with_reducible rfl | (rw [if_neg (by omega)])) ?_; simp only [Act.put, List.setIfInBounds_toArray, List.set_cons_zero, List.set_cons_succ]
      refine WQ.val (by rfl) (fun v hv => by have k0 := hv.cell c2; have k1 := hv.cell b5; have k2 := hv.cell b6; go_simp; first | done | with_reducible rfl | (rw [if_neg (by omega)])) ?_; simp only [Act.put, List.setIfInBounds_toArray, List.set_cons_zero, List.set_cons_succ]
      refine WQ.val (by rfl) (fun v hv => by have k0 := hv.cell c2; have k1 := hv.cell b5; have k2 := hv.cell b6; go_simp; first | done | with_reducible rfl | (rw [if_neg (by omega)])) ?_; simp only [Act.put, List.setIfInBounds_toArray, List.set_cons_zero, List.set_cons_succ]
      refine WQ.val (by rfl) (fun v hv => by have k0 := hv.cell c2; have k1 := hv.cell b5; have k2 := hv.cell b6; go_simp; first | done | with_reducible rfl | (rw [if_neg (by omega)])) ?_; simp only [Act.put, List.setIfInBounds_toArray, List.set_cons_zero, List.set_cons_succ]
      refine WQ.val (by rfl) (fun v hv => exec_flowAt (.tmp 42) (.tmp 43) rfl rfl rfl HYL.out) ?_; simp only [Act.put, List.setIfInBounds_toArray, List.set_cons_zero, List.set_cons_succ]
      refine WQ.val (by rfl) (fun v hv => by have k0 := hv.cell c2; have k1 := hv.cell b5; have k2 := hv.cell b6; go_simp; first | done | with_reducible rfl | (rw [if_neg (by omega)])) ?_; simp only [Act.put, List.setIfInBounds_toArray, List.set_cons_zero, List.set_cons_succ]
      refine WQ.val (by rfl) (fun v hv => by have k0 := hv.cell c2; have k1 := hv.cell b5; have k2 := hv.cell b6; go_simp; first | done | with_reducible rfl | (rw [if_neg (by omega)])) ?_; simp only [Act.put, List.setIfInBounds_toArray, List.set_cons_zero, List.set_cons_succ]
      refine WQ.val (by rfl) (fun v hv => by have k0 := hv.cell c2; have k1 := hv.cell b5; have k2 := hv.cell b6; go_simp; first | done | with_reducible rfl | (rw [if_neg (by omega)])) ?_; simp only [Act.put, List.setIfInBounds_toArray, List.set_cons_zero, List.set_cons_succ]
      refine WQ.val (by rfl) (fun v hv => by have k0 := hv.cell c2; have k1 := hv.cell b5; have k2 := hv.cell b6; go_simp; first | done | with_reducible rfl | (rw [if_neg (by omega)])) ?_; simp only [Act.put, List.setIfInBounds_toArray, List.set_cons_zero, List.set_cons_succ]
      refine WQ.val (by rfl) (fun v hv => by have k0 := hv.cell c2; have k1 := hv.cell b5; have k2 := hv.cell b6; go_simp; first | done | with_reducible rfl | (rw [if_neg (by omega)])) ?_; simp only [Act.put, List.setIfInBounds_toArray, List.set_cons_zero, List.set_cons_succ]
      refine WQ.val (by rfl) (fun v hv => by have k0 := hv.cell c2; have k1 := hv.cell b5; have k2 := hv.cell b6; go_simp; first | done | with_reducible rfl | (rw [if_neg (by omega)])) ?_; simp only [Act.put, List.setIfInBounds_toArray, List.set_cons_zero, List.set_cons_succ]
      refine WQ.val (by rfl) (fun v hv => by have k0 := hv.cell c2; have k1 := hv.cell b5; have k2 := hv.cell b6; go_simp; first | done | with_reducible rfl | (rw [if_neg (by omega)])) ?_; simp only [Act.put, List.setIfInBounds_toArray, List.set_cons_zero, List.set_cons_succ]
      refine WQ.val (by rfl) (fun v hv => exec_flowAt (.tmp 50) (.tmp 51) rfl rfl rfl HYL.out) ?_; simp only [Act.put, List.setIfInBounds_toArray, List.set_cons_zero, List.set_cons_succ]
      refine WQ.val (by rfl) (fun v hv => by have k0 := hv.cell c2; have k1 := hv.cell b5; have k2 := hv.cell b6; go_simp; first | done | with_reducible rfl | (rw [if_neg (by omega)])) ?_; simp only [Act.put, List.setIfInBounds_toArray, List.set_cons_zero, List.set_cons_succ]
      refine WQ.val (by rfl) (fun v hv => by have k0 := hv.cell c2; have k1 := hv.cell b5; have k2 := hv.cell b6; go_simp; first | done | with_reducible rfl | (rw [if_neg (by omega)])) ?_; simp only [Act.put, List.setIfInBounds_toArray, List.set_cons_zero, List.set_cons_succ]
      refine WQ.val (by rfl) (fun v hv => by have k0 := hv.cell c2; have k1 := hv.cell b5; have k2 := hv.cell b6; go_simp; first | done | with_reducible rfl | (rw [if_neg (by omega)])) ?_; simp only [Act.put, List.setIfInBounds_toArray, List.set_cons_zero, List.set_cons_succ]
      refine WQ.val (by rfl) (fun v hv => by have k0 := hv.cell c2; have k1 := hv.cell b5; have k2 := hv.cell b6; go_simp; first | done | with_reducible rfl | (rw [if_neg (by omega)])) ?_; simp only [Act.put, List.setIfInBounds_toArray, List.set_cons_zero, List.set_cons_succ]
      refine WQ.val (by rfl) (fun v hv => by have k0 := hv.cell c2; have k1 := hv.cell b5; have k2 := hv.cell b6; go_simp; first | done | with_reducible rfl | (rw [if_neg (by omega)])) ?_; simp only [Act.put, List.setIfInBounds_toArray, List.set_cons_zero, List.set_cons_succ]
      refine WQ.val (by rfl) (fun v hv => by have k0 := hv.cell c2; have k1 := hv.cell b5; have k2 := hv.cell b6; go_simp; first | done | with_reducible rfl | (rw [if_neg (by omega)])) ?_; simp only [Act.put, List.setIfInBounds_toArray, List.set_cons_zero, List.set_cons_succ]
      refine WQ.done ?_
      intro w7 hw7
      have HB7 : Hid (Below w6.heap.size w6 w7) := Lib.hid hw7
      clear c2 b5 b6 hw7
      go_wp2_with fail
      exact bodyPost_ret (v := .tuple #[.int .i64 x.1, .bool x.2, .bool true, .int .i64 0]) (by simp [results, Try.results25, go_sem]) rfl ⟨by (rw [HR.out]) <;> rfl, by (rw [HD.out]); exact ⟨_, HT6.out.below HB7.out, HU6.out.trans (Turn.of_below (F := fun _ => False) HB7.out) (fun _ h => h.elim), HX5.out⟩⟩
    · have HR : Hid (res = .tuple #[.int .i64 0, .bool false, .bool false, .int .i64 0]) := Lib.hid (by rw [HR0.out, hn2]; unfold entT; rw [hn3]; rfl)
      rw [hn2]
      clear hn1 hn2 hn3 hn4 HR0 f0 f1 f2 f3 f4
      go_wp2_with fail
      exact bodyPost_ret (v := .tuple #[.int .i64 0, .bool false, .bool false, .int .i64 0]) (by simp [results, Try.results25, go_sem]) rfl ⟨by (rw [HR.out]) <;> rfl, by (rw [HD.out]); exact ⟨_, HT6.out, HU6.out, HX5.out⟩⟩
  · have q0 : (my != 0) = true := by simp [hz]
    have HR : Hid (res = .tuple #[.int .i64 0, .bool false, .bool false, .int .i64 my]) := Lib.hid (by rw [HV.out, if_neg hz])
    have HD : Hid (t' = t) := Lib.hid (by rw [HD0.out, if_neg hz])
    clear HV HD0
    clear HMM e0 e1 e2 e3 e4
    go_wp2_with fail
    exact bodyPost_ret (v := .tuple #[.int .i64 0, .bool false, .bool false, .int .i64 my]) (by simp [results, Try.results25, go_sem]) rfl ⟨by (rw [HR.out]) <;> rfl, by (rw [HD.out]); exact ⟨F, HT2.out, Turn.of_below HB2.out, Ext.refl _ _⟩⟩
end Go.Proofs.Ytahgapkecabnjaa
/- The reference's Remove. Printed by gen_tabm.py. -/
namespace Go.Proofs.Ytahgapkecabnjaa
set_option linter.unusedSimpArgs false
set_option linter.unusedVariables false
open Go Go.RowKit Go.Maps Go.Shelf Go.Sort

theorem flowTInfo : (Try.prog.info? 97).map (fun i => (i.zero, i.size, i.bytes)) = some (some (.agg #[.int .u32 0, .int .u32 0, .int .u16 0, .int .u16 0, .int .u8 0, .int .i64 0, .bool false]), 7, 32) := by kernel_rfl
theorem toper_append {P : Program} {o : Oper} {a : Act} {w : World} {K : Act → World → Prop} {Q : Exit → Act → World → Prop} (s x : Operand) (t : TypeId)
    (ho : o.op = .call { callee := .builtin .append, args := #[s, x], argTypes := #[t, t] })
    (base : Nat) (e : TypeId) (i : TypeInfo) (z : Value) (size bytes : Nat) (ht : P.underlying t = some (.slice e)) (hi : P.info? e = some i) (hz : i.zero = some z)
    (hsize : i.size = size) (hby : i.bytes = bytes) (hzs : z.cells.size = size) (hsz : 0 < size)
    (v : Value) (n : Nat) (xs : List Value) (hs : a.eval s = v) (hown : w.ownsRow base e size v n xs)
    (ad : Addr) (m c : Nat) (news : List Value) (hx : a.eval x = .slice (some ad) m c) (hl : news.length = m * size) (hnews : ∀ j u, news[j]? = some u → w.cell? (ad.add j) = some u) (h1 : ∀ u ∈ news, u.oneCell' = true)
    (h63 : n + m ≤ maxLen) (hbytes : (n + m) * bytes ≤ 140737488355328) (hbase : base ≤ w.heap.size)
    (h : ∀ v' w', w'.ownsRow base e size v' (n + m) (xs ++ news) → w.grownBy w' v.ownBlock → (v' = .slice none 0 0 ↔ v = .slice none 0 0 ∧ m = 0) → (v'.ownBlock = v.ownBlock ∨ v'.ownBlock = some w.heap.size) → K (a.put o.dst v') w') :
    o.wp P a w K Q := by
  obtain ⟨v', w', hr, h2, h3, h4, h5⟩ := run_append_own_at (P := P) w base t o.type e i z size bytes ht hi hz hsize hby hzs hsz v n xs hown ad m c news hl hnews h1 h63 hbytes hbase
  unfold Oper.wp execOp
  simp only [ho, resolve, invoke, builtin, Sem.run_bind, Sem.run_pure, Result.andThen_ok, List.map_toArray, List.map_cons, List.map_nil, hs, hx, hr]
  exact h v' w' h2 h3 h4 h5
theorem tadd_plain (g o j : Nat) : (⟨g, o, none⟩ : Addr).add j = ⟨g, o + j, none⟩ := by
  unfold Addr.add
  split <;> simp_all
theorem drop_flowsT (l : Kl (Int × Bool)) (n j : Nat) (hn : n ≤ l.length) : (flowsT (l.drop n))[j]? = (flowsT l)[n * 7 + j]? := by
  have e : flowsT l = flowsT (l.take n) ++ flowsT (l.drop n) := by rw [← flowsT_append, List.take_append_drop]
  have hl : (flowsT (l.take n)).length = n * 7 := by rw [flowsT_len, List.length_take]; congr 1; omega
  rw [e, List.getElem?_append_right (by rw [hl]; omega), hl, Nat.add_sub_cancel_left]
theorem take_flowsT (l : Kl (Int × Bool)) (n j : Nat) {u : Value} (h : (flowsT (l.take n))[j]? = some u) : (flowsT l)[j]? = some u := by
  have e : flowsT l = flowsT (l.take n) ++ flowsT (l.drop n) := by rw [← flowsT_append, List.take_append_drop]
  rw [e, List.getElem?_append_left (List.getElem?_eq_some_iff.1 h).1]
  exact h
theorem flowsT_read {w : World} {u rm : Nat} {Fm : Nat → Prop} {t : Tb} {fv : Value} (h : RTabW w u rm Fm t fv) {g n c : Nat} (e : fv = .slice (some ⟨g, 0, none⟩) n c) {j : Nat} {x : Value} (hj : (flowsT t.fl)[j]? = some x) : w.cell? ⟨g, j, none⟩ = some x := by
  obtain ⟨a, c', hv, hx⟩ := row_form h.row
  rw [e] at hv
  cases hv
  obtain ⟨g', e', c1, _⟩ := hx j x hj
  cases e'
  exact c1
theorem RTabW.fcap {w : World} {u rm : Nat} {Fm : Nat → Prop} {t : Tb} {fv : Value} (h : RTabW w u rm Fm t fv) {a : Option Addr} {n c : Nat} (e : fv = .slice a n c) : n = t.fl.length ∧ n ≤ c ∧ c ≤ maxLen ∧ (a = none → n = 0 ∧ c = 0) ∧ ∀ ad, a = some ad → ∃ g, ad = ⟨g, 0, none⟩ := by
  rcases h.row.2 with ⟨e1, e2⟩ | ⟨g, cap, cur, e1, h2, h3, h4, h5, h6⟩
  · rw [e] at e1
    cases e1
    exact ⟨e2.symm, Nat.zero_le _, Nat.zero_le _, (fun _ => ⟨rfl, rfl⟩), (fun ad h => nomatch h)⟩
  · rw [e] at e1
    cases e1
    exact ⟨rfl, h4, h5, (fun h => nomatch h), fun ad h => ⟨g, by cases h; rfl⟩⟩
/-- The flows are others, in a block of their own. -/
theorem RTabW.reflow {w w' : World} {u rm : Nat} {Fm : Nat → Prop} {t t2 : Tb} {fv : Value} (h : RTabW w u rm Fm t fv) (hb : Below w.heap.size w w') {v2 : Value} {fl : Kl (Int × Bool)} (hrow : w'.ownsRow w.heap.size 97 7 v2 fl.length (flowsT fl)) (h2 : t2 = ⟨t.m, t.n, fl⟩) :
    RTab (w'.setCell ⟨u, 2, none⟩ v2) u rm (rtabFoot u Fm v2) t2 ∧ (∀ i, rtabFoot u Fm v2 i → rtabFoot u Fm fv i ∨ w.heap.size ≤ i) := by
  subst h2
  have h' := h.below hb
  have hne : ∀ i, i ≠ u → (w'.setCell ⟨u, 2, none⟩ v2).heap[i]? = w'.heap[i]? := fun i hi => Below.heap_setCell _ _ _ i hi
  obtain ⟨a1, a2⟩ := h'.apart
  have hu := h.lt
  have hv2 : ∀ b, v2.ownBlock = some b → w.heap.size ≤ b := fun b e => own_base hrow e
  refine ⟨⟨Fm, v2, ⟨?_, ?_, row_of_block (own_row hrow) (fun b e => hne b (fun e2 => by have := hv2 b e; omega))⟩, rfl⟩, fun i hi => ?_⟩
  · rw [set_heap_row h'.box]; rfl
  · refine h'.mem.turn (G := fun i => i = u) ?_ (fun i hi e => (a1 i hi).1 e)
    exact ((Turn.refl _ w').setCell _ _ (.inl rfl))
  · rcases hi with h1 | h1 | h1
    · exact .inl (.inl h1)
    · exact .inl (.inr (.inl h1))
    · exact .inr (hv2 i h1)
set_option maxHeartbeats 8000000 in
set_option maxRecDepth 100000 in
theorem rtremove_any {w : World} {u rm : Nat} {F : Nat → Prop} {t : Tb} (h : RTab w u rm F t) (ok : t.Ok) (hrm : t.m.Lg.length + 1 < 1073741824) (hh : t.m.held) {k : Ky} (hk : k.In) (th : Int) :
    Calls Try.prog 22 #[.pointer (some ⟨u, 0, none⟩), .int .i64 th, kyV k] w (RTabPost w u rm F (.int .i64 (t.removeE th k)) (t.remove th k)) := by
  have HB1 : Hid (Below w.heap.size w (w.alloc (.cells (kyC k) 28))) := Lib.hid ((Below.refl _ w).alloc (Nat.le_refl _) _)
  have HNF : Hid (¬ F w.heap.size) := Lib.hid (fun hf => Nat.lt_irrefl _ (h.foot_lt _ hf))
  have d0 : (w.alloc (.cells (kyC k) 28)).cell? ⟨w.heap.size, 0, none⟩ = some (.int .u32 k.a0) := by simp [kyC]
  have d1 : (w.alloc (.cells (kyC k) 28)).cell? ⟨w.heap.size, 1, none⟩ = some (.int .u32 k.a1) := by simp [kyC]
  have d2 : (w.alloc (.cells (kyC k) 28)).cell? ⟨w.heap.size, 2, none⟩ = some (.int .u16 k.p0) := by simp [kyC]
  have d3 : (w.alloc (.cells (kyC k) 28)).cell? ⟨w.heap.size, 3, none⟩ = some (.int .u16 k.p1) := by simp [kyC]
  have d4 : (w.alloc (.cells (kyC k) 28)).cell? ⟨w.heap.size, 4, none⟩ = some (.int .u8 k.pr) := by simp [kyC]
  have HOF := Lib.hid (fun (W : World) (h : RTab W u rm F t) => rtof_any h ok hk)
  have HMY := Lib.hid (fun (W : World) (h : RTab W u rm F t) => rtmay_any h ok hh th (t.of k : Nat))
  have HMM := Lib.hid (fun (W : World) (h : RTab W u rm F t) => h.mem_post (fun Fm hm => rtouch_any rm Fm t.m th 6 (t.of k : Nat) _ hm ok.sm))
  have hol := ok.of_lt k
  have hle := ok.le
  have HTW := Lib.hid h
  have HOK := Lib.hid ok
  have HK := Lib.hid hk
  have HRI := Lib.hid ok.rise
  have HRM := Lib.hid hrm
  clear hrm
  have HV : Hid (t.removeE th k = if t.may th (t.of k : Nat) = 0 then (if hasL t.fl k = true then 0 else 15) else t.may th (t.of k : Nat)) := Lib.hid rfl
  have HD0 : Hid (t.remove th k = if t.may th (t.of k : Nat) = 0 then ⟨t.m.touch th 6 (t.of k : Nat), t.n, delL t.fl k⟩ else t) := Lib.hid rfl
  generalize t.removeE th k = res at *
  generalize t.remove th k = t' at *
  clear h ok hk hh
  generalize hof : t.of k = sf at *
  generalize hmy : t.may th (sf : Nat) = my at *
  clear hof
  go_enter Try.func22, Try.ntmps22
  go_wp2_with fail
  have HT1 := Lib.hid (HTW.out.below HB1.out)
  generalize w.alloc (.cells (kyC k) 28) = w1 at *
  refine (HOF.out _ HT1.out).mono ?_
  rintro e w2 ⟨rfl, h2⟩
  have HB2 := Lib.hid (below_then HB1.out h2)
  have HT2 := Lib.hid (HTW.out.below HB2.out)
  have e0 := Since.cell h2 d0
  have e1 := Since.cell h2 d1
  have e2 := Since.cell h2 d2
  have e3 := Since.cell h2 d3
  have e4 := Since.cell h2 d4
  clear d0 d1 d2 d3 d4 h2
  go_wp2_with fail
  refine (HMY.out _ HT2.out).mono ?_
  rintro e w2' ⟨rfl, hw2'⟩
  subst w2'
  by_cases hz : my = 0
  · subst hz
    have q0 : ((0 : Int) != 0) = false := by decide
    obtain ⟨Fm, fv, hw, hF⟩ := id HT2.out
    have HS : Hid (RCells u rm w.heap.size k w2) := Lib.hid ⟨hw.cells.1, e0, e1, e2, e3, e4⟩
    clear hw hF e0 e1 e2 e3 e4
    go_wp2_with fail
    have HBD : Hid (Below w2.heap.size w2 w2.drew) := Lib.hid (Below.drew (Below.refl w2.heap.size w2))
    have HS0 := Lib.hid (HS.out.below HBD.out)
    have HT3 := Lib.hid (HT2.out.below HBD.out)
    refine WH.enter (RCells u rm w.heap.size k) (by kernel_rfl) 9 rfl ?_
    refine WH.take 0 (some 19) rfl rfl (by kernel_rfl) (by kernel_rfl) (by kernel_rfl) (fun _ _ _ h => h) (by rfl) (fun v hv => by obtain ⟨k0, k1, k2, k3, k4, k5⟩ := hv; go_simp; first | done | with_reducible rfl | (rw [if_neg (by omega)])) HS0.out ?_; simp only [Act.put, List.setIfInBounds_toArray, List.set_cons_zero, List.set_cons_succ]
    refine WH.take 1 (some 20) rfl rfl (by kernel_rfl) (by kernel_rfl) (by kernel_rfl) (fun _ _ _ h => h) (by rfl) (fun v hv => by obtain ⟨k0, k1, k2, k3, k4, k5⟩ := hv; go_simp; first | done | with_reducible rfl | (rw [if_neg (by omega)])) HS0.out ?_; simp only [Act.put, List.setIfInBounds_toArray, List.set_cons_zero, List.set_cons_succ]
    refine WH.take 2 (some 21) rfl rfl (by kernel_rfl) (by kernel_rfl) (by kernel_rfl) (fun _ _ _ h => h) (by rfl) (fun v hv => by obtain ⟨k0, k1, k2, k3, k4, k5⟩ := hv; go_simp; first | done | with_reducible rfl | (rw [if_neg (by omega)])) HS0.out ?_; simp only [Act.put, List.setIfInBounds_toArray, List.set_cons_zero, List.set_cons_succ]
    refine WH.take 3 (some 22) rfl rfl (by kernel_rfl) (by kernel_rfl) (by kernel_rfl) (fun _ _ _ h => h) (by rfl) (fun v hv => by obtain ⟨k0, k1, k2, k3, k4, k5⟩ := hv; go_simp; first | done | with_reducible rfl | (rw [if_neg (by omega)])) HS0.out ?_; simp only [Act.put, List.setIfInBounds_toArray, List.set_cons_zero, List.set_cons_succ]
    refine WH.take 4 (some 23) rfl rfl (by kernel_rfl) (by kernel_rfl) (by kernel_rfl) (fun _ _ _ h => h) (by rfl) (fun v hv => by obtain ⟨k0, k1, k2, k3, k4, k5⟩ := hv; go_simp; first | done | with_reducible rfl | (rw [if_neg (by omega)])) HS0.out ?_; simp only [Act.put, List.setIfInBounds_toArray, List.set_cons_zero, List.set_cons_succ]
    refine WH.take 5 (some 24) rfl rfl (by kernel_rfl) (by kernel_rfl) (by kernel_rfl) (fun _ _ _ h => h) (by rfl) (fun v hv => by obtain ⟨k0, k1, k2, k3, k4, k5⟩ := hv; go_simp; first | done | with_reducible rfl | (rw [if_neg (by omega)])) HS0.out ?_; simp only [Act.put, List.setIfInBounds_toArray, List.set_cons_zero, List.set_cons_succ]
    refine WH.take 6 (some 25) rfl rfl (by kernel_rfl) (by kernel_rfl) (by kernel_rfl) (fun _ _ _ h => h) (by rfl) (fun v hv => by obtain ⟨k0, k1, k2, k3, k4, k5⟩ := hv; go_simp; first | done | with_reducible rfl | (rw [if_neg (by omega)])) HS0.out ?_; simp only [Act.put, List.setIfInBounds_toArray, List.set_cons_zero, List.set_cons_succ]
    refine WH.one 7 (by kernel_rfl) rfl (by rfl) ?_
    go_wp2_with fail
    refine (HOF.out _ HT3.out).mono ?_
    rintro e w4 ⟨rfl, h4⟩
    have HT4 := Lib.hid (HT3.out.below h4)
    have HS4 := Lib.hid (HS0.out.below h4)
    have HB4 := Lib.hid (HBD.out.trans (Below.mono h4 HBD.out.size))
    clear h4
    go_wp2_with fail
    refine ⟨HS4.out, ?_⟩
    refine WH.one 8 (by kernel_rfl) rfl (by rfl) ?_
    go_wp2_with fail
    refine (HMM.out _ HT4.out).mono ?_
    rintro e w5 ⟨rfl, F5, h5, t5, x5⟩
    have HT5 := Lib.hid h5
    have HU5 : Hid (Turn F w w5) := Lib.hid (((Turn.of_below (F := F) HB2.out).trans (Turn.of_below (F := F) HB4.out) (fun i hi => .inl hi)).trans t5 (fun i hi => .inl hi))
    have HX5 : Hid (Ext w F F5) := Lib.hid (fun i hi => (x5 i hi).imp id (fun hle => Nat.le_trans HB2.out.size (Nat.le_trans HB4.out.size hle)))
    obtain ⟨Fm5, fv5, hw5, hF5⟩ := id h5
    have HS5 : Hid (RCells u rm w.heap.size k w5) := Lib.hid ⟨hw5.cells.1, t5.cell HS4.out.2.1 HNF.out, t5.cell HS4.out.2.2.1 HNF.out, t5.cell HS4.out.2.2.2.1 HNF.out, t5.cell HS4.out.2.2.2.2.1 HNF.out, t5.cell HS4.out.2.2.2.2.2 HNF.out⟩
    clear hw5 hF5 h5 t5 x5
    go_wp2_with fail
    refine ⟨HS5.out, ?_⟩
    refine WH.done (by kernel_rfl) ?_
    obtain ⟨-, d0, d1, d2, d3, d4⟩ := HS5.out
    have ok5 : (⟨t.m.touch th 6 (sf : Nat), t.n, t.fl⟩ : Tb).Ok := ⟨HOK.out.pow, HOK.out.rise, HOK.out.kin, HOK.out.few, M.touch_small HOK.out.sm _ _ _ (by have := HRM.out; omega)⟩
    have HPL := Lib.hid (rplace_any HT5.out ok5 HK.out)
    clear ok5
    go_wp2_with fail
    refine HPL.out.mono ?_
    rintro e w6 ⟨n, rfl, hst, h6⟩
    have HST := Lib.hid hst
    have HT6 := Lib.hid (HT5.out.below h6)
    have HU6 : Hid (Turn F w w6) := Lib.hid (HU5.out.trans (Turn.of_below (F := fun _ => False) h6) (fun _ h => h.elim))
    have f0 := Since.cell h6 d0
    have f1 := Since.cell h6 d1
    have f2 := Since.cell h6 d2
    have f3 := Since.cell h6 d3
    have f4 := Since.cell h6 d4
    have HZ6 : Hid (w.heap.size ≤ w6.heap.size) := Lib.hid HU6.out.size
    clear hst h6 d0 d1 d2 d3 d4 HPL HMM HMY HOF
    have HR0 : Hid (res = if hasL t.fl k = true then 0 else 15) := Lib.hid (HV.out.trans (if_pos trivial))
    have HD : Hid (t' = ⟨t.m.touch th 6 (sf : Nat), t.n, delL t.fl k⟩) := Lib.hid (HD0.out.trans (if_pos trivial))
    clear HV HD0
    rcases stands_has HRI.out HST.out with ⟨x, hx1, hx2, hx3⟩ | ⟨hn1, hn2, hn3, hn4⟩
    · have HR : Hid (res = 0) := Lib.hid (by rw [HR0.out, hx2]; rfl)
      have HDE : Hid (delL t.fl k = t.fl.take n ++ t.fl.drop (n + 1)) := Lib.hid (delL_at HRI.out hx1)
      rw [hx2]
      obtain ⟨Fm6, fv6, hw6, hF6⟩ := id HT6.out
      have HF6 := Lib.hid hF6
      obtain ⟨-, -, c2, hfz⟩ := hw6.cells
      obtain ⟨a6, c, hfv, hfl⟩ := hw6.flows
      obtain ⟨g, rfl, hc⟩ := hfl n (k, x) hx1
      obtain ⟨-, hc1, hc2, -, -⟩ := hw6.fcap hfv
      have hn : n < t.fl.length := (List.getElem?_eq_some_iff.1 hx1).1
      have HTL : Hid ((t.fl.take n).length = n) := Lib.hid (by rw [List.length_take]; omega)
      have HDL : Hid ((t.fl.drop (n + 1)).length = t.fl.length - (n + 1)) := Lib.hid List.length_drop
      have hsm := HOK.out.few
      have HRW := Lib.hid hw6
      have d0 : w6.cell? ⟨u, 2, none⟩ = some fv6 := c2
      rw [hfv] at d0
      have HFV := Lib.hid hfv
      simp only at d0 hc1
      have hni : (0 : Int) ≤ n := by omega
      have hnl : (n : Int) < (t.fl.length : Int) := by omega
      have hnc : n ≤ c := by omega
      have hn1w : IntKind.i64.wrap ((n : Int) + 1) = (n : Int) + 1 := IntWalk.i64_in _ (by omega)
      unfold maxLen at hc2
      clear hw6 hF6 hfl hc hx1 hx2 hx3 HR0 f0 f1 f2 f3 f4 c2 hfv
      generalize hfl2 : t.fl.length = m at *
      have HM := Lib.hid hfl2
      clear hfl2
      go_wp2_with fail
      have HS0 : Hid (Since w6 w6.drew) := Lib.hid ((Below.refl _ w6).trans ⟨rfl, rfl, rfl, Nat.le_refl _, fun _ _ => rfl⟩)
      refine WG.enter (Since w6) 19 (by kernel_rfl) 20 rfl ?_
      refine WG.take 0 (some 36) rfl rfl (by kernel_rfl) (by kernel_rfl) (by kernel_rfl) (by kernel_rfl) (fun _ _ _ h => h) (by rfl) (fun v hv => by go_simp; first | done | with_reducible rfl | (rw [if_neg (by omega)])) HS0.out ?_; simp only [Act.put, List.setIfInBounds_toArray, List.set_cons_zero, List.set_cons_succ]
      refine WG.take 2 (some 38) rfl rfl (by kernel_rfl) (by kernel_rfl) (by kernel_rfl) (by kernel_rfl) (fun _ _ _ h => h) (by rfl) (fun v hv => by go_simp; first | done | with_reducible rfl | (rw [if_neg (by omega)])) HS0.out ?_; simp only [Act.put, List.setIfInBounds_toArray, List.set_cons_zero, List.set_cons_succ]
      refine WG.take 3 (some 39) rfl rfl (by kernel_rfl) (by kernel_rfl) (by kernel_rfl) (by kernel_rfl) (fun _ _ _ h => h) (by rfl) (fun v hv => by go_simp; first | done | with_reducible rfl | (rw [if_neg (by omega)])) HS0.out ?_; simp only [Act.put, List.setIfInBounds_toArray, List.set_cons_zero, List.set_cons_succ]
      refine WG.take 4 (some 40) rfl rfl (by kernel_rfl) (by kernel_rfl) (by kernel_rfl) (by kernel_rfl) (fun _ _ _ h => h) (by rfl) (fun v hv => by go_simp; first | done | with_reducible rfl | (rw [if_neg (by omega)])) HS0.out ?_; simp only [Act.put, List.setIfInBounds_toArray, List.set_cons_zero, List.set_cons_succ]
      refine WG.take 5 (some 41) rfl rfl (by kernel_rfl) (by kernel_rfl) (by kernel_rfl) (by kernel_rfl) (fun _ _ _ h => h) (by rfl) (fun v hv => by have k0 := Since.cell hv d0; go_simp; first | done | with_reducible rfl | (rw [if_neg (by omega)])) HS0.out ?_; simp only [Act.put, List.setIfInBounds_toArray, List.set_cons_zero, List.set_cons_succ]
      refine WG.take 6 (some 42) rfl rfl (by kernel_rfl) (by kernel_rfl) (by kernel_rfl) (by kernel_rfl) (fun _ _ _ h => h) (by rfl) (fun v hv => by go_simp; first | done | with_reducible rfl | (rw [if_neg (by omega)])) HS0.out ?_; simp only [Act.put, List.setIfInBounds_toArray, List.set_cons_zero, List.set_cons_succ]
      refine WG.take 7 (some 43) rfl rfl (by kernel_rfl) (by kernel_rfl) (by kernel_rfl) (by kernel_rfl) (fun _ _ _ h => h) (by rfl) (fun v hv => by go_simp; first | done | with_reducible rfl | (rw [if_neg (by omega)])) HS0.out ?_; simp only [Act.put, List.setIfInBounds_toArray, List.set_cons_zero, List.set_cons_succ]
      refine WG.take 9 (some 45) rfl rfl (by kernel_rfl) (by kernel_rfl) (by kernel_rfl) (by kernel_rfl) (fun _ _ _ h => h) (by rfl) (fun v hv => by go_simp; first | done | with_reducible rfl | (rw [if_neg (by omega)])) HS0.out ?_; simp only [Act.put, List.setIfInBounds_toArray, List.set_cons_zero, List.set_cons_succ]
      refine WG.take 10 (some 46) rfl rfl (by kernel_rfl) (by kernel_rfl) (by kernel_rfl) (by kernel_rfl) (fun _ _ _ h => h) (by rfl) (fun v hv => by go_simp; first | done | with_reducible rfl | (rw [if_neg (by omega)])) HS0.out ?_; simp only [Act.put, List.setIfInBounds_toArray, List.set_cons_zero, List.set_cons_succ]
      refine WG.take 11 (some 47) rfl rfl (by kernel_rfl) (by kernel_rfl) (by kernel_rfl) (by kernel_rfl) (fun _ _ _ h => h) (by rfl) (fun v hv => by go_simp; first | done | with_reducible rfl | (rw [if_neg (by omega)])) HS0.out ?_; simp only [Act.put, List.setIfInBounds_toArray, List.set_cons_zero, List.set_cons_succ]
      refine WG.take 12 (some 48) rfl rfl (by kernel_rfl) (by kernel_rfl) (by kernel_rfl) (by kernel_rfl) (fun _ _ _ h => h) (by rfl) (fun v hv => by have k0 := Since.cell hv d0; go_simp; first | done | with_reducible rfl | (rw [if_neg (by omega)])) HS0.out ?_; simp only [Act.put, List.setIfInBounds_toArray, List.set_cons_zero, List.set_cons_succ]
      refine WG.take 13 (some 49) rfl rfl (by kernel_rfl) (by kernel_rfl) (by kernel_rfl) (by kernel_rfl) (fun _ _ _ h => h) (by rfl) (fun v hv => by go_simp; first | done | with_reducible rfl | (rw [if_neg (by omega)])) HS0.out ?_; simp only [Act.put, List.setIfInBounds_toArray, List.set_cons_zero, List.set_cons_succ]
      refine WG.take 14 (some 50) rfl rfl (by kernel_rfl) (by kernel_rfl) (by kernel_rfl) (by kernel_rfl) (fun _ _ _ h => h) (by rfl) (fun v hv => by go_simp; first | done | with_reducible rfl | (rw [if_neg (by omega)])) HS0.out ?_; simp only [Act.put, List.setIfInBounds_toArray, List.set_cons_zero, List.set_cons_succ]
      obtain ⟨sl, hsl, hslc⟩ : ∃ sl : Addr, (if c = n + 1 then some (⟨g, 0, none⟩ : Addr) else some ⟨g, (n + 1) * 7, none⟩) = some sl ∧ ∀ W, Since w6 W → ∀ j u, (flowsT (t.fl.drop (n + 1)))[j]? = some u → W.cell? (sl.add j) = some u := by
        by_cases hcn : c = n + 1
        · refine ⟨⟨g, 0, none⟩, if_pos hcn, fun W _ j u hj => ?_⟩
          have hl := (List.getElem?_eq_some_iff.1 hj).1
          rw [flowsT_len, HDL.out] at hl
          omega
        · refine ⟨⟨g, (n + 1) * 7, none⟩, if_neg hcn, fun W hW j u hj => ?_⟩
          rw [tadd_plain]
          rw [drop_flowsT _ _ _ (by have := HM.out; omega)] at hj
          exact Since.cell hW (flowsT_read HRW.out HFV.out hj)
      have HSL := Lib.hid hslc
      have HSE := Lib.hid hsl
      clear hslc hsl
      refine WG.take 15 (some 51) (v := .slice (if c = n + 1 then some (⟨g, 0, none⟩ : Addr) else some ⟨g, (n + 1) * 7, none⟩) (m - (n + 1)) (c - (n + 1))) rfl rfl (by kernel_rfl) (by kernel_rfl) (by kernel_rfl) (by kernel_rfl) (fun _ _ _ h => h) (by rfl) (fun v hv => by go_simp; first | done | (intro h; have := h (by omega); omega) | (rw [if_pos ⟨by omega, by omega⟩])) HS0.out ?_; simp only [Act.put, List.setIfInBounds_toArray, List.set_cons_zero, List.set_cons_succ]
      rw [HSE.out]
      have HS1 : Hid (Since w6 (w6.drew.alloc (.cells #[] 97))) := Lib.hid (Below.alloc HS0.out (Nat.le_refl _) _)
      refine WG.one 1 (by kernel_rfl) rfl (by rfl) ?_
      go_wp2_with fail
      refine ⟨HS1.out, ?_⟩
      obtain ⟨i0, hi, hz0, hz1, hz2⟩ := info_parts flowTInfo
      refine WG.one 8 (by kernel_rfl) rfl (by rfl) ?_
      refine toper_append _ _ 90 rfl w6.heap.size 97 i0 _ 7 32 Try.underlying90 hi hz0 hz1 hz2 rfl (by decide) (.slice (some ⟨w6.heap.size, 0, none⟩) 0 0) 0 [] rfl (World.ownsRow_made w6.drew #[] 0 (Nat.le_refl _) (Nat.zero_le _) rfl) ⟨g, 0, none⟩ n c (flowsT (t.fl.take n)) rfl (by rw [flowsT_len, HTL.out]) (fun j u hj => by rw [tadd_plain, Nat.zero_add]; exact Since.cell HS1.out (flowsT_read HRW.out HFV.out (take_flowsT _ _ _ hj))) (flowsT_one _) (by unfold maxLen; omega) (by omega) (Below.size HS1.out) ?_
      intro v1 w7 hown hgrow _ hloc
      rw [Nat.zero_add, List.nil_append] at hown
      have HS4 : Hid (Since w6 w7) := Lib.hid (Below.grown HS1.out hgrow (by have := Below.size HS1.out; exact this) (by intro b hb; simp [Value.ownBlock] at hb; omega))
      refine ⟨fun _ => HS4.out, ?_⟩
      simp only [Act.put, List.setIfInBounds_toArray, List.set_cons_zero, List.set_cons_succ]
      obtain ⟨va, vc, rfl, _⟩ := owns_cap hown
      clear hgrow hloc
      refine WG.one 16 (by kernel_rfl) rfl (by rfl) ?_
      refine toper_append _ _ 90 rfl w6.heap.size 97 i0 _ 7 32 Try.underlying90 hi hz0 hz1 hz2 rfl (by decide) _ n (flowsT (t.fl.take n)) rfl hown sl (m - (n + 1)) (c - (n + 1)) (flowsT (t.fl.drop (n + 1))) rfl (by rw [flowsT_len, HDL.out]) (HSL.out w7 HS4.out) (flowsT_one _) (by unfold maxLen; omega) (by omega) (Below.size HS4.out) ?_
      intro v2 w8 hown2 hgrow2 _ hloc2
      have hvb : ∀ b, (Value.slice va n vc).ownBlock = some b → w6.heap.size ≤ b := fun b hb => own_base hown hb
      have HS5 : Hid (Since w6 w8) := Lib.hid (Below.grown HS4.out hgrow2 (Below.size HS4.out) (fun b hb => hvb b hb))
      refine ⟨fun _ => HS5.out, ?_⟩
      simp only [Act.put, List.setIfInBounds_toArray, List.set_cons_zero, List.set_cons_succ]
      have hown2 : w8.ownsRow w6.heap.size 97 7 v2 (delL t.fl k).length (flowsT (delL t.fl k)) := by
        rw [HDE.out, List.length_append, HTL.out, HDL.out, flowsT_append]
        exact hown2
      obtain ⟨q, hq⟩ : ∃ q, (delL t.fl k).length = q := ⟨_, rfl⟩
      have hown3 := hown2
      rw [hq] at hown3
      obtain ⟨vb, vd, rfl, _⟩ := owns_cap hown3
      have HRF := Lib.hid (HRW.out.reflow HS5.out hown2 (t2 := ⟨t.m.touch th 6 (sf : Nat), t.n, delL t.fl k⟩) rfl)
      have hR5 := HRW.out.below HS5.out
      have k0 : w8.cell? ⟨u, 2, none⟩ = some fv6 := hR5.cells.2.2.1
      have k1 := hR5.cells.2.2.2 2
      have HT8 : Hid (Turn F w (w8.setCell ⟨u, 2, none⟩ (.slice vb q vd))) := Lib.hid ((HU6.out.trans (Turn.of_below (F := fun _ => False) HS5.out) (fun _ h => h.elim)).trans ((Turn.refl (fun i => i = u) w8).setCell _ _ (.inl rfl)) (fun i hi => by subst hi; exact HX5.out i (by rw [HF6.out]; exact .inr (.inl rfl))))
      have HX8 : Hid (Ext w F (rtabFoot u Fm6 (.slice vb q vd))) := Lib.hid (fun i hi => by
        rcases HRF.out.2 i hi with h | h
        · rw [← HF6.out] at h; exact HX5.out i h
        · exact .inr (Nat.le_trans HZ6.out h))
      clear hown hown2 hown3 hgrow2 hloc2 hvb hR5 hq
      refine WG.one 17 (by kernel_rfl) rfl (by rfl) ?_
      go_wp2_with fail
      refine ⟨HS5.out, ?_⟩
      refine WG.one 18 (by kernel_rfl) rfl (by rfl) ?_
      go_wp2_with fail
      refine ⟨HS5.out, ?_⟩
      refine WG.one 19 (by kernel_rfl) rfl (by rfl) ?_
      go_wp2_with fail
      refine WG.done (by kernel_rfl) ?_
      go_wp2_with fail
      go_ret
      exact ⟨by (rw [HR.out]) <;> rfl, by (rw [HD.out]); exact ⟨_, HRF.out.1, HT8.out, HX8.out⟩⟩
    · have HR : Hid (res = 15) := Lib.hid (by rw [HR0.out, hn2]; rfl)
      have HDN : Hid (delL t.fl k = t.fl) := Lib.hid (del_none hn3)
      rw [hn2]
      clear hn1 hn2 hn3 hn4 HR0 f0 f1 f2 f3 f4
      go_wp2_with fail
      go_ret
      exact ⟨by (rw [HR.out]) <;> rfl, by (rw [HD.out, HDN.out]); exact ⟨_, HT6.out, HU6.out, HX5.out⟩⟩
  · have q0 : (my != 0) = true := by simp [hz]
    have HR : Hid (res = my) := Lib.hid (HV.out.trans (if_neg hz))
    have HD : Hid (t' = t) := Lib.hid (by rw [HD0.out, if_neg hz])
    clear HV HD0
    clear HMM e0 e1 e2 e3 e4
    go_wp2_with fail
    go_ret
    exact ⟨by (rw [HR.out]) <;> rfl, by (rw [HD.out]); exact ⟨F, HT2.out, Turn.of_below HB2.out, Ext.refl _ _⟩⟩
end Go.Proofs.Ytahgapkecabnjaa
