/- Walks of the table's may, of, Find, Put, Remove. Printed by gen_tabb.py. -/
import Derived.Test.YtahgapkecabnjaaC05
namespace Go.Proofs.Ytahgapkecabnjaa
set_option linter.unusedSimpArgs false
set_option linter.unusedVariables false
open Go Go.RowKit Go.Shelf Go.Lib Go.Maps Go.MapKept
open Go.ChangeMaps (setBlock)

theorem oper_tdelete {P : Program} {o : Oper} {a : Act} {w w' : World} {K : Act → World → Prop} {Q : Exit → Act → World → Prop} (m x : Operand) (t k : TypeId) (hop : o.op = Op.call { callee := Callee.builtin Builtin.delete, args := #[m, x], argTypes := #[t, k] })
    {b : Nat} {key : Value} (hm : a.eval m = .map (some b)) (hx : a.eval x = key) (hrun : (Builtin.delete_ #[t, k] o.type #[.map (some b), key]).run P w = .ok (.tuple #[]) w') (h : K (a.put o.dst (.tuple #[])) w') : o.wp P a w K Q := by
  unfold Oper.wp
  simp [execOp, hop, resolve, invoke, builtin, hm, hx, hrun, Result.andThen]
  exact h
theorem oper_tupdate {P : Program} {o : Oper} {a : Act} {w w' : World} {K : Act → World → Prop} {Q : Exit → Act → World → Prop} (m x v : Operand) (t : TypeId) (hop : o.op = Op.mapUpdate t m x v)
    {b : Nat} {key val : Value} (hm : a.eval m = .map (some b)) (hx : a.eval x = key) (hv : a.eval v = val) (hrun : (Instr.mapUpdate t (.map (some b)) key val).run P w = .ok () w') (h : K a w') (hd : o.dst = none) : o.wp P a w K Q := by
  unfold Oper.wp
  simp [execOp, hop, hm, hx, hv, hrun, Result.andThen]
  simpa [Oper.upon, hd, Act.put] using h

set_option maxHeartbeats 1000000 in
theorem exec_stripe {o : Oper} {ev : Operand → Value} {w : World} (x y : Operand) (ho : o.op = .indexAddr 73 x y) {g n c j : Nat} (hx : ev x = .slice (some ⟨g, 0, none⟩) n c) (hy : ev y = .int .i64 (j : Nat)) (hj : j < n) : (execOp ev o).run Try.prog w = .ok (.value (.pointer (some ⟨g, j, none⟩))) w := by
  unfold execOp
  have hni : (0 : Int) ≤ (j : Int) := by omega
  have hnl : (j : Int) < (n : Int) := by omega
  simp only [ho, hx, hy]
  go_simp
/-- May a thread touch a stripe? -/
def Tb.may (t : Tb) (th s : Int) : Int := if s < 0 ∨ (t.n : Int) ≤ s then 1 else if th < 0 ∨ t.m.holder s ≠ th then 13 else 0
def Tb.of (t : Tb) (k : Ky) : Nat := stripeF k t.n
theorem Tb.Ok.of_lt {t : Tb} (h : t.Ok) (k : Ky) : t.of k < t.n := stripeF_lt k h.pos
set_option maxHeartbeats 4000000 in
set_option maxRecDepth 100000 in
theorem tmay_any {w : World} {g bm : Nat} {F : Nat → Prop} {t : Tb} (h : Tab w g bm F t) (ok : t.Ok) (th s : Int) :
    Calls Try.prog 33 #[.pointer (some ⟨g, 0, none⟩), .int .i64 th, .int .i64 s] w fun e w' => e = .returned (.int .i64 (t.may th s)) ∧ w' = w := by
  obtain ⟨Fm, v, bs, fs, hw, rfl⟩ := h
  obtain ⟨c0, c1, -⟩ := hw.cells
  obtain ⟨a, c, rfl, -⟩ := hw.stripes
  have HM := Lib.hid hw.mem
  have HS := Lib.hid ok.sm
  have hle := ok.le
  have HV : Hid (t.may th s = if s < 0 ∨ (t.n : Int) ≤ s then 1 else if th < 0 ∨ t.m.holder s ≠ th then 13 else 0) := Lib.hid rfl
  have HH := Lib.hid (fun W (hm : Mem W bm Fm t.m) => holder_any bm Fm t.m s W hm HS.out)
  clear hw ok
  generalize t.may th s = r at *
  generalize t.m.holder s = ho at *
  generalize t.n = n at *
  by_cases h1 : s < 0
  · have HR : Hid (r = 1) := Lib.hid (by rw [HV.out, if_pos (.inl h1)])
    clear HV
    go_enter Try.func33, Try.ntmps33
    go_wp2_with fail
    go_ret
    exact ⟨by (rw [HR.out]) <;> rfl, rfl⟩
  · by_cases h2 : (n : Int) ≤ s
    · have HR : Hid (r = 1) := Lib.hid (by rw [HV.out, if_pos (.inr h2)])
      clear HV
      go_enter Try.func33, Try.ntmps33
      go_wp2_with fail
      go_ret
      exact ⟨by (rw [HR.out]) <;> rfl, rfl⟩
    · have HV2 : Hid (r = if th < 0 ∨ ho ≠ th then 13 else 0) := Lib.hid (by rw [HV.out, if_neg (fun hh => hh.elim h1 h2)])
      clear HV
      by_cases h3 : th < 0
      · have HR : Hid (r = 13) := Lib.hid (by rw [HV2.out, if_pos (.inl h3)])
        clear HV2
        go_enter Try.func33, Try.ntmps33
        go_wp2_with fail
        go_ret
        exact ⟨by (rw [HR.out]) <;> rfl, rfl⟩
      · by_cases h4 : ho = th
        · have HR : Hid (r = 0) := Lib.hid (by rw [HV2.out, if_neg (fun hh => hh.elim h3 (fun hn => hn h4))])
          have q : (ho != th) = false := by simp [h4]
          clear HV2
          go_enter Try.func33, Try.ntmps33
          go_wp2_with fail
          refine (HH.out _ HM.out).mono ?_
          rintro e w' ⟨rfl, rfl⟩
          go_wp2_with fail
          go_ret
          exact ⟨by (rw [HR.out]) <;> rfl, rfl⟩
        · have HR : Hid (r = 13) := Lib.hid (by rw [HV2.out, if_pos (.inr h4)])
          have q : (ho != th) = true := by simp [h4]
          clear HV2
          go_enter Try.func33, Try.ntmps33
          go_wp2_with fail
          refine (HH.out _ HM.out).mono ?_
          rintro e w' ⟨rfl, rfl⟩
          go_wp2_with fail
          go_ret
          exact ⟨by (rw [HR.out]) <;> rfl, rfl⟩
set_option maxHeartbeats 4000000 in
set_option maxRecDepth 100000 in
theorem tof_any {w : World} {g bm : Nat} {F : Nat → Prop} {t : Tb} (h : Tab w g bm F t) (ok : t.Ok) {k : Ky} (hk : k.In) :
    Calls Try.prog 32 #[.pointer (some ⟨g, 0, none⟩), kyV k] w fun e w' => e = .returned (.int .i64 (t.of k : Nat)) ∧ Below w.heap.size w w' := by
  have HB1 : Hid (Below w.heap.size w (w.alloc (.cells (kyC k) 28))) := Lib.hid ((Below.refl _ w).alloc (Nat.le_refl _) _)
  have h1 := h.below HB1.out
  obtain ⟨Fm, v, bs, fs, hw, -⟩ := h1
  obtain ⟨c0, c1, -⟩ := hw.cells
  obtain ⟨a, c, rfl, -⟩ := hw.stripes
  have d0 : (w.alloc (.cells (kyC k) 28)).cell? ⟨w.heap.size, 0, none⟩ = some (.int .u32 k.a0) := by simp [kyC]
  have d1 : (w.alloc (.cells (kyC k) 28)).cell? ⟨w.heap.size, 1, none⟩ = some (.int .u32 k.a1) := by simp [kyC]
  have d2 : (w.alloc (.cells (kyC k) 28)).cell? ⟨w.heap.size, 2, none⟩ = some (.int .u16 k.p0) := by simp [kyC]
  have d3 : (w.alloc (.cells (kyC k) 28)).cell? ⟨w.heap.size, 3, none⟩ = some (.int .u16 k.p1) := by simp [kyC]
  have d4 : (w.alloc (.cells (kyC k) 28)).cell? ⟨w.heap.size, 4, none⟩ = some (.int .u8 k.pr) := by simp [kyC]
  have HS := Lib.hid (fun W => stripe_any hk ok.pow W)
  have HV : Hid (t.of k = stripeF k t.n) := Lib.hid rfl
  have hle := ok.le
  clear hw h
  generalize t.of k = r at *
  generalize t.n = n at *
  go_enter Try.func32, Try.ntmps32
  go_wp2_with fail
  generalize w.alloc (.cells (kyC k) 28) = w1 at *
  refine WQ.enter w1 (Since.refl _) (by kernel_rfl) (by kernel_rfl) ?_
  refine WQ.val (by rfl) (fun v hv => by have k0 := hv.cell c1; have k1 := hv.cell d0; have k2 := hv.cell d1; have k3 := hv.cell d2; have k4 := hv.cell d3; have k5 := hv.cell d4; go_simp; first | done | with_reducible rfl | (rw [if_neg (by omega)])) ?_; simp only [Act.put, List.setIfInBounds_toArray, List.set_cons_zero, List.set_cons_succ]
  refine WQ.val (by rfl) (fun v hv => by have k0 := hv.cell c1; have k1 := hv.cell d0; have k2 := hv.cell d1; have k3 := hv.cell d2; have k4 := hv.cell d3; have k5 := hv.cell d4; go_simp; first | done | with_reducible rfl | (rw [if_neg (by omega)])) ?_; simp only [Act.put, List.setIfInBounds_toArray, List.set_cons_zero, List.set_cons_succ]
  refine WQ.val (by rfl) (fun v hv => by have k0 := hv.cell c1; have k1 := hv.cell d0; have k2 := hv.cell d1; have k3 := hv.cell d2; have k4 := hv.cell d3; have k5 := hv.cell d4; go_simp; first | done | with_reducible rfl | (rw [if_neg (by omega)])) ?_; simp only [Act.put, List.setIfInBounds_toArray, List.set_cons_zero, List.set_cons_succ]
  refine WQ.val (by rfl) (fun v hv => by have k0 := hv.cell c1; have k1 := hv.cell d0; have k2 := hv.cell d1; have k3 := hv.cell d2; have k4 := hv.cell d3; have k5 := hv.cell d4; go_simp; first | done | with_reducible rfl | (rw [if_neg (by omega)])) ?_; simp only [Act.put, List.setIfInBounds_toArray, List.set_cons_zero, List.set_cons_succ]
  refine WQ.val (by rfl) (fun v hv => by have k0 := hv.cell c1; have k1 := hv.cell d0; have k2 := hv.cell d1; have k3 := hv.cell d2; have k4 := hv.cell d3; have k5 := hv.cell d4; go_simp; first | done | with_reducible rfl | (rw [if_neg (by omega)])) ?_; simp only [Act.put, List.setIfInBounds_toArray, List.set_cons_zero, List.set_cons_succ]
  refine WQ.val (by rfl) (fun v hv => by have k0 := hv.cell c1; have k1 := hv.cell d0; have k2 := hv.cell d1; have k3 := hv.cell d2; have k4 := hv.cell d3; have k5 := hv.cell d4; go_simp; first | done | with_reducible rfl | (rw [if_neg (by omega)])) ?_; simp only [Act.put, List.setIfInBounds_toArray, List.set_cons_zero, List.set_cons_succ]
  refine WQ.call (f := 50) (args := #[(.agg #[.int .u32 k.a0, .int .u32 k.a1, .int .u16 k.p0, .int .u16 k.p1, .int .u8 k.pr]), .int .i64 (n : Nat)]) (by rfl) (fun v hv => by go_simp) (fun v hv => (HS.out v).mono (fun e v' ⟨he, hb⟩ => ⟨he, hv.step hb⟩)) ?_; simp only [Act.put, List.setIfInBounds_toArray, List.set_cons_zero, List.set_cons_succ]
  refine WQ.val (by rfl) (fun v hv => by have k0 := hv.cell c1; have k1 := hv.cell d0; have k2 := hv.cell d1; have k3 := hv.cell d2; have k4 := hv.cell d3; have k5 := hv.cell d4; go_simp; first | done | with_reducible rfl | (rw [if_neg (by omega)])) ?_; simp only [Act.put, List.setIfInBounds_toArray, List.set_cons_zero, List.set_cons_succ]
  refine WQ.done ?_
  intro w2 hw2
  have HB2 := Lib.hid (below_then HB1.out hw2)
  clear c0 c1 d0 d1 d2 d3 d4 hw2
  go_wp2_with fail
  go_ret
  exact ⟨by (rw [HV.out]) <;> rfl, HB2.out⟩
def Tb.find (t : Tb) (th : Int) (k : Ky) : Tb := if t.may th (t.of k : Nat) = 0 then ⟨t.m.touch th 5 (t.of k : Nat), t.n, t.fl⟩ else t
def Tb.findR (t : Tb) (th : Int) (k : Ky) : Value := if t.may th (t.of k : Nat) = 0 then .tuple #[.int .i64 (entT t.fl k).1, .bool (entT t.fl k).2, .bool (hasL t.fl k), .int .i64 0] else .tuple #[.int .i64 0, .bool false, .bool false, .int .i64 (t.may th (t.of k : Nat))]
def Tb.put (t : Tb) (th : Int) (k : Ky) (x : Int) (tu : Bool) : Tb := if t.may th (t.of k : Nat) = 0 then ⟨t.m.touch th 6 (t.of k : Nat), t.n, putL t.fl k (x, tu)⟩ else t
def Tb.removeE (t : Tb) (th : Int) (k : Ky) : Int := if t.may th (t.of k : Nat) = 0 then (if hasL t.fl k = true then 0 else 15) else t.may th (t.of k : Nat)
def Tb.remove (t : Tb) (th : Int) (k : Ky) : Tb := if t.may th (t.of k : Nat) = 0 then ⟨t.m.touch th 6 (t.of k : Nat), t.n, delL t.fl k⟩ else t
theorem entT_in {t : Tb} {k : Ky} : entT (inS t.n (t.of k) t.fl) k = entT t.fl k ∧ hasL (inS t.n (t.of k) t.fl) k = hasL t.fl k := by
  unfold entT hasL
  rw [inS_get (n := t.n) (s := t.of k) rfl]
  exact ⟨rfl, rfl⟩
theorem M.touch_small {m : M} (h : m.small) (t k p : Int) (hr : m.Lg.length + 1 < 1073741824) : (m.touch t k p).small := by
  unfold M.touch
  split
  · exact ⟨h.1, h.2.1, by simp [M.note]; omega⟩
  · exact h
theorem kyF (k : Ky) : kyV k = (.agg #[.int .u32 k.a0, .int .u32 k.a1, .int .u16 k.p0, .int .u16 k.p1, .int .u8 k.pr]) := rfl
set_option maxHeartbeats 8000000 in
set_option maxRecDepth 100000 in
theorem tbfind_any {w : World} {g bm : Nat} {F : Nat → Prop} {t : Tb} (h : Tab w g bm F t) (ok : t.Ok) {k : Ky} (hk : k.In) (th : Int) :
    Calls Try.prog 11 #[.pointer (some ⟨g, 0, none⟩), .int .i64 th, kyV k] w (TabPost w g bm F (t.findR th k) (t.find th k)) := by
  have HB1 : Hid (Below w.heap.size w (w.alloc (.cells (kyC k) 28))) := Lib.hid ((Below.refl _ w).alloc (Nat.le_refl _) _)
  have HT1 := Lib.hid (h.below HB1.out)
  have HNF : Hid (¬ F w.heap.size) := Lib.hid (fun hf => Nat.lt_irrefl _ (h.foot_lt _ hf))
  have d0 : (w.alloc (.cells (kyC k) 28)).cell? ⟨w.heap.size, 0, none⟩ = some (.int .u32 k.a0) := by simp [kyC]
  have d1 : (w.alloc (.cells (kyC k) 28)).cell? ⟨w.heap.size, 1, none⟩ = some (.int .u32 k.a1) := by simp [kyC]
  have d2 : (w.alloc (.cells (kyC k) 28)).cell? ⟨w.heap.size, 2, none⟩ = some (.int .u16 k.p0) := by simp [kyC]
  have d3 : (w.alloc (.cells (kyC k) 28)).cell? ⟨w.heap.size, 3, none⟩ = some (.int .u16 k.p1) := by simp [kyC]
  have d4 : (w.alloc (.cells (kyC k) 28)).cell? ⟨w.heap.size, 4, none⟩ = some (.int .u8 k.pr) := by simp [kyC]
  have HOF := Lib.hid (fun (W : World) (h : Tab W g bm F t) => tof_any h ok hk)
  have HMY := Lib.hid (fun (W : World) (h : Tab W g bm F t) => tmay_any h ok th (t.of k : Nat))
  have HMM := Lib.hid (fun (W : World) (h : Tab W g bm F t) => h.mem_post (fun Fm hm => read_any bm Fm t.m th (t.of k : Nat) _ hm ok.sm))
  have HOL := Lib.hid (ok.of_lt k)
  have hle := ok.le
  have HTW := Lib.hid h
  have HOK := Lib.hid ok
  have HK := Lib.hid hk
  have HV : Hid (t.findR th k = if t.may th (t.of k : Nat) = 0 then .tuple #[.int .i64 (entT t.fl k).1, .bool (entT t.fl k).2, .bool (hasL t.fl k), .int .i64 0] else .tuple #[.int .i64 0, .bool false, .bool false, .int .i64 (t.may th (t.of k : Nat))]) := Lib.hid rfl
  have HD0 : Hid (t.find th k = if t.may th (t.of k : Nat) = 0 then ⟨t.m.touch th 5 (t.of k : Nat), t.n, t.fl⟩ else t) := Lib.hid rfl
  generalize t.findR th k = res at *
  generalize t.find th k = t' at *
  clear h ok hk
  generalize hof : t.of k = sf at *
  generalize hmy : t.may th (sf : Nat) = my at *
  have HSF := Lib.hid hof
  clear hof
  go_enter Try.func11, Try.ntmps11
  go_wp2_with fail
  generalize w.alloc (.cells (kyC k) 28) = w1 at *
  refine (HOF.out _ HT1.out).mono ?_
  rintro e w2 ⟨rfl, h2⟩
  have HB2 := Lib.hid (below_then HB1.out h2)
  have HT2 := Lib.hid (HTW.out.below HB2.out)
  have e0 := Since.cell h2 d0
  have e1 := Since.cell h2 d1
  have e2 := Since.cell h2 d2
  have e3 := Since.cell h2 d3
  have e4 := Since.cell h2 d4
  clear d0 d1 d2 d3 d4 h2
  go_wp2_with fail
  refine (HMY.out _ HT2.out).mono ?_
  rintro e w2' ⟨rfl, hw2'⟩
  subst hw2'
  obtain ⟨Fm, v, bs, fs, hw, hF⟩ := id HT2.out
  obtain ⟨b0, b1, -⟩ := hw.cells
  clear hw hF
  by_cases hz : my = 0
  · subst hz
    have q0 : ((0 : Int) != 0) = false := by decide
    go_wp2_with fail
    refine (HMM.out _ HT2.out).mono ?_
    rintro e w3 ⟨rfl, F3, h3, t3, x3⟩
    have d0 := t3.cell e0 HNF.out
    have d1 := t3.cell e1 HNF.out
    have d2 := t3.cell e2 HNF.out
    have d3 := t3.cell e3 HNF.out
    have d4 := t3.cell e4 HNF.out
    clear e0 e1 e2 e3 e4 b0 b1
    have HT3 := Lib.hid h3
    have HU3 : Hid (Turn F w w3) := Lib.hid ((Turn.of_below (F := F) HB2.out).trans t3 (fun i hi => .inl hi))
    have HX3 : Hid (Ext w F F3) := Lib.hid (fun i hi => (x3 i hi).imp id (fun hle => Nat.le_trans HB2.out.size hle))
    obtain ⟨Fm3, v3, bs3, fs3, hw3, rfl⟩ := h3
    obtain ⟨c0, c1, -⟩ := hw3.cells
    obtain ⟨a3, cc3, rfl, hst⟩ := hw3.stripes
    obtain ⟨b, gs, hb, rfl, c2⟩ := hst sf HOL.out
    have HW3 := Lib.hid hw3
    have HBB := Lib.hid hb
    clear hst hw3 hb t3 x3
    have hni : (0 : Int) ≤ (sf : Int) := Int.natCast_nonneg sf
    have hnl : (sf : Int) < (t.n : Int) := by have := HOL.out; omega
    have HL : Hid (∀ v, Since w3 v → (Instr.lookup 76 (.map (some b)) (.agg #[.int .u32 k.a0, .int .u32 k.a1, .int .u16 k.p0, .int .u16 k.p1, .int .u8 k.pr]) true).run Try.prog v = .ok (.tuple #[.agg #[.int .i64 (entT t.fl k).1, .bool (entT t.fl k).2], .bool (hasL t.fl k)]) v) := Lib.hid (fun v hv => by
      have hfl : FlowsAt v b evT (inS t.n sf t.fl) (fs3 sf) := (HW3.out.maps sf b HBB.out).of_block (Below.block hv b (HW3.out.maps sf b HBB.out).is.lt)
      have := tlook hfl HK.out
      have e := @entT_in t k
      rw [HSF.out] at e
      rw [e.1, e.2] at this
      exact this)
    have HR : Hid (res = .tuple #[.int .i64 (entT t.fl k).1, .bool (entT t.fl k).2, .bool (hasL t.fl k), .int .i64 0]) := Lib.hid (by rw [HV.out]; simp)
    have HD : Hid (t' = ⟨t.m.touch th 5 (sf : Nat), t.n, t.fl⟩) := Lib.hid (HD0.out.trans (if_pos trivial))
    clear HV HD0 HMM
    generalize (entT t.fl k).1 = ew at *
    generalize (entT t.fl k).2 = et at *
    generalize hasL t.fl k = hs at *
    go_wp2_with fail
    have HS0 : Hid (Since w3 w3.drew) := Lib.hid ((Below.refl _ w3).trans ⟨rfl, rfl, rfl, Nat.le_refl _, fun _ _ => rfl⟩)
    have HS1 : Hid (Since w3 (w3.drew.alloc (.cells #[.int .i64 0, .bool false] 81))) := Lib.hid (Below.alloc HS0.out (Nat.le_refl _) _)
    have HS2 : Hid (Since w3 (w3.drew.alloc (.cells #[.int .i64 ew, .bool et] 81))) := Lib.hid (Below.alloc HS0.out (Nat.le_refl _) _)
    refine WH.enter (Since w3) (by kernel_rfl) 15 rfl ?_
    refine WH.take 0 (some 31) rfl rfl (by kernel_rfl) (by kernel_rfl) (by kernel_rfl) (fun _ _ _ h => h) (by rfl) (fun v hv => by have k0 := hv.cell c0; have k1 := hv.cell c1; have k2 := hv.cell c2; have k3 := hv.cell d0; have k4 := hv.cell d1; have k5 := hv.cell d2; have k6 := hv.cell d3; have k7 := hv.cell d4; have kl := HL.out v hv; go_simp; first | done | with_reducible rfl | (rw [if_neg (by omega)])) HS0.out ?_; simp only [Act.put, List.setIfInBounds_toArray, List.set_cons_zero, List.set_cons_succ]
    refine WH.take 1 (some 32) rfl rfl (by kernel_rfl) (by kernel_rfl) (by kernel_rfl) (fun _ _ _ h => h) (by rfl) (fun v hv => by have k0 := hv.cell c0; have k1 := hv.cell c1; have k2 := hv.cell c2; have k3 := hv.cell d0; have k4 := hv.cell d1; have k5 := hv.cell d2; have k6 := hv.cell d3; have k7 := hv.cell d4; have kl := HL.out v hv; go_simp; first | done | with_reducible rfl | (rw [if_neg (by omega)])) HS0.out ?_; simp only [Act.put, List.setIfInBounds_toArray, List.set_cons_zero, List.set_cons_succ]
    refine WH.take 2 (some 33) rfl rfl (by kernel_rfl) (by kernel_rfl) (by kernel_rfl) (fun _ _ _ h => h) (by rfl) (fun v hv => by have k0 := hv.cell c0; have k1 := hv.cell c1; have k2 := hv.cell c2; have k3 := hv.cell d0; have k4 := hv.cell d1; have k5 := hv.cell d2; have k6 := hv.cell d3; have k7 := hv.cell d4; have kl := HL.out v hv; go_simp; first | done | with_reducible rfl | (rw [if_neg (by omega)])) HS0.out ?_; simp only [Act.put, List.setIfInBounds_toArray, List.set_cons_zero, List.set_cons_succ]
    refine WH.take 3 (some 34) rfl rfl (by kernel_rfl) (by kernel_rfl) (by kernel_rfl) (fun _ _ _ h => h) (by rfl) (fun v hv => by have k0 := hv.cell c0; have k1 := hv.cell c1; have k2 := hv.cell c2; have k3 := hv.cell d0; have k4 := hv.cell d1; have k5 := hv.cell d2; have k6 := hv.cell d3; have k7 := hv.cell d4; have kl := HL.out v hv; go_simp; first | done | with_reducible rfl | (rw [if_neg (by omega)])) HS0.out ?_; simp only [Act.put, List.setIfInBounds_toArray, List.set_cons_zero, List.set_cons_succ]
    refine WH.take 4 (some 35) rfl rfl (by kernel_rfl) (by kernel_rfl) (by kernel_rfl) (fun _ _ _ h => h) (by rfl) (fun v hv => by have k0 := hv.cell c0; have k1 := hv.cell c1; have k2 := hv.cell c2; have k3 := hv.cell d0; have k4 := hv.cell d1; have k5 := hv.cell d2; have k6 := hv.cell d3; have k7 := hv.cell d4; have kl := HL.out v hv; go_simp; first | done | with_reducible rfl | (rw [if_neg (by omega)])) HS0.out ?_; simp only [Act.put, List.setIfInBounds_toArray, List.set_cons_zero, List.set_cons_succ]
    refine WH.take 5 (some 36) rfl rfl (by kernel_rfl) (by kernel_rfl) (by kernel_rfl) (fun _ _ _ h => h) (by rfl) (fun v hv => exec_stripe (.tmp 34) (.tmp 35) rfl rfl rfl HOL.out) HS0.out ?_; simp only [Act.put, List.setIfInBounds_toArray, List.set_cons_zero, List.set_cons_succ]
    refine WH.take 6 (some 37) rfl rfl (by kernel_rfl) (by kernel_rfl) (by kernel_rfl) (fun _ _ _ h => h) (by rfl) (fun v hv => by have k0 := hv.cell c0; have k1 := hv.cell c1; have k2 := hv.cell c2; have k3 := hv.cell d0; have k4 := hv.cell d1; have k5 := hv.cell d2; have k6 := hv.cell d3; have k7 := hv.cell d4; have kl := HL.out v hv; go_simp; first | done | with_reducible rfl | (rw [if_neg (by omega)])) HS0.out ?_; simp only [Act.put, List.setIfInBounds_toArray, List.set_cons_zero, List.set_cons_succ]
    refine WH.take 7 (some 38) rfl rfl (by kernel_rfl) (by kernel_rfl) (by kernel_rfl) (fun _ _ _ h => h) (by rfl) (fun v hv => by have k0 := hv.cell c0; have k1 := hv.cell c1; have k2 := hv.cell c2; have k3 := hv.cell d0; have k4 := hv.cell d1; have k5 := hv.cell d2; have k6 := hv.cell d3; have k7 := hv.cell d4; have kl := HL.out v hv; go_simp; first | done | with_reducible rfl | (rw [if_neg (by omega)])) HS0.out ?_; simp only [Act.put, List.setIfInBounds_toArray, List.set_cons_zero, List.set_cons_succ]
    refine WH.take 8 (some 39) rfl rfl (by kernel_rfl) (by kernel_rfl) (by kernel_rfl) (fun _ _ _ h => h) (by rfl) (fun v hv => by have k0 := hv.cell c0; have k1 := hv.cell c1; have k2 := hv.cell c2; have k3 := hv.cell d0; have k4 := hv.cell d1; have k5 := hv.cell d2; have k6 := hv.cell d3; have k7 := hv.cell d4; have kl := HL.out v hv; go_simp; first | done | with_reducible rfl | (rw [if_neg (by omega)])) HS0.out ?_; simp only [Act.put, List.setIfInBounds_toArray, List.set_cons_zero, List.set_cons_succ]
    refine WH.take 9 (some 30) rfl rfl (by kernel_rfl) (by kernel_rfl) (by kernel_rfl) (fun _ _ _ h => h) (by rfl) (fun v hv => by have k0 := hv.cell c0; have k1 := hv.cell c1; have k2 := hv.cell c2; have k3 := hv.cell d0; have k4 := hv.cell d1; have k5 := hv.cell d2; have k6 := hv.cell d3; have k7 := hv.cell d4; have kl := HL.out v hv; go_simp; first | done | with_reducible rfl | (rw [if_neg (by omega)])) HS0.out ?_; simp only [Act.put, List.setIfInBounds_toArray, List.set_cons_zero, List.set_cons_succ]
    refine WH.take 10 (some 40) rfl rfl (by kernel_rfl) (by kernel_rfl) (by kernel_rfl) (fun _ _ _ h => h) (by rfl) (fun v hv => by have k0 := hv.cell c0; have k1 := hv.cell c1; have k2 := hv.cell c2; have k3 := hv.cell d0; have k4 := hv.cell d1; have k5 := hv.cell d2; have k6 := hv.cell d3; have k7 := hv.cell d4; have kl := HL.out v hv; go_simp; first | done | with_reducible rfl | (rw [if_neg (by omega)])) HS0.out ?_; simp only [Act.put, List.setIfInBounds_toArray, List.set_cons_zero, List.set_cons_succ]
    refine WH.take 11 (some 41) rfl rfl (by kernel_rfl) (by kernel_rfl) (by kernel_rfl) (fun _ _ _ h => h) (by rfl) (fun v hv => by have k0 := hv.cell c0; have k1 := hv.cell c1; have k2 := hv.cell c2; have k3 := hv.cell d0; have k4 := hv.cell d1; have k5 := hv.cell d2; have k6 := hv.cell d3; have k7 := hv.cell d4; have kl := HL.out v hv; go_simp; first | done | with_reducible rfl | (rw [if_neg (by omega)])) HS0.out ?_; simp only [Act.put, List.setIfInBounds_toArray, List.set_cons_zero, List.set_cons_succ]
    refine WH.one 12 (by kernel_rfl) rfl (by rfl) ?_
    go_wp2_with fail
    refine ⟨HS1.out, ?_⟩
    refine WH.one 13 (by kernel_rfl) rfl (by rfl) ?_
    go_wp2_with fail
    refine ⟨HS2.out, ?_⟩
    refine WH.take 14 (some 8) rfl rfl (by kernel_rfl) (by kernel_rfl) (by kernel_rfl) (fun _ _ _ h => h) (by rfl) (fun v hv => by have k0 := hv.cell c0; have k1 := hv.cell c1; have k2 := hv.cell c2; have k3 := hv.cell d0; have k4 := hv.cell d1; have k5 := hv.cell d2; have k6 := hv.cell d3; have k7 := hv.cell d4; have kl := HL.out v hv; go_simp; first | done | with_reducible rfl | (rw [if_neg (by omega)])) HS2.out ?_; simp only [Act.put, List.setIfInBounds_toArray, List.set_cons_zero, List.set_cons_succ]
    refine WH.done (by kernel_rfl) ?_
    clear c0 c1 c2 d0 d1 d2 d3 d4 HL HS0 HS1
    go_wp2_with fail
    have e0 : (w3.alloc (.cells #[.int .i64 ew, .bool et] 81)).drew.cell? ⟨w3.heap.size, 0, none⟩ = some (.int .i64 ew) := by show (w3.alloc _).cell? _ = _; simp
    have e1 : (w3.alloc (.cells #[.int .i64 ew, .bool et] 81)).drew.cell? ⟨w3.heap.size, 1, none⟩ = some (.bool et) := by show (w3.alloc _).cell? _ = _; simp
    have HS4 : Hid (Since w3 (w3.alloc (.cells #[.int .i64 ew, .bool et] 81)).drew) := Lib.hid ((Below.alloc (Below.refl _ w3) (Nat.le_refl _) _).trans ⟨rfl, rfl, rfl, Nat.le_refl _, fun _ _ => rfl⟩)
    generalize (w3.alloc (.cells #[.int .i64 ew, .bool et] 81)).drew = w4 at *
    refine WQ.enter w4 (Since.refl _) (by kernel_rfl) (by kernel_rfl) ?_
    refine WQ.val (by rfl) (fun v hv => by have k0 := hv.cell e0; have k1 := hv.cell e1; go_simp; first | done | with_reducible rfl | (rw [if_neg (by omega)])) ?_; simp only [Act.put, List.setIfInBounds_toArray, List.set_cons_zero, List.set_cons_succ]
    refine WQ.val (by rfl) (fun v hv => by have k0 := hv.cell e0; have k1 := hv.cell e1; go_simp; first | done | with_reducible rfl | (rw [if_neg (by omega)])) ?_; simp only [Act.put, List.setIfInBounds_toArray, List.set_cons_zero, List.set_cons_succ]
    refine WQ.val (by rfl) (fun v hv => by have k0 := hv.cell e0; have k1 := hv.cell e1; go_simp; first | done | with_reducible rfl | (rw [if_neg (by omega)])) ?_; simp only [Act.put, List.setIfInBounds_toArray, List.set_cons_zero, List.set_cons_succ]
    refine WQ.val (by rfl) (fun v hv => by have k0 := hv.cell e0; have k1 := hv.cell e1; go_simp; first | done | with_reducible rfl | (rw [if_neg (by omega)])) ?_; simp only [Act.put, List.setIfInBounds_toArray, List.set_cons_zero, List.set_cons_succ]
    refine WQ.val (by rfl) (fun v hv => by have k0 := hv.cell e0; have k1 := hv.cell e1; go_simp; first | done | with_reducible rfl | (rw [if_neg (by omega)])) ?_; simp only [Act.put, List.setIfInBounds_toArray, List.set_cons_zero, List.set_cons_succ]
    refine WQ.val (by rfl) (fun v hv => by have k0 := hv.cell e0; have k1 := hv.cell e1; go_simp; first | done | with_reducible rfl | (rw [if_neg (by omega)])) ?_; simp only [Act.put, List.setIfInBounds_toArray, List.set_cons_zero, List.set_cons_succ]
    refine WQ.val (by rfl) (fun v hv => by have k0 := hv.cell e0; have k1 := hv.cell e1; go_simp; first | done | with_reducible rfl | (rw [if_neg (by omega)])) ?_; simp only [Act.put, List.setIfInBounds_toArray, List.set_cons_zero, List.set_cons_succ]
    refine WQ.val (by rfl) (fun v hv => by have k0 := hv.cell e0; have k1 := hv.cell e1; go_simp; first | done | with_reducible rfl | (rw [if_neg (by omega)])) ?_; simp only [Act.put, List.setIfInBounds_toArray, List.set_cons_zero, List.set_cons_succ]
    refine WQ.val (by rfl) (fun v hv => by have k0 := hv.cell e0; have k1 := hv.cell e1; go_simp; first | done | with_reducible rfl | (rw [if_neg (by omega)])) ?_; simp only [Act.put, List.setIfInBounds_toArray, List.set_cons_zero, List.set_cons_succ]
    refine WQ.done ?_
    intro w5 hw5
    have HS5 : Hid (Below w3.heap.size w3 w5) := Lib.hid (below_then HS4.out hw5)
    clear e0 e1 hw5 HS2 HS4
    go_wp2_with fail
    exact bodyPost_ret (v := .tuple #[.int .i64 ew, .bool et, .bool hs, .int .i64 0]) (by simp [results, Try.results11, go_sem]) rfl ⟨by (rw [HR.out]) <;> rfl, by (rw [HD.out]); exact ⟨_, HT3.out.below HS5.out, HU3.out.trans (Turn.of_below (F := fun _ => False) HS5.out) (fun _ h => h.elim), HX3.out⟩⟩
  · have q0 : (my != 0) = true := by simp [hz]
    have HR : Hid (res = .tuple #[.int .i64 0, .bool false, .bool false, .int .i64 my]) := Lib.hid (by rw [HV.out, if_neg hz])
    have HD : Hid (t' = t) := Lib.hid (by rw [HD0.out, if_neg hz])
    clear HV HD0
    clear HMM e0 e1 e2 e3 e4
    go_wp2_with fail
    exact bodyPost_ret (v := .tuple #[.int .i64 0, .bool false, .bool false, .int .i64 my]) (by simp [results, Try.results11, go_sem]) rfl ⟨by (rw [HR.out]) <;> rfl, by (rw [HD.out]); exact ⟨F, HT2.out, Turn.of_below HB2.out, Ext.refl _ _⟩⟩
set_option maxHeartbeats 8000000 in
set_option maxRecDepth 100000 in
theorem tbput_any {w : World} {g bm : Nat} {F : Nat → Prop} {t : Tb} (h : Tab w g bm F t) (ok : t.Ok) {k : Ky} (hk : k.In) (th x : Int) (tu : Bool) :
    Calls Try.prog 9 #[.pointer (some ⟨g, 0, none⟩), .int .i64 th, kyV k, .int .i64 x, .bool tu] w (TabPost w g bm F (.int .i64 (t.may th (t.of k : Nat))) (t.put th k x tu)) := by
  have HB1 : Hid (Below w.heap.size w (w.alloc (.cells (kyC k) 28))) := Lib.hid ((Below.refl _ w).alloc (Nat.le_refl _) _)
  have HT1 := Lib.hid (h.below HB1.out)
  have HNF : Hid (¬ F w.heap.size) := Lib.hid (fun hf => Nat.lt_irrefl _ (h.foot_lt _ hf))
  have d0 : (w.alloc (.cells (kyC k) 28)).cell? ⟨w.heap.size, 0, none⟩ = some (.int .u32 k.a0) := by simp [kyC]
  have d1 : (w.alloc (.cells (kyC k) 28)).cell? ⟨w.heap.size, 1, none⟩ = some (.int .u32 k.a1) := by simp [kyC]
  have d2 : (w.alloc (.cells (kyC k) 28)).cell? ⟨w.heap.size, 2, none⟩ = some (.int .u16 k.p0) := by simp [kyC]
  have d3 : (w.alloc (.cells (kyC k) 28)).cell? ⟨w.heap.size, 3, none⟩ = some (.int .u16 k.p1) := by simp [kyC]
  have d4 : (w.alloc (.cells (kyC k) 28)).cell? ⟨w.heap.size, 4, none⟩ = some (.int .u8 k.pr) := by simp [kyC]
  have HOF := Lib.hid (fun (W : World) (h : Tab W g bm F t) => tof_any h ok hk)
  have HMY := Lib.hid (fun (W : World) (h : Tab W g bm F t) => tmay_any h ok th (t.of k : Nat))
  have HMM := Lib.hid (fun (W : World) (h : Tab W g bm F t) => h.mem_post (fun Fm hm => write_any bm Fm t.m th (t.of k : Nat) _ hm ok.sm))
  have HOL := Lib.hid (ok.of_lt k)
  have hle := ok.le
  have HTW := Lib.hid h
  have HOK := Lib.hid ok
  have HK := Lib.hid hk
  have HD0 : Hid (t.put th k x tu = if t.may th (t.of k : Nat) = 0 then ⟨t.m.touch th 6 (t.of k : Nat), t.n, putL t.fl k (x, tu)⟩ else t) := Lib.hid rfl
  generalize t.put th k x tu = t' at *
  clear h ok hk
  generalize hof : t.of k = sf at *
  generalize hmy : t.may th (sf : Nat) = my at *
  have HSF := Lib.hid hof
  clear hof
  go_enter Try.func9, Try.ntmps9
  go_wp2_with fail
  generalize w.alloc (.cells (kyC k) 28) = w1 at *
  refine (HOF.out _ HT1.out).mono ?_
  rintro e w2 ⟨rfl, h2⟩
  have HB2 := Lib.hid (below_then HB1.out h2)
  have HT2 := Lib.hid (HTW.out.below HB2.out)
  have e0 := Since.cell h2 d0
  have e1 := Since.cell h2 d1
  have e2 := Since.cell h2 d2
  have e3 := Since.cell h2 d3
  have e4 := Since.cell h2 d4
  clear d0 d1 d2 d3 d4 h2
  go_wp2_with fail
  refine (HMY.out _ HT2.out).mono ?_
  rintro e w2' ⟨rfl, hw2'⟩
  subst hw2'
  obtain ⟨Fm, v, bs, fs, hw, hF⟩ := id HT2.out
  obtain ⟨b0, b1, -⟩ := hw.cells
  clear hw hF
  by_cases hz : my = 0
  · subst hz
    have q0 : ((0 : Int) != 0) = false := by decide
    go_wp2_with fail
    refine (HMM.out _ HT2.out).mono ?_
    rintro e w3 ⟨rfl, F3, h3, t3, x3⟩
    have d0 := t3.cell e0 HNF.out
    have d1 := t3.cell e1 HNF.out
    have d2 := t3.cell e2 HNF.out
    have d3 := t3.cell e3 HNF.out
    have d4 := t3.cell e4 HNF.out
    clear e0 e1 e2 e3 e4 b0 b1
    have HT3 := Lib.hid h3
    have HU3 : Hid (Turn F w w3) := Lib.hid ((Turn.of_below (F := F) HB2.out).trans t3 (fun i hi => .inl hi))
    have HX3 : Hid (Ext w F F3) := Lib.hid (fun i hi => (x3 i hi).imp id (fun hle => Nat.le_trans HB2.out.size hle))
    obtain ⟨Fm3, v3, bs3, fs3, hw3, rfl⟩ := h3
    obtain ⟨c0, c1, -⟩ := hw3.cells
    obtain ⟨a3, cc3, rfl, hst⟩ := hw3.stripes
    obtain ⟨b, gs, hb, rfl, c2⟩ := hst sf HOL.out
    have HW3 := Lib.hid hw3
    have HBB := Lib.hid hb
    clear hst hw3 hb t3 x3
    have hni : (0 : Int) ≤ (sf : Int) := Int.natCast_nonneg sf
    have hnl : (sf : Int) < (t.n : Int) := by have := HOL.out; omega
    have HD : Hid (t' = ⟨t.m.touch th 6 (sf : Nat), t.n, putL t.fl k (x, tu)⟩) := Lib.hid (HD0.out.trans (if_pos trivial))
    clear HD0 HMM
    go_wp2_with fail
    have HS0 : Since w3 w3.drew := (Below.refl _ w3).trans ⟨rfl, rfl, rfl, Nat.le_refl _, fun _ _ => rfl⟩
    refine WQ.last (Since w3) HS0 11 9 (by rfl) (by kernel_rfl) (by kernel_rfl) ?_; simp only [List.take_succ_cons, List.take_zero]
    refine WQ.val (by rfl) (fun v hv => by have k0 := hv.cell c0; have k1 := hv.cell c1; have k2 := hv.cell c2; have k3 := hv.cell d0; have k4 := hv.cell d1; have k5 := hv.cell d2; have k6 := hv.cell d3; have k7 := hv.cell d4; go_simp; first | done | with_reducible rfl | (rw [if_neg (by omega)])) ?_; simp only [Act.put, List.setIfInBounds_toArray, List.set_cons_zero, List.set_cons_succ]
    refine WQ.val (by rfl) (fun v hv => by have k0 := hv.cell c0; have k1 := hv.cell c1; have k2 := hv.cell c2; have k3 := hv.cell d0; have k4 := hv.cell d1; have k5 := hv.cell d2; have k6 := hv.cell d3; have k7 := hv.cell d4; go_simp; first | done | with_reducible rfl | (rw [if_neg (by omega)])) ?_; simp only [Act.put, List.setIfInBounds_toArray, List.set_cons_zero, List.set_cons_succ]
    refine WQ.val (by rfl) (fun v hv => by have k0 := hv.cell c0; have k1 := hv.cell c1; have k2 := hv.cell c2; have k3 := hv.cell d0; have k4 := hv.cell d1; have k5 := hv.cell d2; have k6 := hv.cell d3; have k7 := hv.cell d4; go_simp; first | done | with_reducible rfl | (rw [if_neg (by omega)])) ?_; simp only [Act.put, List.setIfInBounds_toArray, List.set_cons_zero, List.set_cons_succ]
    refine WQ.val (by rfl) (fun v hv => by have k0 := hv.cell c0; have k1 := hv.cell c1; have k2 := hv.cell c2; have k3 := hv.cell d0; have k4 := hv.cell d1; have k5 := hv.cell d2; have k6 := hv.cell d3; have k7 := hv.cell d4; go_simp; first | done | with_reducible rfl | (rw [if_neg (by omega)])) ?_; simp only [Act.put, List.setIfInBounds_toArray, List.set_cons_zero, List.set_cons_succ]
    refine WQ.val (by rfl) (fun v hv => by have k0 := hv.cell c0; have k1 := hv.cell c1; have k2 := hv.cell c2; have k3 := hv.cell d0; have k4 := hv.cell d1; have k5 := hv.cell d2; have k6 := hv.cell d3; have k7 := hv.cell d4; go_simp; first | done | with_reducible rfl | (rw [if_neg (by omega)])) ?_; simp only [Act.put, List.setIfInBounds_toArray, List.set_cons_zero, List.set_cons_succ]
    refine WQ.val (by rfl) (fun v hv => exec_stripe (.tmp 33) (.tmp 34) rfl rfl rfl HOL.out) ?_; simp only [Act.put, List.setIfInBounds_toArray, List.set_cons_zero, List.set_cons_succ]
    refine WQ.val (by rfl) (fun v hv => by have k0 := hv.cell c0; have k1 := hv.cell c1; have k2 := hv.cell c2; have k3 := hv.cell d0; have k4 := hv.cell d1; have k5 := hv.cell d2; have k6 := hv.cell d3; have k7 := hv.cell d4; go_simp; first | done | with_reducible rfl | (rw [if_neg (by omega)])) ?_; simp only [Act.put, List.setIfInBounds_toArray, List.set_cons_zero, List.set_cons_succ]
    refine WQ.val (by rfl) (fun v hv => by have k0 := hv.cell c0; have k1 := hv.cell c1; have k2 := hv.cell c2; have k3 := hv.cell d0; have k4 := hv.cell d1; have k5 := hv.cell d2; have k6 := hv.cell d3; have k7 := hv.cell d4; go_simp; first | done | with_reducible rfl | (rw [if_neg (by omega)])) ?_; simp only [Act.put, List.setIfInBounds_toArray, List.set_cons_zero, List.set_cons_succ]
    refine WQ.val (by rfl) (fun v hv => by have k0 := hv.cell c0; have k1 := hv.cell c1; have k2 := hv.cell c2; have k3 := hv.cell d0; have k4 := hv.cell d1; have k5 := hv.cell d2; have k6 := hv.cell d3; have k7 := hv.cell d4; go_simp; first | done | with_reducible rfl | (rw [if_neg (by omega)])) ?_; simp only [Act.put, List.setIfInBounds_toArray, List.set_cons_zero, List.set_cons_succ]
    refine WQ.val (by rfl) (fun v hv => by have k0 := hv.cell c0; have k1 := hv.cell c1; have k2 := hv.cell c2; have k3 := hv.cell d0; have k4 := hv.cell d1; have k5 := hv.cell d2; have k6 := hv.cell d3; have k7 := hv.cell d4; go_simp; first | done | with_reducible rfl | (rw [if_neg (by omega)])) ?_; simp only [Act.put, List.setIfInBounds_toArray, List.set_cons_zero, List.set_cons_succ]
    refine WQ.val (by rfl) (fun v hv => by have k0 := hv.cell c0; have k1 := hv.cell c1; have k2 := hv.cell c2; have k3 := hv.cell d0; have k4 := hv.cell d1; have k5 := hv.cell d2; have k6 := hv.cell d3; have k7 := hv.cell d4; go_simp; first | done | with_reducible rfl | (rw [if_neg (by omega)])) ?_; simp only [Act.put, List.setIfInBounds_toArray, List.set_cons_zero, List.set_cons_succ]
    refine WQ.done ?_
    intro w6 hw6
    refine wpOp_one rfl (by rfl) ?_
    intro K' hK'
    have HW6 := HW3.out.below hw6
    have hfl0 : FlowsAt w6 b evT (inS t.n sf t.fl) (fs3 sf) := HW6.maps sf b HBB.out
    obtain ⟨o, hrun, hfl⟩ := tput hfl0 HK.out (x, tu)
    have hsf : stripeF k t.n = sf := HSF.out
    obtain ⟨hA7, hU7⟩ := HW6.setmap HBB.out o (fl' := putL t.fl k (x, tu)) (by rw [show inS ({ t with m := t.m.touch th 6 (sf : Nat) } : Tb).n sf (putL t.fl k (x, tu)) = putL (inS t.n sf t.fl) k (x, tu) from inS_put_same k (x, tu) hsf]; exact hfl) (fun s' hs' => inS_put_other HOK.out.rise k (x, tu) (by rw [show stripeF k _ = sf from hsf]; exact hs')) (t2 := ⟨t.m.touch th 6 (sf : Nat), t.n, putL t.fl k (x, tu)⟩) rfl
    have HA7 := Lib.hid hA7
    have HU7 : Hid (Turn F w (setBlock w6 b o)) := Lib.hid ((HU3.out.trans (Turn.of_below (F := fun _ => False) hw6) (fun _ h => h.elim)).trans hU7 (fun i hi => HX3.out i hi))
    clear hfl HW6 hA7 hU7 hfl0 hw6
    refine oper_tupdate _ _ _ _ rfl (show _ = Value.map (some b) from rfl) (show _ = kyV k from rfl) (show _ = evT (x, tu) from rfl) hrun (hK' _ _ ?_) rfl
    clear hrun hK'
    generalize setBlock w6 b o = w7 at *
    go_wp2_with fail
    go_ret
    exact ⟨rfl, by (rw [HD.out]); exact ⟨_, HA7.out, HU7.out, HX3.out⟩⟩
  · have q0 : (my != 0) = true := by simp [hz]
    have HR : Hid (my = my) := Lib.hid rfl
    have HD : Hid (t' = t) := Lib.hid (by rw [HD0.out, if_neg hz])
    clear HD0
    clear HMM e0 e1 e2 e3 e4
    go_wp2_with fail
    go_ret
    exact ⟨rfl, by (rw [HD.out]); exact ⟨F, HT2.out, Turn.of_below HB2.out, Ext.refl _ _⟩⟩
set_option maxHeartbeats 8000000 in
set_option maxRecDepth 100000 in
theorem tbremove_any {w : World} {g bm : Nat} {F : Nat → Prop} {t : Tb} (h : Tab w g bm F t) (ok : t.Ok) {k : Ky} (hk : k.In) (th : Int) :
    Calls Try.prog 14 #[.pointer (some ⟨g, 0, none⟩), .int .i64 th, kyV k] w (TabPost w g bm F (.int .i64 (t.removeE th k)) (t.remove th k)) := by
  have HB1 : Hid (Below w.heap.size w (w.alloc (.cells (kyC k) 28))) := Lib.hid ((Below.refl _ w).alloc (Nat.le_refl _) _)
  have HT1 := Lib.hid (h.below HB1.out)
  have HNF : Hid (¬ F w.heap.size) := Lib.hid (fun hf => Nat.lt_irrefl _ (h.foot_lt _ hf))
  have d0 : (w.alloc (.cells (kyC k) 28)).cell? ⟨w.heap.size, 0, none⟩ = some (.int .u32 k.a0) := by simp [kyC]
  have d1 : (w.alloc (.cells (kyC k) 28)).cell? ⟨w.heap.size, 1, none⟩ = some (.int .u32 k.a1) := by simp [kyC]
  have d2 : (w.alloc (.cells (kyC k) 28)).cell? ⟨w.heap.size, 2, none⟩ = some (.int .u16 k.p0) := by simp [kyC]
  have d3 : (w.alloc (.cells (kyC k) 28)).cell? ⟨w.heap.size, 3, none⟩ = some (.int .u16 k.p1) := by simp [kyC]
  have d4 : (w.alloc (.cells (kyC k) 28)).cell? ⟨w.heap.size, 4, none⟩ = some (.int .u8 k.pr) := by simp [kyC]
  have HOF := Lib.hid (fun (W : World) (h : Tab W g bm F t) => tof_any h ok hk)
  have HMY := Lib.hid (fun (W : World) (h : Tab W g bm F t) => tmay_any h ok th (t.of k : Nat))
  have HMM := Lib.hid (fun (W : World) (h : Tab W g bm F t) => h.mem_post (fun Fm hm => write_any bm Fm t.m th (t.of k : Nat) _ hm ok.sm))
  have HOL := Lib.hid (ok.of_lt k)
  have hle := ok.le
  have HTW := Lib.hid h
  have HOK := Lib.hid ok
  have HK := Lib.hid hk
  have HV : Hid (t.removeE th k = if t.may th (t.of k : Nat) = 0 then (if hasL t.fl k = true then 0 else 15) else t.may th (t.of k : Nat)) := Lib.hid rfl
  generalize t.removeE th k = res at *
  have HD0 : Hid (t.remove th k = if t.may th (t.of k : Nat) = 0 then ⟨t.m.touch th 6 (t.of k : Nat), t.n, delL t.fl k⟩ else t) := Lib.hid rfl
  generalize t.remove th k = t' at *
  clear h ok hk
  generalize hof : t.of k = sf at *
  generalize hmy : t.may th (sf : Nat) = my at *
  have HSF := Lib.hid hof
  clear hof
  go_enter Try.func14, Try.ntmps14
  go_wp2_with fail
  generalize w.alloc (.cells (kyC k) 28) = w1 at *
  refine (HOF.out _ HT1.out).mono ?_
  rintro e w2 ⟨rfl, h2⟩
  have HB2 := Lib.hid (below_then HB1.out h2)
  have HT2 := Lib.hid (HTW.out.below HB2.out)
  have e0 := Since.cell h2 d0
  have e1 := Since.cell h2 d1
  have e2 := Since.cell h2 d2
  have e3 := Since.cell h2 d3
  have e4 := Since.cell h2 d4
  clear d0 d1 d2 d3 d4 h2
  go_wp2_with fail
  refine (HMY.out _ HT2.out).mono ?_
  rintro e w2' ⟨rfl, hw2'⟩
  subst hw2'
  obtain ⟨Fm, v, bs, fs, hw, hF⟩ := id HT2.out
  obtain ⟨b0, b1, -⟩ := hw.cells
  clear hw hF
  by_cases hz : my = 0
  · subst hz
    have q0 : ((0 : Int) != 0) = false := by decide
    go_wp2_with fail
    refine (HMM.out _ HT2.out).mono ?_
    rintro e w3 ⟨rfl, F3, h3, t3, x3⟩
    have d0 := t3.cell e0 HNF.out
    have d1 := t3.cell e1 HNF.out
    have d2 := t3.cell e2 HNF.out
    have d3 := t3.cell e3 HNF.out
    have d4 := t3.cell e4 HNF.out
    clear e0 e1 e2 e3 e4 b0 b1
    have HT3 := Lib.hid h3
    have HU3 : Hid (Turn F w w3) := Lib.hid ((Turn.of_below (F := F) HB2.out).trans t3 (fun i hi => .inl hi))
    have HX3 : Hid (Ext w F F3) := Lib.hid (fun i hi => (x3 i hi).imp id (fun hle => Nat.le_trans HB2.out.size hle))
    obtain ⟨Fm3, v3, bs3, fs3, hw3, rfl⟩ := h3
    obtain ⟨c0, c1, -⟩ := hw3.cells
    obtain ⟨a3, cc3, rfl, hst⟩ := hw3.stripes
    obtain ⟨b, gs, hb, rfl, c2⟩ := hst sf HOL.out
    have HW3 := Lib.hid hw3
    have HBB := Lib.hid hb
    clear hst hw3 hb t3 x3
    have hni : (0 : Int) ≤ (sf : Int) := Int.natCast_nonneg sf
    have hnl : (sf : Int) < (t.n : Int) := by have := HOL.out; omega
    have HL : Hid (∀ v, Since w3 v → (Instr.lookup 76 (.map (some b)) (.agg #[.int .u32 k.a0, .int .u32 k.a1, .int .u16 k.p0, .int .u16 k.p1, .int .u8 k.pr]) true).run Try.prog v = .ok (.tuple #[.agg #[.int .i64 (entT t.fl k).1, .bool (entT t.fl k).2], .bool (hasL t.fl k)]) v) := Lib.hid (fun v hv => by
      have hfl : FlowsAt v b evT (inS t.n sf t.fl) (fs3 sf) := (HW3.out.maps sf b HBB.out).of_block (Below.block hv b (HW3.out.maps sf b HBB.out).is.lt)
      have := tlook hfl HK.out
      have e := @entT_in t k
      rw [HSF.out] at e
      rw [e.1, e.2] at this
      exact this)
    have HR0 : Hid (res = if hasL t.fl k = true then 0 else 15) := Lib.hid (HV.out.trans (if_pos trivial))
    have HD : Hid (t' = ⟨t.m.touch th 6 (sf : Nat), t.n, delL t.fl k⟩) := Lib.hid (HD0.out.trans (if_pos trivial))
    have HDN : Hid (hasL t.fl k = false → delL t.fl k = t.fl) := Lib.hid (fun h => del_none (by unfold hasL at h; simpa using h))
    clear HV HD0 HMM
    generalize (entT t.fl k).1 = ew at *
    generalize (entT t.fl k).2 = et at *
    generalize hasL t.fl k = hs at *
    go_wp2_with fail
    have HS0 : Hid (Since w3 w3.drew) := Lib.hid ((Below.refl _ w3).trans ⟨rfl, rfl, rfl, Nat.le_refl _, fun _ _ => rfl⟩)
    have HS1 : Hid (Since w3 (w3.drew.alloc (.cells #[.int .i64 0, .bool false] 81))) := Lib.hid (Below.alloc HS0.out (Nat.le_refl _) _)
    have HS2 : Hid (Since w3 (w3.drew.alloc (.cells #[.int .i64 ew, .bool et] 81))) := Lib.hid (Below.alloc HS0.out (Nat.le_refl _) _)
    refine WH.enter (Since w3) (by kernel_rfl) 15 rfl ?_
    refine WH.take 0 (some 29) rfl rfl (by kernel_rfl) (by kernel_rfl) (by kernel_rfl) (fun _ _ _ h => h) (by rfl) (fun v hv => by have k0 := hv.cell c0; have k1 := hv.cell c1; have k2 := hv.cell c2; have k3 := hv.cell d0; have k4 := hv.cell d1; have k5 := hv.cell d2; have k6 := hv.cell d3; have k7 := hv.cell d4; have kl := HL.out v hv; go_simp; first | done | with_reducible rfl | (rw [if_neg (by omega)])) HS0.out ?_; simp only [Act.put, List.setIfInBounds_toArray, List.set_cons_zero, List.set_cons_succ]
    refine WH.take 1 (some 30) rfl rfl (by kernel_rfl) (by kernel_rfl) (by kernel_rfl) (fun _ _ _ h => h) (by rfl) (fun v hv => by have k0 := hv.cell c0; have k1 := hv.cell c1; have k2 := hv.cell c2; have k3 := hv.cell d0; have k4 := hv.cell d1; have k5 := hv.cell d2; have k6 := hv.cell d3; have k7 := hv.cell d4; have kl := HL.out v hv; go_simp; first | done | with_reducible rfl | (rw [if_neg (by omega)])) HS0.out ?_; simp only [Act.put, List.setIfInBounds_toArray, List.set_cons_zero, List.set_cons_succ]
    refine WH.take 2 (some 31) rfl rfl (by kernel_rfl) (by kernel_rfl) (by kernel_rfl) (fun _ _ _ h => h) (by rfl) (fun v hv => by have k0 := hv.cell c0; have k1 := hv.cell c1; have k2 := hv.cell c2; have k3 := hv.cell d0; have k4 := hv.cell d1; have k5 := hv.cell d2; have k6 := hv.cell d3; have k7 := hv.cell d4; have kl := HL.out v hv; go_simp; first | done | with_reducible rfl | (rw [if_neg (by omega)])) HS0.out ?_; simp only [Act.put, List.setIfInBounds_toArray, List.set_cons_zero, List.set_cons_succ]
    refine WH.take 3 (some 32) rfl rfl (by kernel_rfl) (by kernel_rfl) (by kernel_rfl) (fun _ _ _ h => h) (by rfl) (fun v hv => by have k0 := hv.cell c0; have k1 := hv.cell c1; have k2 := hv.cell c2; have k3 := hv.cell d0; have k4 := hv.cell d1; have k5 := hv.cell d2; have k6 := hv.cell d3; have k7 := hv.cell d4; have kl := HL.out v hv; go_simp; first | done | with_reducible rfl | (rw [if_neg (by omega)])) HS0.out ?_; simp only [Act.put, List.setIfInBounds_toArray, List.set_cons_zero, List.set_cons_succ]
    refine WH.take 4 (some 33) rfl rfl (by kernel_rfl) (by kernel_rfl) (by kernel_rfl) (fun _ _ _ h => h) (by rfl) (fun v hv => by have k0 := hv.cell c0; have k1 := hv.cell c1; have k2 := hv.cell c2; have k3 := hv.cell d0; have k4 := hv.cell d1; have k5 := hv.cell d2; have k6 := hv.cell d3; have k7 := hv.cell d4; have kl := HL.out v hv; go_simp; first | done | with_reducible rfl | (rw [if_neg (by omega)])) HS0.out ?_; simp only [Act.put, List.setIfInBounds_toArray, List.set_cons_zero, List.set_cons_succ]
    refine WH.take 5 (some 34) rfl rfl (by kernel_rfl) (by kernel_rfl) (by kernel_rfl) (fun _ _ _ h => h) (by rfl) (fun v hv => exec_stripe (.tmp 32) (.tmp 33) rfl rfl rfl HOL.out) HS0.out ?_; simp only [Act.put, List.setIfInBounds_toArray, List.set_cons_zero, List.set_cons_succ]
    refine WH.take 6 (some 35) rfl rfl (by kernel_rfl) (by kernel_rfl) (by kernel_rfl) (fun _ _ _ h => h) (by rfl) (fun v hv => by have k0 := hv.cell c0; have k1 := hv.cell c1; have k2 := hv.cell c2; have k3 := hv.cell d0; have k4 := hv.cell d1; have k5 := hv.cell d2; have k6 := hv.cell d3; have k7 := hv.cell d4; have kl := HL.out v hv; go_simp; first | done | with_reducible rfl | (rw [if_neg (by omega)])) HS0.out ?_; simp only [Act.put, List.setIfInBounds_toArray, List.set_cons_zero, List.set_cons_succ]
    refine WH.take 7 (some 36) rfl rfl (by kernel_rfl) (by kernel_rfl) (by kernel_rfl) (fun _ _ _ h => h) (by rfl) (fun v hv => by have k0 := hv.cell c0; have k1 := hv.cell c1; have k2 := hv.cell c2; have k3 := hv.cell d0; have k4 := hv.cell d1; have k5 := hv.cell d2; have k6 := hv.cell d3; have k7 := hv.cell d4; have kl := HL.out v hv; go_simp; first | done | with_reducible rfl | (rw [if_neg (by omega)])) HS0.out ?_; simp only [Act.put, List.setIfInBounds_toArray, List.set_cons_zero, List.set_cons_succ]
    refine WH.take 8 (some 37) rfl rfl (by kernel_rfl) (by kernel_rfl) (by kernel_rfl) (fun _ _ _ h => h) (by rfl) (fun v hv => by have k0 := hv.cell c0; have k1 := hv.cell c1; have k2 := hv.cell c2; have k3 := hv.cell d0; have k4 := hv.cell d1; have k5 := hv.cell d2; have k6 := hv.cell d3; have k7 := hv.cell d4; have kl := HL.out v hv; go_simp; first | done | with_reducible rfl | (rw [if_neg (by omega)])) HS0.out ?_; simp only [Act.put, List.setIfInBounds_toArray, List.set_cons_zero, List.set_cons_succ]
    refine WH.take 9 (some 28) rfl rfl (by kernel_rfl) (by kernel_rfl) (by kernel_rfl) (fun _ _ _ h => h) (by rfl) (fun v hv => by have k0 := hv.cell c0; have k1 := hv.cell c1; have k2 := hv.cell c2; have k3 := hv.cell d0; have k4 := hv.cell d1; have k5 := hv.cell d2; have k6 := hv.cell d3; have k7 := hv.cell d4; have kl := HL.out v hv; go_simp; first | done | with_reducible rfl | (rw [if_neg (by omega)])) HS0.out ?_; simp only [Act.put, List.setIfInBounds_toArray, List.set_cons_zero, List.set_cons_succ]
    refine WH.take 10 (some 38) rfl rfl (by kernel_rfl) (by kernel_rfl) (by kernel_rfl) (fun _ _ _ h => h) (by rfl) (fun v hv => by have k0 := hv.cell c0; have k1 := hv.cell c1; have k2 := hv.cell c2; have k3 := hv.cell d0; have k4 := hv.cell d1; have k5 := hv.cell d2; have k6 := hv.cell d3; have k7 := hv.cell d4; have kl := HL.out v hv; go_simp; first | done | with_reducible rfl | (rw [if_neg (by omega)])) HS0.out ?_; simp only [Act.put, List.setIfInBounds_toArray, List.set_cons_zero, List.set_cons_succ]
    refine WH.take 11 (some 39) rfl rfl (by kernel_rfl) (by kernel_rfl) (by kernel_rfl) (fun _ _ _ h => h) (by rfl) (fun v hv => by have k0 := hv.cell c0; have k1 := hv.cell c1; have k2 := hv.cell c2; have k3 := hv.cell d0; have k4 := hv.cell d1; have k5 := hv.cell d2; have k6 := hv.cell d3; have k7 := hv.cell d4; have kl := HL.out v hv; go_simp; first | done | with_reducible rfl | (rw [if_neg (by omega)])) HS0.out ?_; simp only [Act.put, List.setIfInBounds_toArray, List.set_cons_zero, List.set_cons_succ]
    refine WH.one 12 (by kernel_rfl) rfl (by rfl) ?_
    go_wp2_with fail
    refine ⟨HS1.out, ?_⟩
    refine WH.one 13 (by kernel_rfl) rfl (by rfl) ?_
    go_wp2_with fail
    refine ⟨HS2.out, ?_⟩
    refine WH.take 14 (some 10) rfl rfl (by kernel_rfl) (by kernel_rfl) (by kernel_rfl) (fun _ _ _ h => h) (by rfl) (fun v hv => by have k0 := hv.cell c0; have k1 := hv.cell c1; have k2 := hv.cell c2; have k3 := hv.cell d0; have k4 := hv.cell d1; have k5 := hv.cell d2; have k6 := hv.cell d3; have k7 := hv.cell d4; have kl := HL.out v hv; go_simp; first | done | with_reducible rfl | (rw [if_neg (by omega)])) HS2.out ?_; simp only [Act.put, List.setIfInBounds_toArray, List.set_cons_zero, List.set_cons_succ]
    refine WH.done (by kernel_rfl) ?_
    have HS4 : Hid (Since w3 (w3.alloc (.cells #[.int .i64 ew, .bool et] 81)).drew) := Lib.hid ((Below.alloc (Below.refl _ w3) (Nat.le_refl _) _).trans ⟨rfl, rfl, rfl, Nat.le_refl _, fun _ _ => rfl⟩)
    have d0 := Since.cell HS4.out d0
    have d1 := Since.cell HS4.out d1
    have d2 := Since.cell HS4.out d2
    have d3 := Since.cell HS4.out d3
    have d4 := Since.cell HS4.out d4
    have c0 := Since.cell HS4.out c0
    have c1 := Since.cell HS4.out c1
    have c2 := Since.cell HS4.out c2
    clear HL HS0 HS1 HS2
    cases hs with
    | false =>
      have HR : Hid (res = 15) := Lib.hid (HR0.out.trans (if_neg (by decide)))
      have HDE := Lib.hid (HDN.out rfl)
      clear HR0 HDN
      go_wp2_with fail
      go_ret
      exact ⟨by (rw [HR.out]) <;> rfl, by (rw [HD.out, HDE.out]); exact ⟨_, HT3.out.below HS4.out, HU3.out.trans (Turn.of_below (F := fun _ => False) HS4.out) (fun _ h => h.elim), HX3.out⟩⟩
    | true =>
      have HR : Hid (res = 0) := Lib.hid (HR0.out.trans (if_pos rfl))
      clear HR0 HDN
      go_wp2_with fail
      generalize (w3.alloc (.cells #[.int .i64 ew, .bool et] 81)).drew = w4 at *
      have HS0 : Since w4 w4.drew := (Below.refl _ w4).trans ⟨rfl, rfl, rfl, Nat.le_refl _, fun _ _ => rfl⟩
      refine WQ.last (Since w4) HS0 8 9 (by rfl) (by kernel_rfl) (by kernel_rfl) ?_; simp only [List.take_succ_cons, List.take_zero]
      refine WQ.val (by rfl) (fun v hv => by have k0 := hv.cell c0; have k1 := hv.cell c1; have k2 := hv.cell c2; have k3 := hv.cell d0; have k4 := hv.cell d1; have k5 := hv.cell d2; have k6 := hv.cell d3; have k7 := hv.cell d4; go_simp; first | done | with_reducible rfl | (rw [if_neg (by omega)])) ?_; simp only [Act.put, List.setIfInBounds_toArray, List.set_cons_zero, List.set_cons_succ]
      refine WQ.val (by rfl) (fun v hv => by have k0 := hv.cell c0; have k1 := hv.cell c1; have k2 := hv.cell c2; have k3 := hv.cell d0; have k4 := hv.cell d1; have k5 := hv.cell d2; have k6 := hv.cell d3; have k7 := hv.cell d4; go_simp; first | done | with_reducible rfl | (rw [if_neg (by omega)])) ?_; simp only [Act.put, List.setIfInBounds_toArray, List.set_cons_zero, List.set_cons_succ]
      refine WQ.val (by rfl) (fun v hv => by have k0 := hv.cell c0; have k1 := hv.cell c1; have k2 := hv.cell c2; have k3 := hv.cell d0; have k4 := hv.cell d1; have k5 := hv.cell d2; have k6 := hv.cell d3; have k7 := hv.cell d4; go_simp; first | done | with_reducible rfl | (rw [if_neg (by omega)])) ?_; simp only [Act.put, List.setIfInBounds_toArray, List.set_cons_zero, List.set_cons_succ]
      refine WQ.val (by rfl) (fun v hv => by have k0 := hv.cell c0; have k1 := hv.cell c1; have k2 := hv.cell c2; have k3 := hv.cell d0; have k4 := hv.cell d1; have k5 := hv.cell d2; have k6 := hv.cell d3; have k7 := hv.cell d4; go_simp; first | done | with_reducible rfl | (rw [if_neg (by omega)])) ?_; simp only [Act.put, List.setIfInBounds_toArray, List.set_cons_zero, List.set_cons_succ]
      refine WQ.val (by rfl) (fun v hv => by have k0 := hv.cell c0; have k1 := hv.cell c1; have k2 := hv.cell c2; have k3 := hv.cell d0; have k4 := hv.cell d1; have k5 := hv.cell d2; have k6 := hv.cell d3; have k7 := hv.cell d4; go_simp; first | done | with_reducible rfl | (rw [if_neg (by omega)])) ?_; simp only [Act.put, List.setIfInBounds_toArray, List.set_cons_zero, List.set_cons_succ]
      refine WQ.val (by rfl) (fun v hv => exec_stripe (.tmp 45) (.tmp 46) rfl rfl rfl HOL.out) ?_; simp only [Act.put, List.setIfInBounds_toArray, List.set_cons_zero, List.set_cons_succ]
      refine WQ.val (by rfl) (fun v hv => by have k0 := hv.cell c0; have k1 := hv.cell c1; have k2 := hv.cell c2; have k3 := hv.cell d0; have k4 := hv.cell d1; have k5 := hv.cell d2; have k6 := hv.cell d3; have k7 := hv.cell d4; go_simp; first | done | with_reducible rfl | (rw [if_neg (by omega)])) ?_; simp only [Act.put, List.setIfInBounds_toArray, List.set_cons_zero, List.set_cons_succ]
      refine WQ.val (by rfl) (fun v hv => by have k0 := hv.cell c0; have k1 := hv.cell c1; have k2 := hv.cell c2; have k3 := hv.cell d0; have k4 := hv.cell d1; have k5 := hv.cell d2; have k6 := hv.cell d3; have k7 := hv.cell d4; go_simp; first | done | with_reducible rfl | (rw [if_neg (by omega)])) ?_; simp only [Act.put, List.setIfInBounds_toArray, List.set_cons_zero, List.set_cons_succ]
      refine WQ.done ?_
      intro w6 hw6
      refine wpOp_one rfl (by rfl) ?_
      intro K' hK'
      have HW6 := HW3.out.below (below_then HS4.out hw6)
      have hfl0 : FlowsAt w6 b evT (inS t.n sf t.fl) (fs3 sf) := HW6.maps sf b HBB.out
      obtain ⟨o, hrun, hfl⟩ := tdel hfl0 HK.out 0
      have hsf : stripeF k t.n = sf := HSF.out
      obtain ⟨hA7, hU7⟩ := HW6.setmap HBB.out o (fl' := delL t.fl k) (by rw [show inS ({ t with m := t.m.touch th 6 (sf : Nat) } : Tb).n sf (delL t.fl k) = delL (inS t.n sf t.fl) k from inS_del k sf]; exact hfl) (fun s' hs' => inS_del_other k (by rw [show stripeF k _ = sf from hsf]; exact hs')) (t2 := ⟨t.m.touch th 6 (sf : Nat), t.n, delL t.fl k⟩) rfl
      have HA7 := Lib.hid hA7
      have HU7 : Hid (Turn F w (setBlock w6 b o)) := Lib.hid ((HU3.out.trans (Turn.of_below (F := fun _ => False) (below_then HS4.out hw6)) (fun _ h => h.elim)).trans hU7 (fun i hi => HX3.out i hi))
      clear hfl HW6 hA7 hU7 hfl0 hw6
      refine oper_tdelete _ _ _ _ rfl (show _ = Value.map (some b) from rfl) (show _ = kyV k from rfl) hrun (hK' _ _ ?_)
      clear hrun hK'
      generalize setBlock w6 b o = w7 at *
      go_wp2_with fail
      go_ret
      exact ⟨by (rw [HR.out]) <;> rfl, by (rw [HD.out]); exact ⟨_, HA7.out, HU7.out, HX3.out⟩⟩
  · have q0 : (my != 0) = true := by simp [hz]
    have HR : Hid (res = my) := Lib.hid (HV.out.trans (if_neg hz))
    have HD : Hid (t' = t) := Lib.hid (by rw [HD0.out, if_neg hz])
    clear HD0 HV
    clear HMM e0 e1 e2 e3 e4
    go_wp2_with fail
    go_ret
    exact ⟨by (rw [HR.out]) <;> rfl, by (rw [HD.out]); exact ⟨F, HT2.out, Turn.of_below HB2.out, Ext.refl _ _⟩⟩
end Go.Proofs.Ytahgapkecabnjaa
