/- The reference's table: its shape; walks of may, Of and place. Printed by gen_tabk.py. -/
import Derived.Test.YtahgapkecabnjaaC09
namespace Go.Proofs.Ytahgapkecabnjaa
set_option linter.unusedSimpArgs false
set_option linter.unusedVariables false
open Go Go.RowKit Go.Maps Go.Shelf Go.Sort

def flowT (p : Ky × (Int × Bool)) : List Value := [.int .u32 p.1.a0, .int .u32 p.1.a1, .int .u16 p.1.p0, .int .u16 p.1.p1, .int .u8 p.1.pr, .int .i64 p.2.1, .bool p.2.2]
def flowsT (l : Kl (Int × Bool)) : List Value := l.flatMap flowT
theorem flowsT_len (l : Kl (Int × Bool)) : (flowsT l).length = l.length * 7 := by
  induction l with
  | nil => rfl
  | cons a l ih => simp only [flowsT, List.flatMap_cons, List.length_append, List.length_cons] at *; rw [ih]; simp [flowT]; omega
theorem flowsT_append (l m : Kl (Int × Bool)) : flowsT (l ++ m) = flowsT l ++ flowsT m := by simp [flowsT]
theorem flowsT_get {l : Kl (Int × Bool)} {j : Nat} {p : Ky × (Int × Bool)} (h : l[j]? = some p) {i : Nat} {v : Value} (hv : (flowT p)[i]? = some v) : (flowsT l)[j * 7 + i]? = some v := by
  obtain ⟨hj, e⟩ := List.getElem?_eq_some_iff.1 h
  have hi : i < 7 := (List.getElem?_eq_some_iff.1 hv).1
  have e1 : l = l.take j ++ (p :: l.drop (j + 1)) := by rw [← e]; simp
  have hl : (flowsT (l.take j)).length = j * 7 := by rw [flowsT_len, List.length_take]; congr 1; omega
  rw [e1, flowsT_append, List.getElem?_append_right (by omega), hl, Nat.add_sub_cancel_left]
  show (flowT p ++ flowsT (l.drop (j + 1)))[i]? = some v
  rw [List.getElem?_append_left (by exact (List.getElem?_eq_some_iff.1 hv).1)]
  exact hv
theorem flowsT_one (l : Kl (Int × Bool)) : ∀ u ∈ flowsT l, u.oneCell' = true := fun u hu => by
  obtain ⟨p, hp, h⟩ := List.mem_flatMap.1 hu
  simp [flowT] at h
  rcases h with h | h | h | h | h | h | h <;> subst h <;> rfl
theorem RMem.types {w : World} {g : Nat} {F : Nat → Prop} {m : M} (h : RMem w g F m) {i : Nat} (hi : F i) : ∃ cs T fr, w.heap[i]? = some (.cells cs T fr) ∧ (T = 66 ∨ T = 93 ∨ T = 99) := by
  obtain ⟨vw, vl, vg, hm, rfl⟩ := h
  rcases hi with rfl | hb | hb | hb
  · exact ⟨_, _, _, hm.blk, .inl rfl⟩
  · obtain ⟨c, hc⟩ := row_type hm.words hb
    exact ⟨_, _, _, hc, .inr (.inl rfl)⟩
  · obtain ⟨c, hc⟩ := row_type hm.locks hb
    exact ⟨_, _, _, hc, .inr (.inl rfl)⟩
  · obtain ⟨c, hc⟩ := row_type hm.log hb
    exact ⟨_, _, _, hc, .inr (.inr rfl)⟩
def rtabFoot (u : Nat) (Fm : Nat → Prop) (fv : Value) : Nat → Prop := fun i => Fm i ∨ i = u ∨ fv.ownBlock = some i
/-- Block u is the reference's table, on its memory rm. -/
structure RTabW (w : World) (u rm : Nat) (Fm : Nat → Prop) (t : Tb) (fv : Value) : Prop where
  box : w.heap[u]? = some (.cells #[.pointer (some ⟨rm, 0, none⟩), .int .i64 t.n, fv] 92 (0, 0))
  mem : RMem w rm Fm t.m
  row : Row w 97 7 fv t.fl.length (flowsT t.fl)
def RTab (w : World) (u rm : Nat) (F : Nat → Prop) (t : Tb) : Prop := ∃ Fm fv, RTabW w u rm Fm t fv ∧ F = rtabFoot u Fm fv
section
variable {w w' : World} {u rm : Nat} {Fm F : Nat → Prop} {t : Tb} {fv : Value}
theorem RTabW.lt (h : RTabW w u rm Fm t fv) : u < w.heap.size := (Array.getElem?_eq_some_iff.1 h.box).1
theorem RTabW.foot_lt (h : RTabW w u rm Fm t fv) : ∀ i, rtabFoot u Fm fv i → i < w.heap.size := by
  rintro i (h1 | rfl | h1)
  · exact h.mem.foot_lt i h1
  · exact h.lt
  · exact row_lt h.row h1
theorem RTab.foot_lt (h : RTab w u rm F t) : ∀ i, F i → i < w.heap.size := by
  obtain ⟨Fm, fv, hw, rfl⟩ := h
  exact hw.foot_lt
theorem RTabW.apart (h : RTabW w u rm Fm t fv) : (∀ i, Fm i → i ≠ u ∧ fv.ownBlock ≠ some i) ∧ ∀ b, fv.ownBlock = some b → b ≠ u := by
  refine ⟨fun i hi => ?_, fun b hb => ?_⟩
  · obtain ⟨cs, T, fr, hc, hT⟩ := h.mem.types hi
    refine ⟨?_, fun hv => ?_⟩
    · rintro rfl
      rw [h.box] at hc
      injection hc with hc
      injection hc with _ hc
      rcases hT with e | e | e <;> (rw [e] at hc; exact absurd hc (by decide))
    · obtain ⟨cur, hr⟩ := row_type h.row hv
      rw [hr] at hc
      injection hc with hc
      injection hc with _ hc
      rcases hT with e | e | e <;> (rw [e] at hc; exact absurd hc (by decide))
  · rintro rfl
    obtain ⟨cur, hr⟩ := row_type h.row hb
    rw [h.box] at hr
    injection hr with hr
    injection hr with _ hr
    exact absurd hr (by decide)
theorem RTabW.keep (h : RTabW w u rm Fm t fv) {Fm' : Nat → Prop} {m' : M} (hm : RMem w' rm Fm' m') (ho : ∀ i, (i = u ∨ fv.ownBlock = some i) → w'.heap[i]? = w.heap[i]?) : RTabW w' u rm Fm' { t with m := m' } fv :=
  ⟨(ho u (.inl rfl)).trans h.box, hm, row_of_block h.row (fun b e => ho b (.inr e))⟩
theorem RTabW.below (h : RTabW w u rm Fm t fv) (k : Below w.heap.size w w') : RTabW w' u rm Fm t fv :=
  h.keep (m' := t.m) (h.mem.turn (Turn.of_below (F := fun _ => False) k) (fun _ _ h => h)) (fun i hi => k.block i (h.foot_lt i (.inr hi)))
theorem RTab.turn {G : Nat → Prop} (h : RTab w u rm F t) (k : Turn G w w') (hs : Sep F G) : RTab w' u rm F t := by
  obtain ⟨Fm, fv, hw, rfl⟩ := h
  exact ⟨Fm, fv, hw.keep (m' := t.m) (hw.mem.turn k (fun i hi => hs i (.inl hi))) (fun i hi => k.block i (hw.foot_lt i (.inr hi)) (hs i (.inr hi))), rfl⟩
theorem RTab.below (h : RTab w u rm F t) (k : Below w.heap.size w w') : RTab w' u rm F t := h.turn (Turn.of_below (F := fun _ => False) k) (fun _ _ h => h)
theorem RTabW.cells (h : RTabW w u rm Fm t fv) : w.cell? ⟨u, 0, none⟩ = some (.pointer (some ⟨rm, 0, none⟩)) ∧ w.cell? ⟨u, 1, none⟩ = some (.int .i64 t.n) ∧ w.cell? ⟨u, 2, none⟩ = some fv ∧ ∀ o, w.frozen? ⟨u, o, none⟩ = false := by
  refine ⟨?_, ?_, ?_, fun o => ?_⟩ <;> simp [World.cell?, World.frozen?, h.box]
/-- The flows, for the walk. -/
theorem RTabW.flows (h : RTabW w u rm Fm t fv) : ∃ a c, fv = .slice a t.fl.length c ∧ ∀ j p, t.fl[j]? = some p → ∃ g, a = some ⟨g, 0, none⟩ ∧ ∀ i v, (flowT p)[i]? = some v → w.cell? ⟨g, j * 7 + i, none⟩ = some v := by
  obtain ⟨a, c, e, hc⟩ := row_form h.row
  refine ⟨a, c, e, fun j p hp => ?_⟩
  obtain ⟨g, e1, _⟩ := hc (j * 7 + 0) _ (flowsT_get hp (i := 0) rfl)
  refine ⟨g, e1, fun i v hv => ?_⟩
  obtain ⟨g', e2, h2, _⟩ := hc (j * 7 + i) v (flowsT_get hp hv)
  rw [e1] at e2
  cases e2
  exact h2
end
def RTabPost (w : World) (u rm : Nat) (F : Nat → Prop) (r : Value) (t : Tb) (e : Ending) (w' : World) : Prop :=
  e = .returned r ∧ ∃ F', RTab w' u rm F' t ∧ Turn F w w' ∧ Ext w F F'
theorem RTab.mem_post {w : World} {u rm : Nat} {F : Nat → Prop} {t : Tb} {f : FuncId} {args : Array Value} {r : Value} {m' : M} (h : RTab w u rm F t) (hc : ∀ Fm, RMem w rm Fm t.m → Calls Try.prog f args w (RMemPost w rm Fm r m')) :
    Calls Try.prog f args w (RTabPost w u rm F r { t with m := m' }) := by
  obtain ⟨Fm, fv, hw, rfl⟩ := h
  refine (hc Fm hw.mem).mono ?_
  rintro e w' ⟨rfl, F', hm, ht, hx⟩
  obtain ⟨a1, a2⟩ := hw.apart
  refine ⟨rfl, rtabFoot u F' fv, ⟨F', fv, hw.keep hm (fun i hi => ht.block i (hw.foot_lt i (.inr hi)) (fun hf => ?_)), rfl⟩, ht.mono (fun i hi => .inl hi), fun i hi => ?_⟩
  · obtain ⟨b1, b2⟩ := a1 i hf
    exact hi.elim b1 b2
  · rcases hi with h1 | h1
    · exact (hx i h1).imp .inl id
    · exact .inl (.inr h1)
set_option maxHeartbeats 1000000 in
theorem exec_flowAt {o : Oper} {ev : Operand → Value} {w : World} (x y : Operand) (ho : o.op = .indexAddr 90 x y) {g n c j : Nat} (hx : ev x = .slice (some ⟨g, 0, none⟩) n c) (hy : ev y = .int .i64 (j : Nat)) (hj : j < n) : (execOp ev o).run Try.prog w = .ok (.value (.pointer (some ⟨g, j * 7, none⟩))) w := by
  unfold execOp
  have hni : (0 : Int) ≤ (j : Int) := by omega
  have hnl : (j : Int) < (n : Int) := by omega
  simp only [ho, hx, hy]
  go_simp
set_option maxHeartbeats 4000000 in
set_option maxRecDepth 100000 in
theorem rtmay_any {w : World} {u rm : Nat} {F : Nat → Prop} {t : Tb} (h : RTab w u rm F t) (ok : t.Ok) (hh : t.m.held) (th s : Int) :
    Calls Try.prog 43 #[.pointer (some ⟨u, 0, none⟩), .int .i64 th, .int .i64 s] w fun e w' => e = .returned (.int .i64 (t.may th s)) ∧ w' = w := by
  obtain ⟨Fm, fv, hw, rfl⟩ := h
  obtain ⟨c0, c1, -⟩ := hw.cells
  have HM := Lib.hid hw.mem
  have HS := Lib.hid ok.sm
  have hle := ok.le
  have HV : Hid (t.may th s = if s < 0 ∨ (t.n : Int) ≤ s then 1 else if th < 0 ∨ t.m.holder s ≠ th then 13 else 0) := Lib.hid rfl
  have HH := Lib.hid (fun W (hm : RMem W rm Fm t.m) => rholder_any rm Fm t.m s W hm HS.out hh)
  clear hw ok hh
  generalize t.may th s = r at *
  generalize t.m.holder s = ho at *
  generalize t.n = n at *
  by_cases h1 : s < 0
  · have HR : Hid (r = 1) := Lib.hid (by rw [HV.out, if_pos (.inl h1)])
    clear HV
    go_enter Try.func43, Try.ntmps43
    go_wp2_with fail
    go_ret
    exact ⟨by (rw [HR.out]) <;> rfl, rfl⟩
  · by_cases h2 : (n : Int) ≤ s
    · have HR : Hid (r = 1) := Lib.hid (by rw [HV.out, if_pos (.inr h2)])
      clear HV
      go_enter Try.func43, Try.ntmps43
      go_wp2_with fail
      go_ret
      exact ⟨by (rw [HR.out]) <;> rfl, rfl⟩
    · have HV2 : Hid (r = if th < 0 ∨ ho ≠ th then 13 else 0) := Lib.hid (by rw [HV.out, if_neg (fun hh => hh.elim h1 h2)])
      clear HV
      by_cases h3 : th < 0
      · have HR : Hid (r = 13) := Lib.hid (by rw [HV2.out, if_pos (.inl h3)])
        clear HV2
        go_enter Try.func43, Try.ntmps43
        go_wp2_with fail
        go_ret
        exact ⟨by (rw [HR.out]) <;> rfl, rfl⟩
      · by_cases h4 : ho = th
        · have HR : Hid (r = 0) := Lib.hid (by rw [HV2.out, if_neg (fun hh => hh.elim h3 (fun hn => hn h4))])
          have q : (ho != th) = false := by simp [h4]
          clear HV2
          go_enter Try.func43, Try.ntmps43
          go_wp2_with fail
          refine (HH.out _ HM.out).mono ?_
          rintro e w' ⟨rfl, rfl⟩
          go_wp2_with fail
          go_ret
          exact ⟨by (rw [HR.out]) <;> rfl, rfl⟩
        · have HR : Hid (r = 13) := Lib.hid (by rw [HV2.out, if_pos (.inr h4)])
          have q : (ho != th) = true := by simp [h4]
          clear HV2
          go_enter Try.func43, Try.ntmps43
          go_wp2_with fail
          refine (HH.out _ HM.out).mono ?_
          rintro e w' ⟨rfl, rfl⟩
          go_wp2_with fail
          go_ret
          exact ⟨by (rw [HR.out]) <;> rfl, rfl⟩
set_option maxHeartbeats 4000000 in
set_option maxRecDepth 100000 in
theorem rtof_any {w : World} {u rm : Nat} {F : Nat → Prop} {t : Tb} (h : RTab w u rm F t) (ok : t.Ok) {k : Ky} (hk : k.In) :
    Calls Try.prog 44 #[.pointer (some ⟨u, 0, none⟩), kyV k] w fun e w' => e = .returned (.int .i64 (t.of k : Nat)) ∧ Below w.heap.size w w' := by
  have HB1 : Hid (Below w.heap.size w (w.alloc (.cells (kyC k) 28))) := Lib.hid ((Below.refl _ w).alloc (Nat.le_refl _) _)
  have h1 := h.below HB1.out
  obtain ⟨Fm, fv, hw, -⟩ := h1
  obtain ⟨-, c1, -⟩ := hw.cells
  have d0 : (w.alloc (.cells (kyC k) 28)).cell? ⟨w.heap.size, 0, none⟩ = some (.int .u32 k.a0) := by simp [kyC]
  have d1 : (w.alloc (.cells (kyC k) 28)).cell? ⟨w.heap.size, 1, none⟩ = some (.int .u32 k.a1) := by simp [kyC]
  have d2 : (w.alloc (.cells (kyC k) 28)).cell? ⟨w.heap.size, 2, none⟩ = some (.int .u16 k.p0) := by simp [kyC]
  have d3 : (w.alloc (.cells (kyC k) 28)).cell? ⟨w.heap.size, 3, none⟩ = some (.int .u16 k.p1) := by simp [kyC]
  have d4 : (w.alloc (.cells (kyC k) 28)).cell? ⟨w.heap.size, 4, none⟩ = some (.int .u8 k.pr) := by simp [kyC]
  have HS := Lib.hid (fun W => refStripe_any hk ok.pow W)
  have HV : Hid (t.of k = stripeF k t.n) := Lib.hid rfl
  have hle := ok.le
  clear hw h
  generalize t.of k = r at *
  generalize t.n = n at *
  go_enter Try.func44, Try.ntmps44
  go_wp2_with fail
  generalize w.alloc (.cells (kyC k) 28) = w1 at *
  refine WQ.enter w1 (Since.refl _) (by kernel_rfl) (by kernel_rfl) ?_
  refine WQ.val (by rfl) (fun v hv => by have k0 := hv.cell c1; have k1 := hv.cell d0; have k2 := hv.cell d1; have k3 := hv.cell d2; have k4 := hv.cell d3; have k5 := hv.cell d4; go_simp; first | done | with_reducible rfl | (rw [if_neg (by omega)])) ?_; simp only [Act.put, List.setIfInBounds_toArray, List.set_cons_zero, List.set_cons_succ]
  refine WQ.val (by rfl) (fun v hv => by have k0 := hv.cell c1; have k1 := hv.cell d0; have k2 := hv.cell d1; have k3 := hv.cell d2; have k4 := hv.cell d3; have k5 := hv.cell d4; go_simp; first | done | with_reducible rfl | (rw [if_neg (by omega)])) ?_; simp only [Act.put, List.setIfInBounds_toArray, List.set_cons_zero, List.set_cons_succ]
  refine WQ.val (by rfl) (fun v hv => by have k0 := hv.cell c1; have k1 := hv.cell d0; have k2 := hv.cell d1; have k3 := hv.cell d2; have k4 := hv.cell d3; have k5 := hv.cell d4; go_simp; first | done | with_reducible rfl | (rw [if_neg (by omega)])) ?_; simp only [Act.put, List.setIfInBounds_toArray, List.set_cons_zero, List.set_cons_succ]
  refine WQ.val (by rfl) (fun v hv => by have k0 := hv.cell c1; have k1 := hv.cell d0; have k2 := hv.cell d1; have k3 := hv.cell d2; have k4 := hv.cell d3; have k5 := hv.cell d4; go_simp; first | done | with_reducible rfl | (rw [if_neg (by omega)])) ?_; simp only [Act.put, List.setIfInBounds_toArray, List.set_cons_zero, List.set_cons_succ]
  refine WQ.val (by rfl) (fun v hv => by have k0 := hv.cell c1; have k1 := hv.cell d0; have k2 := hv.cell d1; have k3 := hv.cell d2; have k4 := hv.cell d3; have k5 := hv.cell d4; go_simp; first | done | with_reducible rfl | (rw [if_neg (by omega)])) ?_; simp only [Act.put, List.setIfInBounds_toArray, List.set_cons_zero, List.set_cons_succ]
  refine WQ.call (f := 13) (args := #[(.agg #[.int .u32 k.a0, .int .u32 k.a1, .int .u16 k.p0, .int .u16 k.p1, .int .u8 k.pr]), .int .i64 (n : Nat)]) (by rfl) (fun v hv => by go_simp) (fun v hv => (HS.out v).mono (fun e v' ⟨he, hb⟩ => ⟨he, hv.step hb⟩)) ?_; simp only [Act.put, List.setIfInBounds_toArray, List.set_cons_zero, List.set_cons_succ]
  refine WQ.val (by rfl) (fun v hv => by have k0 := hv.cell c1; have k1 := hv.cell d0; have k2 := hv.cell d1; have k3 := hv.cell d2; have k4 := hv.cell d3; have k5 := hv.cell d4; go_simp; first | done | with_reducible rfl | (rw [if_neg (by omega)])) ?_; simp only [Act.put, List.setIfInBounds_toArray, List.set_cons_zero, List.set_cons_succ]
  refine WQ.done ?_
  intro w2 hw2
  have HB2 := Lib.hid (below_then HB1.out hw2)
  clear c1 d0 d1 d2 d3 d4 hw2
  go_wp2_with fail
  go_ret
  exact ⟨by (rw [HV.out]) <;> rfl, HB2.out⟩
/-- Where a flow stands, or would stand. -/
def Stands (l : Kl (Int × Bool)) (k : Ky) (n : Nat) : Prop := n ≤ l.length ∧ (∀ j p, j < n → l[j]? = some p → ltK p.1 k) ∧ ∀ p, l[n]? = some p → ¬ ltK p.1 k
def PlacePost (l : Kl (Int × Bool)) (k : Ky) (w : World) (e : Ending) (w' : World) : Prop := ∃ n : Nat, e = .returned (.tuple #[.int .i64 (n : Nat), .bool (hasL l k)]) ∧ Stands l k n ∧ Below w.heap.size w w'
theorem stands_has {l : Kl (Int × Bool)} (hr : Rises (keysL l)) {k : Ky} {n : Nat} (h : Stands l k n) : (∃ x, l[n]? = some (k, x) ∧ hasL l k = true ∧ getL l k = some x) ∨ ((∀ p, l[n]? = some p → p.1 ≠ k) ∧ hasL l k = false ∧ getL l k = none ∧ ∀ y, putL l k y = l.take n ++ (k, y) :: l.drop n) := by
  rcases place_here hr h.1 h.2.1 h.2.2 with ⟨x, h1, h2⟩ | ⟨h1, h2, h3⟩
  · exact .inl ⟨x, h1, by unfold hasL; rw [h2]; rfl, h2⟩
  · exact .inr ⟨h1, by unfold hasL; rw [h2]; rfl, h2, h3⟩
set_option maxHeartbeats 8000000 in
set_option maxRecDepth 100000 in
theorem rplace_any {w : World} {u rm : Nat} {F : Nat → Prop} {t : Tb} (h : RTab w u rm F t) (ok : t.Ok) {k : Ky} (hk : k.In) :
    Calls Try.prog 46 #[.pointer (some ⟨u, 0, none⟩), kyV k] w (PlacePost t.fl k w) := by
  have HB1 : Hid (Below w.heap.size w (w.alloc (.cells (kyC k) 28))) := Lib.hid ((Below.refl _ w).alloc (Nat.le_refl _) _)
  have h1 := h.below HB1.out
  obtain ⟨Fm, fv, hw, -⟩ := h1
  obtain ⟨-, -, c2, -⟩ := hw.cells
  obtain ⟨a, c, rfl, hfl⟩ := hw.flows
  have d0 : (w.alloc (.cells (kyC k) 28)).cell? ⟨w.heap.size, 0, none⟩ = some (.int .u32 k.a0) := by simp [kyC]
  have d1 : (w.alloc (.cells (kyC k) 28)).cell? ⟨w.heap.size, 1, none⟩ = some (.int .u32 k.a1) := by simp [kyC]
  have d2 : (w.alloc (.cells (kyC k) 28)).cell? ⟨w.heap.size, 2, none⟩ = some (.int .u16 k.p0) := by simp [kyC]
  have d3 : (w.alloc (.cells (kyC k) 28)).cell? ⟨w.heap.size, 3, none⟩ = some (.int .u16 k.p1) := by simp [kyC]
  have d4 : (w.alloc (.cells (kyC k) 28)).cell? ⟨w.heap.size, 4, none⟩ = some (.int .u8 k.pr) := by simp [kyC]
  have HFL := Lib.hid hfl
  have HK := Lib.hid hk
  have HKI := Lib.hid ok.kin
  have HRI := Lib.hid ok.rise
  have hfew := ok.few
  clear hw h hfl hk ok
  generalize hm : t.fl.length = m at *
  have HM := Lib.hid hm
  clear hm
  go_enter Try.func46, Try.ntmps46
  go_wp2_with fail
  generalize w.alloc (.cells (kyC k) 28) = w1 at *
  go_loopw [6] (fun i wr => ∃ y : Nat, y ≤ m ∧ i = .int .i64 (y : Nat) ∧ (∀ j p, j < y → t.fl[j]? = some p → ltK p.1 k) ∧ Below w1.heap.size w1 wr) (fun i _ => m - (intOf i).toNat)
  case atStart => exact ⟨0, Nat.zero_le _, rfl, (fun j p hj => absurd hj (by omega)), Below.refl _ _⟩
  case round =>
    obtain ⟨y, hy, rfl, hlt, hb⟩ := hrel
    have HLT := Lib.hid hlt
    have HB := Lib.hid hb
    have e2 := Since.cell hb c2
    have e0 := Since.cell hb d0
    have e1 := Since.cell hb d1
    have e3 := Since.cell hb d2
    have e4 := Since.cell hb d3
    have e5 := Since.cell hb d4
    clear hlt c2 d0 d1 d2 d3 d4
    by_cases hyl : y < m
    · obtain ⟨p, hp⟩ : ∃ p, t.fl[y]? = some p := ⟨_, List.getElem?_eq_getElem (by rw [HM.out]; exact hyl)⟩
      have HP := Lib.hid hp
      have hpi := HKI.out p.1 (List.mem_map.2 ⟨p, List.mem_of_getElem? hp, rfl⟩)
      obtain ⟨g, rfl, hc⟩ := HFL.out y p hp
      have f0 : wr.cell? ⟨g, y * 7, none⟩ = some (.int .u32 p.1.a0) := Since.cell hb (hc 0 _ rfl)
      have f1 : wr.cell? ⟨g, y * 7 + 1, none⟩ = some (.int .u32 p.1.a1) := Since.cell hb (hc 1 _ rfl)
      have f2 : wr.cell? ⟨g, y * 7 + 2, none⟩ = some (.int .u16 p.1.p0) := Since.cell hb (hc 2 _ rfl)
      have f3 : wr.cell? ⟨g, y * 7 + 3, none⟩ = some (.int .u16 p.1.p1) := Since.cell hb (hc 3 _ rfl)
      have f4 : wr.cell? ⟨g, y * 7 + 4, none⟩ = some (.int .u8 p.1.pr) := Since.cell hb (hc 4 _ rfl)
      have HLS := Lib.hid (fun W => refLess_any p.1 k W hpi HK.out)
      have HPI := Lib.hid hpi
      have HYL := Lib.hid hyl
      have hyi : (y : Int) < (m : Int) := by omega
      clear hc hp hpi hb
      cases hls : lessK p.1 k with
      | true =>
        rw [hls] at HLS
        have hll := Lib.hid (lessK_iff.1 hls)
        clear hls
        go_wp2_with fail
        refine WQ.enter wr (Since.refl _) (by kernel_rfl) (by kernel_rfl) ?_
        refine WQ.val (by rfl) (fun v hv => by have k0 := hv.cell e2; have k1 := hv.cell e0; have k2 := hv.cell e1; have k3 := hv.cell e3; have k4 := hv.cell e4; have k5 := hv.cell e5; have k6 := hv.cell f0; have k7 := hv.cell f1; have k8 := hv.cell f2; have k9 := hv.cell f3; have k10 := hv.cell f4; go_simp; first | done | with_reducible rfl | (rw [if_neg (by omega)])) ?_; simp only [Act.put, List.setIfInBounds_toArray, List.set_cons_zero, List.set_cons_succ]
        refine WQ.val (by rfl) (fun v hv => by have k0 := hv.cell e2; have k1 := hv.cell e0; have k2 := hv.cell e1; have k3 := hv.cell e3; have k4 := hv.cell e4; have k5 := hv.cell e5; have k6 := hv.cell f0; have k7 := hv.cell f1; have k8 := hv.cell f2; have k9 := hv.cell f3; have k10 := hv.cell f4; go_simp; first | done | with_reducible rfl | (rw [if_neg (by omega)])) ?_; simp only [Act.put, List.setIfInBounds_toArray, List.set_cons_zero, List.set_cons_succ]
        refine WQ.val (by rfl) (fun v hv => by have k0 := hv.cell e2; have k1 := hv.cell e0; have k2 := hv.cell e1; have k3 := hv.cell e3; have k4 := hv.cell e4; have k5 := hv.cell e5; have k6 := hv.cell f0; have k7 := hv.cell f1; have k8 := hv.cell f2; have k9 := hv.cell f3; have k10 := hv.cell f4; go_simp; first | done | with_reducible rfl | (rw [if_neg (by omega)])) ?_; simp only [Act.put, List.setIfInBounds_toArray, List.set_cons_zero, List.set_cons_succ]
        refine WQ.val (by rfl) (fun v hv => by have k0 := hv.cell e2; have k1 := hv.cell e0; have k2 := hv.cell e1; have k3 := hv.cell e3; have k4 := hv.cell e4; have k5 := hv.cell e5; have k6 := hv.cell f0; have k7 := hv.cell f1; have k8 := hv.cell f2; have k9 := hv.cell f3; have k10 := hv.cell f4; go_simp; first | done | with_reducible rfl | (rw [if_neg (by omega)])) ?_; simp only [Act.put, List.setIfInBounds_toArray, List.set_cons_zero, List.set_cons_succ]
        refine WQ.val (by rfl) (fun v hv => by have k0 := hv.cell e2; have k1 := hv.cell e0; have k2 := hv.cell e1; have k3 := hv.cell e3; have k4 := hv.cell e4; have k5 := hv.cell e5; have k6 := hv.cell f0; have k7 := hv.cell f1; have k8 := hv.cell f2; have k9 := hv.cell f3; have k10 := hv.cell f4; go_simp; first | done | with_reducible rfl | (rw [if_neg (by omega)])) ?_; simp only [Act.put, List.setIfInBounds_toArray, List.set_cons_zero, List.set_cons_succ]
        refine WQ.val (by rfl) (fun v hv => by have k0 := hv.cell e2; have k1 := hv.cell e0; have k2 := hv.cell e1; have k3 := hv.cell e3; have k4 := hv.cell e4; have k5 := hv.cell e5; have k6 := hv.cell f0; have k7 := hv.cell f1; have k8 := hv.cell f2; have k9 := hv.cell f3; have k10 := hv.cell f4; go_simp; first | done | with_reducible rfl | (rw [if_neg (by omega)])) ?_; simp only [Act.put, List.setIfInBounds_toArray, List.set_cons_zero, List.set_cons_succ]
        refine WQ.val (by rfl) (fun v hv => by have k0 := hv.cell e2; have k1 := hv.cell e0; have k2 := hv.cell e1; have k3 := hv.cell e3; have k4 := hv.cell e4; have k5 := hv.cell e5; have k6 := hv.cell f0; have k7 := hv.cell f1; have k8 := hv.cell f2; have k9 := hv.cell f3; have k10 := hv.cell f4; go_simp; first | done | with_reducible rfl | (rw [if_neg (by omega)])) ?_; simp only [Act.put, List.setIfInBounds_toArray, List.set_cons_zero, List.set_cons_succ]
        refine WQ.val (by rfl) (fun v hv => by have k0 := hv.cell e2; have k1 := hv.cell e0; have k2 := hv.cell e1; have k3 := hv.cell e3; have k4 := hv.cell e4; have k5 := hv.cell e5; have k6 := hv.cell f0; have k7 := hv.cell f1; have k8 := hv.cell f2; have k9 := hv.cell f3; have k10 := hv.cell f4; go_simp; first | done | with_reducible rfl | (rw [if_neg (by omega)])) ?_; simp only [Act.put, List.setIfInBounds_toArray, List.set_cons_zero, List.set_cons_succ]
        refine WQ.val (by rfl) (fun v hv => by have k0 := hv.cell e2; have k1 := hv.cell e0; have k2 := hv.cell e1; have k3 := hv.cell e3; have k4 := hv.cell e4; have k5 := hv.cell e5; have k6 := hv.cell f0; have k7 := hv.cell f1; have k8 := hv.cell f2; have k9 := hv.cell f3; have k10 := hv.cell f4; go_simp; first | done | with_reducible rfl | (rw [if_neg (by omega)])) ?_; simp only [Act.put, List.setIfInBounds_toArray, List.set_cons_zero, List.set_cons_succ]
        refine WQ.val (by rfl) (fun v hv => by have k0 := hv.cell e2; have k1 := hv.cell e0; have k2 := hv.cell e1; have k3 := hv.cell e3; have k4 := hv.cell e4; have k5 := hv.cell e5; have k6 := hv.cell f0; have k7 := hv.cell f1; have k8 := hv.cell f2; have k9 := hv.cell f3; have k10 := hv.cell f4; go_simp; first | done | with_reducible rfl | (rw [if_neg (by omega)])) ?_; simp only [Act.put, List.setIfInBounds_toArray, List.set_cons_zero, List.set_cons_succ]
        refine WQ.val (by rfl) (fun v hv => by have k0 := hv.cell e2; have k1 := hv.cell e0; have k2 := hv.cell e1; have k3 := hv.cell e3; have k4 := hv.cell e4; have k5 := hv.cell e5; have k6 := hv.cell f0; have k7 := hv.cell f1; have k8 := hv.cell f2; have k9 := hv.cell f3; have k10 := hv.cell f4; go_simp; first | done | with_reducible rfl | (rw [if_neg (by omega)])) ?_; simp only [Act.put, List.setIfInBounds_toArray, List.set_cons_zero, List.set_cons_succ]
        refine WQ.val (by rfl) (fun v hv => by have k0 := hv.cell e2; have k1 := hv.cell e0; have k2 := hv.cell e1; have k3 := hv.cell e3; have k4 := hv.cell e4; have k5 := hv.cell e5; have k6 := hv.cell f0; have k7 := hv.cell f1; have k8 := hv.cell f2; have k9 := hv.cell f3; have k10 := hv.cell f4; go_simp; first | done | with_reducible rfl | (rw [if_neg (by omega)])) ?_; simp only [Act.put, List.setIfInBounds_toArray, List.set_cons_zero, List.set_cons_succ]
        refine WQ.val (by rfl) (fun v hv => by have k0 := hv.cell e2; have k1 := hv.cell e0; have k2 := hv.cell e1; have k3 := hv.cell e3; have k4 := hv.cell e4; have k5 := hv.cell e5; have k6 := hv.cell f0; have k7 := hv.cell f1; have k8 := hv.cell f2; have k9 := hv.cell f3; have k10 := hv.cell f4; go_simp; first | done | with_reducible rfl | (rw [if_neg (by omega)])) ?_; simp only [Act.put, List.setIfInBounds_toArray, List.set_cons_zero, List.set_cons_succ]
        refine WQ.val (by rfl) (fun v hv => exec_flowAt (.tmp 18) (.tmp 19) rfl rfl rfl HYL.out) ?_; simp only [Act.put, List.setIfInBounds_toArray, List.set_cons_zero, List.set_cons_succ]
        refine WQ.val (by rfl) (fun v hv => by have k0 := hv.cell e2; have k1 := hv.cell e0; have k2 := hv.cell e1; have k3 := hv.cell e3; have k4 := hv.cell e4; have k5 := hv.cell e5; have k6 := hv.cell f0; have k7 := hv.cell f1; have k8 := hv.cell f2; have k9 := hv.cell f3; have k10 := hv.cell f4; go_simp; first | done | with_reducible rfl | (rw [if_neg (by omega)])) ?_; simp only [Act.put, List.setIfInBounds_toArray, List.set_cons_zero, List.set_cons_succ]
        refine WQ.val (by rfl) (fun v hv => by have k0 := hv.cell e2; have k1 := hv.cell e0; have k2 := hv.cell e1; have k3 := hv.cell e3; have k4 := hv.cell e4; have k5 := hv.cell e5; have k6 := hv.cell f0; have k7 := hv.cell f1; have k8 := hv.cell f2; have k9 := hv.cell f3; have k10 := hv.cell f4; go_simp; first | done | with_reducible rfl | (rw [if_neg (by omega)])) ?_; simp only [Act.put, List.setIfInBounds_toArray, List.set_cons_zero, List.set_cons_succ]
        refine WQ.val (by rfl) (fun v hv => by have k0 := hv.cell e2; have k1 := hv.cell e0; have k2 := hv.cell e1; have k3 := hv.cell e3; have k4 := hv.cell e4; have k5 := hv.cell e5; have k6 := hv.cell f0; have k7 := hv.cell f1; have k8 := hv.cell f2; have k9 := hv.cell f3; have k10 := hv.cell f4; go_simp; first | done | with_reducible rfl | (rw [if_neg (by omega)])) ?_; simp only [Act.put, List.setIfInBounds_toArray, List.set_cons_zero, List.set_cons_succ]
        refine WQ.call (f := 60) (args := #[(.agg #[.int .u32 p.1.a0, .int .u32 p.1.a1, .int .u16 p.1.p0, .int .u16 p.1.p1, .int .u8 p.1.pr]), (.agg #[.int .u32 k.a0, .int .u32 k.a1, .int .u16 k.p0, .int .u16 k.p1, .int .u8 k.pr])]) (by rfl) (fun v hv => by go_simp) (fun v hv => (HLS.out v).mono (fun e v' ⟨he, hb⟩ => ⟨he, hv.step hb⟩)) ?_; simp only [Act.put, List.setIfInBounds_toArray, List.set_cons_zero, List.set_cons_succ]
        refine WQ.val (by rfl) (fun v hv => by have k0 := hv.cell e2; have k1 := hv.cell e0; have k2 := hv.cell e1; have k3 := hv.cell e3; have k4 := hv.cell e4; have k5 := hv.cell e5; have k6 := hv.cell f0; have k7 := hv.cell f1; have k8 := hv.cell f2; have k9 := hv.cell f3; have k10 := hv.cell f4; go_simp; first | done | with_reducible rfl | (rw [if_neg (by omega)])) ?_; simp only [Act.put, List.setIfInBounds_toArray, List.set_cons_zero, List.set_cons_succ]
        refine WQ.done ?_
        intro w5 hw5
        have HB5 : Hid (Below w1.heap.size w1 w5) := Lib.hid (HB.out.trans (Below.mono hw5 HB.out.size))
        clear e0 e1 e2 e3 e4 e5 f0 f1 f2 f3 f4 hw5
        go_wp2_with fail
        go_roundw
        case rel => exact ⟨y + 1, by omega, by push_cast; rfl, (fun j q hj hq => by
          by_cases e : j = y
          · subst e
            have := HP.out
            rw [this] at hq
            cases hq
            exact hll.out
          · exact HLT.out j q (by omega) hq), HB5.out⟩
        case measure => simp [intOf]; omega
      | false =>
        rw [hls] at HLS
        have hnl : ¬ ltK p.1 k := lessK_not.1 hls
        have HST : Hid (Stands t.fl k y) := Lib.hid ⟨by rw [HM.out]; exact hy, HLT.out, fun q hq => by
          have := HP.out
          rw [this] at hq
          cases hq
          exact hnl⟩
        have HDE : Hid (decide (p.1 = k) = hasL t.fl k) := Lib.hid (by
          rcases stands_has HRI.out HST.out with ⟨x, h1, h2, _⟩ | ⟨h1, h2, _⟩
          · rw [HP.out] at h1
            cases h1
            rw [h2]; simp
          · rw [h2]; simpa using h1 p HP.out)
        clear hls hnl
        go_wp2_with fail
        refine WQ.enter wr (Since.refl _) (by kernel_rfl) (by kernel_rfl) ?_
        refine WQ.val (by rfl) (fun v hv => by have k0 := hv.cell e2; have k1 := hv.cell e0; have k2 := hv.cell e1; have k3 := hv.cell e3; have k4 := hv.cell e4; have k5 := hv.cell e5; have k6 := hv.cell f0; have k7 := hv.cell f1; have k8 := hv.cell f2; have k9 := hv.cell f3; have k10 := hv.cell f4; go_simp; first | done | with_reducible rfl | (rw [if_neg (by omega)])) ?_; simp only [Act.put, List.setIfInBounds_toArray, List.set_cons_zero, List.set_cons_succ]
        refine WQ.val (by rfl) (fun v hv => by have k0 := hv.cell e2; have k1 := hv.cell e0; have k2 := hv.cell e1; have k3 := hv.cell e3; have k4 := hv.cell e4; have k5 := hv.cell e5; have k6 := hv.cell f0; have k7 := hv.cell f1; have k8 := hv.cell f2; have k9 := hv.cell f3; have k10 := hv.cell f4; go_simp; first | done | with_reducible rfl | (rw [if_neg (by omega)])) ?_; simp only [Act.put, List.setIfInBounds_toArray, List.set_cons_zero, List.set_cons_succ]
        refine WQ.val (by rfl) (fun v hv => by have k0 := hv.cell e2; have k1 := hv.cell e0; have k2 := hv.cell e1; have k3 := hv.cell e3; have k4 := hv.cell e4; have k5 := hv.cell e5; have k6 := hv.cell f0; have k7 := hv.cell f1; have k8 := hv.cell f2; have k9 := hv.cell f3; have k10 := hv.cell f4; go_simp; first | done | with_reducible rfl | (rw [if_neg (by omega)])) ?_; simp only [Act.put, List.setIfInBounds_toArray, List.set_cons_zero, List.set_cons_succ]
        refine WQ.val (by rfl) (fun v hv => by have k0 := hv.cell e2; have k1 := hv.cell e0; have k2 := hv.cell e1; have k3 := hv.cell e3; have k4 := hv.cell e4; have k5 := hv.cell e5; have k6 := hv.cell f0; have k7 := hv.cell f1; have k8 := hv.cell f2; have k9 := hv.cell f3; have k10 := hv.cell f4; go_simp; first | done | with_reducible rfl | (rw [if_neg (by omega)])) ?_; simp only [Act.put, List.setIfInBounds_toArray, List.set_cons_zero, List.set_cons_succ]
        refine WQ.val (by rfl) (fun v hv => by have k0 := hv.cell e2; have k1 := hv.cell e0; have k2 := hv.cell e1; have k3 := hv.cell e3; have k4 := hv.cell e4; have k5 := hv.cell e5; have k6 := hv.cell f0; have k7 := hv.cell f1; have k8 := hv.cell f2; have k9 := hv.cell f3; have k10 := hv.cell f4; go_simp; first | done | with_reducible rfl | (rw [if_neg (by omega)])) ?_; simp only [Act.put, List.setIfInBounds_toArray, List.set_cons_zero, List.set_cons_succ]
        refine WQ.val (by rfl) (fun v hv => by have k0 := hv.cell e2; have k1 := hv.cell e0; have k2 := hv.cell e1; have k3 := hv.cell e3; have k4 := hv.cell e4; have k5 := hv.cell e5; have k6 := hv.cell f0; have k7 := hv.cell f1; have k8 := hv.cell f2; have k9 := hv.cell f3; have k10 := hv.cell f4; go_simp; first | done | with_reducible rfl | (rw [if_neg (by omega)])) ?_; simp only [Act.put, List.setIfInBounds_toArray, List.set_cons_zero, List.set_cons_succ]
        refine WQ.val (by rfl) (fun v hv => by have k0 := hv.cell e2; have k1 := hv.cell e0; have k2 := hv.cell e1; have k3 := hv.cell e3; have k4 := hv.cell e4; have k5 := hv.cell e5; have k6 := hv.cell f0; have k7 := hv.cell f1; have k8 := hv.cell f2; have k9 := hv.cell f3; have k10 := hv.cell f4; go_simp; first | done | with_reducible rfl | (rw [if_neg (by omega)])) ?_; simp only [Act.put, List.setIfInBounds_toArray, List.set_cons_zero, List.set_cons_succ]
        refine WQ.val (by rfl) (fun v hv => by have k0 := hv.cell e2; have k1 := hv.cell e0; have k2 := hv.cell e1; have k3 := hv.cell e3; have k4 := hv.cell e4; have k5 := hv.cell e5; have k6 := hv.cell f0; have k7 := hv.cell f1; have k8 := hv.cell f2; have k9 := hv.cell f3; have k10 := hv.cell f4; go_simp; first | done | with_reducible rfl | (rw [if_neg (by omega)])) ?_; simp only [Act.put, List.setIfInBounds_toArray, List.set_cons_zero, List.set_cons_succ]
        refine WQ.val (by rfl) (fun v hv => by have k0 := hv.cell e2; have k1 := hv.cell e0; have k2 := hv.cell e1; have k3 := hv.cell e3; have k4 := hv.cell e4; have k5 := hv.cell e5; have k6 := hv.cell f0; have k7 := hv.cell f1; have k8 := hv.cell f2; have k9 := hv.cell f3; have k10 := hv.cell f4; go_simp; first | done | with_reducible rfl | (rw [if_neg (by omega)])) ?_; simp only [Act.put, List.setIfInBounds_toArray, List.set_cons_zero, List.set_cons_succ]
        refine WQ.val (by rfl) (fun v hv => by have k0 := hv.cell e2; have k1 := hv.cell e0; have k2 := hv.cell e1; have k3 := hv.cell e3; have k4 := hv.cell e4; have k5 := hv.cell e5; have k6 := hv.cell f0; have k7 := hv.cell f1; have k8 := hv.cell f2; have k9 := hv.cell f3; have k10 := hv.cell f4; go_simp; first | done | with_reducible rfl | (rw [if_neg (by omega)])) ?_; simp only [Act.put, List.setIfInBounds_toArray, List.set_cons_zero, List.set_cons_succ]
        refine WQ.val (by rfl) (fun v hv => by have k0 := hv.cell e2; have k1 := hv.cell e0; have k2 := hv.cell e1; have k3 := hv.cell e3; have k4 := hv.cell e4; have k5 := hv.cell e5; have k6 := hv.cell f0; have k7 := hv.cell f1; have k8 := hv.cell f2; have k9 := hv.cell f3; have k10 := hv.cell f4; go_simp; first | done | with_reducible rfl | (rw [if_neg (by omega)])) ?_; simp only [Act.put, List.setIfInBounds_toArray, List.set_cons_zero, List.set_cons_succ]
        refine WQ.val (by rfl) (fun v hv => by have k0 := hv.cell e2; have k1 := hv.cell e0; have k2 := hv.cell e1; have k3 := hv.cell e3; have k4 := hv.cell e4; have k5 := hv.cell e5; have k6 := hv.cell f0; have k7 := hv.cell f1; have k8 := hv.cell f2; have k9 := hv.cell f3; have k10 := hv.cell f4; go_simp; first | done | with_reducible rfl | (rw [if_neg (by omega)])) ?_; simp only [Act.put, List.setIfInBounds_toArray, List.set_cons_zero, List.set_cons_succ]
        refine WQ.val (by rfl) (fun v hv => by have k0 := hv.cell e2; have k1 := hv.cell e0; have k2 := hv.cell e1; have k3 := hv.cell e3; have k4 := hv.cell e4; have k5 := hv.cell e5; have k6 := hv.cell f0; have k7 := hv.cell f1; have k8 := hv.cell f2; have k9 := hv.cell f3; have k10 := hv.cell f4; go_simp; first | done | with_reducible rfl | (rw [if_neg (by omega)])) ?_; simp only [Act.put, List.setIfInBounds_toArray, List.set_cons_zero, List.set_cons_succ]
        refine WQ.val (by rfl) (fun v hv => exec_flowAt (.tmp 18) (.tmp 19) rfl rfl rfl HYL.out) ?_; simp only [Act.put, List.setIfInBounds_toArray, List.set_cons_zero, List.set_cons_succ]
        refine WQ.val (by rfl) (fun v hv => by have k0 := hv.cell e2; have k1 := hv.cell e0; have k2 := hv.cell e1; have k3 := hv.cell e3; have k4 := hv.cell e4; have k5 := hv.cell e5; have k6 := hv.cell f0; have k7 := hv.cell f1; have k8 := hv.cell f2; have k9 := hv.cell f3; have k10 := hv.cell f4; go_simp; first | done | with_reducible rfl | (rw [if_neg (by omega)])) ?_; simp only [Act.put, List.setIfInBounds_toArray, List.set_cons_zero, List.set_cons_succ]
        refine WQ.val (by rfl) (fun v hv => by have k0 := hv.cell e2; have k1 := hv.cell e0; have k2 := hv.cell e1; have k3 := hv.cell e3; have k4 := hv.cell e4; have k5 := hv.cell e5; have k6 := hv.cell f0; have k7 := hv.cell f1; have k8 := hv.cell f2; have k9 := hv.cell f3; have k10 := hv.cell f4; go_simp; first | done | with_reducible rfl | (rw [if_neg (by omega)])) ?_; simp only [Act.put, List.setIfInBounds_toArray, List.set_cons_zero, List.set_cons_succ]
        refine WQ.val (by rfl) (fun v hv => by have k0 := hv.cell e2; have k1 := hv.cell e0; have k2 := hv.cell e1; have k3 := hv.cell e3; have k4 := hv.cell e4; have k5 := hv.cell e5; have k6 := hv.cell f0; have k7 := hv.cell f1; have k8 := hv.cell f2; have k9 := hv.cell f3; have k10 := hv.cell f4; go_simp; first | done | with_reducible rfl | (rw [if_neg (by omega)])) ?_; simp only [Act.put, List.setIfInBounds_toArray, List.set_cons_zero, List.set_cons_succ]
        refine WQ.call (f := 60) (args := #[(.agg #[.int .u32 p.1.a0, .int .u32 p.1.a1, .int .u16 p.1.p0, .int .u16 p.1.p1, .int .u8 p.1.pr]), (.agg #[.int .u32 k.a0, .int .u32 k.a1, .int .u16 k.p0, .int .u16 k.p1, .int .u8 k.pr])]) (by rfl) (fun v hv => by go_simp) (fun v hv => (HLS.out v).mono (fun e v' ⟨he, hb⟩ => ⟨he, hv.step hb⟩)) ?_; simp only [Act.put, List.setIfInBounds_toArray, List.set_cons_zero, List.set_cons_succ]
        refine WQ.val (by rfl) (fun v hv => by have k0 := hv.cell e2; have k1 := hv.cell e0; have k2 := hv.cell e1; have k3 := hv.cell e3; have k4 := hv.cell e4; have k5 := hv.cell e5; have k6 := hv.cell f0; have k7 := hv.cell f1; have k8 := hv.cell f2; have k9 := hv.cell f3; have k10 := hv.cell f4; go_simp; first | done | with_reducible rfl | (rw [if_neg (by omega)])) ?_; simp only [Act.put, List.setIfInBounds_toArray, List.set_cons_zero, List.set_cons_succ]
        refine WQ.done ?_
        intro w5 hw5
        have HB5 : Hid (Below w1.heap.size w1 w5) := Lib.hid (HB.out.trans (Below.mono hw5 HB.out.size))
        have g2 := Since.cell hw5 e2
        have g0 := Since.cell hw5 e0
        have g1 := Since.cell hw5 e1
        have g3 := Since.cell hw5 e3
        have g4 := Since.cell hw5 e4
        have g5 := Since.cell hw5 e5
        have h0 := Since.cell hw5 f0
        have h1 := Since.cell hw5 f1
        have h2 := Since.cell hw5 f2
        have h3 := Since.cell hw5 f3
        have h4 := Since.cell hw5 f4
        clear e0 e1 e2 e3 e4 e5 f0 f1 f2 f3 f4 hw5 HLS
        go_wp2_with fail
        refine WQ.enter w5 (Since.refl _) (by kernel_rfl) (by kernel_rfl) ?_
        refine WQ.val (by rfl) (fun v hv => by have k0 := hv.cell g2; have k1 := hv.cell g0; have k2 := hv.cell g1; have k3 := hv.cell g3; have k4 := hv.cell g4; have k5 := hv.cell g5; have k6 := hv.cell h0; have k7 := hv.cell h1; have k8 := hv.cell h2; have k9 := hv.cell h3; have k10 := hv.cell h4; go_simp; first | done | with_reducible rfl | (rw [if_neg (by omega)])) ?_; simp only [Act.put, List.setIfInBounds_toArray, List.set_cons_zero, List.set_cons_succ]
        refine WQ.val (by rfl) (fun v hv => by have k0 := hv.cell g2; have k1 := hv.cell g0; have k2 := hv.cell g1; have k3 := hv.cell g3; have k4 := hv.cell g4; have k5 := hv.cell g5; have k6 := hv.cell h0; have k7 := hv.cell h1; have k8 := hv.cell h2; have k9 := hv.cell h3; have k10 := hv.cell h4; go_simp; first | done | with_reducible rfl | (rw [if_neg (by omega)])) ?_; simp only [Act.put, List.setIfInBounds_toArray, List.set_cons_zero, List.set_cons_succ]
        refine WQ.val (by rfl) (fun v hv => by have k0 := hv.cell g2; have k1 := hv.cell g0; have k2 := hv.cell g1; have k3 := hv.cell g3; have k4 := hv.cell g4; have k5 := hv.cell g5; have k6 := hv.cell h0; have k7 := hv.cell h1; have k8 := hv.cell h2; have k9 := hv.cell h3; have k10 := hv.cell h4; go_simp; first | done | with_reducible rfl | (rw [if_neg (by omega)])) ?_; simp only [Act.put, List.setIfInBounds_toArray, List.set_cons_zero, List.set_cons_succ]
        refine WQ.val (by rfl) (fun v hv => by have k0 := hv.cell g2; have k1 := hv.cell g0; have k2 := hv.cell g1; have k3 := hv.cell g3; have k4 := hv.cell g4; have k5 := hv.cell g5; have k6 := hv.cell h0; have k7 := hv.cell h1; have k8 := hv.cell h2; have k9 := hv.cell h3; have k10 := hv.cell h4; go_simp; first | done | with_reducible rfl | (rw [if_neg (by omega)])) ?_; simp only [Act.put, List.setIfInBounds_toArray, List.set_cons_zero, List.set_cons_succ]
        refine WQ.val (by rfl) (fun v hv => by have k0 := hv.cell g2; have k1 := hv.cell g0; have k2 := hv.cell g1; have k3 := hv.cell g3; have k4 := hv.cell g4; have k5 := hv.cell g5; have k6 := hv.cell h0; have k7 := hv.cell h1; have k8 := hv.cell h2; have k9 := hv.cell h3; have k10 := hv.cell h4; go_simp; first | done | with_reducible rfl | (rw [if_neg (by omega)])) ?_; simp only [Act.put, List.setIfInBounds_toArray, List.set_cons_zero, List.set_cons_succ]
        refine WQ.val (by rfl) (fun v hv => by have k0 := hv.cell g2; have k1 := hv.cell g0; have k2 := hv.cell g1; have k3 := hv.cell g3; have k4 := hv.cell g4; have k5 := hv.cell g5; have k6 := hv.cell h0; have k7 := hv.cell h1; have k8 := hv.cell h2; have k9 := hv.cell h3; have k10 := hv.cell h4; go_simp; first | done | with_reducible rfl | (rw [if_neg (by omega)])) ?_; simp only [Act.put, List.setIfInBounds_toArray, List.set_cons_zero, List.set_cons_succ]
        refine WQ.val (by rfl) (fun v hv => by have k0 := hv.cell g2; have k1 := hv.cell g0; have k2 := hv.cell g1; have k3 := hv.cell g3; have k4 := hv.cell g4; have k5 := hv.cell g5; have k6 := hv.cell h0; have k7 := hv.cell h1; have k8 := hv.cell h2; have k9 := hv.cell h3; have k10 := hv.cell h4; go_simp; first | done | with_reducible rfl | (rw [if_neg (by omega)])) ?_; simp only [Act.put, List.setIfInBounds_toArray, List.set_cons_zero, List.set_cons_succ]
        refine WQ.val (by rfl) (fun v hv => by have k0 := hv.cell g2; have k1 := hv.cell g0; have k2 := hv.cell g1; have k3 := hv.cell g3; have k4 := hv.cell g4; have k5 := hv.cell g5; have k6 := hv.cell h0; have k7 := hv.cell h1; have k8 := hv.cell h2; have k9 := hv.cell h3; have k10 := hv.cell h4; go_simp; first | done | with_reducible rfl | (rw [if_neg (by omega)])) ?_; simp only [Act.put, List.setIfInBounds_toArray, List.set_cons_zero, List.set_cons_succ]
        refine WQ.val (by rfl) (fun v hv => by have k0 := hv.cell g2; have k1 := hv.cell g0; have k2 := hv.cell g1; have k3 := hv.cell g3; have k4 := hv.cell g4; have k5 := hv.cell g5; have k6 := hv.cell h0; have k7 := hv.cell h1; have k8 := hv.cell h2; have k9 := hv.cell h3; have k10 := hv.cell h4; go_simp; first | done | with_reducible rfl | (rw [if_neg (by omega)])) ?_; simp only [Act.put, List.setIfInBounds_toArray, List.set_cons_zero, List.set_cons_succ]
        refine WQ.val (by rfl) (fun v hv => by have k0 := hv.cell g2; have k1 := hv.cell g0; have k2 := hv.cell g1; have k3 := hv.cell g3; have k4 := hv.cell g4; have k5 := hv.cell g5; have k6 := hv.cell h0; have k7 := hv.cell h1; have k8 := hv.cell h2; have k9 := hv.cell h3; have k10 := hv.cell h4; go_simp; first | done | with_reducible rfl | (rw [if_neg (by omega)])) ?_; simp only [Act.put, List.setIfInBounds_toArray, List.set_cons_zero, List.set_cons_succ]
        refine WQ.val (by rfl) (fun v hv => by have k0 := hv.cell g2; have k1 := hv.cell g0; have k2 := hv.cell g1; have k3 := hv.cell g3; have k4 := hv.cell g4; have k5 := hv.cell g5; have k6 := hv.cell h0; have k7 := hv.cell h1; have k8 := hv.cell h2; have k9 := hv.cell h3; have k10 := hv.cell h4; go_simp; first | done | with_reducible rfl | (rw [if_neg (by omega)])) ?_; simp only [Act.put, List.setIfInBounds_toArray, List.set_cons_zero, List.set_cons_succ]
        refine WQ.val (by rfl) (fun v hv => by have k0 := hv.cell g2; have k1 := hv.cell g0; have k2 := hv.cell g1; have k3 := hv.cell g3; have k4 := hv.cell g4; have k5 := hv.cell g5; have k6 := hv.cell h0; have k7 := hv.cell h1; have k8 := hv.cell h2; have k9 := hv.cell h3; have k10 := hv.cell h4; go_simp; first | done | with_reducible rfl | (rw [if_neg (by omega)])) ?_; simp only [Act.put, List.setIfInBounds_toArray, List.set_cons_zero, List.set_cons_succ]
        refine WQ.val (by rfl) (fun v hv => by have k0 := hv.cell g2; have k1 := hv.cell g0; have k2 := hv.cell g1; have k3 := hv.cell g3; have k4 := hv.cell g4; have k5 := hv.cell g5; have k6 := hv.cell h0; have k7 := hv.cell h1; have k8 := hv.cell h2; have k9 := hv.cell h3; have k10 := hv.cell h4; go_simp; first | done | with_reducible rfl | (rw [if_neg (by omega)])) ?_; simp only [Act.put, List.setIfInBounds_toArray, List.set_cons_zero, List.set_cons_succ]
        refine WQ.val (by rfl) (fun v hv => by have k0 := hv.cell g2; have k1 := hv.cell g0; have k2 := hv.cell g1; have k3 := hv.cell g3; have k4 := hv.cell g4; have k5 := hv.cell g5; have k6 := hv.cell h0; have k7 := hv.cell h1; have k8 := hv.cell h2; have k9 := hv.cell h3; have k10 := hv.cell h4; go_simp; first | done | with_reducible rfl | (rw [if_neg (by omega)])) ?_; simp only [Act.put, List.setIfInBounds_toArray, List.set_cons_zero, List.set_cons_succ]
        refine WQ.val (by rfl) (fun v hv => exec_flowAt (.tmp 40) (.tmp 41) rfl rfl rfl HYL.out) ?_; simp only [Act.put, List.setIfInBounds_toArray, List.set_cons_zero, List.set_cons_succ]
        refine WQ.val (by rfl) (fun v hv => by have k0 := hv.cell g2; have k1 := hv.cell g0; have k2 := hv.cell g1; have k3 := hv.cell g3; have k4 := hv.cell g4; have k5 := hv.cell g5; have k6 := hv.cell h0; have k7 := hv.cell h1; have k8 := hv.cell h2; have k9 := hv.cell h3; have k10 := hv.cell h4; go_simp; first | done | with_reducible rfl | (rw [if_neg (by omega)])) ?_; simp only [Act.put, List.setIfInBounds_toArray, List.set_cons_zero, List.set_cons_succ]
        refine WQ.val (by rfl) (fun v hv => by have k0 := hv.cell g2; have k1 := hv.cell g0; have k2 := hv.cell g1; have k3 := hv.cell g3; have k4 := hv.cell g4; have k5 := hv.cell g5; have k6 := hv.cell h0; have k7 := hv.cell h1; have k8 := hv.cell h2; have k9 := hv.cell h3; have k10 := hv.cell h4; go_simp; first | done | with_reducible rfl | (rw [if_neg (by omega)])) ?_; simp only [Act.put, List.setIfInBounds_toArray, List.set_cons_zero, List.set_cons_succ]
        refine WQ.val (by rfl) (fun v hv => by have k0 := hv.cell g2; have k1 := hv.cell g0; have k2 := hv.cell g1; have k3 := hv.cell g3; have k4 := hv.cell g4; have k5 := hv.cell g5; have k6 := hv.cell h0; have k7 := hv.cell h1; have k8 := hv.cell h2; have k9 := hv.cell h3; have k10 := hv.cell h4; go_simp; first | done | with_reducible rfl | (rw [if_neg (by omega)])) ?_; simp only [Act.put, List.setIfInBounds_toArray, List.set_cons_zero, List.set_cons_succ]
        refine WQ.val (u := .bool (decide (p.1 = k))) (by rfl) (fun v hv => exec_eqKey (.tmp 44) (.tmp 45) _ rfl HPI.out HK.out rfl rfl) ?_; simp only [Act.put, List.setIfInBounds_toArray, List.set_cons_zero, List.set_cons_succ]
        refine WQ.val (by rfl) (fun v hv => by have k0 := hv.cell g2; have k1 := hv.cell g0; have k2 := hv.cell g1; have k3 := hv.cell g3; have k4 := hv.cell g4; have k5 := hv.cell g5; have k6 := hv.cell h0; have k7 := hv.cell h1; have k8 := hv.cell h2; have k9 := hv.cell h3; have k10 := hv.cell h4; go_simp; first | done | with_reducible rfl | (rw [if_neg (by omega)])) ?_; simp only [Act.put, List.setIfInBounds_toArray, List.set_cons_zero, List.set_cons_succ]
        refine WQ.val (by rfl) (fun v hv => by have k0 := hv.cell g2; have k1 := hv.cell g0; have k2 := hv.cell g1; have k3 := hv.cell g3; have k4 := hv.cell g4; have k5 := hv.cell g5; have k6 := hv.cell h0; have k7 := hv.cell h1; have k8 := hv.cell h2; have k9 := hv.cell h3; have k10 := hv.cell h4; go_simp; first | done | with_reducible rfl | (rw [if_neg (by omega)])) ?_; simp only [Act.put, List.setIfInBounds_toArray, List.set_cons_zero, List.set_cons_succ]
        refine WQ.val (by rfl) (fun v hv => by have k0 := hv.cell g2; have k1 := hv.cell g0; have k2 := hv.cell g1; have k3 := hv.cell g3; have k4 := hv.cell g4; have k5 := hv.cell g5; have k6 := hv.cell h0; have k7 := hv.cell h1; have k8 := hv.cell h2; have k9 := hv.cell h3; have k10 := hv.cell h4; go_simp; first | done | with_reducible rfl | (rw [if_neg (by omega)])) ?_; simp only [Act.put, List.setIfInBounds_toArray, List.set_cons_zero, List.set_cons_succ]
        refine WQ.done ?_
        intro w6 hw6
        have HB6 : Hid (Below w.heap.size w w6) := Lib.hid (HB1.out.trans ((HB5.out.trans (Below.mono hw6 HB5.out.size)).mono HB1.out.size))
        clear g0 g1 g2 g3 g4 g5 h0 h1 h2 h3 h4 hw6
        rw [HDE.out]
        go_wp2_with fail
        go_ret2
        exact ⟨y, rfl, HST.out, HB6.out⟩
    · obtain rfl : y = m := by omega
      have HST : Hid (Stands t.fl k y) := Lib.hid ⟨by rw [HM.out]; exact Nat.le_refl _, HLT.out, fun q hq => by
        have h1 := (List.getElem?_eq_some_iff.1 hq).1
        have h2 := HM.out
        omega⟩
      have HDE : Hid (hasL t.fl k = false) := Lib.hid (by
        rcases stands_has HRI.out HST.out with ⟨x, h1, h2, _⟩ | ⟨h1, h2, _⟩
        · have h3 := (List.getElem?_eq_some_iff.1 h1).1
          have h4 := HM.out
          omega
        · exact h2)
      have hS0 : Since wr wr.drew := (Below.refl _ wr).trans ⟨rfl, rfl, rfl, Nat.le_refl _, fun _ _ => rfl⟩
      clear hb
      go_wp2_with fail
      refine WQ.enter wr (Since.refl _) (by kernel_rfl) (by kernel_rfl) ?_
      refine WQ.val (by rfl) (fun v hv => by have k0 := hv.cell e2; go_simp; first | done | with_reducible rfl | (rw [if_neg (by omega)])) ?_; simp only [Act.put, List.setIfInBounds_toArray, List.set_cons_zero, List.set_cons_succ]
      refine WQ.val (by rfl) (fun v hv => by have k0 := hv.cell e2; go_simp; first | done | with_reducible rfl | (rw [if_neg (by omega)])) ?_; simp only [Act.put, List.setIfInBounds_toArray, List.set_cons_zero, List.set_cons_succ]
      refine WQ.val (by rfl) (fun v hv => by have k0 := hv.cell e2; go_simp; first | done | with_reducible rfl | (rw [if_neg (by omega)])) ?_; simp only [Act.put, List.setIfInBounds_toArray, List.set_cons_zero, List.set_cons_succ]
      refine WQ.val (by rfl) (fun v hv => by have k0 := hv.cell e2; go_simp; first | done | with_reducible rfl | (rw [if_neg (by omega)])) ?_; simp only [Act.put, List.setIfInBounds_toArray, List.set_cons_zero, List.set_cons_succ]
      refine WQ.val (by rfl) (fun v hv => by have k0 := hv.cell e2; go_simp; first | done | with_reducible rfl | (rw [if_neg (by omega)])) ?_; simp only [Act.put, List.setIfInBounds_toArray, List.set_cons_zero, List.set_cons_succ]
      refine WQ.val (by rfl) (fun v hv => by have k0 := hv.cell e2; go_simp; first | done | with_reducible rfl | (rw [if_neg (by omega)])) ?_; simp only [Act.put, List.setIfInBounds_toArray, List.set_cons_zero, List.set_cons_succ]
      refine WQ.val (by rfl) (fun v hv => by have k0 := hv.cell e2; go_simp; first | done | with_reducible rfl | (rw [if_neg (by omega)])) ?_; simp only [Act.put, List.setIfInBounds_toArray, List.set_cons_zero, List.set_cons_succ]
      refine WQ.val (by rfl) (fun v hv => by have k0 := hv.cell e2; go_simp; first | done | with_reducible rfl | (rw [if_neg (by omega)])) ?_; simp only [Act.put, List.setIfInBounds_toArray, List.set_cons_zero, List.set_cons_succ]
      refine WQ.off (by rfl) ?_; simp only [Act.put, List.setIfInBounds_toArray, List.set_cons_zero, List.set_cons_succ]
      refine WQ.off (by rfl) ?_; simp only [Act.put, List.setIfInBounds_toArray, List.set_cons_zero, List.set_cons_succ]
      refine WQ.off (by rfl) ?_; simp only [Act.put, List.setIfInBounds_toArray, List.set_cons_zero, List.set_cons_succ]
      refine WQ.off (by rfl) ?_; simp only [Act.put, List.setIfInBounds_toArray, List.set_cons_zero, List.set_cons_succ]
      refine WQ.off (by rfl) ?_; simp only [Act.put, List.setIfInBounds_toArray, List.set_cons_zero, List.set_cons_succ]
      refine WQ.off (by rfl) ?_; simp only [Act.put, List.setIfInBounds_toArray, List.set_cons_zero, List.set_cons_succ]
      refine WQ.off (by rfl) ?_; simp only [Act.put, List.setIfInBounds_toArray, List.set_cons_zero, List.set_cons_succ]
      refine WQ.off (by rfl) ?_; simp only [Act.put, List.setIfInBounds_toArray, List.set_cons_zero, List.set_cons_succ]
      refine WQ.off (by rfl) ?_; simp only [Act.put, List.setIfInBounds_toArray, List.set_cons_zero, List.set_cons_succ]
      refine WQ.off (by rfl) ?_; simp only [Act.put, List.setIfInBounds_toArray, List.set_cons_zero, List.set_cons_succ]
      refine WQ.val (by rfl) (fun v hv => by have k0 := hv.cell e2; go_simp; first | done | with_reducible rfl | (rw [if_neg (by omega)])) ?_; simp only [Act.put, List.setIfInBounds_toArray, List.set_cons_zero, List.set_cons_succ]
      refine WQ.done ?_
      intro w5 hw5
      have HB5 : Hid (Below w1.heap.size w1 w5) := Lib.hid (HB.out.trans (Below.mono hw5 HB.out.size))
      have g2 := Since.cell hw5 e2
      clear e0 e1 e2 e3 e4 e5 hw5 hS0
      go_wp2_with fail
      refine WQ.enter w5 (Since.refl _) (by kernel_rfl) (by kernel_rfl) ?_
      refine WQ.val (by rfl) (fun v hv => by have k0 := hv.cell g2; go_simp; first | done | with_reducible rfl | (rw [if_neg (by omega)])) ?_; simp only [Act.put, List.setIfInBounds_toArray, List.set_cons_zero, List.set_cons_succ]
      refine WQ.val (by rfl) (fun v hv => by have k0 := hv.cell g2; go_simp; first | done | with_reducible rfl | (rw [if_neg (by omega)])) ?_; simp only [Act.put, List.setIfInBounds_toArray, List.set_cons_zero, List.set_cons_succ]
      refine WQ.val (by rfl) (fun v hv => by have k0 := hv.cell g2; go_simp; first | done | with_reducible rfl | (rw [if_neg (by omega)])) ?_; simp only [Act.put, List.setIfInBounds_toArray, List.set_cons_zero, List.set_cons_succ]
      refine WQ.val (by rfl) (fun v hv => by have k0 := hv.cell g2; go_simp; first | done | with_reducible rfl | (rw [if_neg (by omega)])) ?_; simp only [Act.put, List.setIfInBounds_toArray, List.set_cons_zero, List.set_cons_succ]
      refine WQ.val (by rfl) (fun v hv => by have k0 := hv.cell g2; go_simp; first | done | with_reducible rfl | (rw [if_neg (by omega)])) ?_; simp only [Act.put, List.setIfInBounds_toArray, List.set_cons_zero, List.set_cons_succ]
      refine WQ.val (by rfl) (fun v hv => by have k0 := hv.cell g2; go_simp; first | done | with_reducible rfl | (rw [if_neg (by omega)])) ?_; simp only [Act.put, List.setIfInBounds_toArray, List.set_cons_zero, List.set_cons_succ]
      refine WQ.val (by rfl) (fun v hv => by have k0 := hv.cell g2; go_simp; first | done | with_reducible rfl | (rw [if_neg (by omega)])) ?_; simp only [Act.put, List.setIfInBounds_toArray, List.set_cons_zero, List.set_cons_succ]
      refine WQ.val (by rfl) (fun v hv => by have k0 := hv.cell g2; go_simp; first | done | with_reducible rfl | (rw [if_neg (by omega)])) ?_; simp only [Act.put, List.setIfInBounds_toArray, List.set_cons_zero, List.set_cons_succ]
      refine WQ.val (by rfl) (fun v hv => by have k0 := hv.cell g2; go_simp; first | done | with_reducible rfl | (rw [if_neg (by omega)])) ?_; simp only [Act.put, List.setIfInBounds_toArray, List.set_cons_zero, List.set_cons_succ]
      refine WQ.off (by rfl) ?_; simp only [Act.put, List.setIfInBounds_toArray, List.set_cons_zero, List.set_cons_succ]
      refine WQ.off (by rfl) ?_; simp only [Act.put, List.setIfInBounds_toArray, List.set_cons_zero, List.set_cons_succ]
      refine WQ.off (by rfl) ?_; simp only [Act.put, List.setIfInBounds_toArray, List.set_cons_zero, List.set_cons_succ]
      refine WQ.off (by rfl) ?_; simp only [Act.put, List.setIfInBounds_toArray, List.set_cons_zero, List.set_cons_succ]
      refine WQ.off (by rfl) ?_; simp only [Act.put, List.setIfInBounds_toArray, List.set_cons_zero, List.set_cons_succ]
      refine WQ.off (by rfl) ?_; simp only [Act.put, List.setIfInBounds_toArray, List.set_cons_zero, List.set_cons_succ]
      refine WQ.off (by rfl) ?_; simp only [Act.put, List.setIfInBounds_toArray, List.set_cons_zero, List.set_cons_succ]
      refine WQ.off (by rfl) ?_; simp only [Act.put, List.setIfInBounds_toArray, List.set_cons_zero, List.set_cons_succ]
      refine WQ.off (by rfl) ?_; simp only [Act.put, List.setIfInBounds_toArray, List.set_cons_zero, List.set_cons_succ]
      refine WQ.off (by rfl) ?_; simp only [Act.put, List.setIfInBounds_toArray, List.set_cons_zero, List.set_cons_succ]
      refine WQ.val (by rfl) (fun v hv => by have k0 := hv.cell g2; go_simp; first | done | with_reducible rfl | (rw [if_neg (by omega)])) ?_; simp only [Act.put, List.setIfInBounds_toArray, List.set_cons_zero, List.set_cons_succ]
      refine WQ.val (by rfl) (fun v hv => by have k0 := hv.cell g2; go_simp; first | done | with_reducible rfl | (rw [if_neg (by omega)])) ?_; simp only [Act.put, List.setIfInBounds_toArray, List.set_cons_zero, List.set_cons_succ]
      refine WQ.val (by rfl) (fun v hv => by have k0 := hv.cell g2; go_simp; first | done | with_reducible rfl | (rw [if_neg (by omega)])) ?_; simp only [Act.put, List.setIfInBounds_toArray, List.set_cons_zero, List.set_cons_succ]
      refine WQ.done ?_
      intro w6 hw6
      have HB6 : Hid (Below w.heap.size w w6) := Lib.hid (HB1.out.trans ((HB5.out.trans (Below.mono hw6 HB5.out.size)).mono HB1.out.size))
      clear g2 hw6
      go_wp2_with fail
      go_ret2
      exact ⟨y, by (rw [HDE.out]) <;> rfl, HST.out, HB6.out⟩
end Go.Proofs.Ytahgapkecabnjaa
