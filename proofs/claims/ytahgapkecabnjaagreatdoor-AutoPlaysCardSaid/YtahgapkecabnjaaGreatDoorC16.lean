/- The engine: Swap. Printed by gen_autok.py. -/
import Derived.Test.YtahgapkecabnjaaGreatDoorC15
namespace Go.Proofs.YtahgapkecabnjaaGreatDoor
set_option linter.unusedSimpArgs false
set_option linter.unusedVariables false
open Go Go.RowKit Go.Shelf Go.Lib Go.Maps Go.MapKept
open Go.ChangeMaps (setBlock)

section
variable {P : Program} {ops : Array Oper}
/-- Two may come up next. -/
theorem WH.two {Q : Exit → Act → World → Prop} {S : World → Prop} (i j : Nat) {oi oj : Oper} {fuel : Nat} {listed : Array Bool} {a : Act} {w : World} (hr : Region.ready .any ops listed = [i, j]) (hi : ops[i]? = some oi) (hj : ops[j]? = some oj)
    (hwi : Region.wanted oi (yielded ops a.tmps) = true) (hwj : Region.wanted oj (yielded ops a.tmps) = true)
    (h1 : oi.wp P a w (fun a' w' => S w' ∧ WH P ops Q S fuel (listed.setIfInBounds i true) a' w') Q)
    (h2 : oj.wp P a w (fun a' w' => S w' ∧ WH P ops Q S fuel (listed.setIfInBounds j true) a' w') Q) : WH P ops Q S (fuel + 1) listed a w :=
  ⟨wpAnyH_all hr (by simp) (fun k hk => by
    rcases List.mem_cons.1 hk with rfl | hk
    · unfold wpOp
      rw [hi]
      simp only [hwi, if_true]
      exact .inl (Oper.wp_mono (fun a' w' h' => ⟨h'.1, h'.2.out⟩) h1)
    · obtain rfl := List.mem_singleton.1 hk
      unfold wpOp
      rw [hj]
      simp only [hwj, if_true]
      exact .inl (Oper.wp_mono (fun a' w' h' => ⟨h'.1, h'.2.out⟩) h2))⟩
end
/-- A cut behind a piece of code: its slots are known but for x. -/
def CutQ {α : Type} (A : α → Act) (F : α → World → Prop) (e : Exit) (a : Act) (w : World) : Prop := e = .normal ∧ ∃ x, a = A x ∧ F x w
theorem wp_cut {α : Type} {P : Program} {c : Code} {Q : Exit → Act → World → Prop} {a : Act} {w : World} {A : α → Act} (F : α → World → Prop)
    (h1 : c.wp P (CutQ A F) a w) (h2 : ∀ x w', F x w' → Q .normal (A x) w') : c.wp P Q a w :=
  Code.wp_mono (fun e a w' h => by obtain ⟨he, x, ha, hf⟩ := h; subst he ha; exact h2 x w' hf) h1
def AnyW (_ : World) : Prop := True
theorem oper_append {P : Program} {o : Oper} {a : Act} {w : World} {K : Act → World → Prop} {Q : Exit → Act → World → Prop} (s x : Operand) (t : TypeId)
    (ho : o.op = .call { callee := .builtin .append, args := #[s, x], argTypes := #[t, t] })
    (base : Nat) (e : TypeId) (i : TypeInfo) (z : Value) (size bytes : Nat) (ht : P.underlying t = some (.slice e)) (hi : P.info? e = some i) (hz : i.zero = some z)
    (hsize : i.size = size) (hby : i.bytes = bytes) (hzs : z.cells.size = size) (hsz : 0 < size)
    (v : Value) (n : Nat) (xs : List Value) (hs : a.eval s = v) (hown : w.ownsRow base e size v n xs)
    (ad : Addr) (m c : Nat) (news : List Value) (hx : a.eval x = .slice (some ad) m c) (hl : news.length = m * size) (hnews : ∀ j u, news[j]? = some u → w.cell? (ad.add j) = some u) (h1 : ∀ u ∈ news, u.oneCell' = true)
    (h63 : n + m ≤ maxLen) (hbytes : (n + m) * bytes ≤ 140737488355328) (hbase : base ≤ w.heap.size)
    (h : ∀ v' w', w'.ownsRow base e size v' (n + m) (xs ++ news) → w.grownBy w' v.ownBlock → (v' = .slice none 0 0 ↔ v = .slice none 0 0 ∧ m = 0) → (v'.ownBlock = v.ownBlock ∨ v'.ownBlock = some w.heap.size) → K (a.put o.dst v') w') :
    o.wp P a w K Q := by
  obtain ⟨v', w', hr, h2, h3, h4, h5⟩ := run_append_own_at (P := P) w base t o.type e i z size bytes ht hi hz hsize hby hzs hsz v n xs hown ad m c news hl hnews h1 h63 hbytes hbase
  unfold Oper.wp execOp
  simp only [ho, resolve, invoke, builtin, Sem.run_bind, Sem.run_pure, Result.andThen_ok, List.map_toArray, List.map_cons, List.map_nil, hs, hx, hr]
  exact h v' w' h2 h3 h4 h5
theorem rulesInfo : (Tryz.prog.info? 25).map (fun i => (i.zero, i.size, i.bytes)) = some (some (.slice none 0 0), 1, 24) := by kernel_rfl
theorem ownsRow_base {w : World} {B : Nat} {e : TypeId} {size n : Nat} {v : Value} {xs : List Value} (h : w.ownsRow B e size v n xs) {b : Nat} (hb : v.ownBlock = some b) : B ≤ b := by
  rcases h.2 with ⟨rfl, _⟩ | ⟨g, cap, cur, rfl, h2, h3, h4⟩
  · cases hb
  · cases hb; exact h2
theorem World.ownsRow.mono_base {w : World} {B : Nat} {e : TypeId} {size n : Nat} {v : Value} {xs : List Value} (h : w.ownsRow B e size v n xs) : Row w e size v n xs := by
  refine ⟨h.1, ?_⟩
  rcases h.2 with h1 | ⟨g, cap, cur, rfl, h2, h3⟩
  · exact .inl h1
  · exact .inr ⟨g, cap, cur, rfl, Nat.zero_le _, h3⟩
theorem AutoW.box_grow {w2 w3 : World} {ba mb : Nat} {F : Nat → Prop} {s : St} {rv : Value} {f : Value → Option Value} {vs : List Value} (h : AutoW w2 ba F s rv mb f vs) (hg : w2.grownBy w3 rv.ownBlock) : w3.heap[ba]? = some (.cells (autoC s rv mb) 84 (0, 0)) := by
  have hba : rv.ownBlock ≠ some ba := fun e => by
    obtain ⟨cur, hc⟩ := row_type h.row e
    rw [h.box] at hc
    injection hc with hc
    injection hc with _ hc
    exact absurd hc (by decide)
  exact (hg.block ba (Array.getElem?_eq_some_iff.1 h.box).1 (fun e => hba e.symm)).trans h.box
/-- One list of rules more. -/
theorem AutoW.grow {w2 w3 : World} {ba mb : Nat} {F : Nat → Prop} {s : St} {rv rv' v1 : Value} {f : Value → Option Value} {vs : List Value} {rs : List Rl} (h : AutoW w2 ba F s rv mb f vs) (hrow : Row w3 25 1 rv' (s.rules.length + 1) (vs ++ [v1])) (hg : w2.grownBy w3 rv.ownBlock)
    (hv1 : Row w2 79 10 v1 rs.length (rowsC rs)) (hr : ∀ r ∈ rs, r.In) (g' : Nat) :
    AutoW ((w3.setCell ⟨ba, 18, none⟩ (.int .u64 (g' : Nat))).setCell ⟨ba, 19, none⟩ rv') ba (fun i => F i ∨ rv'.ownBlock = some i ∨ v1.ownBlock = some i) { s with g := g', rules := s.rules ++ [rs] } rv' mb f (vs ++ [v1]) := by
  have hne : ∀ i, i ≠ ba → ((w3.setCell ⟨ba, 18, none⟩ (.int .u64 (g' : Nat))).setCell ⟨ba, 19, none⟩ rv').heap[i]? = w3.heap[i]? := fun i hi => (Below.heap_setCell _ _ _ i hi).trans (Below.heap_setCell _ _ _ i hi)
  have h3 : ∀ i, i < w2.heap.size → rv.ownBlock ≠ some i → w3.heap[i]? = w2.heap[i]? := fun i hi hn => hg.block i hi (fun e => hn e.symm)
  have hba : rv.ownBlock ≠ some ba := fun e => by
    obtain ⟨cur, hc⟩ := row_type h.row e
    rw [h.box] at hc
    injection hc with hc
    injection hc with _ hc
    exact absurd hc (by decide)
  have hmb : rv.ownBlock ≠ some mb := fun e => by
    obtain ⟨cur, hc⟩ := row_type h.row e
    obtain ⟨es, ck, hm, _⟩ := h.fl.is
    rw [hm] at hc
    cases hc
  have hmba : mb ≠ ba := fun e => by
    obtain ⟨es, ck, hm, _⟩ := h.fl.is
    rw [e, h.box] at hm
    cases hm
  have hbox := (h3 ba (Array.getElem?_eq_some_iff.1 h.box).1 hba).trans h.box
  have hin : ∀ {v : Value} {r : List Rl}, Row w2 79 10 v r.length (rowsC r) → ∀ b, v.ownBlock = some b → ((w3.setCell ⟨ba, 18, none⟩ (.int .u64 (g' : Nat))).setCell ⟨ba, 19, none⟩ rv').heap[b]? = w2.heap[b]? := fun {v r} hv b eb => by
    obtain ⟨cur, hc⟩ := row_type hv eb
    rw [hne b (fun e => by
      subst e
      rw [h.box] at hc
      injection hc with hc
      injection hc with _ hc
      exact absurd hc (by decide))]
    refine h3 b (row_lt hv eb) (fun e => ?_)
    obtain ⟨cur2, hc2⟩ := row_type h.row e
    rw [hc] at hc2
    injection hc2 with hc2
    injection hc2 with _ hc2
    exact absurd hc2 (by decide)
  refine ⟨heap_set rv' (heap_set (.int .u64 (g' : Nat)) hbox), ?_, fun i r hi => ?_, h.fl.of_block ((hne mb hmba).trans (h3 mb h.fl.is.lt hmb)), .inl h.fba, .inl h.fmb, fun b e => .inr (.inl e)⟩
  · show Row _ _ _ _ (s.rules ++ [rs]).length _
    rw [List.length_append]
    refine row_of_block hrow (fun b e => hne b (fun e2 => ?_))
    subst e2
    obtain ⟨cur, hc⟩ := row_type hrow e
    rw [hbox] at hc
    injection hc with hc
    injection hc with _ hc
    exact absurd hc (by decide)
  · have hi : (s.rules ++ [rs])[i]? = some r := hi
    have hvl : vs.length = s.rules.length := by have := h.row.1; omega
    by_cases hlt : i < s.rules.length
    · rw [List.getElem?_append_left hlt] at hi
      obtain ⟨v, e, hv⟩ := h.inner i r hi
      exact ⟨v, by rw [List.getElem?_append_left (by omega)]; exact e, hv.keep (hin hv.row) (fun _ h => .inl h)⟩
    · rw [List.getElem?_append_right (by omega)] at hi
      have hz : i - s.rules.length = 0 := by
        have := (List.getElem?_eq_some_iff.1 hi).1
        simp at this; omega
      rw [hz] at hi
      obtain rfl : rs = r := by simpa using hi
      exact ⟨v1, by rw [List.getElem?_append_right (by omega), hvl, hz]; rfl, row_of_block hv1 (hin hv1), hr, fun b e => .inr (.inr e)⟩
def SwapPost (w : World) (ba : Nat) (F : Nat → Prop) (s : St) (rs : List Rl) (e : Ending) (w' : World) : Prop :=
  e = .returned (.tuple #[.int .i64 (swapA s rs).1, .int .i64 (swapA s rs).2]) ∧ ∃ F', AutoAt w' ba F' (swapS s rs) ∧ Turn F w w' ∧ ∀ i, F' i → F i ∨ w.heap.size ≤ i ∧ i < w'.heap.size
theorem swapPost_same {w w' : World} {ba : Nat} {F : Nat → Prop} {s : St} {rs : List Rl} {x y : Int} (h1 : swapA s rs = (x, y)) (h2 : swapS s rs = s) (h : AutoAt w' ba F s) (t : Below w.heap.size w w') : SwapPost w ba F s rs (.returned (.tuple #[.int .i64 x, .int .i64 y])) w' :=
  ⟨by rw [h1], F, by rw [h2]; exact h, Turn.of_below t, fun i h => .inl h⟩
set_option maxHeartbeats 4000000 in
set_option maxRecDepth 100000 in
theorem swap_any {w : World} {ba : Nat} {F : Nat → Prop} {s : St} (a : Option Addr) (k : Nat) (rs : List Rl) (hR : RulesAt w a rs) (hl : rs.length ≤ maxLen) (hT : Tabs w) (h : AutoAt w ba F s) (hs : s.Ok) :
    Calls Tryz.prog 23 #[.pointer (some ⟨ba, 0, none⟩), .slice a rs.length k] w (SwapPost w ba F s rs) := by
  have HFI := Lib.hid (fits_any a k rs w hR hl hT)
  have HH := Lib.hid h
  have HGS := Lib.hid (fun W => gswap_any s.g W hs.g)
  by_cases hf : fitsF rs = 0
  · have hlen := fitsF_len hf
    have HF0 := Lib.hid hf
    rw [hf] at HFI
    have HCL := Lib.hid (fun W (hb : Below w.heap.size w W) => cloneRules_any a k rs W (hR.below hb) (by omega))
    have hrin : Hid (∀ r ∈ rs, r.In) := Lib.hid (rulesAt_in hR)
    have hvs := hs.vers
    obtain ⟨i0, hi, hz0, hz1, hz2⟩ := info_parts rulesInfo
    by_cases hsw : swapOk s.g = true
    · have HP0 : Hid (∀ W F', AutoAt W ba F' (swappedS s rs) → Turn F w W → (∀ i, F' i → F i ∨ w.heap.size ≤ i ∧ i < W.heap.size) → SwapPost w ba F s rs (.returned (.tuple #[.int .i64 (s.rules.length : Nat), .int .i64 0])) W) := Lib.hid (fun W F' h1 h2 h3 => ⟨by
          unfold swapA; rw [if_neg (by rw [hf]; decide), if_pos hsw], F', by unfold swapS; rw [if_pos ⟨hf, hsw⟩]; exact h1, h2, h3⟩)
      have HSW : Hid (∀ W F', AutoAt W ba F' { s with g := swapW s.g, rules := s.rules ++ [rs] } → AutoAt W ba F' (swappedS s rs)) := Lib.hid (fun _ _ h => h)
      rw [hsw] at HGS
      clear hR hT h hf hsw hl hs
      generalize swapW s.g = sg at *
      generalize hrl : rs.length = m at *
      go_enter Tryz.func23, Tryz.ntmps23
      go_wp2_with fail
      refine HFI.out.mono ?_
      rintro e w2 ⟨rfl, h2⟩
      have HB2 := Lib.hid h2
      obtain ⟨rv, mb, f, vs, hA2⟩ := HH.out.below h2
      have g0 : w2.cell? ⟨ba, 18, none⟩ = some (.int .u64 (s.g : Nat)) := hA2.cell rfl
      have HA2 := Lib.hid hA2
      clear hA2 h2
      go_wp2_with fail
      refine (HGS.out _).mono ?_
      rintro e w3 ⟨rfl, h3⟩
      have HB3 := Lib.hid (below_then HB2.out h3)
      have HA3 := Lib.hid (HA2.out.below h3)
      clear h3 g0 HGS HFI HA2 HB2
      go_wp2_with fail
      obtain ⟨ra, rc, hrv, _⟩ := row_form HA3.out.row
      have HRV := Lib.hid hrv
      have r0 : w3.drew.cell? ⟨ba, 19, none⟩ = some (.slice ra s.rules.length rc) := by
        have : w3.cell? ⟨ba, 19, none⟩ = some rv := HA3.out.cell rfl
        rw [hrv] at this; exact this
      clear hrv
      have HBD : Hid (Below w.heap.size w w3.drew) := Lib.hid (HB3.out.trans ⟨rfl, rfl, rfl, Nat.le_refl _, fun _ _ => rfl⟩)
      have HAD : Hid (AutoW w3.drew ba F s rv mb f vs) := Lib.hid (HA3.out.drewN 1)
      refine WH.enter AnyW (by kernel_rfl) 17 rfl ?_
      refine WH.take 0 (some 26) rfl rfl (by kernel_rfl) (by kernel_rfl) (by kernel_rfl) (fun _ _ _ h => h) (by rfl) (fun v hv => by go_simp; first | done | with_reducible rfl | (rw [if_neg (by omega)])) trivial ?_; simp only [Act.put, List.setIfInBounds_toArray, List.set_cons_zero, List.set_cons_succ]
      refine WH.take 1 (some 27) rfl rfl (by kernel_rfl) (by kernel_rfl) (by kernel_rfl) (fun _ _ _ h => h) (by rfl) (fun v hv => by go_simp; first | done | with_reducible rfl | (rw [if_neg (by omega)])) trivial ?_; simp only [Act.put, List.setIfInBounds_toArray, List.set_cons_zero, List.set_cons_succ]
      refine WH.take 2 (some 28) rfl rfl (by kernel_rfl) (by kernel_rfl) (by kernel_rfl) (fun _ _ _ h => h) (by rfl) (fun v hv => by go_simp; first | done | with_reducible rfl | (rw [if_neg (by omega)])) trivial ?_; simp only [Act.put, List.setIfInBounds_toArray, List.set_cons_zero, List.set_cons_succ]
      refine WH.take 3 (some 29) rfl rfl (by kernel_rfl) (by kernel_rfl) (by kernel_rfl) (fun _ _ _ h => h) (by rfl) (fun v hv => by go_simp; first | done | with_reducible rfl | (rw [if_neg (by omega)])) trivial ?_; simp only [Act.put, List.setIfInBounds_toArray, List.set_cons_zero, List.set_cons_succ]
      refine WH.take 4 (some 30) rfl rfl (by kernel_rfl) (by kernel_rfl) (by kernel_rfl) (fun _ _ _ h => h) (by rfl) (fun v hv => by go_simp; first | done | with_reducible rfl | (rw [if_neg (by omega)])) trivial ?_; simp only [Act.put, List.setIfInBounds_toArray, List.set_cons_zero, List.set_cons_succ]
      refine WH.take 5 (some 31) rfl rfl (by kernel_rfl) (by kernel_rfl) (by kernel_rfl) (fun _ _ _ h => h) (by rfl) (fun v hv => by go_simp; first | done | with_reducible rfl | (rw [if_neg (by omega)])) trivial ?_; simp only [Act.put, List.setIfInBounds_toArray, List.set_cons_zero, List.set_cons_succ]
      refine WH.take 7 (some 33) rfl rfl (by kernel_rfl) (by kernel_rfl) (by kernel_rfl) (fun _ _ _ h => h) (by rfl) (fun v hv => by go_simp; first | done | with_reducible rfl | (rw [if_neg (by omega)])) trivial ?_; simp only [Act.put, List.setIfInBounds_toArray, List.set_cons_zero, List.set_cons_succ]
      refine WH.two 6 8 (by kernel_rfl) rfl rfl (by rfl) (by rfl) ?_ ?_
      · go_wp2_with fail
        refine ⟨trivial, ?_⟩
        refine WH.one 8 (by kernel_rfl) rfl (by rfl) ?_
        go_wp2_with fail
        refine (HCL.out _ HBD.out).mono ?_
        rintro e w4 ⟨v1, rfl, hrow1, hb4⟩
        have HB4 := Lib.hid (below_then HBD.out hb4)
        have HA4 := Lib.hid (HAD.out.below hb4)
        have hfr : Hid (∀ b, v1.ownBlock = some b → w.heap.size ≤ b) := Lib.hid (fun b e => Nat.le_trans HBD.out.size (ownsRow_base hrow1 e))
        clear hb4
        go_wp2_with fail
        refine ⟨trivial, ?_⟩
        have hrw1 := World.ownsRow.mono_base hrow1
        have HRV1 := Lib.hid hrw1
        obtain ⟨va, vc, rfl, _⟩ := row_form hrw1
        have HB5 : Hid (Below w4.heap.size w4 (w4.alloc (.cells #[.slice va m vc] 25))) := Lib.hid ((Below.refl _ w4).alloc (Nat.le_refl _) _)
        refine WH.one 9 (by kernel_rfl) rfl (by rfl) ?_
        go_wp2_with fail
        refine ⟨trivial, ?_⟩
        have HA5 := Lib.hid (HA4.out.below HB5.out)
        have HR5 : Hid (Row (w4.alloc (.cells #[.slice va m vc] 25)) 79 10 (.slice va m vc) m (rowsC rs)) := Lib.hid (row_of_block HRV1.out (fun b e => HB5.out.block b (row_lt HRV1.out e)))
        clear hrow1 hrw1 r0
        refine WH.one 10 (by kernel_rfl) rfl (by rfl) ?_
        refine oper_append _ _ 80 rfl 0 25 i0 (.slice none 0 0) 1 24 Tryz.underlying80 hi hz0 hz1 hz2 rfl (by decide) rv s.rules.length vs (by rw [HRV.out]; rfl) HA5.out.row ⟨w4.heap.size, 0, none⟩ 1 1 [.slice va m vc] rfl rfl (cells_new w4 [.slice va m vc] _) (by intro u hu; simp at hu; subst hu; rfl) (by unfold maxLen; omega) (by omega) (Nat.zero_le _) ?_
        intro rv' w6 hown hgrow _ hloc
        refine ⟨trivial, ?_⟩
        simp only [Act.put, List.setIfInBounds_toArray, List.set_cons_zero, List.set_cons_succ]
        have hbx6 := HA5.out.box_grow hgrow
        have HA7 := Lib.hid (HA5.out.grow hown hgrow (by rw [hrl]; exact HR5.out) hrin.out sg)
        have hown' := hown
        obtain ⟨rb, rc', rfl, _⟩ := row_form hown'
        have HLOC := Lib.hid hloc
        have HGR := Lib.hid hgrow
        have k0 : w6.cell? ⟨ba, 18, none⟩ = some (.int .u64 (s.g : Nat)) := by simp [World.cell?, hbx6, autoC]
        have k1 : w6.frozen? ⟨ba, 18, none⟩ = false := by simp [World.frozen?, hbx6]
        have hbx7 := heap_set (o := 18) (.int .u64 (sg : Nat)) hbx6
        have k2 : (w6.setCell ⟨ba, 18, none⟩ (.int .u64 (sg : Nat))).cell? ⟨ba, 19, none⟩ = some rv := by simp [World.cell?, hbx7, autoC]
        have k3 : (w6.setCell ⟨ba, 18, none⟩ (.int .u64 (sg : Nat))).frozen? ⟨ba, 19, none⟩ = false := by simp [World.frozen?, hbx7]
        have hbx8 := heap_set (o := 19) (.slice rb (s.rules.length + 1) rc') hbx7
        have k4 : ((w6.setCell ⟨ba, 18, none⟩ (.int .u64 (sg : Nat))).setCell ⟨ba, 19, none⟩ (.slice rb (s.rules.length + 1) rc')).cell? ⟨ba, 19, none⟩ = some (.slice rb (s.rules.length + 1) rc') := by simp [World.cell?, hbx8, autoC]
        have HT8 : Hid (Turn F w ((w6.setCell ⟨ba, 18, none⟩ (.int .u64 (sg : Nat))).setCell ⟨ba, 19, none⟩ (.slice rb (s.rules.length + 1) rc'))) := Lib.hid ((((Turn.of_below (F := F) (below_then HB4.out HB5.out)).grown hgrow (fun b e => .inl (HA5.out.frv b e))).setCell _ _ (.inl HA5.out.fba)).setCell _ _ (.inl HA5.out.fba))
        have hsz : ((w6.setCell ⟨ba, 18, none⟩ (.int .u64 (sg : Nat))).setCell ⟨ba, 19, none⟩ (.slice rb (s.rules.length + 1) rc')).heap.size = w6.heap.size := by simp [World.setCell]
        have HZ5 : Hid (w.heap.size ≤ (w4.alloc (.cells #[.slice va m vc] 25)).heap.size) := Lib.hid (below_then HB4.out HB5.out).size
        have HZ6 : Hid (∀ b, (Value.slice rb (s.rules.length + 1) rc').ownBlock = some b → b < ((w6.setCell ⟨ba, 18, none⟩ (.int .u64 (sg : Nat))).setCell ⟨ba, 19, none⟩ (.slice rb (s.rules.length + 1) rc')).heap.size) := Lib.hid (fun b e => by rw [hsz]; exact row_lt hown e)
        have HZ8 : Hid (∀ b, (Value.slice va m vc).ownBlock = some b → b < ((w6.setCell ⟨ba, 18, none⟩ (.int .u64 (sg : Nat))).setCell ⟨ba, 19, none⟩ (.slice rb (s.rules.length + 1) rc')).heap.size) := Lib.hid (fun b e => by rw [hsz]; exact Nat.lt_of_lt_of_le (row_lt HR5.out e) hgrow.size)
        clear hown hown' hgrow hloc hbx6 hbx7 hbx8 hsz
        refine WH.take 11 (some 37) rfl rfl (by kernel_rfl) (by kernel_rfl) (by kernel_rfl) (fun _ _ _ h => h) (by rfl) (fun v hv => by go_simp; first | done | with_reducible rfl | (rw [if_neg (by omega)])) trivial ?_; simp only [Act.put, List.setIfInBounds_toArray, List.set_cons_zero, List.set_cons_succ]
        refine WH.take 12 (some 38) rfl rfl (by kernel_rfl) (by kernel_rfl) (by kernel_rfl) (fun _ _ _ h => h) (by rfl) (fun v hv => by go_simp; first | done | with_reducible rfl | (rw [if_neg (by omega)])) trivial ?_; simp only [Act.put, List.setIfInBounds_toArray, List.set_cons_zero, List.set_cons_succ]
        refine WH.one 13 (by kernel_rfl) rfl (by rfl) ?_
        go_wp2_with fail
        refine ⟨trivial, ?_⟩
        refine WH.take 14 (some 39) rfl rfl (by kernel_rfl) (by kernel_rfl) (by kernel_rfl) (fun _ _ _ h => h) (by rfl) (fun v hv => by go_simp; first | done | with_reducible rfl | (rw [if_neg (by omega)])) trivial ?_; simp only [Act.put, List.setIfInBounds_toArray, List.set_cons_zero, List.set_cons_succ]
        refine WH.take 15 (some 40) rfl rfl (by kernel_rfl) (by kernel_rfl) (by kernel_rfl) (fun _ _ _ h => h) (by rfl) (fun v hv => by go_simp; first | done | with_reducible rfl | (rw [if_neg (by omega)])) trivial ?_; simp only [Act.put, List.setIfInBounds_toArray, List.set_cons_zero, List.set_cons_succ]
        refine WH.one 16 (by kernel_rfl) rfl (by rfl) ?_
        go_wp2_with fail
        refine ⟨trivial, ?_⟩
        refine WH.done (by kernel_rfl) ?_
        generalize (w6.setCell ⟨ba, 18, none⟩ (.int .u64 (sg : Nat))).setCell ⟨ba, 19, none⟩ (.slice rb (s.rules.length + 1) rc') = w8 at *
        go_wp2_with fail
        go_ret2
        refine HP0.out _ _ (HSW.out _ _ ⟨_, mb, f, _, HA7.out⟩) HT8.out ?_
        intro i hi
        rcases hi with hi | hi | hi
        · exact .inl hi
        · rcases HLOC.out with e | e
          · rw [e] at hi; exact .inl (HA5.out.frv i hi)
          · rw [e] at hi
            cases hi
            exact .inr ⟨HZ5.out, HZ6.out _ e⟩
        · exact .inr ⟨hfr.out i hi, HZ8.out i hi⟩
      · go_wp2_with fail
        refine (HCL.out _ HBD.out).mono ?_
        rintro e w4 ⟨v1, rfl, hrow1, hb4⟩
        have HB4 := Lib.hid (below_then HBD.out hb4)
        have HA4 := Lib.hid (HAD.out.below hb4)
        have hfr : Hid (∀ b, v1.ownBlock = some b → w.heap.size ≤ b) := Lib.hid (fun b e => Nat.le_trans HBD.out.size (ownsRow_base hrow1 e))
        have r0 := Since.cell hb4 r0
        clear hb4
        go_wp2_with fail
        refine ⟨trivial, ?_⟩
        refine WH.two 6 9 (by kernel_rfl) rfl rfl (by rfl) (by rfl) ?_ ?_
        · go_wp2_with fail
          refine ⟨trivial, ?_⟩
          have hrw1 := World.ownsRow.mono_base hrow1
          have HRV1 := Lib.hid hrw1
          obtain ⟨va, vc, rfl, _⟩ := row_form hrw1
          have HB5 : Hid (Below w4.heap.size w4 (w4.alloc (.cells #[.slice va m vc] 25))) := Lib.hid ((Below.refl _ w4).alloc (Nat.le_refl _) _)
          refine WH.one 9 (by kernel_rfl) rfl (by rfl) ?_
          go_wp2_with fail
          refine ⟨trivial, ?_⟩
          have HA5 := Lib.hid (HA4.out.below HB5.out)
          have HR5 : Hid (Row (w4.alloc (.cells #[.slice va m vc] 25)) 79 10 (.slice va m vc) m (rowsC rs)) := Lib.hid (row_of_block HRV1.out (fun b e => HB5.out.block b (row_lt HRV1.out e)))
          clear hrow1 hrw1 r0
          refine WH.one 10 (by kernel_rfl) rfl (by rfl) ?_
          refine oper_append _ _ 80 rfl 0 25 i0 (.slice none 0 0) 1 24 Tryz.underlying80 hi hz0 hz1 hz2 rfl (by decide) rv s.rules.length vs (by rw [HRV.out]; rfl) HA5.out.row ⟨w4.heap.size, 0, none⟩ 1 1 [.slice va m vc] rfl rfl (cells_new w4 [.slice va m vc] _) (by intro u hu; simp at hu; subst hu; rfl) (by unfold maxLen; omega) (by omega) (Nat.zero_le _) ?_
          intro rv' w6 hown hgrow _ hloc
          refine ⟨trivial, ?_⟩
          simp only [Act.put, List.setIfInBounds_toArray, List.set_cons_zero, List.set_cons_succ]
          have hbx6 := HA5.out.box_grow hgrow
          have HA7 := Lib.hid (HA5.out.grow hown hgrow (by rw [hrl]; exact HR5.out) hrin.out sg)
          have hown' := hown
          obtain ⟨rb, rc', rfl, _⟩ := row_form hown'
          have HLOC := Lib.hid hloc
          have HGR := Lib.hid hgrow
          have k0 : w6.cell? ⟨ba, 18, none⟩ = some (.int .u64 (s.g : Nat)) := by simp [World.cell?, hbx6, autoC]
          have k1 : w6.frozen? ⟨ba, 18, none⟩ = false := by simp [World.frozen?, hbx6]
          have hbx7 := heap_set (o := 18) (.int .u64 (sg : Nat)) hbx6
          have k2 : (w6.setCell ⟨ba, 18, none⟩ (.int .u64 (sg : Nat))).cell? ⟨ba, 19, none⟩ = some rv := by simp [World.cell?, hbx7, autoC]
          have k3 : (w6.setCell ⟨ba, 18, none⟩ (.int .u64 (sg : Nat))).frozen? ⟨ba, 19, none⟩ = false := by simp [World.frozen?, hbx7]
          have hbx8 := heap_set (o := 19) (.slice rb (s.rules.length + 1) rc') hbx7
          have k4 : ((w6.setCell ⟨ba, 18, none⟩ (.int .u64 (sg : Nat))).setCell ⟨ba, 19, none⟩ (.slice rb (s.rules.length + 1) rc')).cell? ⟨ba, 19, none⟩ = some (.slice rb (s.rules.length + 1) rc') := by simp [World.cell?, hbx8, autoC]
          have HT8 : Hid (Turn F w ((w6.setCell ⟨ba, 18, none⟩ (.int .u64 (sg : Nat))).setCell ⟨ba, 19, none⟩ (.slice rb (s.rules.length + 1) rc'))) := Lib.hid ((((Turn.of_below (F := F) (below_then HB4.out HB5.out)).grown hgrow (fun b e => .inl (HA5.out.frv b e))).setCell _ _ (.inl HA5.out.fba)).setCell _ _ (.inl HA5.out.fba))
          have hsz : ((w6.setCell ⟨ba, 18, none⟩ (.int .u64 (sg : Nat))).setCell ⟨ba, 19, none⟩ (.slice rb (s.rules.length + 1) rc')).heap.size = w6.heap.size := by simp [World.setCell]
          have HZ5 : Hid (w.heap.size ≤ (w4.alloc (.cells #[.slice va m vc] 25)).heap.size) := Lib.hid (below_then HB4.out HB5.out).size
          have HZ6 : Hid (∀ b, (Value.slice rb (s.rules.length + 1) rc').ownBlock = some b → b < ((w6.setCell ⟨ba, 18, none⟩ (.int .u64 (sg : Nat))).setCell ⟨ba, 19, none⟩ (.slice rb (s.rules.length + 1) rc')).heap.size) := Lib.hid (fun b e => by rw [hsz]; exact row_lt hown e)
          have HZ8 : Hid (∀ b, (Value.slice va m vc).ownBlock = some b → b < ((w6.setCell ⟨ba, 18, none⟩ (.int .u64 (sg : Nat))).setCell ⟨ba, 19, none⟩ (.slice rb (s.rules.length + 1) rc')).heap.size) := Lib.hid (fun b e => by rw [hsz]; exact Nat.lt_of_lt_of_le (row_lt HR5.out e) hgrow.size)
          clear hown hown' hgrow hloc hbx6 hbx7 hbx8 hsz
          refine WH.take 11 (some 37) rfl rfl (by kernel_rfl) (by kernel_rfl) (by kernel_rfl) (fun _ _ _ h => h) (by rfl) (fun v hv => by go_simp; first | done | with_reducible rfl | (rw [if_neg (by omega)])) trivial ?_; simp only [Act.put, List.setIfInBounds_toArray, List.set_cons_zero, List.set_cons_succ]
          refine WH.take 12 (some 38) rfl rfl (by kernel_rfl) (by kernel_rfl) (by kernel_rfl) (fun _ _ _ h => h) (by rfl) (fun v hv => by go_simp; first | done | with_reducible rfl | (rw [if_neg (by omega)])) trivial ?_; simp only [Act.put, List.setIfInBounds_toArray, List.set_cons_zero, List.set_cons_succ]
          refine WH.one 13 (by kernel_rfl) rfl (by rfl) ?_
          go_wp2_with fail
          refine ⟨trivial, ?_⟩
          refine WH.take 14 (some 39) rfl rfl (by kernel_rfl) (by kernel_rfl) (by kernel_rfl) (fun _ _ _ h => h) (by rfl) (fun v hv => by go_simp; first | done | with_reducible rfl | (rw [if_neg (by omega)])) trivial ?_; simp only [Act.put, List.setIfInBounds_toArray, List.set_cons_zero, List.set_cons_succ]
          refine WH.take 15 (some 40) rfl rfl (by kernel_rfl) (by kernel_rfl) (by kernel_rfl) (fun _ _ _ h => h) (by rfl) (fun v hv => by go_simp; first | done | with_reducible rfl | (rw [if_neg (by omega)])) trivial ?_; simp only [Act.put, List.setIfInBounds_toArray, List.set_cons_zero, List.set_cons_succ]
          refine WH.one 16 (by kernel_rfl) rfl (by rfl) ?_
          go_wp2_with fail
          refine ⟨trivial, ?_⟩
          refine WH.done (by kernel_rfl) ?_
          generalize (w6.setCell ⟨ba, 18, none⟩ (.int .u64 (sg : Nat))).setCell ⟨ba, 19, none⟩ (.slice rb (s.rules.length + 1) rc') = w8 at *
          go_wp2_with fail
          go_ret2
          refine HP0.out _ _ (HSW.out _ _ ⟨_, mb, f, _, HA7.out⟩) HT8.out ?_
          intro i hi
          rcases hi with hi | hi | hi
          · exact .inl hi
          · rcases HLOC.out with e | e
            · rw [e] at hi; exact .inl (HA5.out.frv i hi)
            · rw [e] at hi
              cases hi
              exact .inr ⟨HZ5.out, HZ6.out _ e⟩
          · exact .inr ⟨hfr.out i hi, HZ8.out i hi⟩
        · have hrw1 := World.ownsRow.mono_base hrow1
          have HRV1 := Lib.hid hrw1
          obtain ⟨va, vc, rfl, _⟩ := row_form hrw1
          have HB5 : Hid (Below w4.heap.size w4 (w4.alloc (.cells #[.slice va m vc] 25))) := Lib.hid ((Below.refl _ w4).alloc (Nat.le_refl _) _)
          go_wp2_with fail
          refine ⟨trivial, ?_⟩
          have HA5 := Lib.hid (HA4.out.below HB5.out)
          have HR5 : Hid (Row (w4.alloc (.cells #[.slice va m vc] 25)) 79 10 (.slice va m vc) m (rowsC rs)) := Lib.hid (row_of_block HRV1.out (fun b e => HB5.out.block b (row_lt HRV1.out e)))
          have r0 := Since.cell HB5.out r0
          refine WH.one 6 (by kernel_rfl) rfl (by rfl) ?_
          go_wp2_with fail
          refine ⟨trivial, ?_⟩
          clear hrow1 hrw1 r0
          refine WH.one 10 (by kernel_rfl) rfl (by rfl) ?_
          refine oper_append _ _ 80 rfl 0 25 i0 (.slice none 0 0) 1 24 Tryz.underlying80 hi hz0 hz1 hz2 rfl (by decide) rv s.rules.length vs (by rw [HRV.out]; rfl) HA5.out.row ⟨w4.heap.size, 0, none⟩ 1 1 [.slice va m vc] rfl rfl (cells_new w4 [.slice va m vc] _) (by intro u hu; simp at hu; subst hu; rfl) (by unfold maxLen; omega) (by omega) (Nat.zero_le _) ?_
          intro rv' w6 hown hgrow _ hloc
          refine ⟨trivial, ?_⟩
          simp only [Act.put, List.setIfInBounds_toArray, List.set_cons_zero, List.set_cons_succ]
          have hbx6 := HA5.out.box_grow hgrow
          have HA7 := Lib.hid (HA5.out.grow hown hgrow (by rw [hrl]; exact HR5.out) hrin.out sg)
          have hown' := hown
          obtain ⟨rb, rc', rfl, _⟩ := row_form hown'
          have HLOC := Lib.hid hloc
          have HGR := Lib.hid hgrow
          have k0 : w6.cell? ⟨ba, 18, none⟩ = some (.int .u64 (s.g : Nat)) := by simp [World.cell?, hbx6, autoC]
          have k1 : w6.frozen? ⟨ba, 18, none⟩ = false := by simp [World.frozen?, hbx6]
          have hbx7 := heap_set (o := 18) (.int .u64 (sg : Nat)) hbx6
          have k2 : (w6.setCell ⟨ba, 18, none⟩ (.int .u64 (sg : Nat))).cell? ⟨ba, 19, none⟩ = some rv := by simp [World.cell?, hbx7, autoC]
          have k3 : (w6.setCell ⟨ba, 18, none⟩ (.int .u64 (sg : Nat))).frozen? ⟨ba, 19, none⟩ = false := by simp [World.frozen?, hbx7]
          have hbx8 := heap_set (o := 19) (.slice rb (s.rules.length + 1) rc') hbx7
          have k4 : ((w6.setCell ⟨ba, 18, none⟩ (.int .u64 (sg : Nat))).setCell ⟨ba, 19, none⟩ (.slice rb (s.rules.length + 1) rc')).cell? ⟨ba, 19, none⟩ = some (.slice rb (s.rules.length + 1) rc') := by simp [World.cell?, hbx8, autoC]
          have HT8 : Hid (Turn F w ((w6.setCell ⟨ba, 18, none⟩ (.int .u64 (sg : Nat))).setCell ⟨ba, 19, none⟩ (.slice rb (s.rules.length + 1) rc'))) := Lib.hid ((((Turn.of_below (F := F) (below_then HB4.out HB5.out)).grown hgrow (fun b e => .inl (HA5.out.frv b e))).setCell _ _ (.inl HA5.out.fba)).setCell _ _ (.inl HA5.out.fba))
          have hsz : ((w6.setCell ⟨ba, 18, none⟩ (.int .u64 (sg : Nat))).setCell ⟨ba, 19, none⟩ (.slice rb (s.rules.length + 1) rc')).heap.size = w6.heap.size := by simp [World.setCell]
          have HZ5 : Hid (w.heap.size ≤ (w4.alloc (.cells #[.slice va m vc] 25)).heap.size) := Lib.hid (below_then HB4.out HB5.out).size
          have HZ6 : Hid (∀ b, (Value.slice rb (s.rules.length + 1) rc').ownBlock = some b → b < ((w6.setCell ⟨ba, 18, none⟩ (.int .u64 (sg : Nat))).setCell ⟨ba, 19, none⟩ (.slice rb (s.rules.length + 1) rc')).heap.size) := Lib.hid (fun b e => by rw [hsz]; exact row_lt hown e)
          have HZ8 : Hid (∀ b, (Value.slice va m vc).ownBlock = some b → b < ((w6.setCell ⟨ba, 18, none⟩ (.int .u64 (sg : Nat))).setCell ⟨ba, 19, none⟩ (.slice rb (s.rules.length + 1) rc')).heap.size) := Lib.hid (fun b e => by rw [hsz]; exact Nat.lt_of_lt_of_le (row_lt HR5.out e) hgrow.size)
          clear hown hown' hgrow hloc hbx6 hbx7 hbx8 hsz
          refine WH.take 11 (some 37) rfl rfl (by kernel_rfl) (by kernel_rfl) (by kernel_rfl) (fun _ _ _ h => h) (by rfl) (fun v hv => by go_simp; first | done | with_reducible rfl | (rw [if_neg (by omega)])) trivial ?_; simp only [Act.put, List.setIfInBounds_toArray, List.set_cons_zero, List.set_cons_succ]
          refine WH.take 12 (some 38) rfl rfl (by kernel_rfl) (by kernel_rfl) (by kernel_rfl) (fun _ _ _ h => h) (by rfl) (fun v hv => by go_simp; first | done | with_reducible rfl | (rw [if_neg (by omega)])) trivial ?_; simp only [Act.put, List.setIfInBounds_toArray, List.set_cons_zero, List.set_cons_succ]
          refine WH.one 13 (by kernel_rfl) rfl (by rfl) ?_
          go_wp2_with fail
          refine ⟨trivial, ?_⟩
          refine WH.take 14 (some 39) rfl rfl (by kernel_rfl) (by kernel_rfl) (by kernel_rfl) (fun _ _ _ h => h) (by rfl) (fun v hv => by go_simp; first | done | with_reducible rfl | (rw [if_neg (by omega)])) trivial ?_; simp only [Act.put, List.setIfInBounds_toArray, List.set_cons_zero, List.set_cons_succ]
          refine WH.take 15 (some 40) rfl rfl (by kernel_rfl) (by kernel_rfl) (by kernel_rfl) (fun _ _ _ h => h) (by rfl) (fun v hv => by go_simp; first | done | with_reducible rfl | (rw [if_neg (by omega)])) trivial ?_; simp only [Act.put, List.setIfInBounds_toArray, List.set_cons_zero, List.set_cons_succ]
          refine WH.one 16 (by kernel_rfl) rfl (by rfl) ?_
          go_wp2_with fail
          refine ⟨trivial, ?_⟩
          refine WH.done (by kernel_rfl) ?_
          generalize (w6.setCell ⟨ba, 18, none⟩ (.int .u64 (sg : Nat))).setCell ⟨ba, 19, none⟩ (.slice rb (s.rules.length + 1) rc') = w8 at *
          go_wp2_with fail
          go_ret2
          refine HP0.out _ _ (HSW.out _ _ ⟨_, mb, f, _, HA7.out⟩) HT8.out ?_
          intro i hi
          rcases hi with hi | hi | hi
          · exact .inl hi
          · rcases HLOC.out with e | e
            · rw [e] at hi; exact .inl (HA5.out.frv i hi)
            · rw [e] at hi
              cases hi
              exact .inr ⟨HZ5.out, HZ6.out _ e⟩
          · exact .inr ⟨hfr.out i hi, HZ8.out i hi⟩
    · have hsw : swapOk s.g = false := by simpa using hsw
      have HP0 : Hid (∀ W, Below w.heap.size w W → SwapPost w ba F s rs (.returned (.tuple #[.int .i64 0, .int .i64 2])) W) := Lib.hid (fun W hb => swapPost_same (by unfold swapA; rw [if_neg (by rw [hf]; decide), if_neg (by rw [hsw]; decide)]) (by unfold swapS; rw [if_neg]; rw [hsw]; rintro ⟨_, h⟩; cases h) (h.below hb) hb)
      rw [hsw] at HGS
      clear hR hT h hf hsw hl hs
      generalize swapW s.g = sg at *
      generalize hrl : rs.length = m at *
      go_enter Tryz.func23, Tryz.ntmps23
      go_wp2_with fail
      refine HFI.out.mono ?_
      rintro e w2 ⟨rfl, h2⟩
      have HB2 := Lib.hid h2
      obtain ⟨rv, mb, f, vs, hA2⟩ := HH.out.below h2
      have g0 : w2.cell? ⟨ba, 18, none⟩ = some (.int .u64 (s.g : Nat)) := hA2.cell rfl
      clear hA2 h2
      go_wp2_with fail
      refine (HGS.out _).mono ?_
      rintro e w3 ⟨rfl, h3⟩
      have HB3 := Lib.hid (below_then HB2.out h3)
      clear h3 g0 HGS HFI HB2
      go_wp2_with fail
      go_ret2
      exact HP0.out _ HB3.out
  · have HP0 : Hid (∀ W, Below w.heap.size w W → SwapPost w ba F s rs (.returned (.tuple #[.int .i64 0, .int .i64 (fitsF rs)])) W) := Lib.hid (fun W hb => swapPost_same (by unfold swapA; rw [if_pos hf]) (by unfold swapS; rw [if_neg]; rintro ⟨h, _⟩; exact hf h) (h.below hb) hb)
    clear hR hT h hl hs
    generalize fitsF rs = fr at *
    generalize hrl : rs.length = m at *
    go_enter Tryz.func23, Tryz.ntmps23
    go_wp2_with fail
    refine HFI.out.mono ?_
    rintro e w2 ⟨rfl, h2⟩
    have HB2 := Lib.hid h2
    clear h2
    go_wp2_with fail
    go_ret2
    exact HP0.out _ HB2.out
end Go.Proofs.YtahgapkecabnjaaGreatDoor
