/- The walk of rules.Compile. Printed by gen_rulei.py. -/
import Derived.Test.YtfiddoibnjildaaGreatDoorRuleH
import Derived.Test.YtfiddoibnjildaaGreatDoorRuleD
import Derived.Test.YtfiddoibnjildaaGreatDoorTextE
import Derived.Maps.AppendAt
namespace Go.Proofs.YtfiddoibnjildaaGreatDoor
set_option linter.unusedSimpArgs false
set_option linter.unusedVariables false
open Go Go.RowKit

def rowsC (rs : List Rl) : List Value := rs.flatMap ruleC
theorem rowsC_get : ∀ (rs : List Rl) (j k : Nat) (r : Rl), rs[j]? = some r → k < 10 → (rowsC rs)[j * 10 + k]? = (ruleC r)[k]?
  | [], j, k, r, h, _ => by simp at h
  | x :: rs, 0, k, r, h, hk => by
    simp at h; subst h
    show (ruleC x ++ rowsC rs)[0 * 10 + k]? = _
    rw [List.getElem?_append_left (by simp [ruleC]; omega), Nat.zero_mul, Nat.zero_add]
  | x :: rs, j + 1, k, r, h, hk => by
    show (ruleC x ++ rowsC rs)[(j + 1) * 10 + k]? = _
    rw [List.getElem?_append_right (by simp [ruleC]; omega), show (j + 1) * 10 + k - (ruleC x).length = j * 10 + k by simp [ruleC]; omega]
    exact rowsC_get rs j k r (by simpa using h) hk
theorem rowsC_snoc (rs : List Rl) (r : Rl) : rowsC (rs ++ [r]) = rowsC rs ++ ruleC r := by simp [rowsC]
theorem rules_cells {w : World} {a : Option Addr} {rs : List Rl} (hin : ∀ r ∈ rs, r.In) (h : ∀ j x, (rowsC rs)[j]? = some x → ∃ g, a = some ⟨g, 0, none⟩ ∧ w.cell? ⟨g, j, none⟩ = some x) : RulesAt w a rs := fun j r hj => by
  refine ⟨hin r (List.mem_of_getElem? hj), ?_⟩
  have hk : ∀ k v, k < 10 → (ruleC r)[k]? = some v → ∃ g, a = some ⟨g, 0, none⟩ ∧ w.cell? ⟨g, j * 10 + k, none⟩ = some v := fun k v hk hv => h _ _ ((rowsC_get rs j k r hj hk).trans hv)
  obtain ⟨g, rfl, h0⟩ := hk 0 _ (by omega) rfl
  have hk' : ∀ k v, k < 10 → (ruleC r)[k]? = some v → w.cell? ⟨g, j * 10 + k, none⟩ = some v := fun k v hk1 hv => by
    obtain ⟨g', e, hx⟩ := hk k v hk1 hv
    injection e with e; injection e with e
    subst e; exact hx
  have e : (⟨g, 0, none⟩ : Addr).add (j * 10) = ⟨g, j * 10, none⟩ := by rw [Addr.add_mid, Nat.zero_add]
  refine ⟨_, rfl, ?_⟩
  rw [e]
  exact ⟨h0, hk' 1 _ (by omega) rfl, hk' 2 _ (by omega) rfl, hk' 3 _ (by omega) rfl, hk' 4 _ (by omega) rfl, hk' 5 _ (by omega) rfl, hk' 6 _ (by omega) rfl, hk' 7 _ (by omega) rfl, hk' 8 _ (by omega) rfl, hk' 9 _ (by omega) rfl⟩
/-- Rules in a slice. -/
def Rules (w : World) (v : Value) (rs : List Rl) : Prop := ∃ a c, v = .slice a rs.length c ∧ RulesAt w a rs
theorem rules_of_row {w : World} {base : Nat} {v : Value} {rs : List Rl} (h : w.ownsRow base 44 10 v rs.length (rowsC rs)) (hin : ∀ r ∈ rs, r.In) : ∃ a c, v = .slice a rs.length c ∧ RulesAt w a rs := by
  obtain ⟨a, c, rfl, hx⟩ := row_form (Row_of_owns h)
  exact ⟨a, c, rfl, rules_cells hin fun j x hj => let ⟨g, h1, h2, _⟩ := hx j x hj; ⟨g, h1, h2⟩⟩
theorem rules_nil (w : World) (a : Option Addr) : RulesAt w a [] := fun j r h => by simp at h
theorem ruleInfo : (Tryz.prog.info? 44).map (fun i => (i.zero, i.size, i.bytes)) = some (some (.agg #[.bool false, .int .u8 0, .int .u32 0, .int .i64 0, .int .u32 0, .int .i64 0, .int .u16 0, .int .u16 0, .int .u16 0, .int .u16 0]), 10, 48) := by kernel_rfl
theorem ruleC_cell (r : Rl) : ∀ u ∈ ruleC r, u.oneCell' = true := by
  intro x hx
  simp only [ruleC, List.mem_cons, List.not_mem_nil, or_false] at hx
  rcases hx with rfl | rfl | rfl | rfl | rfl | rfl | rfl | rfl | rfl | rfl <;> rfl
def CompPost (q : List Rl × Nat × Int) (w : World) (e : Ending) (w' : World) : Prop := ∃ v, e = .returned (.tuple #[v, .int .i64 q.2.1, .int .i64 q.2.2]) ∧ Rules w' v q.1 ∧ Below w.heap.size w w'
theorem cells_at (w : World) (l : List Value) (t : TypeId) (n : Nat) (hn : n = w.heap.size) : ∀ j u, l[j]? = some u → (w.alloc (.cells l.toArray t)).cell? ((⟨n, 0, none⟩ : Addr).add j) = some u := by
  subst hn; exact cells_new w l t
theorem textF_words {l : List UInt8} {ls : List Ln} {a : Nat} {c : Int} (h : textF l = (ls, a, c)) : ∀ x ∈ ls, ∀ u ∈ x.2, u.length ≤ 65536 := by
  unfold textF at h
  split at h
  · cases h; simp
  · cases hb : firstBad l with
    | some i => rw [hb] at h; cases h; simp
    | none =>
      rw [hb] at h; cases h
      intro x hx u hu
      have := ((lines_bound (by omega) hb).2 x hx).2.2 u hu
      omega
set_option maxHeartbeats 8000000 in
set_option maxRecDepth 100000 in
theorem compile_any (s : ByteArray) (w : World) (hs : s.size ≤ 140737488351232) (hT : TabsT w) :
    Calls Tryz.prog 4 #[.string s] w (CompPost (compileF s.data.toList) w) := by
  obtain ⟨ls, la, lc, hx⟩ : ∃ x y z, textF s.data.toList = (x, y, z) := ⟨_, _, _, rfl⟩
  have hcf : compileF s.data.toList = if lc = 0 then compF [] ls else ([], la, lc) := by unfold compileF; rw [hx]
  have HLV := Lib.hid (lines_val s ls la lc w hs hT hx)
  have hsz := (textF_size hx).1
  have HWL := Lib.hid (textF_words hx)
  have HT := Lib.hid hT.tabs
  clear hT hs hx
  unfold CompPost
  generalize compileF s.data.toList = res at *
  obtain ⟨i0, hi, hz0, hz1, hz2⟩ := info_parts ruleInfo
  go_enter Tryz.func4, Tryz.ntmps4
  go_wp2_with fail
  refine HLV.out.mono ?_
  rintro e w1 ⟨lv, rfl, hlines, hb1⟩
  have HB1 := Lib.hid hb1
  clear hb1 HLV
  by_cases hc : lc = 0
  · subst hc
    rw [if_pos rfl] at hcf
    have HCF := Lib.hid hcf
    clear hcf
    obtain ⟨a0, c0, rfl, _, hcells⟩ := hlines
    have HC := Lib.hid hcells
    clear hcells
    go_wp2_with fail
    go_loopw [2, 23] (fun v n wr => ∃ (j : Nat) (rs : List Rl), n = .int .i64 j ∧ j ≤ ls.length ∧ rs.length ≤ 64 ∧ Hid (∀ r ∈ rs, r.In) ∧ Hid (compF rs (ls.drop j) = compF [] ls) ∧ Hid (wr.ownsRow w1.heap.size 44 10 v rs.length (rowsC rs)) ∧ Hid (Below w1.heap.size w1 wr)) (fun _ n _ => ls.length - (intOf n).toNat)
    case atStart => exact ⟨0, [], rfl, by omega, by simp, Lib.hid (fun r h => by cases h), Lib.hid rfl, Lib.hid ⟨rfl, .inl ⟨rfl, rfl⟩⟩, Lib.hid (Below.refl _ _)⟩
    case round =>
      obtain ⟨j, rs, rfl, hj, h64, hIN, hCO, hOW, hB⟩ := hrel
      by_cases hl : j < ls.length
      · obtain ⟨⟨N, ws⟩, hlj⟩ : ∃ l, ls[j]? = some l := ⟨ls[j], List.getElem?_eq_getElem hl⟩
        obtain ⟨b, o, wv, rfl, k1, k2, hWD⟩ := HC.out j (N, ws) hlj
        simp only at k1 hWD
        obtain ⟨aw, cw, rfl, hwd⟩ := hWD
        have hWD : Words w1 (.slice aw ws.length cw) ws := ⟨aw, cw, rfl, hwd⟩
        clear hwd
        rw [Nat.mul_comm 2 j] at k1 k2
        have m1 := (hB.out.cell (p := ⟨b, o + j * 2, none⟩) (World.block_lt_of_cell? w1 _ k1)).trans k1
        have m2 := (hB.out.cell (p := ⟨b, o + j * 2 + 1, none⟩) (World.block_lt_of_cell? w1 _ k2)).trans k2
        have hbx : Below wr.heap.size wr (wr.alloc (.cells #[.int .i64 N, .slice aw ws.length cw] 36)) := (Below.refl _ _).alloc (Nat.le_refl _) _
        have HWW := Lib.hid ((hWD.below hB.out).below hbx)
        have hdrop : ls.drop j = (N, ws) :: ls.drop (j + 1) := by
          rw [List.drop_eq_getElem_cons hl]
          rw [List.getElem?_eq_getElem hl] at hlj
          injection hlj with hlj; rw [hlj]
        have hcu : compF rs (ls.drop j) = if rs.length = 64 then ([], N, 14) else match ruleOf ws with
            | none => ([], N, 3)
            | some x => compF (rs ++ [x]) (ls.drop (j + 1)) := by rw [hdrop]; rfl
        have HCU := Lib.hid hcu
        have hwl : ∀ u ∈ ws, u.length ≤ 65536 := HWL.out (N, ws) (List.mem_of_getElem? hlj)
        have HRU := Lib.hid (fun W (hW : Words W (.slice aw ws.length cw) ws) (hT : Tabs W) => rule_any _ ws W hW hwl hT)
        have hBx := below_then hB.out hbx
        have HBx := Lib.hid hBx
        have HOWx := Lib.hid (owns_below hOW.out hbx)
        have x0 : (wr.alloc (.cells #[.int .i64 N, .slice aw ws.length cw] 36)).cell? ⟨wr.heap.size, 0, none⟩ = some (.int .i64 N) := by simp
        have x1 : (wr.alloc (.cells #[.int .i64 N, .slice aw ws.length cw] 36)).cell? ⟨wr.heap.size, 1, none⟩ = some (.slice aw ws.length cw) := by simp
        clear k1 k2 hWD hbx hdrop hcu hwl hBx hlj
        obtain ⟨av, cv, rfl, _⟩ := row_form (Row_of_owns hOW.out)
        by_cases h6 : rs.length = 64
        · have hV : Hid (res = ([], N, 14)) := Lib.hid (by rw [HCF.out, ← hCO.out, HCU.out, if_pos h6])
          have hlen64 : ((rs.length : Int) == 64) = true := by simp [h6]
          go_wp2_with fail
          clear m1 m2
          generalize wr.alloc (.cells #[.int .i64 N, .slice aw ws.length cw] 36) = wx at *
          refine WQ.enter wx (Since.refl _) (by kernel_rfl) (by kernel_rfl) ?_
          refine WQ.val (by rfl) (fun v hv => by have k0 := hv.cell x0; go_simp; first | done | with_reducible rfl | (rw [if_neg (by omega)])) ?_; simp only [Act.put, List.setIfInBounds_toArray, List.set_cons_zero, List.set_cons_succ]
          refine WQ.val (by rfl) (fun v hv => by have k0 := hv.cell x0; go_simp; first | done | with_reducible rfl | (rw [if_neg (by omega)])) ?_; simp only [Act.put, List.setIfInBounds_toArray, List.set_cons_zero, List.set_cons_succ]
          refine WQ.val (by rfl) (fun v hv => by have k0 := hv.cell x0; go_simp; first | done | with_reducible rfl | (rw [if_neg (by omega)])) ?_; simp only [Act.put, List.setIfInBounds_toArray, List.set_cons_zero, List.set_cons_succ]
          refine WQ.val (by rfl) (fun v hv => by have k0 := hv.cell x0; go_simp; first | done | with_reducible rfl | (rw [if_neg (by omega)])) ?_; simp only [Act.put, List.setIfInBounds_toArray, List.set_cons_zero, List.set_cons_succ]
          refine WQ.val (by rfl) (fun v hv => by have k0 := hv.cell x0; go_simp; first | done | with_reducible rfl | (rw [if_neg (by omega)])) ?_; simp only [Act.put, List.setIfInBounds_toArray, List.set_cons_zero, List.set_cons_succ]
          refine WQ.done ?_
          intro w5 hw5
          have HBE := Lib.hid (HB1.out.trans ((below_then HBx.out hw5).mono HB1.out.size))
          clear x0 x1 hw5
          go_wp2_with fail
          go_ret3
          exact ⟨_, by (rw [hV.out]) <;> rfl, ⟨none, 0, by rw [hV.out]; rfl, by rw [hV.out]; exact rules_nil _ _⟩, HBE.out⟩
        · have hlen64 : ((rs.length : Int) == 64) = false := beq_eq_false_iff_ne.2 (by omega)
          go_wp2_with fail
          clear m1 m2
          generalize hxw : wr.alloc (.cells #[.int .i64 N, .slice aw ws.length cw] 36) = wx at *
          generalize hbn : wr.heap.size = bn at *
          refine (HRU.out _ HWW.out (HT.out.below (HB1.out.trans (HBx.out.mono HB1.out.size)))).mono ?_
          rintro e w3 ⟨r, ok, rfl, hro, h3⟩
          have HB3 := Lib.hid (below_then HBx.out h3)
          have HOW3 := Lib.hid (owns_below HOWx.out h3)
          have y0' := (h3.cell (p := ⟨bn, 0, none⟩) (World.block_lt_of_cell? wx _ x0)).trans x0
          have HRO := Lib.hid hro
          have hby : Below w3.heap.size w3 (w3.alloc (.cells (ruleC r).toArray 44)) := (Below.refl _ _).alloc (Nat.le_refl _) _
          have HBy := Lib.hid (below_then HB3.out hby)
          have HOWy := Lib.hid (owns_below HOW3.out hby)
          have y0 := (hby.cell (p := ⟨bn, 0, none⟩) (World.block_lt_of_cell? w3 _ y0')).trans y0'
          clear h3 hro hby x0 x1 hxw hbn
          obtain ⟨acc, pr, sa, sb, da, db, sl, sh, dl, dh⟩ := r
          simp only [ruleV]
          cases ok with
          | false =>
            have hV : Hid (res = ([], N, 3)) := Lib.hid (by rw [HCF.out, ← hCO.out, HCU.out, if_neg h6, HRO.out]; rfl)
            go_wp2_with fail
            clear y0' HB3
            have hwy : w3.alloc (.cells (ruleC ⟨acc, pr, sa, sb, da, db, sl, sh, dl, dh⟩).toArray 44) = w3.alloc (.cells #[.bool acc, .int .u8 pr, .int .u32 sa, .int .i64 sb, .int .u32 da, .int .i64 db, .int .u16 sl, .int .u16 sh, .int .u16 dl, .int .u16 dh] 44) := rfl
            rw [hwy] at y0 HBy HOWy
            clear hwy
            generalize w3.alloc (.cells #[.bool acc, .int .u8 pr, .int .u32 sa, .int .i64 sb, .int .u32 da, .int .i64 db, .int .u16 sl, .int .u16 sh, .int .u16 dl, .int .u16 dh] 44) = wy at *
            refine WQ.enter wy (Since.refl _) (by kernel_rfl) (by kernel_rfl) ?_
            refine WQ.val (by rfl) (fun v hv => by have k0 := hv.cell y0; go_simp; first | done | with_reducible rfl | (rw [if_neg (by omega)])) ?_; simp only [Act.put, List.setIfInBounds_toArray, List.set_cons_zero, List.set_cons_succ]
            refine WQ.val (by rfl) (fun v hv => by have k0 := hv.cell y0; go_simp; first | done | with_reducible rfl | (rw [if_neg (by omega)])) ?_; simp only [Act.put, List.setIfInBounds_toArray, List.set_cons_zero, List.set_cons_succ]
            refine WQ.val (by rfl) (fun v hv => by have k0 := hv.cell y0; go_simp; first | done | with_reducible rfl | (rw [if_neg (by omega)])) ?_; simp only [Act.put, List.setIfInBounds_toArray, List.set_cons_zero, List.set_cons_succ]
            refine WQ.val (by rfl) (fun v hv => by have k0 := hv.cell y0; go_simp; first | done | with_reducible rfl | (rw [if_neg (by omega)])) ?_; simp only [Act.put, List.setIfInBounds_toArray, List.set_cons_zero, List.set_cons_succ]
            refine WQ.val (by rfl) (fun v hv => by have k0 := hv.cell y0; go_simp; first | done | with_reducible rfl | (rw [if_neg (by omega)])) ?_; simp only [Act.put, List.setIfInBounds_toArray, List.set_cons_zero, List.set_cons_succ]
            refine WQ.done ?_
            intro w5 hw5
            have HBE := Lib.hid (HB1.out.trans ((below_then HBy.out hw5).mono HB1.out.size))
            clear y0 hw5
            go_wp2_with fail
            go_ret3
            exact ⟨_, by (rw [hV.out]) <;> rfl, ⟨none, 0, by rw [hV.out]; rfl, by rw [hV.out]; exact rules_nil _ _⟩, HBE.out⟩
          | true =>
            have HN : Hid (compF (rs ++ [⟨acc, pr, sa, sb, da, db, sl, sh, dl, dh⟩]) (ls.drop (j + 1)) = compF [] ls) := Lib.hid (by rw [← hCO.out, HCU.out, if_neg h6, HRO.out]; rfl)
            have HIr : Hid (∀ r ∈ rs ++ [(⟨acc, pr, sa, sb, da, db, sl, sh, dl, dh⟩ : Rl)], r.In) := Lib.hid (fun r hr => by
              rcases List.mem_append.1 hr with h | h
              · exact hIN.out r h
              · rw [List.mem_singleton.1 h]; exact (ruleOf_iff.1 HRO.out).1)
            have hwy : w3.alloc (.cells (ruleC ⟨acc, pr, sa, sb, da, db, sl, sh, dl, dh⟩).toArray 44) = w3.alloc (.cells #[.bool acc, .int .u8 pr, .int .u32 sa, .int .i64 sb, .int .u32 da, .int .i64 db, .int .u16 sl, .int .u16 sh, .int .u16 dl, .int .u16 dh] 44) := rfl
            rw [hwy] at y0 HBy HOWy
            clear hwy y0 y0'
            have hbase : Hid (w1.heap.size ≤ (w3.alloc (.cells #[.bool acc, .int .u8 pr, .int .u32 sa, .int .i64 sb, .int .u32 da, .int .i64 db, .int .u16 sl, .int .u16 sh, .int .u16 dl, .int .u16 dh] 44)).heap.size) := Lib.hid HBy.out.size
            have HOWz := Lib.hid (HOWy.out.alloc (.cells (rowsC [⟨acc, pr, sa, sb, da, db, sl, sh, dl, dh⟩]).toArray 44))
            go_wp2_with (at_builtin; refine Hid.out ?_)
            refine Lib.hid ?_
            refine wpList_append_own_at _ rfl _ _ 22 rfl w1.heap.size 44 i0 (.agg #[.bool false, .int .u8 0, .int .u32 0, .int .i64 0, .int .u32 0, .int .i64 0, .int .u16 0, .int .u16 0, .int .u16 0, .int .u16 0]) 10 48 Tryz.underlying22 hi hz0 hz1 hz2 rfl (by decide) _ rs.length (rowsC rs) rfl HOWz.out ⟨_, 0, none⟩ 1 1 (ruleC ⟨acc, pr, sa, sb, da, db, sl, sh, dl, dh⟩) rfl rfl (cells_at _ (ruleC ⟨acc, pr, sa, sb, da, db, sl, sh, dl, dh⟩) _ _ (by simp)) (ruleC_cell _) (by unfold maxLen; omega) (by omega) (by have := hbase.out; simp at this ⊢; omega) ?_
            intro v' w5 hown hgrow _ hloc
            have HOW5 : Hid (w5.ownsRow w1.heap.size 44 10 v' (rs ++ [(⟨acc, pr, sa, sb, da, db, sl, sh, dl, dh⟩ : Rl)]).length (rowsC (rs ++ [⟨acc, pr, sa, sb, da, db, sl, sh, dl, dh⟩]))) := Lib.hid (by rw [rowsC_snoc, List.length_append]; exact hown)
            have HB5 : Hid (Below w1.heap.size w1 w5) := Lib.hid ((HBy.out.alloc HBy.out.size _).grown hgrow (by have := (HBy.out.alloc HBy.out.size (.cells (ruleC ⟨acc, pr, sa, sb, da, db, sl, sh, dl, dh⟩).toArray 44)).size; exact this) (fun b hb => by
              rcases HOWy.out.2 with ⟨e, _⟩ | ⟨g, cap, cur, e, hg, _⟩
              · rw [e] at hb; cases hb
              · rw [e] at hb; cases hb; exact hg))
            clear hown hgrow hloc HOWz HOWy HBy HOW3 HB3 HBx HOWx hbase
            go_wp2_with fail
            go_roundw
            case rel => exact ⟨j + 1, _, by go_num, by omega, by simp; omega, HIr, HN, HOW5, HB5⟩
            case measure => simp [intOf]; omega
      · obtain rfl : j = ls.length := by omega
        have hV : Hid (res = (rs, 0, 0)) := Lib.hid (by
          rw [HCF.out, ← hCO.out, List.drop_length]; rfl)
        obtain ⟨av, cv, rfl, hRA⟩ := rules_of_row hOW.out hIN.out
        have hcap := owns_cap hOW.out
        have HRA := Lib.hid hRA
        have HBE := Lib.hid (HB1.out.trans (hB.out.mono HB1.out.size))
        clear hRA hOW hIN hCO
        go_wp2_with fail
        go_ret3
        exact ⟨_, by (rw [hV.out]) <;> rfl, ⟨av, rs.length, by (rw [hV.out]) <;> rfl, by rw [hV.out]; exact HRA.out⟩, HBE.out⟩
  · rw [if_neg hc] at hcf
    have hcb : (lc == 0) = false := beq_eq_false_iff_ne.2 hc
    have HCF := Lib.hid hcf
    clear hcf hc
    go_wp2_with fail
    go_ret3
    exact ⟨_, by (rw [HCF.out]) <;> rfl, ⟨none, 0, by rw [HCF.out]; rfl, by rw [HCF.out]; exact rules_nil _ _⟩, HB1.out⟩
end Go.Proofs.YtfiddoibnjildaaGreatDoor
