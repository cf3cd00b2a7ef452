/- The walk of the reference's Compile. Printed by gen_ruleo.py. -/
import Derived.Test.YtfiddoibnjildaaGreatDoorRuleI
import Derived.Test.YtfiddoibnjildaaGreatDoorRuleM
import Derived.Test.YtfiddoibnjildaaGreatDoorRuleN
namespace Go.Proofs.YtfiddoibnjildaaGreatDoor
set_option linter.unusedSimpArgs false
set_option linter.unusedVariables false
open Go Go.RowKit

section
variable {P : Program} {ops : Array Oper}
/-- Two may come up next. -/
theorem WH.two {Q : Exit → Act → World → Prop} {S : World → Prop} (i j : Nat) {oi oj : Oper} {fuel : Nat} {listed : Array Bool} {a : Act} {w : World} (hr : Region.ready .any ops listed = [i, j]) (hi : ops[i]? = some oi) (hj : ops[j]? = some oj)
    (hwi : Region.wanted oi (yielded ops a.tmps) = true) (hwj : Region.wanted oj (yielded ops a.tmps) = true)
    (h1 : oi.wp P a w (fun a' w' => S w' ∧ WH P ops Q S fuel (listed.setIfInBounds i true) a' w') Q)
    (h2 : oj.wp P a w (fun a' w' => S w' ∧ WH P ops Q S fuel (listed.setIfInBounds j true) a' w') Q) : WH P ops Q S (fuel + 1) listed a w :=
  ⟨wpAnyH_all hr (by simp) (fun k hk => by
    rcases List.mem_cons.1 hk with rfl | hk
    · unfold wpOp
      rw [hi]
      simp only [hwi, if_true]
      exact .inl (Oper.wp_mono (fun a' w' h' => ⟨h'.1, h'.2.out⟩) h1)
    · obtain rfl := List.mem_singleton.1 hk
      unfold wpOp
      rw [hj]
      simp only [hwj, if_true]
      exact .inl (Oper.wp_mono (fun a' w' h' => ⟨h'.1, h'.2.out⟩) h2))⟩
end
/-- A cut behind a piece of code: its slots are known but for x. -/
def CutQ {α : Type} (A : α → Act) (F : α → World → Prop) (e : Exit) (a : Act) (w : World) : Prop := e = .normal ∧ ∃ x, a = A x ∧ F x w
theorem wp_cut {α : Type} {P : Program} {c : Code} {Q : Exit → Act → World → Prop} {a : Act} {w : World} {A : α → Act} (F : α → World → Prop)
    (h1 : c.wp P (CutQ A F) a w) (h2 : ∀ x w', F x w' → Q .normal (A x) w') : c.wp P Q a w :=
  Code.wp_mono (fun e a w' h => by obtain ⟨he, x, ha, hf⟩ := h; subst he ha; exact h2 x w' hf) h1
/-- A rule in a block. -/
def RBox (w : World) (b : Nat) (r : Rl) : Prop := w.heap[b]? = some (.cells (ruleC r).toArray 44 (0, 0))
theorem RBox.cell {w : World} {b : Nat} {r : Rl} (h : RBox w b r) {k : Nat} {v : Value} (hk : (ruleC r)[k]? = some v) : w.cell? ⟨b, k, none⟩ = some v := by
  unfold RBox at h
  have hl : k < (ruleC r).length := (List.getElem?_eq_some_iff.1 hk).1
  simp [World.cell?, h, hk]
theorem RBox.free {w : World} {b : Nat} {r : Rl} (h : RBox w b r) (k : Nat) : w.frozen? ⟨b, k, none⟩ = false := by
  unfold RBox at h
  simp [World.frozen?, h]
theorem RBox.lt {w : World} {b : Nat} {r : Rl} (h : RBox w b r) : b < w.heap.size := (Array.getElem?_eq_some_iff.1 h).1
theorem RBox.below {w w' : World} {b : Nat} {r : Rl} (h : RBox w b r) (k : Below w.heap.size w w') : RBox w' b r := (k.block b h.lt).trans h
theorem RBox.set {w : World} {b : Nat} {r r' : Rl} (h : RBox w b r) (k : Nat) (v : Value) (he : ruleC r' = (ruleC r).set k v) : RBox (w.setCell ⟨b, k, none⟩ v) b r' := by
  unfold RBox at h ⊢
  have hlt := (Array.getElem?_eq_some_iff.1 h).1
  have hv := (Array.getElem?_eq_some_iff.1 h).2
  unfold World.setCell
  simp only [Array.getElem?_modify, h, if_true, Option.map_some, he]
  simp
theorem RBox.cells {w : World} {b : Nat} {r : Rl} (h : RBox w b r) : ∀ j v, (ruleC r)[j]? = some v → w.cell? ⟨b, j, none⟩ = some v := fun j v hj => h.cell hj
theorem RBox.new (w : World) (r : Rl) : RBox (w.alloc (.cells (ruleC r).toArray 44)) w.heap.size r := (MapKept.heap_alloc w _).1
theorem netF_V (l : List UInt8) : netF l = ((netV l).1, (netV l).2, (netF l).2.2) := by
  unfold netF netV
  cases netOf l with
  | none => rfl
  | some x => rfl
theorem refNet_val (s : ByteArray) (a b : Nat) (w : World) (hs : s.size ≤ 65536) (h : netV s.data.toList = (a, b)) :
    Calls Tryz.prog 13 #[.string s] w fun e w' => (∃ c, e = .returned (.tuple #[.agg #[.int .u32 a, .int .i64 b], .int .i64 c])) ∧ Below w.heap.size w w' :=
  (refNet_any s w (by omega)).mono fun e w' hp => by
    unfold NetPost at hp
    have e := netF_V s.data.toList
    rw [h] at e
    rw [e] at hp
    exact ⟨⟨_, hp.1⟩, hp.2⟩
theorem refPorts_val (s : ByteArray) (a b : Nat) (w : World) (hs : s.size ≤ 65536) (h : refSpan s.data.toList = (a, b)) :
    Calls Tryz.prog 11 #[.string s] w fun e w' => e = .returned (.agg #[.int .u16 a, .int .u16 b]) ∧ Below w.heap.size w w' := by
  have := refPorts_any s w hs
  unfold PortsPost at this
  rw [h] at this
  exact this
theorem setCells_block {b : Nat} {T : TypeId} : ∀ (vs : List Value) (o : Nat) (w : World) (cs : List Value), w.heap[b]? = some (.cells cs.toArray T (0, 0)) → o + vs.length ≤ cs.length →
    (w.setCells b o vs).heap[b]? = some (.cells (cs.take o ++ vs ++ cs.drop (o + vs.length)).toArray T (0, 0))
  | [], o, w, cs, h, hl => by simpa [World.setCells] using h
  | v :: r, o, w, cs, h, hl => by
    simp only [List.length_cons] at hl
    have h1 : (w.setCell ⟨b, o, none⟩ v).heap[b]? = some (.cells (cs.set o v).toArray T (0, 0)) := by
      unfold World.setCell
      simp only [Array.getElem?_modify, h, if_true, Option.map_some]
      simp
    have h2 := setCells_block r (o + 1) (w.setCell ⟨b, o, none⟩ v) (cs.set o v) h1 (by simp; omega)
    rw [World.setCells, h2]
    have e : (cs.set o v).take (o + 1) ++ r ++ (cs.set o v).drop (o + 1 + r.length) = cs.take o ++ v :: r ++ cs.drop (o + (v :: r).length) := by
      rw [List.drop_set_of_lt (by omega), List.take_add_one, List.take_set_of_le (Nat.le_refl _), List.getElem?_set_self (by omega)]
      simp [Nat.add_assoc, Nat.add_comm 1]
    rw [e]
theorem RBox.ten {w : World} {b : Nat} {acc : Bool} {pr sa : Nat} {sb da : Nat} {db : Nat} {sl sh dl dh : Nat} (h : RBox w b ⟨acc, pr, sa, sb, da, db, sl, sh, dl, dh⟩) : BoxAt w b acc pr sa sb da db sl sh dl dh :=
  ⟨h.cell rfl, h.cell rfl, h.cell rfl, h.cell rfl, h.cell rfl, h.cell rfl, h.cell rfl, h.cell rfl, h.cell rfl, h.cell rfl⟩
theorem refRule_in (l0 l1 l2 l3 l4 l5 : List UInt8) : (refRule l0 l1 l2 l3 l4 l5).In :=
  ⟨Nat.lt_of_le_of_lt (proto_lt l1 18) (by decide), netV_lt _, netV_lt _, (refSpan_lt _).1, (refSpan_lt _).2, (refSpan_lt _).1, (refSpan_lt _).2⟩
theorem RBox.store {w : World} {b : Nat} {r : Rl} (h : RBox w b r) (r' : Rl) : RBox (w.setCells b 0 (ruleC r').toArray.toList) b r' := by
  have := setCells_block (ruleC r') 0 w (ruleC r) h (by simp [ruleC])
  have e : (ruleC r).drop (0 + (ruleC r').length) = [] := by simp [ruleC]
  rw [e] at this
  simpa [RBox] using this
theorem RBox.there {w : World} {b : Nat} {r : Rl} (h : RBox w b r) : w.there b 0 10 := fun j hj => by
  have hl : j < (ruleC r).length := by simp [ruleC]; omega
  rw [Nat.zero_add]
  exact ⟨by rw [h.cell (List.getElem?_eq_getElem hl)]; rfl, h.free j⟩
theorem Since.setCells {w w1 : World} (h : Since w w1) {b : Nat} (hb : w.heap.size ≤ b) (o : Nat) (vs : List Value) : Since w (w1.setCells b o vs) := by
  obtain ⟨h1, h2, h3, h4, h5⟩ := setCells_since b vs o w1
  exact ⟨h2.trans h.os, h3.trans h.tape, h4.trans h.output, by rw [h1]; exact h.size, fun i hi => (h5 i (by omega)).trans (h.block i hi)⟩
theorem decide_eq_beq_accept (l : List UInt8) : decide (l = acceptL) = (l == [97, 99, 99, 101, 112, 116]) := by
  unfold acceptL
  cases h : (l == [97, 99, 99, 101, 112, 116]) with
  | true => exact decide_eq_true (beq_iff_eq.1 h)
  | false => exact decide_eq_false (beq_eq_false_iff_ne.1 h)
set_option maxHeartbeats 8000000 in
set_option maxRecDepth 100000 in
theorem refCompile_any (s : ByteArray) (w : World) (hs : s.size ≤ 140737488351232) :
    Calls Tryz.prog 5 #[.string s] w (CompPost (compileF s.data.toList) w) := by
  obtain ⟨ls, la, lc, hx⟩ : ∃ x y z, textF s.data.toList = (x, y, z) := ⟨_, _, _, rfl⟩
  have hcf : compileF s.data.toList = if lc = 0 then compF [] ls else ([], la, lc) := by unfold compileF; rw [hx]
  have HLV := Lib.hid (refLines_val s ls la lc w hs hx)
  have hsz := (textF_size hx).1
  have HWL := Lib.hid (textF_words hx)
  have HOK := Lib.hid (textF_ok hx)
  clear hs hx
  unfold CompPost
  generalize compileF s.data.toList = res at *
  obtain ⟨i0, hi, hz0, hz1, hz2⟩ := info_parts ruleInfo
  go_enter Tryz.func5, Tryz.ntmps5
  go_wp2_with fail
  refine HLV.out.mono ?_
  rintro e w1 ⟨lv, rfl, hlines, hb1⟩
  have HB1 := Lib.hid hb1
  clear hb1 HLV
  by_cases hc : lc = 0
  · subst hc
    rw [if_pos rfl] at hcf
    have HCF := Lib.hid hcf
    clear hcf
    obtain ⟨a0, c0, rfl, _, hcells⟩ := hlines
    have HC := Lib.hid hcells
    clear hcells
    go_wp2_with fail
    go_loopw [8, 9] (fun v n wr => ∃ (j : Nat) (rs : List Rl), n = .int .i64 j ∧ j ≤ ls.length ∧ rs.length = j ∧ rs.length ≤ 64 ∧ Hid (∀ r ∈ rs, r.In) ∧ Hid (compF rs (ls.drop j) = compF [] ls) ∧ Hid (wr.ownsRow w1.heap.size 44 10 v rs.length (rowsC rs)) ∧ Hid (Below w1.heap.size w1 wr)) (fun _ n _ => ls.length - (intOf n).toNat)
    case atStart => exact ⟨0, [], rfl, by omega, rfl, by simp, Lib.hid (fun r h => by cases h), Lib.hid rfl, Lib.hid ⟨rfl, .inr ⟨w1.heap.size, 0, #[], rfl, Nat.le_refl _, (MapKept.heap_alloc w1 _).1, Nat.le_refl _, Nat.zero_le _, rfl, rfl⟩⟩, Lib.hid ((Below.refl _ _).alloc (Nat.le_refl _) _)⟩
    case round =>
      obtain ⟨j, rs, rfl, hj, hrj, h64, hIN, hCO, hOW, hB⟩ := hrel
      by_cases hl : j < ls.length
      · obtain ⟨⟨N, ws⟩, hlj⟩ : ∃ l, ls[j]? = some l := ⟨ls[j], List.getElem?_eq_getElem hl⟩
        obtain ⟨b, o, wv, rfl, k1, k2, hWD⟩ := HC.out j (N, ws) hlj
        simp only at k1 hWD
        have hWr := hWD.below hB.out
        obtain ⟨aw, cw, rfl, hcl, hwd⟩ := hWr
        have HWC : Hid (∀ j x, ws[j]? = some x → ∃ b o, aw = some ⟨b, o, none⟩ ∧ wr.cell? ⟨b, o + j, none⟩ = some (str x)) := Lib.hid fun j x hj => let ⟨b, o, h1, _, h3⟩ := hwd j x hj; ⟨b, o, h1, h3⟩
        clear hwd hWD
        rw [Nat.mul_comm 2 j] at k1 k2
        have m1 := (hB.out.cell (p := ⟨b, o + j * 2, none⟩) (World.block_lt_of_cell? w1 _ k1)).trans k1
        have m2 := (hB.out.cell (p := ⟨b, o + j * 2 + 1, none⟩) (World.block_lt_of_cell? w1 _ k2)).trans k2
        have hdrop : ls.drop j = (N, ws) :: ls.drop (j + 1) := by
          rw [List.drop_eq_getElem_cons hl]
          rw [List.getElem?_eq_getElem hl] at hlj
          injection hlj with hlj; rw [hlj]
        have hcu : compF rs (ls.drop j) = if rs.length = 64 then ([], N, 14) else match ruleOf ws with
            | none => ([], N, 3)
            | some x => compF (rs ++ [x]) (ls.drop (j + 1)) := by rw [hdrop]; rfl
        have HCU := Lib.hid hcu
        have HWS : Hid (∀ u ∈ ws, u.length ≤ 65536) := Lib.hid (HWL.out (N, ws) (List.mem_of_getElem? hlj))
        have HWO : Hid (∀ u ∈ ws, okW u) := Lib.hid (HOK.out (N, ws) (List.mem_of_getElem? hlj))
        clear k1 k2 hdrop hcu hlj
        obtain ⟨av, cv, rfl, _⟩ := row_form (Row_of_owns hOW.out)
        by_cases h6 : 64 ≤ j
        · have hV : Hid (res = ([], N, 14)) := Lib.hid (by rw [HCF.out, ← hCO.out, HCU.out, if_pos (by omega)])
          have hj64 : (64 : Int) ≤ (j : Int) := by omega
          clear m2
          go_wp2_with fail
          refine WQ.enter wr (Since.refl _) (by kernel_rfl) (by kernel_rfl) ?_
          refine WQ.val (by rfl) (fun v hv => by have k0 := hv.cell m1; go_simp; first | done | with_reducible rfl | (rw [if_neg (by omega)])) ?_; simp only [Act.put, List.setIfInBounds_toArray, List.set_cons_zero, List.set_cons_succ]
          refine WQ.val (by rfl) (fun v hv => by have k0 := hv.cell m1; go_simp; first | done | with_reducible rfl | (rw [if_neg (by omega)])) ?_; simp only [Act.put, List.setIfInBounds_toArray, List.set_cons_zero, List.set_cons_succ]
          refine WQ.val (by rfl) (fun v hv => by have k0 := hv.cell m1; go_simp; first | done | with_reducible rfl | (rw [if_neg (by omega)])) ?_; simp only [Act.put, List.setIfInBounds_toArray, List.set_cons_zero, List.set_cons_succ]
          refine WQ.val (by rfl) (fun v hv => by have k0 := hv.cell m1; go_simp; first | done | with_reducible rfl | (rw [if_neg (by omega)])) ?_; simp only [Act.put, List.setIfInBounds_toArray, List.set_cons_zero, List.set_cons_succ]
          refine WQ.val (by rfl) (fun v hv => by have k0 := hv.cell m1; go_simp; first | done | with_reducible rfl | (rw [if_neg (by omega)])) ?_; simp only [Act.put, List.setIfInBounds_toArray, List.set_cons_zero, List.set_cons_succ]
          refine WQ.val (by rfl) (fun v hv => by have k0 := hv.cell m1; go_simp; first | done | with_reducible rfl | (rw [if_neg (by omega)])) ?_; simp only [Act.put, List.setIfInBounds_toArray, List.set_cons_zero, List.set_cons_succ]
          refine WQ.val (by rfl) (fun v hv => by have k0 := hv.cell m1; go_simp; first | done | with_reducible rfl | (rw [if_neg (by omega)])) ?_; simp only [Act.put, List.setIfInBounds_toArray, List.set_cons_zero, List.set_cons_succ]
          refine WQ.val (by rfl) (fun v hv => by have k0 := hv.cell m1; go_simp; first | done | with_reducible rfl | (rw [if_neg (by omega)])) ?_; simp only [Act.put, List.setIfInBounds_toArray, List.set_cons_zero, List.set_cons_succ]
          refine WQ.done ?_
          intro w5 hw5
          have HBE := Lib.hid (HB1.out.trans ((below_then hB.out hw5).mono HB1.out.size))
          clear hw5
          go_wp2_with fail
          go_ret3
          exact ⟨_, by (rw [hV.out]) <;> rfl, ⟨none, 0, by rw [hV.out]; rfl, by rw [hV.out]; exact rules_nil _ _⟩, HBE.out⟩
        · have hj64 : ¬ ((64 : Int) ≤ (j : Int)) := by omega
          by_cases hsix : ws.length = 6
          · obtain ⟨l0, l1, l2, l3, l4, l5, rfl⟩ : ∃ l0 l1 l2 l3 l4 l5, ws = [l0, l1, l2, l3, l4, l5] := by
              match ws, hsix with
              | [l0, l1, l2, l3, l4, l5], _ => exact ⟨l0, l1, l2, l3, l4, l5, rfl⟩
            obtain ⟨bw, ow, rfl, q0⟩ := HWC.out 0 l0 rfl
            have hcs : ∀ j x, [l0, l1, l2, l3, l4, l5][j]? = some x → wr.cell? ⟨bw, ow + j, none⟩ = some (str x) := fun j x hj => by
              obtain ⟨b', o', e, hx⟩ := HWC.out j x hj
              injection e with e; injection e with e1 e2; subst e1 e2
              exact hx
            have q1 := hcs 1 l1 rfl
            have q2 := hcs 2 l2 rfl
            have q3 := hcs 3 l3 rfl
            have q4 := hcs 4 l4 rfl
            have q5 := hcs 5 l5 rfl
            rw [Nat.add_zero] at q0
            clear hcs HWC hsix
            have hsize : ∀ x ∈ [l0, l1, l2, l3, l4, l5], (⟨x.toArray⟩ : ByteArray).size ≤ 65536 := fun x hx => by show x.toArray.size ≤ _; simpa using HWS.out x hx
            have HZ2 := Lib.hid (hsize l2 (by simp))
            have HZ3 := Lib.hid (hsize l3 (by simp))
            have HZ4 := Lib.hid (hsize l4 (by simp))
            have HZ5 := Lib.hid (hsize l5 (by simp))
            clear hsize
            obtain ⟨acc, hacc⟩ : ∃ p, (l0 == [97, 99, 99, 101, 112, 116]) = p := ⟨_, rfl⟩
            obtain ⟨sa, sb, hn2⟩ : ∃ x y, netV l2 = (x, y) := ⟨_, _, rfl⟩
            obtain ⟨da, db, hn4⟩ : ∃ x y, netV l4 = (x, y) := ⟨_, _, rfl⟩
            obtain ⟨sl, sh, hp3⟩ : ∃ x y, refSpan l3 = (x, y) := ⟨_, _, rfl⟩
            obtain ⟨dl, dh, hp5⟩ : ∃ x y, refSpan l5 = (x, y) := ⟨_, _, rfl⟩
            have HRR : Hid (refRule l0 l1 l2 l3 l4 l5 = ⟨acc, refProto l1, sa, sb, da, db, sl, sh, dl, dh⟩) := Lib.hid (by
              unfold refRule
              rw [hn2, hn4, hp3, hp5]
              congr 1
              rw [← hacc]
              exact decide_eq_beq_accept l0)
            have HP3 := Lib.hid (fun W => refPorts_val ⟨l3.toArray⟩ sl sh W HZ3.out hp3)
            have HP5 := Lib.hid (fun W => refPorts_val ⟨l5.toArray⟩ dl dh W HZ5.out hp5)
            have HN2 := Lib.hid (fun W => refNet_val ⟨l2.toArray⟩ sa sb W HZ2.out hn2)
            have HN4 := Lib.hid (fun W => refNet_val ⟨l4.toArray⟩ da db W HZ4.out hn4)
            clear hn2 hn4 hp3 hp5 HZ2 HZ3 HZ4 HZ5
            have M1 := Lib.hid m1
            go_wp2_with fail
            clear m1 m2
            have hS0 : Since wr wr.drew := (Below.refl _ _).drew
            apply wp_cut (α := Nat) (fun b W => wr.heap.size ≤ b ∧ Since wr W ∧ RBox W b ⟨acc, 0, 0, 0, 0, 0, sl, sh, dl, dh⟩)
            · refine WH.enter (Since wr) (by kernel_rfl) 15 rfl ?_
              refine WH.take 0 (some 50) rfl rfl (by kernel_rfl) (by kernel_rfl) (by kernel_rfl) (fun _ _ _ h => by cases h.1) (by rfl) (fun v hv => by have k0 := hv.cell q0; have k3 := hv.cell q3; have k5 := hv.cell q5; go_simp; first | done | with_reducible rfl | (rw [if_neg (by omega)])) hS0 ?_; simp only [Act.put, List.setIfInBounds_toArray, List.set_cons_zero, List.set_cons_succ]
              refine WH.take 1 (some 51) rfl rfl (by kernel_rfl) (by kernel_rfl) (by kernel_rfl) (fun _ _ _ h => by cases h.1) (by rfl) (fun v hv => by have k0 := hv.cell q0; have k3 := hv.cell q3; have k5 := hv.cell q5; go_simp; first | done | with_reducible rfl | (rw [if_neg (by omega)])) hS0 ?_; simp only [Act.put, List.setIfInBounds_toArray, List.set_cons_zero, List.set_cons_succ]
              refine WH.take 2 (some 52) rfl rfl (by kernel_rfl) (by kernel_rfl) (by kernel_rfl) (fun _ _ _ h => by cases h.1) (by rfl) (fun v hv => by have k0 := hv.cell q0; have k3 := hv.cell q3; have k5 := hv.cell q5; go_simp; first | done | with_reducible rfl | (rw [if_neg (by omega)])) hS0 ?_; simp only [Act.put, List.setIfInBounds_toArray, List.set_cons_zero, List.set_cons_succ]
              refine WH.take 3 (some 53) rfl rfl (by kernel_rfl) (by kernel_rfl) (by kernel_rfl) (fun _ _ _ h => by cases h.1) (by rfl) (fun v hv => by have k0 := hv.cell q0; have k3 := hv.cell q3; have k5 := hv.cell q5; go_simp; first | done | with_reducible rfl | (rw [if_neg (by omega)])) hS0 ?_; simp only [Act.put, List.setIfInBounds_toArray, List.set_cons_zero, List.set_cons_succ]
              refine WH.take 4 (some 54) rfl rfl (by kernel_rfl) (by kernel_rfl) (by kernel_rfl) (fun _ _ _ h => by cases h.1) (by rfl) (fun v hv => by have k0 := hv.cell q0; have k3 := hv.cell q3; have k5 := hv.cell q5; go_simp; first | done | with_reducible rfl | (rw [if_neg (by omega)])) hS0 ?_; simp only [Act.put, List.setIfInBounds_toArray, List.set_cons_zero, List.set_cons_succ]
              refine WH.take 5 (some 55) rfl rfl (by kernel_rfl) (by kernel_rfl) (by kernel_rfl) (fun _ _ _ h => by cases h.1) (by rfl) (fun v hv => by have k0 := hv.cell q0; have k3 := hv.cell q3; have k5 := hv.cell q5; go_simp; first | done | with_reducible rfl | (rw [if_neg (by omega)])) hS0 ?_; simp only [Act.put, List.setIfInBounds_toArray, List.set_cons_zero, List.set_cons_succ]
              refine WH.take 6 (some 56) rfl rfl (by kernel_rfl) (by kernel_rfl) (by kernel_rfl) (fun _ _ _ h => by cases h.1) (by rfl) (fun v hv => by have k0 := hv.cell q0; have k3 := hv.cell q3; have k5 := hv.cell q5; go_simp; first | done | with_reducible rfl | (rw [if_neg (by omega)])) hS0 ?_; simp only [Act.put, List.setIfInBounds_toArray, List.set_cons_zero, List.set_cons_succ]
              refine WH.take 8 (some 58) rfl rfl (by kernel_rfl) (by kernel_rfl) (by kernel_rfl) (fun _ _ _ h => by cases h.1) (by rfl) (fun v hv => by have k0 := hv.cell q0; have k3 := hv.cell q3; have k5 := hv.cell q5; go_simp; first | done | with_reducible rfl | (rw [if_neg (by omega)])) hS0 ?_; simp only [Act.put, List.setIfInBounds_toArray, List.set_cons_zero, List.set_cons_succ]
              refine WH.take 9 (some 59) rfl rfl (by kernel_rfl) (by kernel_rfl) (by kernel_rfl) (fun _ _ _ h => by cases h.1) (by rfl) (fun v hv => by have k0 := hv.cell q0; have k3 := hv.cell q3; have k5 := hv.cell q5; go_simp; first | done | with_reducible rfl | (rw [if_neg (by omega)])) hS0 ?_; simp only [Act.put, List.setIfInBounds_toArray, List.set_cons_zero, List.set_cons_succ]
              refine WH.take 10 (some 60) rfl rfl (by kernel_rfl) (by kernel_rfl) (by kernel_rfl) (fun _ _ _ h => by cases h.1) (by rfl) (fun v hv => by have k0 := hv.cell q0; have k3 := hv.cell q3; have k5 := hv.cell q5; go_simp; first | done | with_reducible rfl | (rw [if_neg (by omega)])) hS0 ?_; simp only [Act.put, List.setIfInBounds_toArray, List.set_cons_zero, List.set_cons_succ]
              refine WH.two 7 13 (by kernel_rfl) rfl rfl (by rfl) (by rfl) ?_ ?_
              · go_wp2_with fail
                refine (HP3.out _).mono ?_
                rintro e w2 ⟨rfl, hw2⟩
                have HS2 : Hid (Since wr w2) := Lib.hid (Since.step hS0 hw2)
                clear hw2
                go_wp2_with fail
                refine ⟨HS2.out, ?_⟩
                refine WH.two 11 13 (by kernel_rfl) rfl rfl (by rfl) (by rfl) ?_ ?_
                · go_wp2_with fail
                  refine (HP5.out _).mono ?_
                  rintro e w3 ⟨rfl, hw3⟩
                  have HS3 : Hid (Since wr w3) := Lib.hid (Since.step HS2.out hw3)
                  clear hw3
                  go_wp2_with fail
                  refine ⟨HS3.out, ?_⟩
                  refine WH.take 12 (some 62) rfl rfl (by kernel_rfl) (by kernel_rfl) (by kernel_rfl) (fun _ _ _ h => by cases h.1) (by rfl) (fun v hv => by go_simp; first | done | with_reducible rfl | (rw [if_neg (by omega)])) HS3.out ?_; simp only [Act.put, List.setIfInBounds_toArray, List.set_cons_zero, List.set_cons_succ]
                  refine WH.one 13 (by kernel_rfl) rfl (by rfl) ?_
                  go_wp2_with fail
                  have HSA : Hid (Since wr (w3.alloc (.cells (ruleC ⟨false, 0, 0, 0, 0, 0, 0, 0, 0, 0⟩).toArray 44))) := Lib.hid (Since.step HS3.out ((Below.refl _ _).alloc (Nat.le_refl _) _))
                  have HBA := Lib.hid (RBox.new w3 ⟨false, 0, 0, 0, 0, 0, 0, 0, 0, 0⟩)
                  have HGE : Hid (wr.heap.size ≤ w3.heap.size) := Lib.hid (Below.size HS3.out)
                  refine ⟨HSA.out, ?_⟩
                  generalize hwA : w3.alloc (.cells (ruleC ⟨false, 0, 0, 0, 0, 0, 0, 0, 0, 0⟩).toArray 44) = wA at *
                  replace hwA : w3.alloc (.cells #[.bool false, .int .u8 0, .int .u32 0, .int .i64 0, .int .u32 0, .int .i64 0, .int .u16 0, .int .u16 0, .int .u16 0, .int .u16 0] 44) = wA := hwA
                  rw [hwA]
                  generalize w3.heap.size = bn at *
                  clear hwA
                  refine WH.one 14 (by kernel_rfl) rfl (by rfl) ?_
                  refine wp_store_mid 44 (.tmp 11) (.tmp 62) rfl bn 0 (ruleC ⟨acc, 0, 0, 0, 0, 0, sl, sh, dl, dh⟩).toArray (by rfl) (by rfl) HBA.out.there (by kernel_rfl) (ruleC_one _) ?_
                  simp only [Act.put]
                  refine ⟨Since.setCells HSA.out HGE.out _ _, ?_⟩
                  refine WH.done (by kernel_rfl) ?_
                  exact ⟨rfl, bn, rfl, HGE.out, Since.setCells HSA.out HGE.out _ _, HBA.out.store _⟩
                · go_wp2_with fail
                  have HSA : Hid (Since wr (w2.alloc (.cells (ruleC ⟨false, 0, 0, 0, 0, 0, 0, 0, 0, 0⟩).toArray 44))) := Lib.hid (Since.step HS2.out ((Below.refl _ _).alloc (Nat.le_refl _) _))
                  have HBA := Lib.hid (RBox.new w2 ⟨false, 0, 0, 0, 0, 0, 0, 0, 0, 0⟩)
                  have HGE : Hid (wr.heap.size ≤ w2.heap.size) := Lib.hid (Below.size HS2.out)
                  refine ⟨HSA.out, ?_⟩
                  generalize hwA : w2.alloc (.cells (ruleC ⟨false, 0, 0, 0, 0, 0, 0, 0, 0, 0⟩).toArray 44) = wA at *
                  replace hwA : w2.alloc (.cells #[.bool false, .int .u8 0, .int .u32 0, .int .i64 0, .int .u32 0, .int .i64 0, .int .u16 0, .int .u16 0, .int .u16 0, .int .u16 0] 44) = wA := hwA
                  rw [hwA]
                  generalize w2.heap.size = bn at *
                  clear hwA
                  refine WH.one 11 (by kernel_rfl) rfl (by rfl) ?_
                  go_wp2_with fail
                  refine (HP5.out _).mono ?_
                  rintro e w3 ⟨rfl, hw3⟩
                  have HS3 : Hid (Since wr w3) := Lib.hid (Since.step HSA.out hw3)
                  have HBB := Lib.hid (HBA.out.below hw3)
                  clear hw3
                  go_wp2_with fail
                  refine ⟨HS3.out, ?_⟩
                  refine WH.take 12 (some 62) rfl rfl (by kernel_rfl) (by kernel_rfl) (by kernel_rfl) (fun _ _ _ h => by cases h.1) (by rfl) (fun v hv => by go_simp; first | done | with_reducible rfl | (rw [if_neg (by omega)])) HS3.out ?_; simp only [Act.put, List.setIfInBounds_toArray, List.set_cons_zero, List.set_cons_succ]
                  refine WH.one 14 (by kernel_rfl) rfl (by rfl) ?_
                  refine wp_store_mid 44 (.tmp 11) (.tmp 62) rfl bn 0 (ruleC ⟨acc, 0, 0, 0, 0, 0, sl, sh, dl, dh⟩).toArray (by rfl) (by rfl) HBB.out.there (by kernel_rfl) (ruleC_one _) ?_
                  simp only [Act.put]
                  refine ⟨Since.setCells HS3.out HGE.out _ _, ?_⟩
                  refine WH.done (by kernel_rfl) ?_
                  exact ⟨rfl, bn, rfl, HGE.out, Since.setCells HS3.out HGE.out _ _, HBB.out.store _⟩
              · generalize wr.drew = wd at *
                go_wp2_with fail
                have HSA : Hid (Since wr (wd.alloc (.cells (ruleC ⟨false, 0, 0, 0, 0, 0, 0, 0, 0, 0⟩).toArray 44))) := Lib.hid (Since.step hS0 ((Below.refl _ _).alloc (Nat.le_refl _) _))
                have HBA := Lib.hid (RBox.new wd ⟨false, 0, 0, 0, 0, 0, 0, 0, 0, 0⟩)
                have HGE : Hid (wr.heap.size ≤ wd.heap.size) := Lib.hid (Below.size hS0)
                refine ⟨HSA.out, ?_⟩
                generalize hwA : wd.alloc (.cells (ruleC ⟨false, 0, 0, 0, 0, 0, 0, 0, 0, 0⟩).toArray 44) = wA at *
                replace hwA : wd.alloc (.cells #[.bool false, .int .u8 0, .int .u32 0, .int .i64 0, .int .u32 0, .int .i64 0, .int .u16 0, .int .u16 0, .int .u16 0, .int .u16 0] 44) = wA := hwA
                rw [hwA]
                generalize wd.heap.size = bn at *
                clear hwA
                refine WH.one 7 (by kernel_rfl) rfl (by rfl) ?_
                go_wp2_with fail
                refine (HP3.out _).mono ?_
                rintro e w2 ⟨rfl, hw2⟩
                have HS2 : Hid (Since wr w2) := Lib.hid (Since.step HSA.out hw2)
                have HBB := Lib.hid (HBA.out.below hw2)
                clear hw2
                go_wp2_with fail
                refine ⟨HS2.out, ?_⟩
                refine WH.one 11 (by kernel_rfl) rfl (by rfl) ?_
                go_wp2_with fail
                refine (HP5.out _).mono ?_
                rintro e w3 ⟨rfl, hw3⟩
                have HS3 : Hid (Since wr w3) := Lib.hid (Since.step HS2.out hw3)
                have HBC := Lib.hid (HBB.out.below hw3)
                clear hw3
                go_wp2_with fail
                refine ⟨HS3.out, ?_⟩
                refine WH.take 12 (some 62) rfl rfl (by kernel_rfl) (by kernel_rfl) (by kernel_rfl) (fun _ _ _ h => by cases h.1) (by rfl) (fun v hv => by go_simp; first | done | with_reducible rfl | (rw [if_neg (by omega)])) HS3.out ?_; simp only [Act.put, List.setIfInBounds_toArray, List.set_cons_zero, List.set_cons_succ]
                refine WH.one 14 (by kernel_rfl) rfl (by rfl) ?_
                refine wp_store_mid 44 (.tmp 11) (.tmp 62) rfl bn 0 (ruleC ⟨acc, 0, 0, 0, 0, 0, sl, sh, dl, dh⟩).toArray (by rfl) (by rfl) HBC.out.there (by kernel_rfl) (ruleC_one _) ?_
                simp only [Act.put]
                refine ⟨Since.setCells HS3.out HGE.out _ _, ?_⟩
                refine WH.done (by kernel_rfl) ?_
                exact ⟨rfl, bn, rfl, HGE.out, Since.setCells HS3.out HGE.out _ _, HBC.out.store _⟩
            · rintro bb w5 ⟨hge, hs5, hbx5⟩
              have HGE := Lib.hid hge
              have HS5 := Lib.hid hs5
              have HX5 := Lib.hid hbx5
              have hnb : ¬ (bw = bb) := by have := World.block_lt_of_cell? wr _ q0; have h2 : bw < wr.heap.size := this; omega
              clear hge hs5 hbx5 hS0
              go_wp2_with fail
              obtain ⟨w0, hw0⟩ : ∃ x, x = wr := ⟨_, rfl⟩
              subst hw0
              go_loopw [12] (fun n wr => ∃ k : Nat, n = .int .i64 k ∧ k ≤ 18 ∧ Hid (Since w0 wr) ∧ Hid (RBox wr bb ⟨acc, protoUpTo l1 k, 0, 0, 0, 0, sl, sh, dl, dh⟩)) (fun n _ => 18 - (intOf n).toNat)
              case atStart => exact ⟨0, rfl, by omega, HS5, HX5⟩
              case round =>
                obtain ⟨k, rfl, hk, HS, HX⟩ := hrel
                by_cases hlt : k < 18
                · have hlt' : (k : Int) < 18 := by omega
                  have hm : (k : Int) % 256 = k := by omega
                  have hw8 : IntKind.u8.wrap (k : Int) = k := by have : IntKind.u8.wrap (k : Int) = (k : Int) % 256 := rfl; rw [this]; omega
                  have u1 := Since.cell HS.out q1
                  have HWk := Lib.hid (fun W' => (refWord_any k W' (by omega)).mono fun e w' h => (show e = .returned (str (wordF k)) ∧ Below W'.heap.size W' w' from ⟨h.1, by rw [h.2]; exact Below.refl _ _⟩))
                  have HPN := Lib.hid (proto_next l1 k)
                  generalize wordF k = wk at *
                  by_cases hw : wk = l1
                  · have hwb : (wk == l1) = true := beq_iff_eq.2 hw
                    have HXn : Hid (protoUpTo l1 (k + 1) = k) := Lib.hid (by rw [HPN.out, if_pos hw])
                    clear hw
                    go_wp2_with fail
                    refine WQ.enter wr (Since.refl _) (by kernel_rfl) (by kernel_rfl) ?_
                    refine WQ.val (by rfl) (fun v hv => by have k0 := hv.cell u1; go_simp; first | done | with_reducible rfl | (rw [if_neg (by omega)])) ?_; simp only [Act.put, List.setIfInBounds_toArray, List.set_cons_zero, List.set_cons_succ]
                    refine WQ.val (by rfl) (fun v hv => by have k0 := hv.cell u1; go_simp; first | done | with_reducible rfl | (rw [if_neg (by omega)])) ?_; simp only [Act.put, List.setIfInBounds_toArray, List.set_cons_zero, List.set_cons_succ]
                    refine WQ.call (f := 12) (args := #[.int .u8 k]) (by rfl) (fun v hv => by go_simp) (fun v hv => (HWk.out v).mono (fun e v' ⟨he, hb⟩ => ⟨he, hv.step hb⟩)) ?_; simp only [Act.put, List.setIfInBounds_toArray, List.set_cons_zero, List.set_cons_succ]
                    refine WQ.val (by rfl) (fun v hv => by have k0 := hv.cell u1; go_simp; first | done | with_reducible rfl | (rw [if_neg (by omega)])) ?_; simp only [Act.put, List.setIfInBounds_toArray, List.set_cons_zero, List.set_cons_succ]
                    refine WQ.val (by rfl) (fun v hv => by have k0 := hv.cell u1; go_simp; first | done | with_reducible rfl | (rw [if_neg (by omega)])) ?_; simp only [Act.put, List.setIfInBounds_toArray, List.set_cons_zero, List.set_cons_succ]
                    refine WQ.val (by rfl) (fun v hv => by have k0 := hv.cell u1; go_simp; first | done | with_reducible rfl | (rw [if_neg (by omega)])) ?_; simp only [Act.put, List.setIfInBounds_toArray, List.set_cons_zero, List.set_cons_succ]
                    refine WQ.val (by rfl) (fun v hv => by have k0 := hv.cell u1; go_simp; first | done | with_reducible rfl | (rw [if_neg (by omega)])) ?_; simp only [Act.put, List.setIfInBounds_toArray, List.set_cons_zero, List.set_cons_succ]
                    refine WQ.done ?_
                    intro w6 hw6
                    have HS6 := Lib.hid (Since.step HS.out hw6)
                    have HX6 := Lib.hid (HX.out.below hw6)
                    have c1 := HX6.out.cell (k := 1) rfl
                    have f1 := HX6.out.free 1
                    clear hw6 u1
                    go_wp2_with fail
                    go_roundw
                    case rel => exact ⟨k + 1, by go_num, by omega, Lib.hid (HS6.out.setCell (p := ⟨bb, 1, none⟩) HGE.out _), by rw [HXn.out]; exact Lib.hid (HX6.out.set 1 (.int .u8 k) rfl)⟩
                    case measure => simp [intOf]; omega
                  · have hwb : (wk == l1) = false := beq_eq_false_iff_ne.2 hw
                    have HXn : Hid (protoUpTo l1 (k + 1) = protoUpTo l1 k) := Lib.hid (by rw [HPN.out, if_neg hw])
                    clear hw
                    go_wp2_with fail
                    refine WQ.enter wr (Since.refl _) (by kernel_rfl) (by kernel_rfl) ?_
                    refine WQ.val (by rfl) (fun v hv => by have k0 := hv.cell u1; go_simp; first | done | with_reducible rfl | (rw [if_neg (by omega)])) ?_; simp only [Act.put, List.setIfInBounds_toArray, List.set_cons_zero, List.set_cons_succ]
                    refine WQ.val (by rfl) (fun v hv => by have k0 := hv.cell u1; go_simp; first | done | with_reducible rfl | (rw [if_neg (by omega)])) ?_; simp only [Act.put, List.setIfInBounds_toArray, List.set_cons_zero, List.set_cons_succ]
                    refine WQ.call (f := 12) (args := #[.int .u8 k]) (by rfl) (fun v hv => by go_simp) (fun v hv => (HWk.out v).mono (fun e v' ⟨he, hb⟩ => ⟨he, hv.step hb⟩)) ?_; simp only [Act.put, List.setIfInBounds_toArray, List.set_cons_zero, List.set_cons_succ]
                    refine WQ.val (by rfl) (fun v hv => by have k0 := hv.cell u1; go_simp; first | done | with_reducible rfl | (rw [if_neg (by omega)])) ?_; simp only [Act.put, List.setIfInBounds_toArray, List.set_cons_zero, List.set_cons_succ]
                    refine WQ.val (by rfl) (fun v hv => by have k0 := hv.cell u1; go_simp; first | done | with_reducible rfl | (rw [if_neg (by omega)])) ?_; simp only [Act.put, List.setIfInBounds_toArray, List.set_cons_zero, List.set_cons_succ]
                    refine WQ.val (by rfl) (fun v hv => by have k0 := hv.cell u1; go_simp; first | done | with_reducible rfl | (rw [if_neg (by omega)])) ?_; simp only [Act.put, List.setIfInBounds_toArray, List.set_cons_zero, List.set_cons_succ]
                    refine WQ.val (by rfl) (fun v hv => by have k0 := hv.cell u1; go_simp; first | done | with_reducible rfl | (rw [if_neg (by omega)])) ?_; simp only [Act.put, List.setIfInBounds_toArray, List.set_cons_zero, List.set_cons_succ]
                    refine WQ.done ?_
                    intro w6 hw6
                    have HS6 := Lib.hid (Since.step HS.out hw6)
                    have HX6 := Lib.hid (HX.out.below hw6)
                    clear hw6 u1
                    go_wp2_with fail
                    go_roundw
                    case rel => exact ⟨k + 1, by go_num, by omega, HS6, by rw [HXn.out]; exact HX6⟩
                    case measure => simp [intOf]; omega
                · obtain rfl : k = 18 := by omega
                  have HX7 : Hid (RBox wr bb ⟨acc, refProto l1, 0, 0, 0, 0, sl, sh, dl, dh⟩) := HX
                  clear HX HX5 HS5
                  have HIN2 := Lib.hid (refRule_in l0 l1 l2 l3 l4 l5)
                  rw [HRR.out] at HIN2
                  generalize refProto l1 = pr at *
                  have u2 := Since.cell HS.out q2
                  go_wp2_with fail
                  clear u2
                  refine (HN2.out _).mono ?_
                  rintro e w6 ⟨⟨x6, rfl⟩, h6⟩
                  have HS6 := Lib.hid (Since.step HS.out h6)
                  have HX6 := Lib.hid (HX7.out.below h6)
                  have c2 := HX6.out.cell (k := 2) rfl
                  have c3 := HX6.out.cell (k := 3) rfl
                  have f2 := HX6.out.free 2
                  have f3 := HX6.out.free 3
                  have u4 := Since.cell HS6.out q4
                  have HS8 := Lib.hid ((HS6.out.setCell (p := ⟨bb, 2, none⟩) HGE.out (.int .u32 sa)).setCell (p := ⟨bb, 3, none⟩) HGE.out (.int .i64 sb))
                  have HX8 : Hid (RBox ((w6.setCell ⟨bb, 2, none⟩ (.int .u32 sa)).setCell ⟨bb, 3, none⟩ (.int .i64 sb)) bb ⟨acc, pr, sa, sb, 0, 0, sl, sh, dl, dh⟩) := Lib.hid ((HX6.out.set (r' := ⟨acc, pr, sa, 0, 0, 0, sl, sh, dl, dh⟩) 2 (.int .u32 sa) rfl).set 3 (.int .i64 sb) rfl)
                  clear h6 HX7
                  go_wp2_with fail
                  clear u4 c2 c3 f2 f3
                  generalize hW8 : (w6.setCell ⟨bb, 2, none⟩ (.int .u32 sa)).setCell ⟨bb, 3, none⟩ (.int .i64 sb) = w8 at *
                  clear hW8 HS6 HX6
                  refine (HN4.out _).mono ?_
                  rintro e w9 ⟨⟨x9, rfl⟩, h9⟩
                  have HS9 := Lib.hid (Since.step (w1 := w8) HS8.out h9)
                  have HX9 := Lib.hid (HX8.out.below h9)
                  have c4 := HX9.out.cell (k := 4) rfl
                  have c5 := HX9.out.cell (k := 5) rfl
                  have f4 := HX9.out.free 4
                  have f5 := HX9.out.free 5
                  have HSx := Lib.hid ((HS9.out.setCell (p := ⟨bb, 4, none⟩) HGE.out (.int .u32 da)).setCell (p := ⟨bb, 5, none⟩) HGE.out (.int .i64 db))
                  have HXx : Hid (RBox ((w9.setCell ⟨bb, 4, none⟩ (.int .u32 da)).setCell ⟨bb, 5, none⟩ (.int .i64 db)) bb ⟨acc, pr, sa, sb, da, db, sl, sh, dl, dh⟩) := Lib.hid ((HX9.out.set (r' := ⟨acc, pr, sa, sb, da, 0, sl, sh, dl, dh⟩) 4 (.int .u32 da) rfl).set 5 (.int .i64 db) rfl)
                  clear h9 HX8 HS8
                  go_wp2_with fail
                  clear c4 c5 f4 f5
                  generalize hWx : (w9.setCell ⟨bb, 4, none⟩ (.int .u32 da)).setCell ⟨bb, 5, none⟩ (.int .i64 db) = wx at *
                  clear hWx HS9 HX9
                  obtain ⟨c0, c1, c2, c3, c4, c5, c6, c7, c8, c9⟩ := HXx.out.ten
                  have HG := Lib.hid (fun W => refGood_any ⟨acc, pr, sa, sb, da, db, sl, sh, dl, dh⟩ W HIN2.out)
                  have HLN := Lib.hid (fun W => refLine_any ⟨acc, pr, sa, sb, da, db, sl, sh, dl, dh⟩ W HIN2.out)
                  generalize hgr : goodR ⟨acc, pr, sa, sb, da, db, sl, sh, dl, dh⟩ = gr at *
                  generalize hlr : lineS ⟨acc, pr, sa, sb, da, db, sl, sh, dl, dh⟩ = lr at *
                  have HGR := Lib.hid hgr
                  have HLR := Lib.hid hlr
                  clear hgr hlr
                  have v0 := Since.cell HSx.out q0
                  have v1 := Since.cell HSx.out q1
                  have v2 := Since.cell HSx.out q2
                  have v3 := Since.cell HSx.out q3
                  have v4 := Since.cell HSx.out q4
                  have v5 := Since.cell HSx.out q5
                  have M2 := Since.cell HSx.out M1.out
                  have hS0 : Since wx wx.drew := (Below.refl _ _).drew
                  have g0 := HWS.out l0 (by simp)
                  have g1 := HWS.out l1 (by simp)
                  have g2 := HWS.out l2 (by simp)
                  have g3 := HWS.out l3 (by simp)
                  have g4 := HWS.out l4 (by simp)
                  have g5 := HWS.out l5 (by simp)
                  cases gr with
                  | false =>
                    refine WH.enter (Since wx) (by kernel_rfl) 36 rfl ?_
                    refine WH.take 0 (some 93) rfl rfl (by kernel_rfl) (by kernel_rfl) (by kernel_rfl) (fun _ _ _ h => h) (by rfl) (fun v hv => by have k0 := hv.cell c0; have k1 := hv.cell c1; have k2 := hv.cell c2; have k3 := hv.cell c3; have k4 := hv.cell c4; have k5 := hv.cell c5; have k6 := hv.cell c6; have k7 := hv.cell c7; have k8 := hv.cell c8; have k9 := hv.cell c9; have j0 := hv.cell v0; have j1 := hv.cell v1; have j2 := hv.cell v2; have j3 := hv.cell v3; have j4 := hv.cell v4; have j5 := hv.cell v5; go_simp; first | done | with_reducible rfl | (rw [if_neg (by omega)])) hS0 ?_; simp only [Act.put, List.setIfInBounds_toArray, List.set_cons_zero, List.set_cons_succ]
                    refine WH.one 1 (by kernel_rfl) rfl (by rfl) ?_
                    go_wp2_with fail
                    refine (HG.out _).mono ?_
                    rintro e w10 ⟨rfl, h10⟩
                    have HSg : Hid (Since wx w10) := Lib.hid (Since.step hS0 h10)
                    clear h10
                    go_wp2_with fail
                    refine ⟨HSg.out, ?_⟩
                    refine WH.take 2 (some 95) rfl rfl (by kernel_rfl) (by kernel_rfl) (by kernel_rfl) (fun _ _ _ h => h) (by rfl) (fun v hv => by have k0 := hv.cell c0; have k1 := hv.cell c1; have k2 := hv.cell c2; have k3 := hv.cell c3; have k4 := hv.cell c4; have k5 := hv.cell c5; have k6 := hv.cell c6; have k7 := hv.cell c7; have k8 := hv.cell c8; have k9 := hv.cell c9; have j0 := hv.cell v0; have j1 := hv.cell v1; have j2 := hv.cell v2; have j3 := hv.cell v3; have j4 := hv.cell v4; have j5 := hv.cell v5; go_simp; first | done | with_reducible rfl | (rw [if_neg (by omega)])) HSg.out ?_; simp only [Act.put, List.setIfInBounds_toArray, List.set_cons_zero, List.set_cons_succ]
                    refine WH.take 3 (some 96) rfl rfl (by kernel_rfl) (by kernel_rfl) (by kernel_rfl) (fun _ _ _ h => h) (by rfl) (fun v hv => by have k0 := hv.cell c0; have k1 := hv.cell c1; have k2 := hv.cell c2; have k3 := hv.cell c3; have k4 := hv.cell c4; have k5 := hv.cell c5; have k6 := hv.cell c6; have k7 := hv.cell c7; have k8 := hv.cell c8; have k9 := hv.cell c9; have j0 := hv.cell v0; have j1 := hv.cell v1; have j2 := hv.cell v2; have j3 := hv.cell v3; have j4 := hv.cell v4; have j5 := hv.cell v5; go_simp; first | done | with_reducible rfl | (rw [if_neg (by omega)])) HSg.out ?_; simp only [Act.put, List.setIfInBounds_toArray, List.set_cons_zero, List.set_cons_succ]
                    refine WH.off 4 (some 97) rfl rfl (by kernel_rfl) (by kernel_rfl) (by kernel_rfl) (fun _ _ _ h => h) (by rfl) HSg.out ?_; simp only [Act.put, List.setIfInBounds_toArray, List.set_cons_zero, List.set_cons_succ]
                    refine WH.off 5 (some 98) rfl rfl (by kernel_rfl) (by kernel_rfl) (by kernel_rfl) (fun _ _ _ h => h) (by rfl) HSg.out ?_; simp only [Act.put, List.setIfInBounds_toArray, List.set_cons_zero, List.set_cons_succ]
                    refine WH.off 6 (some 99) rfl rfl (by kernel_rfl) (by kernel_rfl) (by kernel_rfl) (fun _ _ _ h => h) (by rfl) HSg.out ?_; simp only [Act.put, List.setIfInBounds_toArray, List.set_cons_zero, List.set_cons_succ]
                    refine WH.off 7 (some 100) rfl rfl (by kernel_rfl) (by kernel_rfl) (by kernel_rfl) (fun _ _ _ h => h) (by rfl) HSg.out ?_; simp only [Act.put, List.setIfInBounds_toArray, List.set_cons_zero, List.set_cons_succ]
                    refine WH.off 8 (some 101) rfl rfl (by kernel_rfl) (by kernel_rfl) (by kernel_rfl) (fun _ _ _ h => h) (by rfl) HSg.out ?_; simp only [Act.put, List.setIfInBounds_toArray, List.set_cons_zero, List.set_cons_succ]
                    refine WH.off 9 (some 102) rfl rfl (by kernel_rfl) (by kernel_rfl) (by kernel_rfl) (fun _ _ _ h => h) (by rfl) HSg.out ?_; simp only [Act.put, List.setIfInBounds_toArray, List.set_cons_zero, List.set_cons_succ]
                    refine WH.off 10 (some 103) rfl rfl (by kernel_rfl) (by kernel_rfl) (by kernel_rfl) (fun _ _ _ h => h) (by rfl) HSg.out ?_; simp only [Act.put, List.setIfInBounds_toArray, List.set_cons_zero, List.set_cons_succ]
                    refine WH.off 11 (some 104) rfl rfl (by kernel_rfl) (by kernel_rfl) (by kernel_rfl) (fun _ _ _ h => h) (by rfl) HSg.out ?_; simp only [Act.put, List.setIfInBounds_toArray, List.set_cons_zero, List.set_cons_succ]
                    refine WH.off 12 (some 105) rfl rfl (by kernel_rfl) (by kernel_rfl) (by kernel_rfl) (fun _ _ _ h => h) (by rfl) HSg.out ?_; simp only [Act.put, List.setIfInBounds_toArray, List.set_cons_zero, List.set_cons_succ]
                    refine WH.off 13 (some 106) rfl rfl (by kernel_rfl) (by kernel_rfl) (by kernel_rfl) (fun _ _ _ h => h) (by rfl) HSg.out ?_; simp only [Act.put, List.setIfInBounds_toArray, List.set_cons_zero, List.set_cons_succ]
                    refine WH.off 14 (some 107) rfl rfl (by kernel_rfl) (by kernel_rfl) (by kernel_rfl) (fun _ _ _ h => h) (by rfl) HSg.out ?_; simp only [Act.put, List.setIfInBounds_toArray, List.set_cons_zero, List.set_cons_succ]
                    refine WH.off 15 (some 108) rfl rfl (by kernel_rfl) (by kernel_rfl) (by kernel_rfl) (fun _ _ _ h => h) (by rfl) HSg.out ?_; simp only [Act.put, List.setIfInBounds_toArray, List.set_cons_zero, List.set_cons_succ]
                    refine WH.off 16 (some 109) rfl rfl (by kernel_rfl) (by kernel_rfl) (by kernel_rfl) (fun _ _ _ h => h) (by rfl) HSg.out ?_; simp only [Act.put, List.setIfInBounds_toArray, List.set_cons_zero, List.set_cons_succ]
                    refine WH.off 17 (some 110) rfl rfl (by kernel_rfl) (by kernel_rfl) (by kernel_rfl) (fun _ _ _ h => h) (by rfl) HSg.out ?_; simp only [Act.put, List.setIfInBounds_toArray, List.set_cons_zero, List.set_cons_succ]
                    refine WH.off 18 (some 111) rfl rfl (by kernel_rfl) (by kernel_rfl) (by kernel_rfl) (fun _ _ _ h => h) (by rfl) HSg.out ?_; simp only [Act.put, List.setIfInBounds_toArray, List.set_cons_zero, List.set_cons_succ]
                    refine WH.off 19 (some 112) rfl rfl (by kernel_rfl) (by kernel_rfl) (by kernel_rfl) (fun _ _ _ h => h) (by rfl) HSg.out ?_; simp only [Act.put, List.setIfInBounds_toArray, List.set_cons_zero, List.set_cons_succ]
                    refine WH.off 20 (some 113) rfl rfl (by kernel_rfl) (by kernel_rfl) (by kernel_rfl) (fun _ _ _ h => h) (by rfl) HSg.out ?_; simp only [Act.put, List.setIfInBounds_toArray, List.set_cons_zero, List.set_cons_succ]
                    refine WH.off 21 (some 114) rfl rfl (by kernel_rfl) (by kernel_rfl) (by kernel_rfl) (fun _ _ _ h => h) (by rfl) HSg.out ?_; simp only [Act.put, List.setIfInBounds_toArray, List.set_cons_zero, List.set_cons_succ]
                    refine WH.off 22 (some 115) rfl rfl (by kernel_rfl) (by kernel_rfl) (by kernel_rfl) (fun _ _ _ h => h) (by rfl) HSg.out ?_; simp only [Act.put, List.setIfInBounds_toArray, List.set_cons_zero, List.set_cons_succ]
                    refine WH.off 23 (some 116) rfl rfl (by kernel_rfl) (by kernel_rfl) (by kernel_rfl) (fun _ _ _ h => h) (by rfl) HSg.out ?_; simp only [Act.put, List.setIfInBounds_toArray, List.set_cons_zero, List.set_cons_succ]
                    refine WH.off 24 (some 117) rfl rfl (by kernel_rfl) (by kernel_rfl) (by kernel_rfl) (fun _ _ _ h => h) (by rfl) HSg.out ?_; simp only [Act.put, List.setIfInBounds_toArray, List.set_cons_zero, List.set_cons_succ]
                    refine WH.off 25 (some 118) rfl rfl (by kernel_rfl) (by kernel_rfl) (by kernel_rfl) (fun _ _ _ h => h) (by rfl) HSg.out ?_; simp only [Act.put, List.setIfInBounds_toArray, List.set_cons_zero, List.set_cons_succ]
                    refine WH.off 26 (some 119) rfl rfl (by kernel_rfl) (by kernel_rfl) (by kernel_rfl) (fun _ _ _ h => h) (by rfl) HSg.out ?_; simp only [Act.put, List.setIfInBounds_toArray, List.set_cons_zero, List.set_cons_succ]
                    refine WH.off 27 (some 120) rfl rfl (by kernel_rfl) (by kernel_rfl) (by kernel_rfl) (fun _ _ _ h => h) (by rfl) HSg.out ?_; simp only [Act.put, List.setIfInBounds_toArray, List.set_cons_zero, List.set_cons_succ]
                    refine WH.off 28 (some 121) rfl rfl (by kernel_rfl) (by kernel_rfl) (by kernel_rfl) (fun _ _ _ h => h) (by rfl) HSg.out ?_; simp only [Act.put, List.setIfInBounds_toArray, List.set_cons_zero, List.set_cons_succ]
                    refine WH.off 29 (some 122) rfl rfl (by kernel_rfl) (by kernel_rfl) (by kernel_rfl) (fun _ _ _ h => h) (by rfl) HSg.out ?_; simp only [Act.put, List.setIfInBounds_toArray, List.set_cons_zero, List.set_cons_succ]
                    refine WH.off 30 (some 123) rfl rfl (by kernel_rfl) (by kernel_rfl) (by kernel_rfl) (fun _ _ _ h => h) (by rfl) HSg.out ?_; simp only [Act.put, List.setIfInBounds_toArray, List.set_cons_zero, List.set_cons_succ]
                    refine WH.off 31 (some 124) rfl rfl (by kernel_rfl) (by kernel_rfl) (by kernel_rfl) (fun _ _ _ h => h) (by rfl) HSg.out ?_; simp only [Act.put, List.setIfInBounds_toArray, List.set_cons_zero, List.set_cons_succ]
                    refine WH.off 32 (some 125) rfl rfl (by kernel_rfl) (by kernel_rfl) (by kernel_rfl) (fun _ _ _ h => h) (by rfl) HSg.out ?_; simp only [Act.put, List.setIfInBounds_toArray, List.set_cons_zero, List.set_cons_succ]
                    refine WH.off 33 (some 126) rfl rfl (by kernel_rfl) (by kernel_rfl) (by kernel_rfl) (fun _ _ _ h => h) (by rfl) HSg.out ?_; simp only [Act.put, List.setIfInBounds_toArray, List.set_cons_zero, List.set_cons_succ]
                    refine WH.off 34 (some 127) rfl rfl (by kernel_rfl) (by kernel_rfl) (by kernel_rfl) (fun _ _ _ h => h) (by rfl) HSg.out ?_; simp only [Act.put, List.setIfInBounds_toArray, List.set_cons_zero, List.set_cons_succ]
                    refine WH.take 35 (some 128) rfl rfl (by kernel_rfl) (by kernel_rfl) (by kernel_rfl) (fun _ _ _ h => h) (by rfl) (fun v hv => by have k0 := hv.cell c0; have k1 := hv.cell c1; have k2 := hv.cell c2; have k3 := hv.cell c3; have k4 := hv.cell c4; have k5 := hv.cell c5; have k6 := hv.cell c6; have k7 := hv.cell c7; have k8 := hv.cell c8; have k9 := hv.cell c9; have j0 := hv.cell v0; have j1 := hv.cell v1; have j2 := hv.cell v2; have j3 := hv.cell v3; have j4 := hv.cell v4; have j5 := hv.cell v5; go_simp; first | done | with_reducible rfl | (rw [if_neg (by omega)])) HSg.out ?_; simp only [Act.put, List.setIfInBounds_toArray, List.set_cons_zero, List.set_cons_succ]
                    refine WH.done (by kernel_rfl) ?_
                    have hnone : ruleOf [l0, l1, l2, l3, l4, l5] = none := by
                      rw [comp_ref HWO.out, HRR.out, HGR.out]; rfl
                    have hV : Hid (res = ([], N, 3)) := Lib.hid (by rw [HCF.out, ← hCO.out, HCU.out, if_neg (by omega), hnone])
                    have HBZ := Lib.hid (below_then (below_then hB.out HSx.out) HSg.out)
                    have M3 := Since.cell HSg.out M2
                    clear hnone M2 c0 c1 c2 c3 c4 c5 c6 c7 c8 c9 v0 v1 v2 v3 v4 v5 q0 q1 q2 q3 q4 q5 g0 g1 g2 g3 g4 g5
                    go_wp2_with fail
                    refine WQ.enter w10 (Since.refl _) (by kernel_rfl) (by kernel_rfl) ?_
                    refine WQ.val (by rfl) (fun v hv => by have k0 := hv.cell M3; go_simp; first | done | with_reducible rfl | (rw [if_neg (by omega)])) ?_; simp only [Act.put, List.setIfInBounds_toArray, List.set_cons_zero, List.set_cons_succ]
                    refine WQ.val (by rfl) (fun v hv => by have k0 := hv.cell M3; go_simp; first | done | with_reducible rfl | (rw [if_neg (by omega)])) ?_; simp only [Act.put, List.setIfInBounds_toArray, List.set_cons_zero, List.set_cons_succ]
                    refine WQ.val (by rfl) (fun v hv => by have k0 := hv.cell M3; go_simp; first | done | with_reducible rfl | (rw [if_neg (by omega)])) ?_; simp only [Act.put, List.setIfInBounds_toArray, List.set_cons_zero, List.set_cons_succ]
                    refine WQ.val (by rfl) (fun v hv => by have k0 := hv.cell M3; go_simp; first | done | with_reducible rfl | (rw [if_neg (by omega)])) ?_; simp only [Act.put, List.setIfInBounds_toArray, List.set_cons_zero, List.set_cons_succ]
                    refine WQ.val (by rfl) (fun v hv => by have k0 := hv.cell M3; go_simp; first | done | with_reducible rfl | (rw [if_neg (by omega)])) ?_; simp only [Act.put, List.setIfInBounds_toArray, List.set_cons_zero, List.set_cons_succ]
                    refine WQ.val (by rfl) (fun v hv => by have k0 := hv.cell M3; go_simp; first | done | with_reducible rfl | (rw [if_neg (by omega)])) ?_; simp only [Act.put, List.setIfInBounds_toArray, List.set_cons_zero, List.set_cons_succ]
                    refine WQ.val (by rfl) (fun v hv => by have k0 := hv.cell M3; go_simp; first | done | with_reducible rfl | (rw [if_neg (by omega)])) ?_; simp only [Act.put, List.setIfInBounds_toArray, List.set_cons_zero, List.set_cons_succ]
                    refine WQ.val (by rfl) (fun v hv => by have k0 := hv.cell M3; go_simp; first | done | with_reducible rfl | (rw [if_neg (by omega)])) ?_; simp only [Act.put, List.setIfInBounds_toArray, List.set_cons_zero, List.set_cons_succ]
                    refine WQ.done ?_
                    intro w12 hw12
                    have HBE := Lib.hid (HB1.out.trans ((below_then HBZ.out hw12).mono HB1.out.size))
                    clear hw12 M3
                    go_wp2_with fail
                    go_ret3
                    exact ⟨_, by (rw [hV.out]) <;> rfl, ⟨none, 0, by rw [hV.out]; rfl, by rw [hV.out]; exact rules_nil _ _⟩, HBE.out⟩
                  | true =>
                    refine WH.enter (Since wx) (by kernel_rfl) 36 rfl ?_
                    refine WH.take 0 (some 93) rfl rfl (by kernel_rfl) (by kernel_rfl) (by kernel_rfl) (fun _ _ _ h => h) (by rfl) (fun v hv => by have k0 := hv.cell c0; have k1 := hv.cell c1; have k2 := hv.cell c2; have k3 := hv.cell c3; have k4 := hv.cell c4; have k5 := hv.cell c5; have k6 := hv.cell c6; have k7 := hv.cell c7; have k8 := hv.cell c8; have k9 := hv.cell c9; have j0 := hv.cell v0; have j1 := hv.cell v1; have j2 := hv.cell v2; have j3 := hv.cell v3; have j4 := hv.cell v4; have j5 := hv.cell v5; go_simp; first | done | with_reducible rfl | (rw [if_neg (by omega)])) hS0 ?_; simp only [Act.put, List.setIfInBounds_toArray, List.set_cons_zero, List.set_cons_succ]
                    refine WH.one 1 (by kernel_rfl) rfl (by rfl) ?_
                    go_wp2_with fail
                    refine (HG.out _).mono ?_
                    rintro e w10 ⟨rfl, h10⟩
                    have HSg : Hid (Since wx w10) := Lib.hid (Since.step hS0 h10)
                    clear h10
                    go_wp2_with fail
                    refine ⟨HSg.out, ?_⟩
                    refine WH.take 2 (some 95) rfl rfl (by kernel_rfl) (by kernel_rfl) (by kernel_rfl) (fun _ _ _ h => h) (by rfl) (fun v hv => by have k0 := hv.cell c0; have k1 := hv.cell c1; have k2 := hv.cell c2; have k3 := hv.cell c3; have k4 := hv.cell c4; have k5 := hv.cell c5; have k6 := hv.cell c6; have k7 := hv.cell c7; have k8 := hv.cell c8; have k9 := hv.cell c9; have j0 := hv.cell v0; have j1 := hv.cell v1; have j2 := hv.cell v2; have j3 := hv.cell v3; have j4 := hv.cell v4; have j5 := hv.cell v5; go_simp; first | done | with_reducible rfl | (rw [if_neg (by omega)])) HSg.out ?_; simp only [Act.put, List.setIfInBounds_toArray, List.set_cons_zero, List.set_cons_succ]
                    refine WH.take 3 (some 96) rfl rfl (by kernel_rfl) (by kernel_rfl) (by kernel_rfl) (fun _ _ _ h => h) (by rfl) (fun v hv => by have k0 := hv.cell c0; have k1 := hv.cell c1; have k2 := hv.cell c2; have k3 := hv.cell c3; have k4 := hv.cell c4; have k5 := hv.cell c5; have k6 := hv.cell c6; have k7 := hv.cell c7; have k8 := hv.cell c8; have k9 := hv.cell c9; have j0 := hv.cell v0; have j1 := hv.cell v1; have j2 := hv.cell v2; have j3 := hv.cell v3; have j4 := hv.cell v4; have j5 := hv.cell v5; go_simp; first | done | with_reducible rfl | (rw [if_neg (by omega)])) HSg.out ?_; simp only [Act.put, List.setIfInBounds_toArray, List.set_cons_zero, List.set_cons_succ]
                    refine WH.take 4 (some 97) rfl rfl (by kernel_rfl) (by kernel_rfl) (by kernel_rfl) (fun _ _ _ h => h) (by rfl) (fun v hv => by have k0 := hv.cell c0; have k1 := hv.cell c1; have k2 := hv.cell c2; have k3 := hv.cell c3; have k4 := hv.cell c4; have k5 := hv.cell c5; have k6 := hv.cell c6; have k7 := hv.cell c7; have k8 := hv.cell c8; have k9 := hv.cell c9; have j0 := hv.cell v0; have j1 := hv.cell v1; have j2 := hv.cell v2; have j3 := hv.cell v3; have j4 := hv.cell v4; have j5 := hv.cell v5; go_simp; first | done | with_reducible rfl | (rw [if_neg (by omega)])) HSg.out ?_; simp only [Act.put, List.setIfInBounds_toArray, List.set_cons_zero, List.set_cons_succ]
                    refine WH.take 6 (some 99) rfl rfl (by kernel_rfl) (by kernel_rfl) (by kernel_rfl) (fun _ _ _ h => h) (by rfl) (fun v hv => by have k0 := hv.cell c0; have k1 := hv.cell c1; have k2 := hv.cell c2; have k3 := hv.cell c3; have k4 := hv.cell c4; have k5 := hv.cell c5; have k6 := hv.cell c6; have k7 := hv.cell c7; have k8 := hv.cell c8; have k9 := hv.cell c9; have j0 := hv.cell v0; have j1 := hv.cell v1; have j2 := hv.cell v2; have j3 := hv.cell v3; have j4 := hv.cell v4; have j5 := hv.cell v5; go_simp; first | done | with_reducible rfl | (rw [if_neg (by omega)])) HSg.out ?_; simp only [Act.put, List.setIfInBounds_toArray, List.set_cons_zero, List.set_cons_succ]
                    refine WH.take 7 (some 100) rfl rfl (by kernel_rfl) (by kernel_rfl) (by kernel_rfl) (fun _ _ _ h => h) (by rfl) (fun v hv => by have k0 := hv.cell c0; have k1 := hv.cell c1; have k2 := hv.cell c2; have k3 := hv.cell c3; have k4 := hv.cell c4; have k5 := hv.cell c5; have k6 := hv.cell c6; have k7 := hv.cell c7; have k8 := hv.cell c8; have k9 := hv.cell c9; have j0 := hv.cell v0; have j1 := hv.cell v1; have j2 := hv.cell v2; have j3 := hv.cell v3; have j4 := hv.cell v4; have j5 := hv.cell v5; go_simp; first | done | with_reducible rfl | (rw [if_neg (by omega)])) HSg.out ?_; simp only [Act.put, List.setIfInBounds_toArray, List.set_cons_zero, List.set_cons_succ]
                    refine WH.take 8 (some 101) rfl rfl (by kernel_rfl) (by kernel_rfl) (by kernel_rfl) (fun _ _ _ h => h) (by rfl) (fun v hv => by have k0 := hv.cell c0; have k1 := hv.cell c1; have k2 := hv.cell c2; have k3 := hv.cell c3; have k4 := hv.cell c4; have k5 := hv.cell c5; have k6 := hv.cell c6; have k7 := hv.cell c7; have k8 := hv.cell c8; have k9 := hv.cell c9; have j0 := hv.cell v0; have j1 := hv.cell v1; have j2 := hv.cell v2; have j3 := hv.cell v3; have j4 := hv.cell v4; have j5 := hv.cell v5; go_simp; first | done | with_reducible rfl | (rw [if_neg (by omega)])) HSg.out ?_; simp only [Act.put, List.setIfInBounds_toArray, List.set_cons_zero, List.set_cons_succ]
                    refine WH.take 9 (some 102) rfl rfl (by kernel_rfl) (by kernel_rfl) (by kernel_rfl) (fun _ _ _ h => h) (by rfl) (fun v hv => by have k0 := hv.cell c0; have k1 := hv.cell c1; have k2 := hv.cell c2; have k3 := hv.cell c3; have k4 := hv.cell c4; have k5 := hv.cell c5; have k6 := hv.cell c6; have k7 := hv.cell c7; have k8 := hv.cell c8; have k9 := hv.cell c9; have j0 := hv.cell v0; have j1 := hv.cell v1; have j2 := hv.cell v2; have j3 := hv.cell v3; have j4 := hv.cell v4; have j5 := hv.cell v5; go_simp; first | done | with_reducible rfl | (rw [if_neg (by omega)])) HSg.out ?_; simp only [Act.put, List.setIfInBounds_toArray, List.set_cons_zero, List.set_cons_succ]
                    refine WH.take 10 (some 103) rfl rfl (by kernel_rfl) (by kernel_rfl) (by kernel_rfl) (fun _ _ _ h => h) (by rfl) (fun v hv => by have k0 := hv.cell c0; have k1 := hv.cell c1; have k2 := hv.cell c2; have k3 := hv.cell c3; have k4 := hv.cell c4; have k5 := hv.cell c5; have k6 := hv.cell c6; have k7 := hv.cell c7; have k8 := hv.cell c8; have k9 := hv.cell c9; have j0 := hv.cell v0; have j1 := hv.cell v1; have j2 := hv.cell v2; have j3 := hv.cell v3; have j4 := hv.cell v4; have j5 := hv.cell v5; go_simp; first | done | with_reducible rfl | (rw [if_neg (by omega)])) HSg.out ?_; simp only [Act.put, List.setIfInBounds_toArray, List.set_cons_zero, List.set_cons_succ]
                    refine WH.take 11 (some 104) rfl rfl (by kernel_rfl) (by kernel_rfl) (by kernel_rfl) (fun _ _ _ h => h) (by rfl) (fun v hv => by have k0 := hv.cell c0; have k1 := hv.cell c1; have k2 := hv.cell c2; have k3 := hv.cell c3; have k4 := hv.cell c4; have k5 := hv.cell c5; have k6 := hv.cell c6; have k7 := hv.cell c7; have k8 := hv.cell c8; have k9 := hv.cell c9; have j0 := hv.cell v0; have j1 := hv.cell v1; have j2 := hv.cell v2; have j3 := hv.cell v3; have j4 := hv.cell v4; have j5 := hv.cell v5; go_simp; first | done | with_reducible rfl | (rw [if_neg (by omega)])) HSg.out ?_; simp only [Act.put, List.setIfInBounds_toArray, List.set_cons_zero, List.set_cons_succ]
                    refine WH.take 12 (some 105) rfl rfl (by kernel_rfl) (by kernel_rfl) (by kernel_rfl) (fun _ _ _ h => h) (by rfl) (fun v hv => by have k0 := hv.cell c0; have k1 := hv.cell c1; have k2 := hv.cell c2; have k3 := hv.cell c3; have k4 := hv.cell c4; have k5 := hv.cell c5; have k6 := hv.cell c6; have k7 := hv.cell c7; have k8 := hv.cell c8; have k9 := hv.cell c9; have j0 := hv.cell v0; have j1 := hv.cell v1; have j2 := hv.cell v2; have j3 := hv.cell v3; have j4 := hv.cell v4; have j5 := hv.cell v5; go_simp; first | done | with_reducible rfl | (rw [if_neg (by omega)])) HSg.out ?_; simp only [Act.put, List.setIfInBounds_toArray, List.set_cons_zero, List.set_cons_succ]
                    refine WH.take 13 (some 106) rfl rfl (by kernel_rfl) (by kernel_rfl) (by kernel_rfl) (fun _ _ _ h => h) (by rfl) (fun v hv => by have k0 := hv.cell c0; have k1 := hv.cell c1; have k2 := hv.cell c2; have k3 := hv.cell c3; have k4 := hv.cell c4; have k5 := hv.cell c5; have k6 := hv.cell c6; have k7 := hv.cell c7; have k8 := hv.cell c8; have k9 := hv.cell c9; have j0 := hv.cell v0; have j1 := hv.cell v1; have j2 := hv.cell v2; have j3 := hv.cell v3; have j4 := hv.cell v4; have j5 := hv.cell v5; go_simp; first | done | with_reducible rfl | (rw [if_neg (by omega)])) HSg.out ?_; simp only [Act.put, List.setIfInBounds_toArray, List.set_cons_zero, List.set_cons_succ]
                    refine WH.take 14 (some 107) rfl rfl (by kernel_rfl) (by kernel_rfl) (by kernel_rfl) (fun _ _ _ h => h) (by rfl) (fun v hv => by have k0 := hv.cell c0; have k1 := hv.cell c1; have k2 := hv.cell c2; have k3 := hv.cell c3; have k4 := hv.cell c4; have k5 := hv.cell c5; have k6 := hv.cell c6; have k7 := hv.cell c7; have k8 := hv.cell c8; have k9 := hv.cell c9; have j0 := hv.cell v0; have j1 := hv.cell v1; have j2 := hv.cell v2; have j3 := hv.cell v3; have j4 := hv.cell v4; have j5 := hv.cell v5; go_simp; first | done | with_reducible rfl | (rw [if_neg (by omega)])) HSg.out ?_; simp only [Act.put, List.setIfInBounds_toArray, List.set_cons_zero, List.set_cons_succ]
                    refine WH.take 15 (some 108) rfl rfl (by kernel_rfl) (by kernel_rfl) (by kernel_rfl) (fun _ _ _ h => h) (by rfl) (fun v hv => by have k0 := hv.cell c0; have k1 := hv.cell c1; have k2 := hv.cell c2; have k3 := hv.cell c3; have k4 := hv.cell c4; have k5 := hv.cell c5; have k6 := hv.cell c6; have k7 := hv.cell c7; have k8 := hv.cell c8; have k9 := hv.cell c9; have j0 := hv.cell v0; have j1 := hv.cell v1; have j2 := hv.cell v2; have j3 := hv.cell v3; have j4 := hv.cell v4; have j5 := hv.cell v5; go_simp; first | done | with_reducible rfl | (rw [if_neg (by omega)])) HSg.out ?_; simp only [Act.put, List.setIfInBounds_toArray, List.set_cons_zero, List.set_cons_succ]
                    refine WH.take 16 (some 109) rfl rfl (by kernel_rfl) (by kernel_rfl) (by kernel_rfl) (fun _ _ _ h => h) (by rfl) (fun v hv => by have k0 := hv.cell c0; have k1 := hv.cell c1; have k2 := hv.cell c2; have k3 := hv.cell c3; have k4 := hv.cell c4; have k5 := hv.cell c5; have k6 := hv.cell c6; have k7 := hv.cell c7; have k8 := hv.cell c8; have k9 := hv.cell c9; have j0 := hv.cell v0; have j1 := hv.cell v1; have j2 := hv.cell v2; have j3 := hv.cell v3; have j4 := hv.cell v4; have j5 := hv.cell v5; go_simp; first | done | with_reducible rfl | (rw [if_neg (by omega)])) HSg.out ?_; simp only [Act.put, List.setIfInBounds_toArray, List.set_cons_zero, List.set_cons_succ]
                    refine WH.take 17 (some 110) rfl rfl (by kernel_rfl) (by kernel_rfl) (by kernel_rfl) (fun _ _ _ h => h) (by rfl) (fun v hv => by have k0 := hv.cell c0; have k1 := hv.cell c1; have k2 := hv.cell c2; have k3 := hv.cell c3; have k4 := hv.cell c4; have k5 := hv.cell c5; have k6 := hv.cell c6; have k7 := hv.cell c7; have k8 := hv.cell c8; have k9 := hv.cell c9; have j0 := hv.cell v0; have j1 := hv.cell v1; have j2 := hv.cell v2; have j3 := hv.cell v3; have j4 := hv.cell v4; have j5 := hv.cell v5; go_simp; first | done | with_reducible rfl | (rw [if_neg (by omega)])) HSg.out ?_; simp only [Act.put, List.setIfInBounds_toArray, List.set_cons_zero, List.set_cons_succ]
                    refine WH.take 18 (some 111) rfl rfl (by kernel_rfl) (by kernel_rfl) (by kernel_rfl) (fun _ _ _ h => h) (by rfl) (fun v hv => by have k0 := hv.cell c0; have k1 := hv.cell c1; have k2 := hv.cell c2; have k3 := hv.cell c3; have k4 := hv.cell c4; have k5 := hv.cell c5; have k6 := hv.cell c6; have k7 := hv.cell c7; have k8 := hv.cell c8; have k9 := hv.cell c9; have j0 := hv.cell v0; have j1 := hv.cell v1; have j2 := hv.cell v2; have j3 := hv.cell v3; have j4 := hv.cell v4; have j5 := hv.cell v5; go_simp; first | done | with_reducible rfl | (rw [if_neg (by omega)])) HSg.out ?_; simp only [Act.put, List.setIfInBounds_toArray, List.set_cons_zero, List.set_cons_succ]
                    refine WH.take 19 (some 112) rfl rfl (by kernel_rfl) (by kernel_rfl) (by kernel_rfl) (fun _ _ _ h => h) (by rfl) (fun v hv => by have k0 := hv.cell c0; have k1 := hv.cell c1; have k2 := hv.cell c2; have k3 := hv.cell c3; have k4 := hv.cell c4; have k5 := hv.cell c5; have k6 := hv.cell c6; have k7 := hv.cell c7; have k8 := hv.cell c8; have k9 := hv.cell c9; have j0 := hv.cell v0; have j1 := hv.cell v1; have j2 := hv.cell v2; have j3 := hv.cell v3; have j4 := hv.cell v4; have j5 := hv.cell v5; go_simp; first | done | with_reducible rfl | (rw [if_neg (by omega)])) HSg.out ?_; simp only [Act.put, List.setIfInBounds_toArray, List.set_cons_zero, List.set_cons_succ]
                    refine WH.take 20 (some 113) rfl rfl (by kernel_rfl) (by kernel_rfl) (by kernel_rfl) (fun _ _ _ h => h) (by rfl) (fun v hv => by have k0 := hv.cell c0; have k1 := hv.cell c1; have k2 := hv.cell c2; have k3 := hv.cell c3; have k4 := hv.cell c4; have k5 := hv.cell c5; have k6 := hv.cell c6; have k7 := hv.cell c7; have k8 := hv.cell c8; have k9 := hv.cell c9; have j0 := hv.cell v0; have j1 := hv.cell v1; have j2 := hv.cell v2; have j3 := hv.cell v3; have j4 := hv.cell v4; have j5 := hv.cell v5; go_simp; first | done | with_reducible rfl | (rw [if_neg (by omega)])) HSg.out ?_; simp only [Act.put, List.setIfInBounds_toArray, List.set_cons_zero, List.set_cons_succ]
                    refine WH.take 21 (some 114) rfl rfl (by kernel_rfl) (by kernel_rfl) (by kernel_rfl) (fun _ _ _ h => h) (by rfl) (fun v hv => by have k0 := hv.cell c0; have k1 := hv.cell c1; have k2 := hv.cell c2; have k3 := hv.cell c3; have k4 := hv.cell c4; have k5 := hv.cell c5; have k6 := hv.cell c6; have k7 := hv.cell c7; have k8 := hv.cell c8; have k9 := hv.cell c9; have j0 := hv.cell v0; have j1 := hv.cell v1; have j2 := hv.cell v2; have j3 := hv.cell v3; have j4 := hv.cell v4; have j5 := hv.cell v5; go_simp; first | done | with_reducible rfl | (rw [if_neg (by omega)])) HSg.out ?_; simp only [Act.put, List.setIfInBounds_toArray, List.set_cons_zero, List.set_cons_succ]
                    refine WH.take 22 (some 115) rfl rfl (by kernel_rfl) (by kernel_rfl) (by kernel_rfl) (fun _ _ _ h => h) (by rfl) (fun v hv => by have k0 := hv.cell c0; have k1 := hv.cell c1; have k2 := hv.cell c2; have k3 := hv.cell c3; have k4 := hv.cell c4; have k5 := hv.cell c5; have k6 := hv.cell c6; have k7 := hv.cell c7; have k8 := hv.cell c8; have k9 := hv.cell c9; have j0 := hv.cell v0; have j1 := hv.cell v1; have j2 := hv.cell v2; have j3 := hv.cell v3; have j4 := hv.cell v4; have j5 := hv.cell v5; go_simp; first | done | with_reducible rfl | (rw [if_neg (by omega)])) HSg.out ?_; simp only [Act.put, List.setIfInBounds_toArray, List.set_cons_zero, List.set_cons_succ]
                    refine WH.take 23 (some 116) rfl rfl (by kernel_rfl) (by kernel_rfl) (by kernel_rfl) (fun _ _ _ h => h) (by rfl) (fun v hv => by have k0 := hv.cell c0; have k1 := hv.cell c1; have k2 := hv.cell c2; have k3 := hv.cell c3; have k4 := hv.cell c4; have k5 := hv.cell c5; have k6 := hv.cell c6; have k7 := hv.cell c7; have k8 := hv.cell c8; have k9 := hv.cell c9; have j0 := hv.cell v0; have j1 := hv.cell v1; have j2 := hv.cell v2; have j3 := hv.cell v3; have j4 := hv.cell v4; have j5 := hv.cell v5; go_simp; first | done | with_reducible rfl | (rw [if_neg (by omega)])) HSg.out ?_; simp only [Act.put, List.setIfInBounds_toArray, List.set_cons_zero, List.set_cons_succ]
                    refine WH.take 24 (some 117) rfl rfl (by kernel_rfl) (by kernel_rfl) (by kernel_rfl) (fun _ _ _ h => h) (by rfl) (fun v hv => by have k0 := hv.cell c0; have k1 := hv.cell c1; have k2 := hv.cell c2; have k3 := hv.cell c3; have k4 := hv.cell c4; have k5 := hv.cell c5; have k6 := hv.cell c6; have k7 := hv.cell c7; have k8 := hv.cell c8; have k9 := hv.cell c9; have j0 := hv.cell v0; have j1 := hv.cell v1; have j2 := hv.cell v2; have j3 := hv.cell v3; have j4 := hv.cell v4; have j5 := hv.cell v5; go_simp; first | done | with_reducible rfl | (rw [if_neg (by omega)])) HSg.out ?_; simp only [Act.put, List.setIfInBounds_toArray, List.set_cons_zero, List.set_cons_succ]
                    refine WH.take 25 (some 118) rfl rfl (by kernel_rfl) (by kernel_rfl) (by kernel_rfl) (fun _ _ _ h => h) (by rfl) (fun v hv => by have k0 := hv.cell c0; have k1 := hv.cell c1; have k2 := hv.cell c2; have k3 := hv.cell c3; have k4 := hv.cell c4; have k5 := hv.cell c5; have k6 := hv.cell c6; have k7 := hv.cell c7; have k8 := hv.cell c8; have k9 := hv.cell c9; have j0 := hv.cell v0; have j1 := hv.cell v1; have j2 := hv.cell v2; have j3 := hv.cell v3; have j4 := hv.cell v4; have j5 := hv.cell v5; go_simp; first | done | with_reducible rfl | (rw [if_neg (by omega)])) HSg.out ?_; simp only [Act.put, List.setIfInBounds_toArray, List.set_cons_zero, List.set_cons_succ]
                    refine WH.take 26 (some 119) rfl rfl (by kernel_rfl) (by kernel_rfl) (by kernel_rfl) (fun _ _ _ h => h) (by rfl) (fun v hv => by have k0 := hv.cell c0; have k1 := hv.cell c1; have k2 := hv.cell c2; have k3 := hv.cell c3; have k4 := hv.cell c4; have k5 := hv.cell c5; have k6 := hv.cell c6; have k7 := hv.cell c7; have k8 := hv.cell c8; have k9 := hv.cell c9; have j0 := hv.cell v0; have j1 := hv.cell v1; have j2 := hv.cell v2; have j3 := hv.cell v3; have j4 := hv.cell v4; have j5 := hv.cell v5; go_simp; first | done | with_reducible rfl | (rw [if_neg (by omega)])) HSg.out ?_; simp only [Act.put, List.setIfInBounds_toArray, List.set_cons_zero, List.set_cons_succ]
                    refine WH.take 27 (some 120) rfl rfl (by kernel_rfl) (by kernel_rfl) (by kernel_rfl) (fun _ _ _ h => h) (by rfl) (fun v hv => by have k0 := hv.cell c0; have k1 := hv.cell c1; have k2 := hv.cell c2; have k3 := hv.cell c3; have k4 := hv.cell c4; have k5 := hv.cell c5; have k6 := hv.cell c6; have k7 := hv.cell c7; have k8 := hv.cell c8; have k9 := hv.cell c9; have j0 := hv.cell v0; have j1 := hv.cell v1; have j2 := hv.cell v2; have j3 := hv.cell v3; have j4 := hv.cell v4; have j5 := hv.cell v5; go_simp; first | done | with_reducible rfl | (rw [if_neg (by omega)])) HSg.out ?_; simp only [Act.put, List.setIfInBounds_toArray, List.set_cons_zero, List.set_cons_succ]
                    refine WH.take 28 (some 121) rfl rfl (by kernel_rfl) (by kernel_rfl) (by kernel_rfl) (fun _ _ _ h => h) (by rfl) (fun v hv => by have k0 := hv.cell c0; have k1 := hv.cell c1; have k2 := hv.cell c2; have k3 := hv.cell c3; have k4 := hv.cell c4; have k5 := hv.cell c5; have k6 := hv.cell c6; have k7 := hv.cell c7; have k8 := hv.cell c8; have k9 := hv.cell c9; have j0 := hv.cell v0; have j1 := hv.cell v1; have j2 := hv.cell v2; have j3 := hv.cell v3; have j4 := hv.cell v4; have j5 := hv.cell v5; go_simp; first | done | with_reducible rfl | (rw [if_neg (by omega)])) HSg.out ?_; simp only [Act.put, List.setIfInBounds_toArray, List.set_cons_zero, List.set_cons_succ]
                    refine WH.take 29 (some 122) rfl rfl (by kernel_rfl) (by kernel_rfl) (by kernel_rfl) (fun _ _ _ h => h) (by rfl) (fun v hv => by have k0 := hv.cell c0; have k1 := hv.cell c1; have k2 := hv.cell c2; have k3 := hv.cell c3; have k4 := hv.cell c4; have k5 := hv.cell c5; have k6 := hv.cell c6; have k7 := hv.cell c7; have k8 := hv.cell c8; have k9 := hv.cell c9; have j0 := hv.cell v0; have j1 := hv.cell v1; have j2 := hv.cell v2; have j3 := hv.cell v3; have j4 := hv.cell v4; have j5 := hv.cell v5; go_simp; first | done | with_reducible rfl | (rw [if_neg (by omega)])) HSg.out ?_; simp only [Act.put, List.setIfInBounds_toArray, List.set_cons_zero, List.set_cons_succ]
                    refine WH.take 30 (some 123) rfl rfl (by kernel_rfl) (by kernel_rfl) (by kernel_rfl) (fun _ _ _ h => h) (by rfl) (fun v hv => by have k0 := hv.cell c0; have k1 := hv.cell c1; have k2 := hv.cell c2; have k3 := hv.cell c3; have k4 := hv.cell c4; have k5 := hv.cell c5; have k6 := hv.cell c6; have k7 := hv.cell c7; have k8 := hv.cell c8; have k9 := hv.cell c9; have j0 := hv.cell v0; have j1 := hv.cell v1; have j2 := hv.cell v2; have j3 := hv.cell v3; have j4 := hv.cell v4; have j5 := hv.cell v5; go_simp; first | done | with_reducible rfl | (rw [if_neg (by omega)])) HSg.out ?_; simp only [Act.put, List.setIfInBounds_toArray, List.set_cons_zero, List.set_cons_succ]
                    refine WH.take 31 (some 124) rfl rfl (by kernel_rfl) (by kernel_rfl) (by kernel_rfl) (fun _ _ _ h => h) (by rfl) (fun v hv => by have k0 := hv.cell c0; have k1 := hv.cell c1; have k2 := hv.cell c2; have k3 := hv.cell c3; have k4 := hv.cell c4; have k5 := hv.cell c5; have k6 := hv.cell c6; have k7 := hv.cell c7; have k8 := hv.cell c8; have k9 := hv.cell c9; have j0 := hv.cell v0; have j1 := hv.cell v1; have j2 := hv.cell v2; have j3 := hv.cell v3; have j4 := hv.cell v4; have j5 := hv.cell v5; go_simp; first | done | with_reducible rfl | (rw [if_neg (by omega)])) HSg.out ?_; simp only [Act.put, List.setIfInBounds_toArray, List.set_cons_zero, List.set_cons_succ]
                    refine WH.take 32 (some 125) rfl rfl (by kernel_rfl) (by kernel_rfl) (by kernel_rfl) (fun _ _ _ h => h) (by rfl) (fun v hv => by have k0 := hv.cell c0; have k1 := hv.cell c1; have k2 := hv.cell c2; have k3 := hv.cell c3; have k4 := hv.cell c4; have k5 := hv.cell c5; have k6 := hv.cell c6; have k7 := hv.cell c7; have k8 := hv.cell c8; have k9 := hv.cell c9; have j0 := hv.cell v0; have j1 := hv.cell v1; have j2 := hv.cell v2; have j3 := hv.cell v3; have j4 := hv.cell v4; have j5 := hv.cell v5; go_simp; first | done | with_reducible rfl | (rw [if_neg (by omega)])) HSg.out ?_; simp only [Act.put, List.setIfInBounds_toArray, List.set_cons_zero, List.set_cons_succ]
                    refine WH.take 33 (some 126) rfl rfl (by kernel_rfl) (by kernel_rfl) (by kernel_rfl) (fun _ _ _ h => h) (by rfl) (fun v hv => by have k0 := hv.cell c0; have k1 := hv.cell c1; have k2 := hv.cell c2; have k3 := hv.cell c3; have k4 := hv.cell c4; have k5 := hv.cell c5; have k6 := hv.cell c6; have k7 := hv.cell c7; have k8 := hv.cell c8; have k9 := hv.cell c9; have j0 := hv.cell v0; have j1 := hv.cell v1; have j2 := hv.cell v2; have j3 := hv.cell v3; have j4 := hv.cell v4; have j5 := hv.cell v5; go_simp; first | done | with_reducible rfl | (rw [if_neg (by omega)])) HSg.out ?_; simp only [Act.put, List.setIfInBounds_toArray, List.set_cons_zero, List.set_cons_succ]
                    refine WH.one 5 (by kernel_rfl) rfl (by rfl) ?_
                    go_wp2_with fail
                    refine (HLN.out _).mono ?_
                    rintro e w11 ⟨rfl, h11⟩
                    have HSl : Hid (Since wx w11) := Lib.hid (Since.step HSg.out h11)
                    clear h11
                    go_wp2_with fail
                    refine ⟨HSl.out, ?_⟩
                    refine WH.take 34 (some 127) rfl rfl (by kernel_rfl) (by kernel_rfl) (by kernel_rfl) (fun _ _ _ h => h) (by rfl) (fun v hv => by have k0 := hv.cell c0; have k1 := hv.cell c1; have k2 := hv.cell c2; have k3 := hv.cell c3; have k4 := hv.cell c4; have k5 := hv.cell c5; have k6 := hv.cell c6; have k7 := hv.cell c7; have k8 := hv.cell c8; have k9 := hv.cell c9; have j0 := hv.cell v0; have j1 := hv.cell v1; have j2 := hv.cell v2; have j3 := hv.cell v3; have j4 := hv.cell v4; have j5 := hv.cell v5; go_simp; first | done | with_reducible rfl | (rw [if_neg (by omega)])) HSl.out ?_; simp only [Act.put, List.setIfInBounds_toArray, List.set_cons_zero, List.set_cons_succ]
                    refine WH.take 35 (some 128) rfl rfl (by kernel_rfl) (by kernel_rfl) (by kernel_rfl) (fun _ _ _ h => h) (by rfl) (fun v hv => by have k0 := hv.cell c0; have k1 := hv.cell c1; have k2 := hv.cell c2; have k3 := hv.cell c3; have k4 := hv.cell c4; have k5 := hv.cell c5; have k6 := hv.cell c6; have k7 := hv.cell c7; have k8 := hv.cell c8; have k9 := hv.cell c9; have j0 := hv.cell v0; have j1 := hv.cell v1; have j2 := hv.cell v2; have j3 := hv.cell v3; have j4 := hv.cell v4; have j5 := hv.cell v5; go_simp; first | done | with_reducible rfl | (rw [if_neg (by omega)])) HSl.out ?_; simp only [Act.put, List.setIfInBounds_toArray, List.set_cons_zero, List.set_cons_succ]
                    refine WH.done (by kernel_rfl) ?_
                    obtain ⟨jn, hjn⟩ : ∃ x, (({ data := l0.toArray } : ByteArray) ++ { data := #[32] } ++ { data := l1.toArray } ++ { data := #[32] } ++ { data := l2.toArray } ++ { data := #[32] } ++ { data := l3.toArray } ++ { data := #[32] } ++ { data := l4.toArray } ++ { data := #[32] } ++ { data := l5.toArray }).toList = x := ⟨_, rfl⟩
                    simp only [hjn]
                    have HJ : jn = Lib.join [l0, l1, l2, l3, l4, l5] [32] := by
                      rw [← hjn, ByteArray.toList_eq, join_six]; simp
                    clear hjn
                    have hcr := comp_ref HWO.out
                    rw [HRR.out, HGR.out, (show Lib.join (wordsR ⟨acc, pr, sa, sb, da, db, sl, sh, dl, dh⟩) [32] = lr from HLR.out), ← HJ] at hcr
                    clear HJ
                    by_cases hq : lr = jn
                    · have hqb : (lr == jn) = true := beq_iff_eq.2 hq
                      rw [hqb] at hcr ⊢
                      clear hqb hq
                      have HN : Hid (compF (rs ++ [⟨acc, pr, sa, sb, da, db, sl, sh, dl, dh⟩]) (ls.drop (j + 1)) = compF [] ls) := Lib.hid (by rw [← hCO.out, HCU.out, if_neg (by omega), hcr]; rfl)
                      have HIr : Hid (∀ r ∈ rs ++ [(⟨acc, pr, sa, sb, da, db, sl, sh, dl, dh⟩ : Rl)], r.In) := Lib.hid (fun r hr => by
                        rcases List.mem_append.1 hr with h | h
                        · exact hIN.out r h
                        · rw [List.mem_singleton.1 h]; exact HIN2.out)
                      have HBy := Lib.hid (below_then (below_then hB.out HSx.out) HSl.out)
                      have HOWy := Lib.hid (owns_below (owns_below hOW.out HSx.out) HSl.out)
                      have d0 := Since.cell HSl.out c0
                      have d1 := Since.cell HSl.out c1
                      have d2 := Since.cell HSl.out c2
                      have d3 := Since.cell HSl.out c3
                      have d4 := Since.cell HSl.out c4
                      have d5 := Since.cell HSl.out c5
                      have d6 := Since.cell HSl.out c6
                      have d7 := Since.cell HSl.out c7
                      have d8 := Since.cell HSl.out c8
                      have d9 := Since.cell HSl.out c9
                      clear hcr M2 c0 c1 c2 c3 c4 c5 c6 c7 c8 c9 v0 v1 v2 v3 v4 v5 q0 q1 q2 q3 q4 q5 g0 g1 g2 g3 g4 g5 hCO HCU
                      subst hrj
                      have hbase : Hid (w1.heap.size ≤ w11.heap.size) := Lib.hid HBy.out.size
                      have HOWz := Lib.hid (HOWy.out.alloc (.cells (rowsC [⟨acc, pr, sa, sb, da, db, sl, sh, dl, dh⟩]).toArray 44))
                      go_wp2_with (at_builtin; refine Hid.out ?_)
                      refine Lib.hid ?_
                      refine wpList_append_own_at _ rfl _ _ 22 rfl w1.heap.size 44 i0 (.agg #[.bool false, .int .u8 0, .int .u32 0, .int .i64 0, .int .u32 0, .int .i64 0, .int .u16 0, .int .u16 0, .int .u16 0, .int .u16 0]) 10 48 Tryz.underlying22 hi hz0 hz1 hz2 rfl (by decide) _ rs.length (rowsC rs) rfl HOWz.out ⟨_, 0, none⟩ 1 1 (ruleC ⟨acc, pr, sa, sb, da, db, sl, sh, dl, dh⟩) rfl rfl (cells_at _ (ruleC ⟨acc, pr, sa, sb, da, db, sl, sh, dl, dh⟩) _ _ (by simp)) (ruleC_cell _) (by unfold maxLen; omega) (by omega) (by have := hbase.out; simp at this ⊢; omega) ?_
                      intro v' w12 hown hgrow _ hloc
                      have HOW5 : Hid (w12.ownsRow w1.heap.size 44 10 v' (rs ++ [(⟨acc, pr, sa, sb, da, db, sl, sh, dl, dh⟩ : Rl)]).length (rowsC (rs ++ [⟨acc, pr, sa, sb, da, db, sl, sh, dl, dh⟩]))) := Lib.hid (by rw [rowsC_snoc, List.length_append]; exact hown)
                      have HB5 : Hid (Below w1.heap.size w1 w12) := Lib.hid ((HBy.out.alloc HBy.out.size _).grown hgrow (by have := (HBy.out.alloc HBy.out.size (.cells (ruleC ⟨acc, pr, sa, sb, da, db, sl, sh, dl, dh⟩).toArray 44)).size; exact this) (fun b hb => by
                        rcases HOWy.out.2 with ⟨e, _⟩ | ⟨g, cap, cur, e, hg, _⟩
                        · rw [e] at hb; cases hb
                        · rw [e] at hb; cases hb; exact hg))
                      clear hown hgrow hloc HOWz HOWy HBy hbase d0 d1 d2 d3 d4 d5 d6 d7 d8 d9
                      go_wp2_with fail
                      go_roundw
                      case rel => exact ⟨rs.length + 1, _, by go_num, by omega, by simp, by simp; omega, HIr, HN, HOW5, HB5⟩
                      case measure => simp [intOf]; omega
                    · have hqb : (lr == jn) = false := beq_eq_false_iff_ne.2 hq
                      rw [hqb] at hcr ⊢
                      clear hqb hq
                      have hnone : ruleOf [l0, l1, l2, l3, l4, l5] = none := hcr
                      clear hcr
                      have hV : Hid (res = ([], N, 3)) := Lib.hid (by rw [HCF.out, ← hCO.out, HCU.out, if_neg (by omega), hnone])
                      have HBZ := Lib.hid (below_then (below_then hB.out HSx.out) HSl.out)
                      have M3 := Since.cell HSl.out M2
                      clear hnone M2 c0 c1 c2 c3 c4 c5 c6 c7 c8 c9 v0 v1 v2 v3 v4 v5 q0 q1 q2 q3 q4 q5 g0 g1 g2 g3 g4 g5
                      go_wp2_with fail
                      refine WQ.enter w11 (Since.refl _) (by kernel_rfl) (by kernel_rfl) ?_
                      refine WQ.val (by rfl) (fun v hv => by have k0 := hv.cell M3; go_simp; first | done | with_reducible rfl | (rw [if_neg (by omega)])) ?_; simp only [Act.put, List.setIfInBounds_toArray, List.set_cons_zero, List.set_cons_succ]
                      refine WQ.val (by rfl) (fun v hv => by have k0 := hv.cell M3; go_simp; first | done | with_reducible rfl | (rw [if_neg (by omega)])) ?_; simp only [Act.put, List.setIfInBounds_toArray, List.set_cons_zero, List.set_cons_succ]
                      refine WQ.val (by rfl) (fun v hv => by have k0 := hv.cell M3; go_simp; first | done | with_reducible rfl | (rw [if_neg (by omega)])) ?_; simp only [Act.put, List.setIfInBounds_toArray, List.set_cons_zero, List.set_cons_succ]
                      refine WQ.val (by rfl) (fun v hv => by have k0 := hv.cell M3; go_simp; first | done | with_reducible rfl | (rw [if_neg (by omega)])) ?_; simp only [Act.put, List.setIfInBounds_toArray, List.set_cons_zero, List.set_cons_succ]
                      refine WQ.val (by rfl) (fun v hv => by have k0 := hv.cell M3; go_simp; first | done | with_reducible rfl | (rw [if_neg (by omega)])) ?_; simp only [Act.put, List.setIfInBounds_toArray, List.set_cons_zero, List.set_cons_succ]
                      refine WQ.val (by rfl) (fun v hv => by have k0 := hv.cell M3; go_simp; first | done | with_reducible rfl | (rw [if_neg (by omega)])) ?_; simp only [Act.put, List.setIfInBounds_toArray, List.set_cons_zero, List.set_cons_succ]
                      refine WQ.val (by rfl) (fun v hv => by have k0 := hv.cell M3; go_simp; first | done | with_reducible rfl | (rw [if_neg (by omega)])) ?_; simp only [Act.put, List.setIfInBounds_toArray, List.set_cons_zero, List.set_cons_succ]
                      refine WQ.val (by rfl) (fun v hv => by have k0 := hv.cell M3; go_simp; first | done | with_reducible rfl | (rw [if_neg (by omega)])) ?_; simp only [Act.put, List.setIfInBounds_toArray, List.set_cons_zero, List.set_cons_succ]
                      refine WQ.done ?_
                      intro w12 hw12
                      have HBE := Lib.hid (HB1.out.trans ((below_then HBZ.out hw12).mono HB1.out.size))
                      clear hw12 M3
                      go_wp2_with fail
                      go_ret3
                      exact ⟨_, by (rw [hV.out]) <;> rfl, ⟨none, 0, by rw [hV.out]; rfl, by rw [hV.out]; exact rules_nil _ _⟩, HBE.out⟩

          · have hsx : ¬ ((ws.length : Int) = 6) := by omega
            have hV : Hid (res = ([], N, 3)) := Lib.hid (by rw [HCF.out, ← hCO.out, HCU.out, if_neg (by omega), ruleOf_six hsix])
            go_wp2_with fail
            clear m2
            refine WQ.enter wr (Since.refl _) (by kernel_rfl) (by kernel_rfl) ?_
            refine WQ.val (by rfl) (fun v hv => by have k0 := hv.cell m1; go_simp; first | done | with_reducible rfl | (rw [if_neg (by omega)])) ?_; simp only [Act.put, List.setIfInBounds_toArray, List.set_cons_zero, List.set_cons_succ]
            refine WQ.val (by rfl) (fun v hv => by have k0 := hv.cell m1; go_simp; first | done | with_reducible rfl | (rw [if_neg (by omega)])) ?_; simp only [Act.put, List.setIfInBounds_toArray, List.set_cons_zero, List.set_cons_succ]
            refine WQ.val (by rfl) (fun v hv => by have k0 := hv.cell m1; go_simp; first | done | with_reducible rfl | (rw [if_neg (by omega)])) ?_; simp only [Act.put, List.setIfInBounds_toArray, List.set_cons_zero, List.set_cons_succ]
            refine WQ.val (by rfl) (fun v hv => by have k0 := hv.cell m1; go_simp; first | done | with_reducible rfl | (rw [if_neg (by omega)])) ?_; simp only [Act.put, List.setIfInBounds_toArray, List.set_cons_zero, List.set_cons_succ]
            refine WQ.val (by rfl) (fun v hv => by have k0 := hv.cell m1; go_simp; first | done | with_reducible rfl | (rw [if_neg (by omega)])) ?_; simp only [Act.put, List.setIfInBounds_toArray, List.set_cons_zero, List.set_cons_succ]
            refine WQ.val (by rfl) (fun v hv => by have k0 := hv.cell m1; go_simp; first | done | with_reducible rfl | (rw [if_neg (by omega)])) ?_; simp only [Act.put, List.setIfInBounds_toArray, List.set_cons_zero, List.set_cons_succ]
            refine WQ.val (by rfl) (fun v hv => by have k0 := hv.cell m1; go_simp; first | done | with_reducible rfl | (rw [if_neg (by omega)])) ?_; simp only [Act.put, List.setIfInBounds_toArray, List.set_cons_zero, List.set_cons_succ]
            refine WQ.val (by rfl) (fun v hv => by have k0 := hv.cell m1; go_simp; first | done | with_reducible rfl | (rw [if_neg (by omega)])) ?_; simp only [Act.put, List.setIfInBounds_toArray, List.set_cons_zero, List.set_cons_succ]
            refine WQ.done ?_
            intro w5 hw5
            have HBE := Lib.hid (HB1.out.trans ((below_then hB.out hw5).mono HB1.out.size))
            clear hw5
            go_wp2_with fail
            go_ret3
            exact ⟨_, by (rw [hV.out]) <;> rfl, ⟨none, 0, by rw [hV.out]; rfl, by rw [hV.out]; exact rules_nil _ _⟩, HBE.out⟩
      · obtain rfl : j = ls.length := by omega
        have hV : Hid (res = (rs, 0, 0)) := Lib.hid (by
          rw [HCF.out, ← hCO.out, List.drop_length]; rfl)
        obtain ⟨av, cv, rfl, hRA⟩ := rules_of_row hOW.out hIN.out
        have hcap := owns_cap hOW.out
        have HRA := Lib.hid hRA
        have HBE := Lib.hid (HB1.out.trans (hB.out.mono HB1.out.size))
        clear hRA hOW hIN hCO
        go_wp2_with fail
        go_ret3
        exact ⟨_, by (rw [hV.out]) <;> rfl, ⟨av, cv, by (rw [hV.out]) <;> rfl, by rw [hV.out]; exact HRA.out⟩, HBE.out⟩
  · rw [if_neg hc] at hcf
    have hcb : (lc == 0) = false := beq_eq_false_iff_ne.2 hc
    have HCF := Lib.hid hcf
    clear hcf hc
    go_wp2_with fail
    go_ret3
    exact ⟨_, by (rw [HCF.out]) <;> rfl, ⟨none, 0, by rw [HCF.out]; rfl, by rw [HCF.out]; exact rules_nil _ _⟩, HB1.out⟩
end Go.Proofs.YtfiddoibnjildaaGreatDoor
