/- The walks of rules.Good and of the reference's Good. Printed by gen_rulee.py. -/
import Derived.Test.YtfiddoibnjildaaGreatDoorRuleC
import Derived.Test.YtfiddoibnjildaaGreatDoorAddrH
namespace Go.Proofs.YtfiddoibnjildaaGreatDoor
set_option linter.unusedSimpArgs false
set_option linter.unusedVariables false
open Go Go.RowKit

/-- A rule as a value. -/
abbrev ruleW (r : Rl) : Value := .agg #[.bool r.acc, .int .u8 (r.pr : Nat), .int .u32 (r.sa : Nat), .int .i64 r.sb, .int .u32 (r.da : Nat), .int .i64 r.db, .int .u16 (r.sl : Nat), .int .u16 (r.sh : Nat), .int .u16 (r.dl : Nat), .int .u16 (r.dh : Nat)]
/-- A rule in a block of its own. -/
abbrev ruleBox (w : World) (acc : Bool) (pr sa : Nat) (sb : Int) (da : Nat) (db : Int) (sl sh dl dh : Nat) : World := w.alloc (.cells #[.bool acc, .int .u8 pr, .int .u32 sa, .int .i64 sb, .int .u32 da, .int .i64 db, .int .u16 sl, .int .u16 sh, .int .u16 dl, .int .u16 dh] 44)
structure BoxAt (w : World) (b : Nat) (acc : Bool) (pr sa : Nat) (sb : Int) (da : Nat) (db : Int) (sl sh dl dh : Nat) : Prop where
  c0 : w.cell? ⟨b, 0, none⟩ = some (.bool acc)
  c1 : w.cell? ⟨b, 1, none⟩ = some (.int .u8 pr)
  c2 : w.cell? ⟨b, 2, none⟩ = some (.int .u32 sa)
  c3 : w.cell? ⟨b, 3, none⟩ = some (.int .i64 sb)
  c4 : w.cell? ⟨b, 4, none⟩ = some (.int .u32 da)
  c5 : w.cell? ⟨b, 5, none⟩ = some (.int .i64 db)
  c6 : w.cell? ⟨b, 6, none⟩ = some (.int .u16 sl)
  c7 : w.cell? ⟨b, 7, none⟩ = some (.int .u16 sh)
  c8 : w.cell? ⟨b, 8, none⟩ = some (.int .u16 dl)
  c9 : w.cell? ⟨b, 9, none⟩ = some (.int .u16 dh)
theorem BoxAt.new (w : World) (acc : Bool) (pr sa : Nat) (sb : Int) (da : Nat) (db : Int) (sl sh dl dh : Nat) : BoxAt (ruleBox w acc pr sa sb da db sl sh dl dh) w.heap.size acc pr sa sb da db sl sh dl dh := by
  constructor <;> simp [ruleBox]
theorem BoxAt.below {w w' : World} {b : Nat} {acc : Bool} {pr sa : Nat} {sb : Int} {da : Nat} {db : Int} {sl sh dl dh : Nat} (h : BoxAt w b acc pr sa sb da db sl sh dl dh) (k : Below w.heap.size w w') : BoxAt w' b acc pr sa sb da db sl sh dl dh := by
  have f : ∀ {i v}, w.cell? ⟨b, i, none⟩ = some v → w'.cell? ⟨b, i, none⟩ = some v := fun hc => (k.cell (p := ⟨b, _, none⟩) (World.block_lt_of_cell? w _ hc)).trans hc
  exact ⟨f h.c0, f h.c1, f h.c2, f h.c3, f h.c4, f h.c5, f h.c6, f h.c7, f h.c8, f h.c9⟩
theorem show_err (a : Nat) (n : Int) : (showF a n).2 = if mayNet a n = true then 0 else 1 := by
  unfold showF
  have := show_may (a := a) (n := n)
  cases h : showNet a n with
  | none => rw [h] at this; rw [← this]; rfl
  | some l => rw [h] at this; rw [← this]; rfl
theorem word_beq (n : Nat) : decide (wordF n ≠ []) = !(wordF n).isEmpty := by
  cases wordF n <;> simp

set_option maxHeartbeats 4000000 in
set_option maxRecDepth 100000 in
theorem good_any (r : Rl) (w : World) (hr : r.In) (hT : Tabs w) :
    Calls Tryz.prog 17 #[ruleW r] w fun e w' => e = .returned (.bool (goodR r)) ∧ Below w.heap.size w w' := by
  have HG : Hid (goodR r = (mayNet r.sa r.sb && mayNet r.da r.db && decide (wordF r.pr ≠ []) && decide (r.sl ≤ r.sh) && decide (r.dl ≤ r.dh))) := Lib.hid rfl
  have H1 := Lib.hid (fun W (h : Tabs W) => show_any r.sa r.sb W hr.sa h)
  have H2 := Lib.hid (fun W (h : Tabs W) => show_any r.da r.db W hr.da h)
  have H3 := Lib.hid (fun W => proto_any r.pr W hr.pr)
  have e1 := show_err r.sa r.sb
  have e2 := show_err r.da r.db
  have hwb := word_beq r.pr
  obtain ⟨acc, pr, sa, sb, da, db, sl, sh, dl, dh⟩ := r
  simp only at e1 e2 hwb HG H1 H2 H3
  generalize goodR ⟨acc, pr, sa, sb, da, db, sl, sh, dl, dh⟩ = res at *
  generalize showF sa sb = q1 at *
  generalize showF da db = q2 at *
  obtain ⟨t1, z1⟩ := q1
  obtain ⟨t2, z2⟩ := q2
  simp only at e1 e2
  have E1 := Lib.hid e1
  have E2 := Lib.hid e2
  have HWB := Lib.hid hwb
  clear e1 e2 hwb
  have B0 : Below w.heap.size w (ruleBox w acc pr sa sb da db sl sh dl dh) := (Below.refl _ _).alloc (Nat.le_refl _) _
  have X0 := BoxAt.new w acc pr sa sb da db sl sh dl dh
  have HT0 := Lib.hid (hT.below B0)
  have HB0 := Lib.hid B0
  have HX0 := Lib.hid X0
  clear hT B0 hr
  obtain ⟨c0, c1, c2, c3, c4, c5, c6, c7, c8, c9⟩ := X0
  go_enter Tryz.func17, Tryz.ntmps17
  go_wp2_with fail
  clear c0 c1 c2 c3 c4 c5 c6 c7 c8 c9
  refine (H1.out _ HT0.out).mono ?_
  rintro e w1 ⟨rfl, h1⟩
  have HT1 := Lib.hid (HT0.out.below h1)
  have HB1 := Lib.hid (below_then HB0.out h1)
  have HX1 := Lib.hid (HX0.out.below h1)
  obtain ⟨c0, c1, c2, c3, c4, c5, c6, c7, c8, c9⟩ := HX1.out
  clear h1 HT0 HB0 HX0
  go_wp2_with fail
  clear c0 c1 c2 c3 c4 c5 c6 c7 c8 c9
  refine (H2.out _ HT1.out).mono ?_
  rintro e w2 ⟨rfl, h2⟩
  have HB2 := Lib.hid (below_then HB1.out h2)
  have HX2 := Lib.hid (HX1.out.below h2)
  obtain ⟨c0, c1, c2, c3, c4, c5, c6, c7, c8, c9⟩ := HX2.out
  clear h2 HT1 HB1 HX1 H1 H2
  have e1 := E1.out
  have e2 := E2.out
  have hwb := HWB.out
  clear E1 E2 HWB
  cases hm1 : mayNet sa sb with
  | false =>
    rw [hm1] at e1 HG
    simp only [Bool.false_eq_true, if_false] at e1
    subst e1
    have HR : Hid (res = false) := Lib.hid (by rw [HG.out]; simp)
    clear e2 hwb HG hm1
    go_wp2_with fail
    go_ret
    exact ⟨by (rw [HR.out]) <;> rfl, HB2.out⟩
  | true =>
    rw [hm1] at e1 HG
    simp only [if_true] at e1
    subst e1
    cases hm2 : mayNet da db with
    | false =>
      rw [hm2] at e2 HG
      simp only [Bool.false_eq_true, if_false] at e2
      subst e2
      have HR : Hid (res = false) := Lib.hid (by rw [HG.out]; simp)
      clear hwb HG hm1 hm2
      go_wp2_with fail
      go_ret
      exact ⟨by (rw [HR.out]) <;> rfl, HB2.out⟩
    | true =>
      rw [hm2] at e2 HG
      simp only [if_true] at e2
      subst e2
      have HR : Hid (res = (!(wordF pr).isEmpty && decide (sl ≤ sh) && decide (dl ≤ dh))) := Lib.hid (by rw [HG.out, hwb]; rfl)
      clear hwb HG hm1 hm2
      generalize wordF pr = wd at *
      go_wp2_with fail
      clear c0 c1 c2 c3 c4 c5 c6 c7 c8 c9
      refine (H3.out _).mono ?_
      rintro e w3 ⟨rfl, h3⟩
      have HB3 := Lib.hid (below_then HB2.out h3)
      have HX3 := Lib.hid (HX2.out.below h3)
      obtain ⟨c0, c1, c2, c3, c4, c5, c6, c7, c8, c9⟩ := HX3.out
      clear h3 HB2 HX2 HX3
      cases hw : wd.isEmpty with
      | true =>
        rw [hw] at HR
        go_wp2_with fail
        go_ret
        exact ⟨by (rw [HR.out]) <;> rfl, HB3.out⟩
      | false =>
        rw [hw] at HR
        by_cases hs : sl ≤ sh
        · have es : decide ((sl : Int) ≤ (sh : Int)) = true := decide_eq_true (by omega)
          have HR2 : Hid (res = decide (dl ≤ dh)) := Lib.hid (by rw [HR.out, decide_eq_true hs]; rfl)
          go_wp2_with fail
          go_ret
          exact ⟨by (rw [HR2.out]) <;> rfl, HB3.out⟩
        · have es : decide ((sl : Int) ≤ (sh : Int)) = false := decide_eq_false (by omega)
          have HR2 : Hid (res = false) := Lib.hid (by rw [HR.out, decide_eq_false hs]; rfl)
          go_wp2_with fail
          go_ret
          exact ⟨by (rw [HR2.out]) <;> rfl, HB3.out⟩
set_option maxHeartbeats 4000000 in
set_option maxRecDepth 100000 in
theorem refGood_any (r : Rl) (w : World) (hr : r.In) :
    Calls Tryz.prog 14 #[ruleW r] w fun e w' => e = .returned (.bool (goodR r)) ∧ Below w.heap.size w w' := by
  have HG : Hid (goodR r = (mayNet r.sa r.sb && mayNet r.da r.db && decide (wordF r.pr ≠ []) && decide (r.sl ≤ r.sh) && decide (r.dl ≤ r.dh))) := Lib.hid rfl
  have H1 := Lib.hid (fun W => refMay_val r.sa r.sb (mayNet r.sa r.sb) W hr.sa rfl)
  have H2 := Lib.hid (fun W => refMay_val r.da r.db (mayNet r.da r.db) W hr.da rfl)
  have H3 := Lib.hid (fun W => refWord_any r.pr W hr.pr)
  have HWB := Lib.hid (word_beq r.pr)
  obtain ⟨acc, pr, sa, sb, da, db, sl, sh, dl, dh⟩ := r
  simp only at HG H1 H2 H3 HWB
  generalize goodR ⟨acc, pr, sa, sb, da, db, sl, sh, dl, dh⟩ = res at *
  generalize mayNet sa sb = m1 at *
  generalize mayNet da db = m2 at *
  have HR : Hid (res = (m1 && m2 && !(wordF pr).isEmpty && decide (sl ≤ sh) && decide (dl ≤ dh))) := Lib.hid (by rw [HG.out, HWB.out])
  generalize wordF pr = wd at *
  clear HG HWB hr
  have B0 : Below w.heap.size w (ruleBox w acc pr sa sb da db sl sh dl dh) := (Below.refl _ _).alloc (Nat.le_refl _) _
  have X0 := BoxAt.new w acc pr sa sb da db sl sh dl dh
  have HB0 := Lib.hid B0
  have HX0 := Lib.hid X0
  clear B0
  obtain ⟨c0, c1, c2, c3, c4, c5, c6, c7, c8, c9⟩ := X0
  go_enter Tryz.func14, Tryz.ntmps14
  go_wp2_with fail
  refine (H3.out _).mono ?_
  rintro e w1 ⟨rfl, hw⟩
  rw [hw]
  clear hw w1
  cases hwd : wd.isEmpty with
  | true =>
    have HR2 : Hid (res = false) := Lib.hid (by rw [HR.out, hwd]; simp)
    go_wp2_with fail
    go_ret
    exact ⟨by (rw [HR2.out]) <;> rfl, HB0.out⟩
  | false =>
    have HR2 : Hid (res = (m1 && m2 && decide (sl ≤ sh) && decide (dl ≤ dh))) := Lib.hid (by rw [HR.out, hwd]; simp)
    clear HR
    go_wp2_with fail
    clear c0 c1 c2 c3 c4 c5 c6 c7 c8 c9
    refine (H1.out _).mono ?_
    rintro e w2 ⟨rfl, h2⟩
    have HB2 := Lib.hid (below_then HB0.out h2)
    have HX2 := Lib.hid (HX0.out.below h2)
    obtain ⟨c0, c1, c2, c3, c4, c5, c6, c7, c8, c9⟩ := HX2.out
    clear h2 HB0 HX0
    cases m1 with
    | false =>
      have HR3 : Hid (res = false) := Lib.hid (by rw [HR2.out]; simp)
      go_wp2_with fail
      go_ret
      exact ⟨by (rw [HR3.out]) <;> rfl, HB2.out⟩
    | true =>
      go_wp2_with fail
      clear c0 c1 c2 c3 c4 c5 c6 c7 c8 c9
      refine (H2.out _).mono ?_
      rintro e w3 ⟨rfl, h3⟩
      have HB3 := Lib.hid (below_then HB2.out h3)
      have HX3 := Lib.hid (HX2.out.below h3)
      obtain ⟨c0, c1, c2, c3, c4, c5, c6, c7, c8, c9⟩ := HX3.out
      clear h3 HB2 HX2
      cases m2 with
      | false =>
        have HR3 : Hid (res = false) := Lib.hid (by rw [HR2.out]; simp)
        go_wp2_with fail
        go_ret
        exact ⟨by (rw [HR3.out]) <;> rfl, HB3.out⟩
      | true =>
        by_cases hs : sl ≤ sh
        · have es : decide ((sl : Int) ≤ (sh : Int)) = true := decide_eq_true (by omega)
          have HR3 : Hid (res = decide (dl ≤ dh)) := Lib.hid (by rw [HR2.out, decide_eq_true hs]; rfl)
          go_wp2_with fail
          go_ret
          exact ⟨by (rw [HR3.out]) <;> rfl, HB3.out⟩
        · have es : decide ((sl : Int) ≤ (sh : Int)) = false := decide_eq_false (by omega)
          have HR3 : Hid (res = false) := Lib.hid (by rw [HR2.out, decide_eq_false hs]; rfl)
          go_wp2_with fail
          go_ret
          exact ⟨by (rw [HR3.out]) <;> rfl, HB3.out⟩
end Go.Proofs.YtfiddoibnjildaaGreatDoor
