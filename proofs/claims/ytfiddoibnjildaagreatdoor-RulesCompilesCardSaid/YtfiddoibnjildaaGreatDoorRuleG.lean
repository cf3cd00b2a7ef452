/- The walks of rules.Print and of the reference's Print. -/
import Derived.Test.YtfiddoibnjildaaGreatDoorRuleF
import Derived.Test.YtfiddoibnjildaaGreatDoorShelf
namespace Go.Proofs.YtfiddoibnjildaaGreatDoor
set_option linter.unusedSimpArgs false
set_option linter.unusedVariables false
open Go Go.RowKit

theorem write_any (B b : Nat) (bs : List Value) (s : ByteArray) (w : World) (h : Lib.IsBuilder 85 5 B b bs w) (hlen : bs.length + s.size ≤ 140737488355328) (hBw : B ≤ w.heap.size) :
    Calls Tryz.prog 35 #[.pointer (some ⟨b, 0, none⟩), .string s] w fun e w' => e = .returned (.tuple #[.int .i64 s.size, .nilIface]) ∧ (Lib.BuilderAt 85 5 B b (.pointer (some ⟨b, 0, none⟩)) (bs ++ Lib.strCells s) w' ∧ Below B w w') :=
  Any.Builder_WriteString ({ Tryz.lays156 with } : Go.Proofs.Lays.n166 Tryz.prog Tryz.lays156_ren) Tryz.Builder_Extra_156 B b bs s w h hlen hBw
theorem builder_keep {B b : Nat} {bs : List Value} {w w' : World} (h : Lib.IsBuilder 85 5 B b bs w) (k : Below w.heap.size w w') : Lib.IsBuilder 85 5 B b bs w' := by
  have f : ∀ {p}, Lib.BuilderAt 85 5 B b p bs w → Lib.BuilderAt 85 5 B b p bs w' := fun ⟨h1, v, h2, h3, h4⟩ =>
    ⟨h1, v, (k.block b (Array.getElem?_eq_some_iff.1 h2).1).trans h2, owns_below h3 k, h4⟩
  exact h.elim (fun x => .inl (f x)) (fun x => .inr (f x))
theorem lineS_len {r : Rl} (h : r.In) : (lineS r).length ≤ 73 := by
  rw [lineS_eq]
  have h1 : (actL r.acc).length ≤ 6 := by cases r.acc <;> decide
  have h2 := word_len r.pr
  have h3 := net_len r.sa r.sb
  have h4 := net_len r.da r.db
  have h5 := spanL_len h.sl h.sh
  have h6 := spanL_len h.dl h.dh
  simp only [List.length_append, List.length_cons, List.length_nil]
  omega
theorem join6 (bk : Nat) (r : Rl) (w : World) (hr : r.In) (h6 : Six w bk (wordsR r)) (hbk : bk < w.heap.size) :
    Calls Tryz.prog 36 #[.slice (some ⟨bk, 0, none⟩) 6 6, .string ⟨#[32]⟩] w fun e w' => e = .returned (str (lineS r)) ∧ Below w.heap.size w w' := by
  have hm : ((wordsR r).map (fun l => (⟨l.toArray⟩ : ByteArray))).map (·.data.toList) = wordsR r := by
    rw [List.map_map]; exact List.map_id _
  have hl := lineS_len hr
  have := Tryz.strings_Join bk 0 6 ((wordsR r).map (fun l => (⟨l.toArray⟩ : ByteArray))) ⟨#[32]⟩ w (fun j x hj => by
    rw [List.getElem?_map] at hj
    obtain ⟨l, h1, rfl⟩ := Option.map_eq_some_iff.1 hj
    exact h6 j l h1) hbk (by simp [wordsR]) (by simp [wordsR]) (by rw [hm]; show (lineS r).length ≤ _; omega)
  rw [hm] at this
  exact this

/-! ### Rules in memory -/
def RuleAt (w : World) (ad : Addr) (r : Rl) : Prop :=
  w.cell? ad = some (.bool r.acc) ∧ w.cell? ⟨ad.block, ad.off + 1, none⟩ = some (.int .u8 (r.pr : Nat)) ∧ w.cell? ⟨ad.block, ad.off + 2, none⟩ = some (.int .u32 (r.sa : Nat)) ∧ w.cell? ⟨ad.block, ad.off + 3, none⟩ = some (.int .i64 r.sb) ∧
  w.cell? ⟨ad.block, ad.off + 4, none⟩ = some (.int .u32 (r.da : Nat)) ∧ w.cell? ⟨ad.block, ad.off + 5, none⟩ = some (.int .i64 r.db) ∧ w.cell? ⟨ad.block, ad.off + 6, none⟩ = some (.int .u16 (r.sl : Nat)) ∧ w.cell? ⟨ad.block, ad.off + 7, none⟩ = some (.int .u16 (r.sh : Nat)) ∧
  w.cell? ⟨ad.block, ad.off + 8, none⟩ = some (.int .u16 (r.dl : Nat)) ∧ w.cell? ⟨ad.block, ad.off + 9, none⟩ = some (.int .u16 (r.dh : Nat))
/-- Rules, in the elements of a slice. -/
def RulesAt (w : World) (a : Option Addr) (rs : List Rl) : Prop := ∀ j r, rs[j]? = some r → r.In ∧ ∃ ad, a = some ad ∧ RuleAt w (ad.add (j * 10)) r
theorem RuleAt.below {w w' : World} {ad : Addr} {r : Rl} (h : RuleAt w ad r) (k : Below w.heap.size w w') : RuleAt w' ad r := by
  have f : ∀ {a v}, w.cell? a = some v → w'.cell? a = some v := fun hc => (k.cell (World.block_lt_of_cell? w _ hc)).trans hc
  obtain ⟨c0, c1, c2, c3, c4, c5, c6, c7, c8, c9⟩ := h
  exact ⟨f c0, f c1, f c2, f c3, f c4, f c5, f c6, f c7, f c8, f c9⟩
theorem RulesAt.below {w w' : World} {a : Option Addr} {rs : List Rl} (h : RulesAt w a rs) (k : Below w.heap.size w w') : RulesAt w' a rs := fun j r hj => by
  obtain ⟨h1, ad, h2, h3⟩ := h j r hj
  exact ⟨h1, ad, h2, h3.below k⟩
theorem print_take {rs : List Rl} {j : Nat} {r : Rl} (h : rs[j]? = some r) : printL (rs.take (j + 1)) = printL (rs.take j) ++ (lineS r ++ [10]) := by
  unfold printL
  rw [List.take_add_one, h]
  simp [lineB, lineS]
theorem print_all {rs : List Rl} (h64 : rs.length ≤ 64) (h : ∀ i r, i < rs.length → rs[i]? = some r → goodR r = true) : printF rs = (printL rs, 0) := by
  unfold printF
  rw [if_neg (by omega), if_pos]
  rw [List.all_eq_true]
  intro r hr
  obtain ⟨i, hi, e⟩ := List.getElem_of_mem hr
  exact h i r hi (by rw [List.getElem?_eq_getElem hi, e])
theorem print_bad {rs : List Rl} (h64 : rs.length ≤ 64) {j : Nat} {r : Rl} (h : rs[j]? = some r) (hb : goodR r = false) : printF rs = ([], 1) := by
  unfold printF
  rw [if_neg (by omega), if_neg]
  rw [List.all_eq_true]
  intro hall
  rw [hall r (List.mem_of_getElem? h)] at hb
  cases hb
theorem print_len {rs : List Rl} (hin : ∀ r ∈ rs, r.In) : (printL rs).length ≤ 74 * rs.length := by
  induction rs with
  | nil => simp [printL]
  | cons r rs ih =>
    have h1 := lineS_len (hin r (by simp))
    have h2 := ih (fun x hx => hin x (by simp [hx]))
    have e : printL (r :: rs) = (lineS r ++ [10]) ++ printL rs := by simp [printL, lineB, lineS]
    rw [e]
    simp only [List.length_append, List.length_cons, List.length_nil]
    omega
set_option maxHeartbeats 4000000 in
set_option maxRecDepth 100000 in
theorem rulesPrint_any (s : Option Addr) (cap : Nat) (rs : List Rl) (w : World) (hL : RulesAt w s rs) (hmax : rs.length ≤ maxLen) (hT : Tabs w) :
    Calls Tryz.prog 16 #[.slice s rs.length cap] w fun e w' => e = .returned (.tuple #[str (printF rs).1, .int .i64 (printF rs).2]) ∧ Below w.heap.size w w' := by
  have hmax2 : rs.length ≤ 9223372036854775807 := Nat.le_trans hmax (by decide)
  by_cases h64 : 64 < rs.length
  · have HV : Hid (printF rs = ([], 14)) := Lib.hid (by unfold printF; rw [if_pos h64])
    go_enter Tryz.func16, Tryz.ntmps16
    go_wp2_with fail
    go_ret2
    exact ⟨by (rw [HV.out]) <;> rfl, Below.refl _ _⟩
  have hle : rs.length ≤ 64 := by omega
  have hin : ∀ r ∈ rs, r.In := fun r hr => by
    obtain ⟨i, hi, e⟩ := List.getElem_of_mem hr
    exact (hL i r (by rw [List.getElem?_eq_getElem hi, e])).1
  have hb0 : Below w.heap.size w (w.alloc (.cells #[.pointer none, .slice none 0 0] 85)) := (Below.refl _ _).alloc (Nat.le_refl _) _
  have HB0 := Lib.hid hb0
  have HBU0 := Lib.hid (Lib.fresh_isBuilder 85 5 w)
  have HL := Lib.hid hL
  have HT := Lib.hid hT
  have HIN := Lib.hid hin
  clear hb0 hL hT hin
  go_enter Tryz.func16, Tryz.ntmps16
  go_wp2_with fail
  go_loopw [12] (fun n wr => ∃ j : Nat, n = .int .i64 j ∧ j ≤ rs.length ∧ Hid (∀ i r, i < j → rs[i]? = some r → goodR r = true) ∧ Hid (Lib.IsBuilder 85 5 w.heap.size w.heap.size (Lib.byteCells (printL (rs.take j))) wr) ∧ Hid (Below w.heap.size w wr)) (fun n _ => rs.length - (intOf n).toNat)
  case atStart => exact ⟨0, rfl, by omega, Lib.hid (fun i r hi => absurd hi (Nat.not_lt_zero _)), HBU0, HB0⟩
  case round =>
    clear HBU0 HB0
    obtain ⟨j, rfl, hj, hgood, hBU, hB⟩ := hrel
    by_cases hl : j < rs.length
    · obtain ⟨r, hrj⟩ : ∃ r, rs[j]? = some r := ⟨rs[j], List.getElem?_eq_getElem hl⟩
      obtain ⟨hr, ad, rfl, hR⟩ := HL.out.below hB.out j r hrj
      have HTr := Lib.hid (HT.out.below hB.out)
      have HG := Lib.hid (fun W (h : Tabs W) => good_any r W hr h)
      have HLN := Lib.hid (fun W (h : Tabs W) => line_any r W hr h)
      have HJ := Lib.hid (fun bk W (h : Six W bk (wordsR r)) hb => join6 bk r W hr h hb)
      have HRJ := Lib.hid hrj
      have hll := lineS_len hr
      have HPT := Lib.hid (print_take hrj)
      have hpl : (printL (rs.take j)).length ≤ 74 * 64 := by
        have := print_len (rs := rs.take j) (fun x hx => HIN.out x (List.mem_of_mem_take hx))
        rw [List.length_take] at this
        omega
      clear hrj hr
      generalize hls : lineS r = ls at *
      generalize hgr : goodR r = gr at *
      obtain ⟨acc, pr, sa, sb, da, db, sl, sh, dl, dh⟩ := r
      obtain ⟨c0, c1, c2, c3, c4, c5, c6, c7, c8, c9⟩ := hR
      simp only at c0 c1 c2 c3 c4 c5 c6 c7 c8 c9
      have hbx : Below wr.heap.size wr (ruleBox wr acc pr sa sb da db sl sh dl dh) := (Below.refl _ _).alloc (Nat.le_refl _) _
      have HX0 := Lib.hid (BoxAt.new wr acc pr sa sb da db sl sh dl dh)
      have HT1 := Lib.hid (HTr.out.below hbx)
      have HB1 := Lib.hid (below_then hB.out hbx)
      have HBU1 := Lib.hid (builder_keep hBU.out hbx)
      clear hbx hls
      have HGR := Lib.hid hgr
      clear hgr
      go_wp2_with fail
      clear c0 c1 c2 c3 c4 c5 c6 c7 c8 c9
      refine (HG.out _ HT1.out).mono ?_
      rintro e w2 ⟨rfl, h2⟩
      have HB2 := Lib.hid (below_then HB1.out h2)
      cases gr with
      | false =>
        have HV : Hid (printF rs = ([], 1)) := Lib.hid (print_bad hle HRJ.out HGR.out)
        clear h2
        go_wp2_with fail
        go_ret2
        exact ⟨by (rw [HV.out]) <;> rfl, HB2.out⟩
      | true =>
        have HT2 := Lib.hid (HT1.out.below h2)
        have HBU2 := Lib.hid (builder_keep HBU1.out h2)
        obtain ⟨c0, c1, c2, c3, c4, c5, c6, c7, c8, c9⟩ := HX0.out.below h2
        clear h2 HX0 HT1 HB1 HBU1
        go_wp2_with fail
        clear c0 c1 c2 c3 c4 c5 c6 c7 c8 c9
        refine (HLN.out _ HT2.out).mono ?_
        rintro e w3 ⟨bk, rfl, h6, hbk, h3⟩
        have H6 := Lib.hid h6
        have HB3 := Lib.hid (below_then HB2.out h3)
        have HBU3 := Lib.hid (builder_keep HBU2.out h3)
        clear h3 h6 HB2 HBU2 HT2
        go_wp2_with fail
        refine (HJ.out bk _ H6.out hbk).mono ?_
        rintro e w4 ⟨rfl, h4⟩
        have HB4 := Lib.hid (below_then HB3.out h4)
        have HBU4 := Lib.hid (builder_keep HBU3.out h4)
        clear h4 hbk H6 HB3 HBU3
        go_wp2_with fail
        refine (write_any _ _ _ _ _ HBU4.out (by rw [Lib.byteCells_length]; simp [ByteArray.size]; omega) HB4.out.size).mono ?_
        rintro e w5 ⟨rfl, hbu, h5⟩
        have HB5 := Lib.hid (HB4.out.trans h5)
        have HBU5 : Hid (Lib.IsBuilder 85 5 w.heap.size w.heap.size (Lib.byteCells (printL (rs.take (j + 1)))) w5) := Lib.hid (by
          have e : Lib.byteCells (printL (rs.take (j + 1))) = Lib.byteCells (printL (rs.take j)) ++ Lib.strCells ((⟨ls.toArray⟩ : ByteArray) ++ (⟨#[10]⟩ : ByteArray)) := by
            rw [HPT.out]; simp [Lib.byteCells, Lib.strCells]
          rw [e]; exact .inr hbu)
        clear h5 hbu HB4 HBU4
        go_wp2_with fail
        go_roundw
        case rel =>
          refine ⟨j + 1, by go_num, by omega, Lib.hid (fun i r hi hri => ?_), HBU5, HB5⟩
          rcases Nat.lt_or_eq_of_le (Nat.le_of_lt_succ hi) with h | rfl
          · exact hgood.out i r h hri
          · rw [HRJ.out] at hri; injection hri with hri; rw [← hri]; exact HGR.out
        case measure => simp [intOf]; omega
    · obtain rfl : j = rs.length := by omega
      have HV : Hid (printF rs = (printL rs, 0)) := Lib.hid (print_all hle hgood.out)
      have HBU : Hid (Lib.IsBuilder 85 5 w.heap.size w.heap.size (Lib.byteCells (printL rs)) wr) := Lib.hid (by have := hBU.out; rwa [List.take_length] at this)
      clear hBU hgood
      go_wp2_with fail
      refine (Tryz.Builder_String_any _ _ _ _ HBU.out hB.out.size).mono ?_
      rintro e w5 ⟨rfl, h5⟩
      have HB5 := Lib.hid (hB.out.trans h5)
      clear h5
      go_wp2_with fail
      go_ret2
      exact ⟨by (rw [HV.out]) <;> rfl, HB5.out⟩
end Go.Proofs.YtfiddoibnjildaaGreatDoor
