/- The walks of protos (a map's literal) and proto (a range over it). -/
import Derived.Test.YtfiddoibnjildaaGreatDoorRuleA
import Derived.Test.YtfiddoibnjildaaGreatDoorMapF
import Derived.Test.YtfiddoibnjildaaGreatDoorRegL
import Derived.Maps.RangeRun
import Derived.LoopN
import Derived.Laws.IdiomRangeMap
namespace Go.Proofs.YtfiddoibnjildaaGreatDoor
set_option linter.unusedSimpArgs false
set_option linter.unusedVariables false
open Go Go.RowKit Go.Maps Go.MapKept
open Go.ChangeMaps (setBlock)

theorem str_inj {a b : List UInt8} (h : str a = str b) : a = b := by injection h with h; injection h with h; simpa using h
/-- What the map holds. -/
noncomputable def protoM : Value → Option Value := upd (upd (upd (upd (fun _ => none) (str anyL) (some (.int .u8 0))) (str icmpL) (some (.int .u8 1))) (str tcpL) (some (.int .u8 6))) (str udpL) (some (.int .u8 17))
theorem protoM_str (l : List UInt8) : protoM (str l) = (protoOf l).map (fun n => Value.int .u8 (n : Nat)) := by
  unfold protoM protoOf
  have ne : ∀ {a b : List UInt8}, a ≠ b → str a ≠ str b := fun h e => h (str_inj e)
  by_cases h1 : l = udpL
  · subst h1; rw [upd_same]; rfl
  · rw [upd_other _ _ (ne h1)]
    by_cases h2 : l = tcpL
    · subst h2; rw [upd_same]; rfl
    · rw [upd_other _ _ (ne h2)]
      by_cases h3 : l = icmpL
      · subst h3; rw [upd_same]; rfl
      · rw [upd_other _ _ (ne h3)]
        by_cases h4 : l = anyL
        · subst h4; rw [upd_same]; rfl
        · rw [upd_other _ _ (ne h4)]; simp [h1, h2, h3, h4]
theorem protoM_has {v x : Value} (h : protoM v = some x) : ∃ l n, v = str l ∧ x = .int .u8 (n : Nat) ∧ protoOf l = some n := by
  have key : ∃ l, v = str l := by
    refine Classical.byContradiction fun hn => ?_
    have hne : ∀ l, v ≠ str l := fun l e => hn ⟨l, e⟩
    unfold protoM at h
    rw [upd_other _ _ (hne _), upd_other _ _ (hne _), upd_other _ _ (hne _), upd_other _ _ (hne _)] at h
    cases h
  obtain ⟨l, rfl⟩ := key
  rw [protoM_str] at h
  cases hp : protoOf l with
  | none => rw [hp] at h; cases h
  | some n => rw [hp] at h; exact ⟨l, n, rfl, (Option.some.inj h).symm, hp⟩
def ProtosPost (w : World) (e : Ending) (w' : World) : Prop := ∃ b, e = .returned (.map (some b)) ∧ IsMap w' Tryz.prog 9 b protoM ∧ w.heap.size ≤ b ∧ Below w.heap.size w w'
theorem keyOf_string_mk (s : ByteArray) (hs : s.size ≤ maxLen) : keyOf Tryz.prog 9 (.string s) = some (.string s.data.toList) := by simp [keyOf, Tryz.underlying9, mapKey, hs]
theorem protos_next {w : World} {b : Nat} {f : Value → Option Value} (h : IsMap w Tryz.prog 9 b f) (s : ByteArray) (hs : s.size ≤ maxLen) (x : Value) :
    ∃ o, (Instr.mapUpdate 67 (.map (some b)) (.string s) x).run Tryz.prog w = .ok () (setBlock w b o) ∧ IsMap (setBlock w b o) Tryz.prog 9 b (upd f (.string s) (some x)) :=
  h.update (string_keyed Tryz.underlying9) Tryz.underlying67 (keyOf_string_mk s hs) x
set_option maxHeartbeats 2000000 in
set_option maxRecDepth 100000 in
theorem protos_any (w : World) : Calls Tryz.prog 26 #[] w (ProtosPost w) := by
  have hmm := @run_makeMap Tryz.prog
  have m0 := IsMap.made w Tryz.prog 9
  obtain ⟨o1, r1, m1⟩ := protos_next m0 ⟨#[97, 110, 121]⟩ (by decide) (.int .u8 0)
  obtain ⟨o2, r2, m2⟩ := protos_next m1 ⟨#[105, 99, 109, 112]⟩ (by decide) (.int .u8 1)
  obtain ⟨o3, r3, m3⟩ := protos_next m2 ⟨#[116, 99, 112]⟩ (by decide) (.int .u8 6)
  obtain ⟨o4, r4, m4⟩ := protos_next m3 ⟨#[117, 100, 112]⟩ (by decide) (.int .u8 17)
  have M4 := Lib.hid m4
  clear m0 m1 m2 m3 m4
  go_enter Tryz.func26, Tryz.ntmps26
  go_wp2_with fail
  have hb : Below w.heap.size w (setBlock (setBlock (setBlock (setBlock (w.alloc (.map #[] 0)) w.heap.size o1) w.heap.size o2) w.heap.size o3) w.heap.size o4) :=
    (((((Below.refl _ w).alloc (Nat.le_refl _) (.map #[] 0)).trans ((OnlyB.set _ w.heap.size o1).below (Nat.le_refl _))).trans ((OnlyB.set _ w.heap.size o2).below (Nat.le_refl _))).trans ((OnlyB.set _ w.heap.size o3).below (Nat.le_refl _))).trans ((OnlyB.set _ w.heap.size o4).below (Nat.le_refl _))
  have HB := Lib.hid hb
  clear hb r1 r2 r3 r4
  go_ret
  exact ⟨_, rfl, M4.out, Nat.le_refl _, HB.out⟩

/-! ### A range over a map that stands still -/
/-- The iterator of block r over the map of block bi; of what has come nothing meets Q. -/
structure IterQ (es : Array MapEntry) (bi clock r : Nat) (Q : MapEntry → Prop) (w1 wr : World) : Prop where
  below : ∀ i, i < r → wr.heap[i]? = w1.heap[i]?
  size : r < wr.heap.size
  os : wr.os = w1.os
  tape : wr.tape = w1.tape
  output : wr.output = w1.output
  it : ∃ seen c0, wr.heap[r]? = some (.mapIter (some bi) clock seen c0) ∧ clock ≤ c0 ∧ ∀ e ∈ es.toList, seen.contains e.born = true → ¬ Q e
theorem IterQ.world {es : Array MapEntry} {bi clock r : Nat} {Q : MapEntry → Prop} {w w1 wr : World} (h : IterQ es bi clock r Q w1 wr) (hb : Below w.heap.size w w1) (hr : w.heap.size ≤ r) : Below w.heap.size w wr :=
  ⟨h.os.trans hb.os, h.tape.trans hb.tape, h.output.trans hb.output, by have := h.size; omega, fun i hi => (h.below i (by omega)).trans (hb.block i hi)⟩
theorem IterQ.next {es : Array MapEntry} {bi clock r : Nat} {Q : MapEntry → Prop} {w1 wr w2 : World} (h : IterQ es bi clock r Q w1 wr) (hw : w2 = wr ∨ w2 = wr.drew) {seen : Array Nat} (hs : ∀ e ∈ es.toList, seen.contains e.born = true → ¬ Q e) {e : MapEntry} (he : e ∈ es.toList)
    (hnd : (es.toList.map (·.born)).Nodup) (hl : ¬ Q e) : IterQ es bi clock r Q w1 (setBlock w2 r (.mapIter (some bi) clock (seen.push e.born) clock)) := by
  have hh : w2.heap = wr.heap := by rcases hw with rfl | rfl <;> rfl
  refine ⟨fun i hi => ?_, by simp [setBlock, hh]; exact h.size, ?_, ?_, ?_, seen.push e.born, clock, ?_, Nat.le_refl _, fun e' he' hc => ?_⟩
  · rw [set_heap_other (by omega), hh]; exact h.below i hi
  · rcases hw with rfl | rfl <;> exact h.os
  · rcases hw with rfl | rfl <;> exact h.tape
  · rcases hw with rfl | rfl <;> exact h.output
  · exact set_heap_same (by rw [hh]; exact h.size)
  · by_cases hb : e'.born = e.born
    · have : e' = e := born_inj hnd he' he hb
      subst this; exact hl
    · refine hs e' he' ?_
      simp only [Array.contains_push, Bool.or_eq_true, beq_iff_eq] at hc
      rcases hc with hc | hc
      · exact hc
      · exact absurd hc hb
/-- How many entries the iterator of block r has still to hand out. -/
def leftCnt (es : Array MapEntry) (r : Nat) (w : World) : Nat := match w.heap[r]? with
  | some (.mapIter _ _ seen _) => (leftOf es seen).size
  | _ => 0
theorem leftCnt_push {es : Array MapEntry} {r bi clock c1 : Nat} {w : World} {seen : Array Nat} (h : w.heap[r]? = some (.mapIter (some bi) clock seen c1)) : leftCnt es r w = (leftOf es seen).size := by unfold leftCnt; rw [h]
theorem wordF_nil {n : Nat} (h : ∀ l, protoOf l ≠ some n) : wordF n = [] := Classical.byContradiction fun hn => h (wordF n) (protoOf_iff.2 ⟨rfl, hn⟩)
set_option maxHeartbeats 4000000 in
set_option maxRecDepth 100000 in
theorem proto_any (n : Nat) (w : World) (hn : n < 256) :
    Calls Tryz.prog 40 #[.int .u8 n] w fun e w' => e = .returned (str (wordF n)) ∧ Below w.heap.size w w' := by
  go_enter Tryz.func40, Tryz.ntmps40
  go_wp2_with fail
  refine (protos_any w).mono ?_
  rintro e w1 ⟨bi, rfl, hmap, hle, hb1⟩
  obtain ⟨es, clock, hes, hM⟩ := hmap
  have hbi : bi < w1.heap.size := (Array.getElem?_eq_some_iff.1 hes).1
  have hr := run_range_map (P := Tryz.prog) w1 67 _ _ bi es clock Tryz.underlying67 hes
  go_wp2_with fail
  have hstart : IterQ es bi clock w1.heap.size (fun e => e.val = .int .u8 n) w1 (w1.alloc (.mapIter (some bi) clock #[] clock)) :=
    ⟨fun i hi => Below.heap_alloc _ _ _ hi, by simp, rfl, rfl, rfl, #[], clock, (MapKept.heap_alloc w1 _).1, Nat.le_refl _, fun e _ h => by simp at h⟩
  have HST := Lib.hid hstart
  have HB1 := Lib.hid hb1
  have HM := Lib.hid hM
  have HSZ := Lib.hid hb1.size
  clear hstart hb1 hM hr
  go_loopw [7] (fun _ wr => Hid (IterQ es bi clock w1.heap.size (fun e => e.val = .int .u8 n) w1 wr)) (fun _ wr => leftCnt es w1.heap.size wr)
  case atStart => exact HST
  case round =>
    obtain ⟨seen, c0, hit, hc0, hseen⟩ := hrel.out.it
    have hbm : wr.heap[bi]? = some (.map es clock) := (hrel.out.below bi hbi).trans hes
    rcases run_next_at (P := Tryz.prog) wr 0 w1.heap.size bi clock c0 seen es clock hit hbm HM.out.stamped.1 hc0 with ⟨hz, hn⟩ | ⟨e, he, w2, hw2, hn⟩
    · have hnil : Hid (wordF n = []) := Lib.hid (wordF_nil fun l hl => by
        have hp : protoM (str l) = some (.int .u8 n) := by rw [protoM_str, hl]; rfl
        obtain ⟨e, he, hek, hev⟩ := HM.out.only _ _ hp
        refine absurd hev (hseen e he ?_)
        rw [← Bool.not_eq_false]
        intro hns
        have hmem : e ∈ leftOf es seen := by unfold leftOf; rw [Array.mem_filter]; exact ⟨by simpa using he, by rw [hns]; rfl⟩
        rw [Array.eq_empty_of_size_eq_zero hz] at hmem
        simp at hmem)
      have HBE := Lib.hid (hrel.out.world HB1.out HSZ.out)
      clear hseen hit
      go_wp2_with fail
      go_ret
      exact ⟨by (rw [hnil.out]) <;> rfl, HBE.out⟩
    · obtain ⟨hee, hns⟩ := mem_left he
      obtain ⟨l, m, hkey, hval, hpm⟩ := protoM_has (HM.out.has e hee)
      have hnx : ¬ (e.val = .int .u8 n) → Hid (IterQ es bi clock w1.heap.size (fun e => e.val = .int .u8 n) w1 (setBlock w2 w1.heap.size (.mapIter (some bi) clock (seen.push e.born) clock))) := fun hl => Lib.hid (hrel.out.next hw2 hseen hee HM.out.stamped.2.1 hl)
      have hh : w2.heap = wr.heap := by rcases hw2 with rfl | rfl <;> rfl
      have hw3 : ∀ i, i < w1.heap.size → (setBlock w2 w1.heap.size (.mapIter (some bi) clock (seen.push e.born) clock)).heap[i]? = w1.heap[i]? := fun i hi => (set_heap_other (by omega)).trans (by rw [hh]; exact hrel.out.below i hi)
      have hit3 : (setBlock w2 w1.heap.size (.mapIter (some bi) clock (seen.push e.born) clock)).heap[w1.heap.size]? = some (.mapIter (some bi) clock (seen.push e.born) clock) := set_heap_same (by rw [hh]; exact hrel.out.size)
      have hen := run_entry_at (P := Tryz.prog) _ _ bi clock seen es clock e hit3 ((hw3 bi hbi).trans hes) hee HM.out.stamped.2.1
      have hsh : Hid ((leftOf es (seen.push e.born)).size < leftCnt es w1.heap.size wr) := Lib.hid (by rw [leftCnt_push hit]; exact left_shrinks es seen e he)
      have hct : Hid (leftCnt es w1.heap.size (setBlock w2 w1.heap.size (.mapIter (some bi) clock (seen.push e.born) clock)) = (leftOf es (seen.push e.born)).size) := Lib.hid (leftCnt_push hit3)
      have hbel : Hid (Below w.heap.size w (setBlock w2 w1.heap.size (.mapIter (some bi) clock (seen.push e.born) clock))) := Lib.hid (by
        have h1 := hrel.out.world HB1.out HSZ.out
        have h2 : Below w.heap.size w w2 := by
          rcases hw2 with rfl | rfl
          · exact h1
          · exact h1.drew
        exact ⟨h2.os, h2.tape, h2.output, by simpa [setBlock] using h2.size, fun i hi => (set_heap_other (by have := HSZ.out; omega)).trans (h2.block i hi)⟩)
      rw [hkey, hval] at hn hen
      have HHV := Lib.hid hval
      clear hw3 hit3 hit hseen hc0 hbm hrel hh hw2 he hns hee hkey hval HST
      generalize hW3 : setBlock w2 w1.heap.size (.mapIter (some bi) clock (seen.push e.born) clock) = w3 at *
      clear hW3
      by_cases hmn : m = n
      · subst hmn
        have hwf : Hid (wordF m = l) := Lib.hid (protoOf_iff.1 hpm).1
        clear hnx hpm
        go_wp2_with fail
        go_ret
        exact ⟨by (rw [hwf.out]) <;> rfl, hbel.out⟩
      · have hq : ((m : Int) == (n : Int)) = false := beq_eq_false_iff_ne.2 (by omega)
        have HN := hnx (fun h => by rw [HHV.out] at h; injection h with _ h; omega)
        clear hnx hpm
        go_wp2_with fail
        go_roundw
        case rel => exact HN
        case measure => rw [hct.out]; exact hsh.out
end Go.Proofs.YtfiddoibnjildaaGreatDoor
