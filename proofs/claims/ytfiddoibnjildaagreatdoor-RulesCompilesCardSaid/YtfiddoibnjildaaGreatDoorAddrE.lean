/- What the library's tables hold; the walks of addr's number, Parse, Print, Show, Net. -/
import Derived.Test.YtfiddoibnjildaaGreatDoorAddrD
import Derived.Test.YtfiddoibnjildaaGreatDoorShelf
import Derived.Lib.AppendIntMem
namespace Go.Proofs.YtfiddoibnjildaaGreatDoor
set_option linter.unusedSimpArgs false
set_option linter.unusedVariables false
open Go Go.RowKit

theorem var_keep {P : Program} {w w' : World} {n : String} {cs : Array Value} (h : w.var? P n = some cs) (hb : Below w.heap.size w w') : w'.var? P n = some cs := by
  unfold World.var? at *
  cases hg : P.globalNamed n with
  | none => rw [hg] at h; simp at h
  | some g =>
    rw [hg] at h
    simp only [Option.bind_some] at h ⊢
    have hlt : g < w.heap.size := by
      by_cases hl : g < w.heap.size
      · exact hl
      · rw [Array.getElem?_eq_none (by omega)] at h; simp at h
    rw [hb.block g hlt]
    exact h

/-- The package-level variables of the library that are read. -/
structure Tabs (w : World) : Prop where
  pow : Lib.TabIs Tryz.prog w "internal/strconv.uint64pow10" .u64 Lib.pow10Tab
  syn : ∃ tp p, w.var? Tryz.prog "strconv.ErrSyntax" = some #[.iface tp p]
  rng : ∃ tp p, w.var? Tryz.prog "strconv.ErrRange" = some #[.iface tp p]
  len : ∃ m, w.cell? ⟨1, 0, none⟩ = some (.int .i64 m)
theorem Tabs.below {w w' : World} (h : Tabs w) (hb : Below w.heap.size w w') : Tabs w' := by
  obtain ⟨h1, ⟨t2, p2, h2⟩, ⟨t3, p3, h3⟩, m, h4⟩ := h
  exact ⟨var_keep h1 hb, ⟨t2, p2, var_keep h2 hb⟩, ⟨t3, p3, var_keep h3 hb⟩, m, (hb.cell (p := ⟨_, 0, none⟩) (World.block_lt_of_cell? w _ h4)).trans h4⟩

theorem itoa_any (n : Int) (w : World) (h0 : -9223372036854775808 ≤ n) (h1 : n ≤ 9223372036854775807) (hT : Tabs w) :
    Calls Tryz.prog 59 #[.int .i64 n] w fun e w' => e = .returned (str (Lib.itoa n)) ∧ Below w.heap.size w w' :=
  (Tryz.strconv_Itoa n h0 h1 w hT.pow).mono fun e w' ⟨he, k, os, hw⟩ => ⟨he, by
    subst hw
    exact Lib.below_grow _ _ (Nat.le_refl _) _ _⟩

/-- The number beside Atoi's error. -/
def atoiV (l : List UInt8) : Int := match Lib.atoiAll l with | .ok v => v | .syntax => 0 | .range => Lib.atoiSat l

theorem atoi_good (s : ByteArray) (v : Int) (w : World) (hs : s.size ≤ 140737488351232) (h : Lib.atoiAll s.data.toList = .ok v) :
    Calls Tryz.prog 63 #[.string s] w fun e w' => e = .returned (.tuple #[.int .i64 v, .nilIface]) ∧ Below w.heap.size w w' :=
  (Tryz.strconv_Atoi_ok s (by omega) v h w).mono fun e w' ⟨he, hw⟩ => ⟨he, by
    rcases hw with rfl | ⟨t, rfl⟩
    · exact Below.refl _ _
    · exact Lib.bytesWorld_below _ _ _⟩
theorem atoi_bad (s : ByteArray) (w : World) (hs : s.size ≤ 140737488351232) (h : ∀ v, Lib.atoiAll s.data.toList ≠ .ok v) (hT : Tabs w) :
    Calls Tryz.prog 63 #[.string s] w fun e w' => ∃ N, e = .returned (.tuple #[.int .i64 (atoiV s.data.toList), .iface 142 (.pointer (some ⟨N, 0, none⟩))]) ∧ Below w.heap.size w w' := by
  cases e : Lib.atoiAll s.data.toList with
  | ok v => exact absurd e (h v)
  | «syntax» =>
    obtain ⟨tp, p, hv⟩ := hT.syn
    exact (Tryz.strconv_Atoi_syntax_var s (by omega) e tp p w hv).mono fun e1 w' ⟨N, he, _, _, hb⟩ => ⟨N, by rw [he]; unfold atoiV; rw [e], hb⟩
  | range =>
    obtain ⟨tp, p, hv⟩ := hT.rng
    exact (Tryz.strconv_Atoi_range_var s (by omega) e tp p w hv).mono fun e1 w' ⟨N, he, _, _, hb⟩ => ⟨N, by rw [he]; unfold atoiV; rw [e], hb⟩

def NumPost (n : Int) (b : Bool) (w : World) (e : Ending) (w' : World) : Prop := e = .returned (.tuple #[.int .i64 n, .bool b]) ∧ Below w.heap.size w w'
theorem num_end {n m : Int} {b c : Bool} {w w' : World} (h1 : n = m) (h2 : b = c) (hb : Below w.heap.size w w') : NumPost n b w (.returned (.tuple #[.int .i64 m, .bool c])) w' := by
  subst h1 h2; exact ⟨rfl, hb⟩

set_option maxHeartbeats 1000000 in
set_option maxRecDepth 100000 in
theorem num255_any (s : ByteArray) (most : Nat) (w : World) (hs : s.size ≤ 140737488351232) (hm : most ≤ 4611686018427387904) (hT : Tabs w) :
    Calls Tryz.prog 50 #[.string s, .int .i64 most] w (NumPost (atoiV s.data.toList) (isNum s.data.toList most) w) := by
  have HT := Lib.hid hT
  have HM := Lib.hid hm
  have HS := Lib.hid hs
  clear hT hm hs
  cases h : Lib.atoiAll s.data.toList with
  | ok v =>
    have hv : Hid (atoiV s.data.toList = v) := Lib.hid (by unfold atoiV; rw [h])
    have hi : Hid (isNum s.data.toList most = decide (0 ≤ v ∧ v ≤ most ∧ Lib.itoa v = s.data.toList)) := Lib.hid (isNum_of_ok (by have := HM.out; omega) h)
    have HA := Lib.hid h
    clear h
    by_cases h0 : v < 0
    · have d0 : decide (0 ≤ v) = false := by simpa using h0
      have H0 := Lib.hid h0
      clear h0
      go_enter Tryz.func50, Tryz.ntmps50
      go_wp2_with fail
      refine (atoi_good s v _ HS.out HA.out).mono ?_
      rintro e w1 ⟨rfl, h1⟩
      go_wp2_with fail
      go_ret2
      exact num_end hv.out (by rw [hi.out]; exact decide_eq_false (fun h => by have := H0.out; have := h.1; omega)) h1
    · have d0 : decide (0 ≤ v) = true := by simpa using h0
      by_cases hm : v ≤ most
      · have d1 : decide (v ≤ most) = true := by simpa using hm
        have H0 := Lib.hid h0
        have H1 := Lib.hid hm
        have HI := Lib.hid (fun W (hT : Tabs W) => itoa_any v W (by have := H0.out; omega) (by have := H1.out; have := HM.out; omega) hT)
        clear h0 hm
        go_enter Tryz.func50, Tryz.ntmps50
        go_wp2_with fail
        refine (atoi_good s v _ HS.out HA.out).mono ?_
        rintro e w1 ⟨rfl, h1⟩
        have HT1 := Lib.hid (HT.out.below h1)
        go_wp2_with fail
        refine (HI.out _ HT1.out).mono ?_
        rintro e w2 ⟨rfl, h2⟩
        go_wp2_with fail
        go_ret2
        refine num_end hv.out ?_ (below_then h1 h2)
        have g0 : 0 ≤ v := by have := H0.out; omega
        have g1 : v ≤ most := by have := H1.out; omega
        rw [hi.out, ByteArray.toList_eq]
        by_cases hx : Lib.itoa v = s.data.toList
        · rw [decide_eq_true ⟨g0, g1, hx⟩, hx]; simp
        · rw [decide_eq_false (fun h => hx h.2.2), beq_eq_false_iff_ne.2 hx]
      · have d1 : decide (v ≤ most) = false := by simpa using hm
        have H1 := Lib.hid hm
        clear h0 hm
        go_enter Tryz.func50, Tryz.ntmps50
        go_wp2_with fail
        refine (atoi_good s v _ HS.out HA.out).mono ?_
        rintro e w1 ⟨rfl, h1⟩
        go_wp2_with fail
        go_ret2
        exact num_end hv.out (by rw [hi.out]; exact decide_eq_false (fun h => by have := H1.out; have := h.2.1; omega)) h1
  | «syntax» | range =>
    all_goals
      have hi : Hid (isNum s.data.toList most = false) := Lib.hid (isNum_of_bad (by have := HM.out; omega) (fun v e => by rw [h] at e; cases e))
      have HB := Lib.hid (fun W (hT : Tabs W) => atoi_bad s W HS.out (fun v e => by rw [h] at e; cases e) hT)
      clear h
      generalize atoiV s.data.toList = v at *
      go_enter Tryz.func50, Tryz.ntmps50
      go_wp2_with fail
      refine (HB.out _ HT.out).mono ?_
      rintro e w1 ⟨N, rfl, h1⟩
      go_wp2_with fail
      go_ret2
      exact num_end rfl hi.out h1
end Go.Proofs.YtfiddoibnjildaaGreatDoor
