/- A log among the arguments; the walks of RaceFinds and RaceOrders. -/
import Derived.Test.YtccbiolgdamnpaaRaceO
import Derived.Test.YtccbiolgdamnpaaReadS
namespace Go.Proofs.Ytccbiolgdamnpaa
set_option linter.unusedSimpArgs false
set_option linter.unusedVariables false
open Go Go.RowKit Go.ChangeShapes Go.WideShapes

/-- A log that is read. -/
structure RdLog (w : World) (a : Option Addr) (len cap : Nat) : Prop where
  le : len ≤ cap
  cap : cap ≤ maxLen
  some_ : 0 < len → ∃ ad, a = some ad
  log : ∃ L : List Ac, L.length = len ∧ LogAt w a L

theorem open_slice_leafs2 {H : Type} {enc : TypeId × Value → H} {P : Program} {W : World} {base b : Nat} {held : Bool} {d : Nat} {t e : TypeId} {ts : List TypeId} {v : Value} {x : DataW H} {ps : List MemPlace}
    (ht : P.underlying t = some (.slice e)) (hl : leafs P d e = some ts) (hc : P.cellsOf e = ts.length) (hv : Value.okWide P W .any base t v) (h : DataW.Trod enc P W b (fun _ => true) held t v x ps) :
    ∃ a len cap, v = .slice a len cap ∧ len ≤ cap ∧ cap ≤ maxLen ∧ ∀ j, j < len → ∃ ad cs, a = some ad ∧ (∀ k, k < ts.length → W.cell? ((ad.add (j * ts.length)).add k) = cs[k]?) ∧ cs.length = ts.length ∧ Leafs enc P W b (fun _ => true) held ts cs := by
  obtain ⟨a, len, cap, rfl⟩ := WideShapes.okWide_slice ht hv
  obtain ⟨fuel, hf⟩ := h
  rcases Go.Deep.open_slice ht hf with ⟨hcs, _⟩ | ⟨a', len', cap', m, n, D, Pl, hcs, hb, hle, hm, hmm, _, hx⟩
  · simp [Value.cells] at hcs
    obtain ⟨rfl, rfl, rfl⟩ := hcs
    exact ⟨none, 0, 0, rfl, by decide, by decide, fun j hj => absurd hj (by omega)⟩
  · simp [Value.cells] at hcs
    obtain ⟨rfl, rfl, rfl⟩ := hcs
    refine ⟨_, _, _, rfl, hle, hm, fun j hj => ?_⟩
    obtain ⟨cs, h1, h2⟩ := hx j (by rw [hmm]; simp; omega)
    rw [hc] at h1
    obtain ⟨h3, h4, h5⟩ := World.cells?_some h1
    exact ⟨_, cs, rfl, h5, h4, leafs_of_trod d e ts cs n hl h4 ⟨_, h2⟩⟩

set_option maxRecDepth 100000 in
theorem open_log {H : Type} {enc : TypeId × Value → H} {W : World} {base b : Nat} {held : Bool} {v : Value} {x : DataW H} {ps : List MemPlace}
    (hv : Value.okWide Try.prog W .any base 22 v) (h : DataW.Trod enc Try.prog W b (fun _ => true) held 22 v x ps) :
    ∃ a len cap, v = .slice a len cap ∧ RdLog W a len cap := by
  obtain ⟨a, len, cap, rfl, h1, h2, hx⟩ := open_slice_leafs2 (d := 3) (ts := [3, 3, 3]) Try.underlying22 (by kernel_rfl) (by kernel_rfl) hv h
  have hy : ∀ j, j < len → ∃ x : Ac, AcOk x ∧ ∃ ad, a = some ad ∧ AcAt W (ad.add (j * 3)) x := fun j hj => by
    obtain ⟨ad, cs, rfl, g1, g2, g3⟩ := hx j hj
    match cs, g2 with
    | [c0, c1, c2], _ =>
      obtain ⟨l0, l1, l2, _⟩ := g3
      obtain ⟨n0, rfl, w0⟩ := l0.int Try.underlying3
      obtain ⟨n1, rfl, w1⟩ := l1.int Try.underlying3
      obtain ⟨n2, rfl, w2⟩ := l2.int Try.underlying3
      have e0 := g1 0 (by decide)
      have hz : ∀ a : Addr, a.add 0 = a := fun a => by simp [Addr.add]
      rw [hz] at e0
      exact ⟨⟨n0, n1, n2⟩, ⟨w0, w1, w2⟩, ad, rfl, e0, g1 1 (by decide), g1 2 (by decide)⟩
  haveI : Inhabited Ac := ⟨⟨0, 0, 0⟩⟩
  obtain ⟨f, hf⟩ := Go.Deep.choose_lt hy
  refine ⟨a, len, cap, rfl, h1, h2, fun h0 => ?_, (List.range len).map f, by simp, ⟨fun j hj => ?_⟩⟩
  · obtain ⟨_, ad, e, _⟩ := hf 0 h0
    exact ⟨ad, e⟩
  · have hj' : j < len := by simpa using hj
    have e : ac ((List.range len).map f) j = f j := by unfold ac; rw [List.getD_eq_getElem?_getD]; simp [hj']
    rw [e]
    exact hf j hj'
/-- What short leaves. -/
theorem RdLog.short {w : World} {a : Option Addr} {len cap : Nat} (h : RdLog w a len cap) : ∃ L : List Ac, min len 60 = L.length ∧ L.length ≤ 60 ∧ LogAt w a L := by
  obtain ⟨L, hL, h1⟩ := h.log
  exact ⟨L.take 60, by rw [List.length_take, hL]; omega, by rw [List.length_take]; omega, h1.take 60⟩

set_option maxHeartbeats 4000000 in
set_option maxRecDepth 100000 in
theorem raceFinds_walk (s : Option Addr) (len cap : Nat) (x y : Int) (w : World) (hz : RdLog w s len cap) (hx : (Lit.int .i64 x).wf = true) (hy : (Lit.int .i64 y).wf = true) :
    Calls Try.prog 3 #[.slice s len cap, .int .i64 x, .int .i64 y] w fun e w' => e = .returned (.bool true) ∧ Below w.heap.size w w' := by
  have HZ := Lib.hid hz
  clear hz
  go_enter Try.func3, Try.ntmps3
  go_wp2_with fail
  refine (short_any s len cap w HZ.out.le HZ.out.cap HZ.out.some_).mono ?_
  rintro e w' ⟨rfl, rfl⟩
  obtain ⟨L, hl, h60, hL⟩ := HZ.out.short
  have HL := Lib.hid hL
  rw [hl]
  clear hL hl
  go_wp2_with fail
  refine (find_any s cap L w' HL.out (by omega)).mono ?_
  rintro e w1 ⟨⟨n, k, rfl, hf⟩, hb1⟩
  have HB1 := Lib.hid hb1
  have HF := Lib.hid hf
  clear hb1 hf
  go_wp2_with fail
  refine (refFind_any s cap L w1 (HL.out.below HB1.out (Nat.le_refl _)) (by omega)).mono ?_
  rintro e w2 ⟨⟨n', k', rfl, hf⟩, hb2⟩
  obtain ⟨rfl, rfl⟩ := hf.same HF.out
  have HB2 := Lib.hid (HB1.out.trans (hb2.mono HB1.out.size))
  clear hb2 hf HF HB1
  go_wp2_with fail
  refine (awake_any w2).mono ?_
  rintro e w3 ⟨rfl, hb3⟩
  have HB3 := Lib.hid (HB2.out.trans (hb3.mono HB2.out.size))
  clear hb3 HB2
  go_wp2_with fail
  refine (before_any s cap L x y w3 (HL.out.below HB3.out (Nat.le_refl _)) (by omega)).mono ?_
  rintro e w4 ⟨rfl, hb4⟩
  have HB4 := Lib.hid (HB3.out.trans (hb4.mono HB3.out.size))
  clear hb4 HB3
  go_wp2_with fail
  refine (refBefore_any s cap L x y w4 (HL.out.below HB4.out (Nat.le_refl _)) (by omega)).mono ?_
  rintro e w5 ⟨rfl, hb5⟩
  have HB5 := Lib.hid (HB4.out.trans (hb5.mono HB4.out.size))
  clear hb5 HB4
  generalize beforeB L x y = r
  go_wp2_with fail
  go_ret
  exact ⟨rfl, HB5.out⟩
end Go.Proofs.Ytccbiolgdamnpaa
