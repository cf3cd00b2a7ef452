/- What comes in for AutoPlays: rules and things to do whose slices without an address have no capacity. -/
import Derived.Test.YtahgapkecabnjaaGreatDoorC22
import Derived.Test.YtahgapkecabnjaaGreatDoorC28
namespace Go.Proofs.YtahgapkecabnjaaGreatDoor
set_option linter.unusedSimpArgs false
set_option linter.unusedVariables false
open Go Go.RowKit Go.Shelf Go.Lib Go.Maps Go.MapKept

section
variable {H : Type} {enc : TypeId × Value → H} {W : World} {b : Nat} {held : Bool}
set_option maxRecDepth 100000 in
theorem slice_nil {fuel : Nat} {cs : List Value} {y : DataW H × List MemPlace} (h : DataW.trod enc Tryz.prog W b (fun _ => true) held fuel 25 cs = some y) {a : Option Addr} {n c : Nat} (e : cs = [.slice a n c]) (ha : a = none) : c = 0 := by
  rcases Go.Deep.open_slice Tryz.underlying25 h with ⟨hcs, _⟩ | ⟨a', len', cap', m, n', D, Pl, hcs, _⟩
  · rw [e] at hcs
    simp at hcs
    exact hcs.2.2
  · rw [e, ha] at hcs
    simp at hcs
/-- Rules that came in; no address, no capacity. -/
def RArg2 (W : World) (a : Option Addr) (k : Nat) (rs : List Rl) : Prop := RArg W a k rs ∧ (a = none → k = 0)
set_option maxRecDepth 100000 in
theorem open_ruleB {base : Nat} {v : Value} {x : DataW H} {ps : List MemPlace} (hv : Value.okWide Tryz.prog W .any base 25 v) (h : DataW.Trod enc Tryz.prog W b (fun _ => true) held 25 v x ps) : ∃ (a : Option Addr) (k : Nat) (rs : List Rl), v = .slice a rs.length k ∧ RArg2 W a k rs := by
  obtain ⟨a, k, rs, e, h1⟩ := open_ruleA hv h
  subst e
  obtain ⟨fuel, hf⟩ := h
  exact ⟨a, k, rs, rfl, h1, fun ha => slice_nil (n := rs.length) (c := k) hf (by simp [Value.cells]) ha⟩
def DArg2 (W : World) (a : Option Addr) (ds : List Dod) : Prop := DArg W a ds ∧ ∀ d ∈ ds, d.la = none → d.lc = 0
set_option maxRecDepth 100000 in
theorem open_doB {base : Nat} {v : Value} {x : DataW H} {ps : List MemPlace} (hv : Value.okWide Tryz.prog W .any base 26 v) (h : DataW.Trod enc Tryz.prog W b (fun _ => true) held 26 v x ps) : ∃ (a : Option Addr) (k : Nat) (ds : List Dod), v = .slice a ds.length k ∧ DArg2 W a ds := by
  obtain ⟨a, k, ds, e, h1⟩ := open_do hv h
  obtain ⟨a2, len, cap, e2, _, _, hx⟩ := open_slice_leafs2 (d := 5) (ts := doTs) Tryz.underlying26 (by kernel_rfl) (by kernel_rfl) hv h
  rw [e] at e2
  cases e2
  refine ⟨a, k, ds, e, h1, fun d hd hn => ?_⟩
  obtain ⟨j, hj, rfl⟩ := List.getElem_of_mem hd
  obtain ⟨_, b', o, rfl, hc⟩ := h1.1 j _ (List.getElem?_eq_getElem hj)
  obtain ⟨ad, cs, e3, g1, g2, g3⟩ := hx j hj
  cases e3
  have h14 := hc 14 _ rfl
  have hg := g1 14 (by decide)
  have ha : (((⟨b', o, none⟩ : Addr).add (j * 15)).add 14) = ⟨b', o + j * 15 + 14, none⟩ := by rw [add_plain, add_plain]
  have hg : W.cell? (((⟨b', o, none⟩ : Addr).add (j * 15)).add 14) = cs[14]? := hg
  rw [ha, h14] at hg
  match cs, g2, g3, hg with
  | [x0, x1, x2, x3, x4, x5, x6, x7, x8, x9, x10, x11, x12, x13, x14], _, g3, hg =>
    obtain ⟨_, _, _, _, _, _, _, _, _, _, _, _, _, _, ⟨fuel, y, h14'⟩, _⟩ := g3
    simp at hg
    exact slice_nil (n := ds[j].l.length) (c := ds[j].lc) h14' (by rw [← hg]) hn
end
theorem autoPlays_row (c : Cf) (la : Option Addr) (lk : Nat) (rs : List Rl) (aa : Option Addr) (ak : Nat) (ds : List Dod) (w : World) (hc : True) (h1 : RArg2 w la lk rs) (h2 : DArg2 w aa ds) (hT : Tabs w) :
    Calls Tryz.prog 3 #[.agg (cfC c), .slice la rs.length lk, .slice aa ds.length ak] w fun e w' => e = .returned (.bool true) ∧ Below w.heap.size w w' := autoPlays_walk c la lk rs aa ak ds w h1.1.1 h1.1.2.1 h1.1.2.2 h1.2 h2.1.1 h2.1.2 h2.2 hT
end Go.Proofs.YtahgapkecabnjaaGreatDoor
