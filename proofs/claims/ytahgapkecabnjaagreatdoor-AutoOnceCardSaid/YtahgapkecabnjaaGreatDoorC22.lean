/- Rules, configs and lists of what is done, among the arguments. -/
import Derived.Test.YtahgapkecabnjaaGreatDoorC05
import Derived.Test.YtahgapkecabnjaaGreatDoorC19
import Derived.Test.YtahgapkecabnjaaGreatDoorC21
namespace Go.Proofs.YtahgapkecabnjaaGreatDoor
set_option linter.unusedSimpArgs false
set_option linter.unusedVariables false
open Go Go.RowKit Go.ChangeShapes Go.WideShapes

theorem nat_u {k : IntKind} {z : Int} {m : Nat} (h : (Lit.int k z).wf = true) (h0 : k.min = 0) (h1 : k.max = (m : Int)) : ∃ n : Nat, z = n ∧ n ≤ m := by
  have h2 : k.min ≤ z ∧ z ≤ k.max := by simpa [Lit.wf] using h
  rw [h0, h1] at h2
  obtain ⟨n, rfl⟩ := Int.eq_ofNat_of_zero_le h2.1
  exact ⟨n, rfl, by omega⟩
abbrev ruleTs : List TypeId := [4, 5, 38, 3, 38, 3, 39, 39, 39, 39]
theorem open_leafs_rule {H : Type} {enc : TypeId × Value → H} {w : World} {b : Nat} {sp : Nat → Bool} {held : Bool} {cs : List Value} (h : Leafs enc Tryz.prog w b sp held ruleTs cs) (hl : cs.length = 10) : ∃ r : Rl, r.In ∧ cs = ruleC r := by
  match cs, hl with
  | [x0, x1, x2, x3, x4, x5, x6, x7, x8, x9], _ =>
    obtain ⟨h0, h1, h2, h3, h4, h5, h6, h7, h8, h9, _⟩ := h
    obtain ⟨acc, rfl⟩ := h0.bool Tryz.underlying4
    obtain ⟨n1, rfl, w1⟩ := h1.int Tryz.underlying5
    obtain ⟨n2, rfl, w2⟩ := h2.int Tryz.underlying38
    obtain ⟨n3, rfl, w3⟩ := h3.int Tryz.underlying3
    obtain ⟨n4, rfl, w4⟩ := h4.int Tryz.underlying38
    obtain ⟨n5, rfl, w5⟩ := h5.int Tryz.underlying3
    obtain ⟨n6, rfl, w6⟩ := h6.int Tryz.underlying39
    obtain ⟨n7, rfl, w7⟩ := h7.int Tryz.underlying39
    obtain ⟨n8, rfl, w8⟩ := h8.int Tryz.underlying39
    obtain ⟨n9, rfl, w9⟩ := h9.int Tryz.underlying39
    obtain ⟨pr, rfl, b1⟩ := nat_u (m := 255) w1 rfl rfl
    obtain ⟨sa, rfl, b2⟩ := nat_u (m := 4294967295) w2 rfl rfl
    obtain ⟨da, rfl, b4⟩ := nat_u (m := 4294967295) w4 rfl rfl
    obtain ⟨sl, rfl, b6⟩ := nat_u (m := 65535) w6 rfl rfl
    obtain ⟨sh, rfl, b7⟩ := nat_u (m := 65535) w7 rfl rfl
    obtain ⟨dl, rfl, b8⟩ := nat_u (m := 65535) w8 rfl rfl
    obtain ⟨dh, rfl, b9⟩ := nat_u (m := 65535) w9 rfl rfl
    exact ⟨⟨acc, pr, sa, n3, da, n5, sl, sh, dl, dh⟩, ⟨by show pr < 256; omega, by show sa < 4294967296; omega, by show da < 4294967296; omega, by show sl < 65536; omega, by show sh < 65536; omega, by show dl < 65536; omega, by show dh < 65536; omega⟩, rfl⟩
theorem open_slice_leafs2 {H : Type} {enc : TypeId × Value → H} {P : Program} {W : World} {base b : Nat} {held : Bool} {d : Nat} {t e : TypeId} {ts : List TypeId} {v : Value} {x : DataW H} {ps : List MemPlace}
    (ht : P.underlying t = some (.slice e)) (hl : leafs P d e = some ts) (hc : P.cellsOf e = ts.length) (hv : Value.okWide P W .any base t v) (h : DataW.Trod enc P W b (fun _ => true) held t v x ps) :
    ∃ a len cap, v = .slice a len cap ∧ len ≤ cap ∧ cap ≤ maxLen ∧ ∀ j, j < len → ∃ ad cs, a = some ad ∧ (∀ k, k < ts.length → W.cell? ((ad.add (j * ts.length)).add k) = cs[k]?) ∧ cs.length = ts.length ∧ Leafs enc P W b (fun _ => true) held ts cs := by
  obtain ⟨a, len, cap, rfl⟩ := WideShapes.okWide_slice ht hv
  obtain ⟨fuel, hf⟩ := h
  rcases Go.Deep.open_slice ht hf with ⟨hcs, _⟩ | ⟨a', len', cap', m, n, D, Pl, hcs, hb, hle, hm, hmm, _, hx⟩
  · simp [Value.cells] at hcs
    obtain ⟨rfl, rfl, rfl⟩ := hcs
    exact ⟨none, 0, 0, rfl, by decide, by decide, fun j hj => absurd hj (by omega)⟩
  · simp [Value.cells] at hcs
    obtain ⟨rfl, rfl, rfl⟩ := hcs
    refine ⟨_, _, _, rfl, hle, hm, fun j hj => ?_⟩
    obtain ⟨cs, h1, h2⟩ := hx j (by rw [hmm]; simp; omega)
    rw [hc] at h1
    obtain ⟨h3, h4, h5⟩ := World.cells?_some h1
    exact ⟨_, cs, rfl, h5, h4, leafs_of_trod d e ts cs n hl h4 ⟨_, h2⟩⟩
section
variable {H : Type} {enc : TypeId × Value → H} {W : World} {b : Nat} {held : Bool}
set_option maxRecDepth 100000 in
theorem rules_of_trod {fuel : Nat} {cs : List Value} {y : DataW H × List MemPlace} (h : DataW.trod enc Tryz.prog W b (fun _ => true) held fuel 25 cs = some y) :
    ∃ (a : Option Addr) (c : Nat) (rs : List Rl), cs = [.slice a rs.length c] ∧ RulesAt W a rs ∧ rs.length ≤ c ∧ c ≤ maxLen := by
  have hc : Tryz.prog.cellsOf 79 = 10 := by kernel_rfl
  have hl : leafs Tryz.prog 4 79 = some ruleTs := by kernel_rfl
  rcases Go.Deep.open_slice Tryz.underlying25 h with ⟨hcs, _⟩ | ⟨a', len', cap', m, n, D, Pl, hcs, hb, hle, hm, hmm, _, hx⟩
  · exact ⟨none, 0, [], hcs, fun j r hj => by simp at hj, Nat.le_refl _, by decide⟩
  · have hy : ∀ j, j < len' → ∃ r : Rl, r.In ∧ RuleAt W (a'.add (j * 10)) r := fun j hj => by
      obtain ⟨cs', h1, h2⟩ := hx j (by rw [hmm]; simp; omega)
      rw [hc] at h1
      obtain ⟨h3, h4, h5⟩ := World.cells?_some h1
      obtain ⟨r, hr, rfl⟩ := open_leafs_rule (leafs_of_trod 4 _ ruleTs cs' n hl h4 ⟨_, h2⟩) h4
      have hz : ∀ a : Addr, a.add 0 = a := fun a => by simp [Addr.add]
      have e0 := h5 0 (by decide)
      rw [hz] at e0
      exact ⟨r, hr, e0, h5 1 (by decide), h5 2 (by decide), h5 3 (by decide), h5 4 (by decide), h5 5 (by decide), h5 6 (by decide), h5 7 (by decide), h5 8 (by decide), h5 9 (by decide)⟩
    haveI : Inhabited Rl := ⟨⟨false, 0, 0, 0, 0, 0, 0, 0, 0, 0⟩⟩
    obtain ⟨f, hf⟩ := Go.Deep.choose_lt hy
    refine ⟨some a', cap', (List.range len').map f, by simpa using hcs, fun j r hj => ?_, by simpa using hle, hm⟩
    rw [List.getElem?_map] at hj
    obtain ⟨i, hi, rfl⟩ := Option.map_eq_some_iff.1 hj
    obtain ⟨hil, e⟩ := List.getElem?_eq_some_iff.1 hi
    simp at hil e
    subst e
    exact ⟨(hf j hil).1, a', rfl, (hf j hil).2⟩
/-- Rules that came in. -/
def RArg (W : World) (a : Option Addr) (k : Nat) (rs : List Rl) : Prop := RulesAt W a rs ∧ rs.length ≤ k ∧ k ≤ maxLen
set_option maxRecDepth 100000 in
theorem open_ruleA {base : Nat} {v : Value} {x : DataW H} {ps : List MemPlace} (hv : Value.okWide Tryz.prog W .any base 25 v) (h : DataW.Trod enc Tryz.prog W b (fun _ => true) held 25 v x ps) : ∃ (a : Option Addr) (k : Nat) (rs : List Rl), v = .slice a rs.length k ∧ RArg W a k rs := by
  obtain ⟨a, len, cap, rfl⟩ := WideShapes.okWide_slice Tryz.underlying25 hv
  obtain ⟨fuel, hf⟩ := h
  obtain ⟨a', c, rs, e, h1, h2, h3⟩ := rules_of_trod hf
  simp [Value.cells] at e
  obtain ⟨rfl, rfl, rfl⟩ := e
  exact ⟨a, cap, rs, rfl, h1, h2, h3⟩
abbrev doTs : List TypeId := [5, 3, 5, 38, 38, 39, 39, 5, 5, 38, 38, 39, 39, 5, 25]
theorem leafs_do {cs : List Value} (h : Leafs enc Tryz.prog W b (fun _ => true) held doTs cs) : ∃ d : Dod, cs = dodC d ∧ d.In W := by
  match cs, h with
  | [x0, x1, x2, x3, x4, x5, x6, x7, x8, x9, x10, x11, x12, x13, x14], h =>
    obtain ⟨h0, h1, h2, h3, h4, h5, h6, h7, h8, h9, h10, h11, h12, h13, ⟨fuel, y, h14⟩, _⟩ := h
    obtain ⟨p, ep, hp⟩ := leafs_pk (cs := [x2, x3, x4, x5, x6, x7, x8]) (show Leafs enc Tryz.prog W b (fun _ => true) held pkT _ from ⟨h2, h3, h4, h5, h6, h7, h8, trivial⟩)
    obtain ⟨k, ek, hk⟩ := leafs_ky (cs := [x9, x10, x11, x12, x13]) (show Leafs enc Tryz.prog W b (fun _ => true) held kyT _ from ⟨h9, h10, h11, h12, h13, trivial⟩)
    obtain ⟨n0, rfl, w0⟩ := h0.int Tryz.underlying5
    obtain ⟨n1, rfl, w1⟩ := h1.int Tryz.underlying3
    obtain ⟨a, c, rs, e, g1, g2, g3⟩ := rules_of_trod h14
    simp [pkC] at ep
    simp [kyC] at ek
    simp at e
    obtain ⟨rfl, rfl, rfl, rfl, rfl, rfl, rfl⟩ := ep
    obtain ⟨rfl, rfl, rfl, rfl, rfl⟩ := ek
    subst e
    exact ⟨⟨n0, n1, p, k, a, c, rs⟩, rfl, ⟨range_u8 w0, w1, hp, hk, g1, g2, g3⟩⟩
/-- What is done, as it came in. -/
def DArg (W : World) (a : Option Addr) (ds : List Dod) : Prop := DosAt W a ds ∧ ds.length ≤ maxLen
set_option maxRecDepth 100000 in
theorem open_do {base : Nat} {v : Value} {x : DataW H} {ps : List MemPlace} (hv : Value.okWide Tryz.prog W .any base 26 v) (h : DataW.Trod enc Tryz.prog W b (fun _ => true) held 26 v x ps) : ∃ (a : Option Addr) (k : Nat) (ds : List Dod), v = .slice a ds.length k ∧ DArg W a ds := by
  obtain ⟨a, len, cap, rfl, h1, h2, hx⟩ := open_slice_leafs2 (d := 5) (ts := doTs) Tryz.underlying26 (by kernel_rfl) (by kernel_rfl) hv h
  have hy : ∀ j, j < len → ∃ d : Dod, d.In W ∧ ∃ b o, a = some ⟨b, o, none⟩ ∧ ∀ i v, (dodC d)[i]? = some v → W.cell? ⟨b, o + j * 15 + i, none⟩ = some v := fun j hj => by
    obtain ⟨ad0, cs0, rfl, g10, g20, g30⟩ := hx 0 (by omega)
    obtain ⟨ad, cs, e, g1, g2, g3⟩ := hx j hj
    cases e
    obtain ⟨d, rfl, hd⟩ := leafs_do g3
    obtain ⟨d0, rfl, _⟩ := leafs_do g30
    obtain ⟨b, o, sp⟩ := ad0
    have hsp : sp = none := by
      have := g10 0 (by decide)
      cases sp with
      | none => rfl
      | some x => simp [Addr.add, World.cell?, dodC] at this; split at this <;> simp at this
    subst hsp
    refine ⟨d, hd, b, o, rfl, fun i v hv => ?_⟩
    have hi : i < 15 := (List.getElem?_eq_some_iff.1 hv).1
    have := g1 i hi
    rw [hv] at this
    rw [← this]
    congr 1
    unfold Addr.add
    by_cases hj0 : j = 0
    · subst hj0
      by_cases hi0 : i = 0
      · subst hi0; rfl
      · simp [hi0]
    · have hj15 : j * 15 ≠ 0 := by omega
      by_cases hi0 : i = 0
      · subst hi0; simp [hj15]
      · simp [hi0, hj15]
  haveI : Inhabited Dod := ⟨⟨0, 0, ⟨0, 0, 0, 0, 0, 0, 0⟩, default, none, 0, []⟩⟩
  obtain ⟨f, hf⟩ := Go.Deep.choose_lt hy
  refine ⟨a, cap, (List.range len).map f, by simp, fun j d hj => ?_, by simp; omega⟩
  rw [List.getElem?_map] at hj
  obtain ⟨i, hi, rfl⟩ := Option.map_eq_some_iff.1 hj
  obtain ⟨hil, e⟩ := List.getElem?_eq_some_iff.1 hi
  simp at hil e
  subst e
  exact hf j hil
def cfT : List TypeId := List.replicate 18 3
theorem leafs_cf {cs : List Value} (h : Leafs enc Tryz.prog W b (fun _ => true) held cfT cs) : ∃ c : Cf, cs = (cfC c).toList := by
  match cs, h with
  | [x0, x1, x2, x3, x4, x5, x6, x7, x8, x9, x10, x11, x12, x13, x14, x15, x16, x17], h =>
    obtain ⟨h0, h1, h2, h3, h4, h5, h6, h7, h8, h9, h10, h11, h12, h13, h14, h15, h16, h17, _⟩ := h
    obtain ⟨n0, rfl, _⟩ := h0.int Tryz.underlying3
    obtain ⟨n1, rfl, _⟩ := h1.int Tryz.underlying3
    obtain ⟨n2, rfl, _⟩ := h2.int Tryz.underlying3
    obtain ⟨n3, rfl, _⟩ := h3.int Tryz.underlying3
    obtain ⟨n4, rfl, _⟩ := h4.int Tryz.underlying3
    obtain ⟨n5, rfl, _⟩ := h5.int Tryz.underlying3
    obtain ⟨n6, rfl, _⟩ := h6.int Tryz.underlying3
    obtain ⟨n7, rfl, _⟩ := h7.int Tryz.underlying3
    obtain ⟨n8, rfl, _⟩ := h8.int Tryz.underlying3
    obtain ⟨n9, rfl, _⟩ := h9.int Tryz.underlying3
    obtain ⟨n10, rfl, _⟩ := h10.int Tryz.underlying3
    obtain ⟨n11, rfl, _⟩ := h11.int Tryz.underlying3
    obtain ⟨n12, rfl, _⟩ := h12.int Tryz.underlying3
    obtain ⟨n13, rfl, _⟩ := h13.int Tryz.underlying3
    obtain ⟨n14, rfl, _⟩ := h14.int Tryz.underlying3
    obtain ⟨n15, rfl, _⟩ := h15.int Tryz.underlying3
    obtain ⟨n16, rfl, _⟩ := h16.int Tryz.underlying3
    obtain ⟨n17, rfl, _⟩ := h17.int Tryz.underlying3
    exact ⟨⟨n0, n1, fun j => [n2, n3, n4, n5, n6, n7, n8, n9, n10, n11, n12, n13, n14, n15, n16, n17].getD j 0⟩, rfl⟩
set_option maxRecDepth 100000 in
theorem open_cf {base : Nat} {v : Value} {x : DataW H} {ps : List MemPlace} (hv : Value.okWide Tryz.prog W .any base 24 v) (h : DataW.Trod enc Tryz.prog W b (fun _ => true) held 24 v x ps) : ∃ c : Cf, v = .agg (cfC c) ∧ True := by
  obtain ⟨cs, rfl, hl⟩ := open_leafs (d := 4) (ts := cfT) (by kernel_rfl) (by kernel_rfl) (by kernel_rfl) hv h
  obtain ⟨c, e⟩ := leafs_cf hl
  exact ⟨c, by rw [show cs = cfC c from Array.toList_inj.1 e], trivial⟩
end
theorem autoCounts_row (c : Cf) (la : Option Addr) (lk : Nat) (rs : List Rl) (aa : Option Addr) (ak : Nat) (ds : List Dod) (p : Pk) (w : World) (hc : True) (h1 : RArg w la lk rs) (h2 : DArg w aa ds) (hp : PkIn p) (hT : Tabs w) :
    Calls Tryz.prog 4 #[.agg (cfC c), .slice la rs.length lk, .slice aa ds.length ak, .agg (pkC p)] w fun e w' => e = .returned (.bool true) ∧ Below w.heap.size w w' := autoCounts_walk c la lk rs aa ak ds p w h1.1 h1.2.1 h1.2.2 h2.1 h2.2 hp hT
theorem autoOnce_row (c : Cf) (la : Option Addr) (lk : Nat) (rs : List Rl) (aa : Option Addr) (ak : Nat) (ds : List Dod) (n : Int) (w : World) (hc : True) (h1 : RArg w la lk rs) (h2 : DArg w aa ds) (hn : (Lit.int .u16 n).wf = true) (hT : Tabs w) :
    Calls Tryz.prog 6 #[.agg (cfC c), .slice la rs.length lk, .slice aa ds.length ak, .int .u16 n] w fun e w' => e = .returned (.bool true) ∧ Below w.heap.size w w' := autoOnce_walk c la lk rs aa ak ds n w h1.1 h1.2.1 h1.2.2 h2.1 h2.2 hn hT
theorem autoStays_row (c : Cf) (la : Option Addr) (lk : Nat) (rs : List Rl) (oa : Option Addr) (ok : Nat) (os : List Rl) (aa : Option Addr) (ak : Nat) (ds : List Dod) (p : Pk) (w : World) (hc : True) (h1 : RArg w la lk rs) (h3 : RArg w oa ok os) (h2 : DArg w aa ds) (hp : PkIn p) (hT : Tabs w) :
    Calls Tryz.prog 5 #[.agg (cfC c), .slice la rs.length lk, .slice oa os.length ok, .slice aa ds.length ak, .agg (pkC p)] w fun e w' => e = .returned (.bool true) ∧ Below w.heap.size w w' := autoStays_walk c la lk rs oa ok os aa ak ds p w h1.1 h1.2.1 h1.2.2 h3.1 h3.2.1 h3.2.2 h2.1 h2.2 hp hT
end Go.Proofs.YtahgapkecabnjaaGreatDoor
