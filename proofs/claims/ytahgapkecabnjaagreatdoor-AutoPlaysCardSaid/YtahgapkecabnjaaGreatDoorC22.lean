/- Rules, configs and lists of what is done, among the arguments. -/
import Derived.Test.YtahgapkecabnjaaGreatDoorC05
import Derived.Test.YtahgapkecabnjaaGreatDoorC19
import Derived.Test.YtahgapkecabnjaaGreatDoorC21
import Derived.Test.YtahgapkecabnjaaGreatDoorC02
import Derived.Test.YtahgapkecabnjaaGreatDoorC12
import Derived.DeepKeys
import Derived.Test.YtahgapkecabnjaaGreatDoorC18
import Derived.Test.YtahgapkecabnjaaGreatDoorC11
namespace Go.Proofs.YtahgapkecabnjaaGreatDoor
set_option linter.unusedSimpArgs false
set_option linter.unusedVariables false
open Go Go.RowKit Go.ChangeShapes Go.WideShapes

theorem nat_u {k : IntKind} {z : Int} {m : Nat} (h : (Lit.int k z).wf = true) (h0 : k.min = 0) (h1 : k.max = (m : Int)) : ∃ n : Nat, z = n ∧ n ≤ m := by
  have h2 : k.min ≤ z ∧ z ≤ k.max := by simpa [Lit.wf] using h
  rw [h0, h1] at h2
  obtain ⟨n, rfl⟩ := Int.eq_ofNat_of_zero_le h2.1
  exact ⟨n, rfl, by omega⟩
abbrev ruleTs : List TypeId := [4, 5, 38, 3, 38, 3, 39, 39, 39, 39]
theorem open_leafs_rule {H : Type} {enc : TypeId × Value → H} {w : World} {b : Nat} {sp : Nat → Bool} {held : Bool} {cs : List Value} (h : Leafs enc Tryz.prog w b sp held ruleTs cs) (hl : cs.length = 10) : ∃ r : Rl, r.In ∧ cs = ruleC r := by
  match cs, hl with
  | [x0, x1, x2, x3, x4, x5, x6, x7, x8, x9], _ =>
    obtain ⟨h0, h1, h2, h3, h4, h5, h6, h7, h8, h9, _⟩ := h
    obtain ⟨acc, rfl⟩ := h0.bool Tryz.underlying4
    obtain ⟨n1, rfl, w1⟩ := h1.int Tryz.underlying5
    obtain ⟨n2, rfl, w2⟩ := h2.int Tryz.underlying38
    obtain ⟨n3, rfl, w3⟩ := h3.int Tryz.underlying3
    obtain ⟨n4, rfl, w4⟩ := h4.int Tryz.underlying38
    obtain ⟨n5, rfl, w5⟩ := h5.int Tryz.underlying3
    obtain ⟨n6, rfl, w6⟩ := h6.int Tryz.underlying39
    obtain ⟨n7, rfl, w7⟩ := h7.int Tryz.underlying39
    obtain ⟨n8, rfl, w8⟩ := h8.int Tryz.underlying39
    obtain ⟨n9, rfl, w9⟩ := h9.int Tryz.underlying39
    obtain ⟨pr, rfl, b1⟩ := nat_u (m := 255) w1 rfl rfl
    obtain ⟨sa, rfl, b2⟩ := nat_u (m := 4294967295) w2 rfl rfl
    obtain ⟨da, rfl, b4⟩ := nat_u (m := 4294967295) w4 rfl rfl
    obtain ⟨sl, rfl, b6⟩ := nat_u (m := 65535) w6 rfl rfl
    obtain ⟨sh, rfl, b7⟩ := nat_u (m := 65535) w7 rfl rfl
    obtain ⟨dl, rfl, b8⟩ := nat_u (m := 65535) w8 rfl rfl
    obtain ⟨dh, rfl, b9⟩ := nat_u (m := 65535) w9 rfl rfl
    exact ⟨⟨acc, pr, sa, n3, da, n5, sl, sh, dl, dh⟩, ⟨by show pr < 256; omega, by show sa < 4294967296; omega, by show da < 4294967296; omega, by show sl < 65536; omega, by show sh < 65536; omega, by show dl < 65536; omega, by show dh < 65536; omega⟩, rfl⟩
theorem open_slice_leafs2 {H : Type} {enc : TypeId × Value → H} {P : Program} {W : World} {base b : Nat} {held : Bool} {d : Nat} {t e : TypeId} {ts : List TypeId} {v : Value} {x : DataW H} {ps : List MemPlace}
    (ht : P.underlying t = some (.slice e)) (hl : leafs P d e = some ts) (hc : P.cellsOf e = ts.length) (hv : Value.okWide P W .any base t v) (h : DataW.Trod enc P W b (fun _ => true) held t v x ps) :
    ∃ a len cap, v = .slice a len cap ∧ len ≤ cap ∧ cap ≤ maxLen ∧ ∀ j, j < len → ∃ ad cs, a = some ad ∧ (∀ k, k < ts.length → W.cell? ((ad.add (j * ts.length)).add k) = cs[k]?) ∧ cs.length = ts.length ∧ Leafs enc P W b (fun _ => true) held ts cs := by
  obtain ⟨a, len, cap, rfl⟩ := WideShapes.okWide_slice ht hv
  obtain ⟨fuel, hf⟩ := h
  rcases Go.Deep.open_slice ht hf with ⟨hcs, _⟩ | ⟨a', len', cap', m, n, D, Pl, hcs, hb, hle, hm, hmm, _, hx⟩
  · simp [Value.cells] at hcs
    obtain ⟨rfl, rfl, rfl⟩ := hcs
    exact ⟨none, 0, 0, rfl, by decide, by decide, fun j hj => absurd hj (by omega)⟩
  · simp [Value.cells] at hcs
    obtain ⟨rfl, rfl, rfl⟩ := hcs
    refine ⟨_, _, _, rfl, hle, hm, fun j hj => ?_⟩
    obtain ⟨cs, h1, h2⟩ := hx j (by rw [hmm]; simp; omega)
    rw [hc] at h1
    obtain ⟨h3, h4, h5⟩ := World.cells?_some h1
    exact ⟨_, cs, rfl, h5, h4, leafs_of_trod d e ts cs n hl h4 ⟨_, h2⟩⟩
section
variable {H : Type} {enc : TypeId × Value → H} {W : World} {b : Nat} {held : Bool}
set_option maxRecDepth 100000 in
theorem rules_of_trod {fuel : Nat} {cs : List Value} {y : DataW H × List MemPlace} (h : DataW.trod enc Tryz.prog W b (fun _ => true) held fuel 25 cs = some y) :
    ∃ (a : Option Addr) (c : Nat) (rs : List Rl), cs = [.slice a rs.length c] ∧ RulesAt W a rs ∧ rs.length ≤ c ∧ c ≤ maxLen := by
  have hc : Tryz.prog.cellsOf 79 = 10 := by kernel_rfl
  have hl : leafs Tryz.prog 4 79 = some ruleTs := by kernel_rfl
  rcases Go.Deep.open_slice Tryz.underlying25 h with ⟨hcs, _⟩ | ⟨a', len', cap', m, n, D, Pl, hcs, hb, hle, hm, hmm, _, hx⟩
  · exact ⟨none, 0, [], hcs, fun j r hj => by simp at hj, Nat.le_refl _, by decide⟩
  · have hy : ∀ j, j < len' → ∃ r : Rl, r.In ∧ RuleAt W (a'.add (j * 10)) r := fun j hj => by
      obtain ⟨cs', h1, h2⟩ := hx j (by rw [hmm]; simp; omega)
      rw [hc] at h1
      obtain ⟨h3, h4, h5⟩ := World.cells?_some h1
      obtain ⟨r, hr, rfl⟩ := open_leafs_rule (leafs_of_trod 4 _ ruleTs cs' n hl h4 ⟨_, h2⟩) h4
      have hz : ∀ a : Addr, a.add 0 = a := fun a => by simp [Addr.add]
      have e0 := h5 0 (by decide)
      rw [hz] at e0
      exact ⟨r, hr, e0, h5 1 (by decide), h5 2 (by decide), h5 3 (by decide), h5 4 (by decide), h5 5 (by decide), h5 6 (by decide), h5 7 (by decide), h5 8 (by decide), h5 9 (by decide)⟩
    haveI : Inhabited Rl := ⟨⟨false, 0, 0, 0, 0, 0, 0, 0, 0, 0⟩⟩
    obtain ⟨f, hf⟩ := Go.Deep.choose_lt hy
    refine ⟨some a', cap', (List.range len').map f, by simpa using hcs, fun j r hj => ?_, by simpa using hle, hm⟩
    rw [List.getElem?_map] at hj
    obtain ⟨i, hi, rfl⟩ := Option.map_eq_some_iff.1 hj
    obtain ⟨hil, e⟩ := List.getElem?_eq_some_iff.1 hi
    simp at hil e
    subst e
    exact ⟨(hf j hil).1, a', rfl, (hf j hil).2⟩
/-- Rules that came in. -/
def RArg (W : World) (a : Option Addr) (k : Nat) (rs : List Rl) : Prop := RulesAt W a rs ∧ rs.length ≤ k ∧ k ≤ maxLen
set_option maxRecDepth 100000 in
theorem open_ruleA {base : Nat} {v : Value} {x : DataW H} {ps : List MemPlace} (hv : Value.okWide Tryz.prog W .any base 25 v) (h : DataW.Trod enc Tryz.prog W b (fun _ => true) held 25 v x ps) : ∃ (a : Option Addr) (k : Nat) (rs : List Rl), v = .slice a rs.length k ∧ RArg W a k rs := by
  obtain ⟨a, len, cap, rfl⟩ := WideShapes.okWide_slice Tryz.underlying25 hv
  obtain ⟨fuel, hf⟩ := h
  obtain ⟨a', c, rs, e, h1, h2, h3⟩ := rules_of_trod hf
  simp [Value.cells] at e
  obtain ⟨rfl, rfl, rfl⟩ := e
  exact ⟨a, cap, rs, rfl, h1, h2, h3⟩
abbrev doTs : List TypeId := [5, 3, 5, 38, 38, 39, 39, 5, 5, 38, 38, 39, 39, 5, 25]
theorem leafs_do {cs : List Value} (h : Leafs enc Tryz.prog W b (fun _ => true) held doTs cs) : ∃ d : Dod, cs = dodC d ∧ d.In W := by
  match cs, h with
  | [x0, x1, x2, x3, x4, x5, x6, x7, x8, x9, x10, x11, x12, x13, x14], h =>
    obtain ⟨h0, h1, h2, h3, h4, h5, h6, h7, h8, h9, h10, h11, h12, h13, ⟨fuel, y, h14⟩, _⟩ := h
    obtain ⟨p, ep, hp⟩ := leafs_pk (cs := [x2, x3, x4, x5, x6, x7, x8]) (show Leafs enc Tryz.prog W b (fun _ => true) held pkT _ from ⟨h2, h3, h4, h5, h6, h7, h8, trivial⟩)
    obtain ⟨k, ek, hk⟩ := leafs_ky (cs := [x9, x10, x11, x12, x13]) (show Leafs enc Tryz.prog W b (fun _ => true) held kyT _ from ⟨h9, h10, h11, h12, h13, trivial⟩)
    obtain ⟨n0, rfl, w0⟩ := h0.int Tryz.underlying5
    obtain ⟨n1, rfl, w1⟩ := h1.int Tryz.underlying3
    obtain ⟨a, c, rs, e, g1, g2, g3⟩ := rules_of_trod h14
    simp [pkC] at ep
    simp [kyC] at ek
    simp at e
    obtain ⟨rfl, rfl, rfl, rfl, rfl, rfl, rfl⟩ := ep
    obtain ⟨rfl, rfl, rfl, rfl, rfl⟩ := ek
    subst e
    exact ⟨⟨n0, n1, p, k, a, c, rs⟩, rfl, ⟨range_u8 w0, w1, hp, hk, g1, g2, g3⟩⟩
/-- What is done, as it came in. -/
def DArg (W : World) (a : Option Addr) (ds : List Dod) : Prop := DosAt W a ds ∧ ds.length ≤ maxLen
set_option maxRecDepth 100000 in
theorem open_do {base : Nat} {v : Value} {x : DataW H} {ps : List MemPlace} (hv : Value.okWide Tryz.prog W .any base 26 v) (h : DataW.Trod enc Tryz.prog W b (fun _ => true) held 26 v x ps) : ∃ (a : Option Addr) (k : Nat) (ds : List Dod), v = .slice a ds.length k ∧ DArg W a ds := by
  obtain ⟨a, len, cap, rfl, h1, h2, hx⟩ := open_slice_leafs2 (d := 5) (ts := doTs) Tryz.underlying26 (by kernel_rfl) (by kernel_rfl) hv h
  have hy : ∀ j, j < len → ∃ d : Dod, d.In W ∧ ∃ b o, a = some ⟨b, o, none⟩ ∧ ∀ i v, (dodC d)[i]? = some v → W.cell? ⟨b, o + j * 15 + i, none⟩ = some v := fun j hj => by
    obtain ⟨ad0, cs0, rfl, g10, g20, g30⟩ := hx 0 (by omega)
    obtain ⟨ad, cs, e, g1, g2, g3⟩ := hx j hj
    cases e
    obtain ⟨d, rfl, hd⟩ := leafs_do g3
    obtain ⟨d0, rfl, _⟩ := leafs_do g30
    obtain ⟨b, o, sp⟩ := ad0
    have hsp : sp = none := by
      have := g10 0 (by decide)
      cases sp with
      | none => rfl
      | some x => simp [Addr.add, World.cell?, dodC] at this; split at this <;> simp at this
    subst hsp
    refine ⟨d, hd, b, o, rfl, fun i v hv => ?_⟩
    have hi : i < 15 := (List.getElem?_eq_some_iff.1 hv).1
    have := g1 i hi
    rw [hv] at this
    rw [← this]
    congr 1
    unfold Addr.add
    by_cases hj0 : j = 0
    · subst hj0
      by_cases hi0 : i = 0
      · subst hi0; rfl
      · simp [hi0]
    · have hj15 : j * 15 ≠ 0 := by omega
      by_cases hi0 : i = 0
      · subst hi0; simp [hj15]
      · simp [hi0, hj15]
  haveI : Inhabited Dod := ⟨⟨0, 0, ⟨0, 0, 0, 0, 0, 0, 0⟩, default, none, 0, []⟩⟩
  obtain ⟨f, hf⟩ := Go.Deep.choose_lt hy
  refine ⟨a, cap, (List.range len).map f, by simp, fun j d hj => ?_, by simp; omega⟩
  rw [List.getElem?_map] at hj
  obtain ⟨i, hi, rfl⟩ := Option.map_eq_some_iff.1 hj
  obtain ⟨hil, e⟩ := List.getElem?_eq_some_iff.1 hi
  simp at hil e
  subst e
  exact hf j hil
def cfT : List TypeId := List.replicate 18 3
theorem leafs_cf {cs : List Value} (h : Leafs enc Tryz.prog W b (fun _ => true) held cfT cs) : ∃ c : Cf, cs = (cfC c).toList := by
  match cs, h with
  | [x0, x1, x2, x3, x4, x5, x6, x7, x8, x9, x10, x11, x12, x13, x14, x15, x16, x17], h =>
    obtain ⟨h0, h1, h2, h3, h4, h5, h6, h7, h8, h9, h10, h11, h12, h13, h14, h15, h16, h17, _⟩ := h
    obtain ⟨n0, rfl, _⟩ := h0.int Tryz.underlying3
    obtain ⟨n1, rfl, _⟩ := h1.int Tryz.underlying3
    obtain ⟨n2, rfl, _⟩ := h2.int Tryz.underlying3
    obtain ⟨n3, rfl, _⟩ := h3.int Tryz.underlying3
    obtain ⟨n4, rfl, _⟩ := h4.int Tryz.underlying3
    obtain ⟨n5, rfl, _⟩ := h5.int Tryz.underlying3
    obtain ⟨n6, rfl, _⟩ := h6.int Tryz.underlying3
    obtain ⟨n7, rfl, _⟩ := h7.int Tryz.underlying3
    obtain ⟨n8, rfl, _⟩ := h8.int Tryz.underlying3
    obtain ⟨n9, rfl, _⟩ := h9.int Tryz.underlying3
    obtain ⟨n10, rfl, _⟩ := h10.int Tryz.underlying3
    obtain ⟨n11, rfl, _⟩ := h11.int Tryz.underlying3
    obtain ⟨n12, rfl, _⟩ := h12.int Tryz.underlying3
    obtain ⟨n13, rfl, _⟩ := h13.int Tryz.underlying3
    obtain ⟨n14, rfl, _⟩ := h14.int Tryz.underlying3
    obtain ⟨n15, rfl, _⟩ := h15.int Tryz.underlying3
    obtain ⟨n16, rfl, _⟩ := h16.int Tryz.underlying3
    obtain ⟨n17, rfl, _⟩ := h17.int Tryz.underlying3
    exact ⟨⟨n0, n1, fun j => [n2, n3, n4, n5, n6, n7, n8, n9, n10, n11, n12, n13, n14, n15, n16, n17].getD j 0⟩, rfl⟩
set_option maxRecDepth 100000 in
theorem open_cf {base : Nat} {v : Value} {x : DataW H} {ps : List MemPlace} (hv : Value.okWide Tryz.prog W .any base 24 v) (h : DataW.Trod enc Tryz.prog W b (fun _ => true) held 24 v x ps) : ∃ c : Cf, v = .agg (cfC c) ∧ True := by
  obtain ⟨cs, rfl, hl⟩ := open_leafs (d := 4) (ts := cfT) (by kernel_rfl) (by kernel_rfl) (by kernel_rfl) hv h
  obtain ⟨c, e⟩ := leafs_cf hl
  exact ⟨c, by rw [show cs = cfC c from Array.toList_inj.1 e], trivial⟩
end
theorem autoCounts_row (c : Cf) (la : Option Addr) (lk : Nat) (rs : List Rl) (aa : Option Addr) (ak : Nat) (ds : List Dod) (p : Pk) (w : World) (hc : True) (h1 : RArg w la lk rs) (h2 : DArg w aa ds) (hp : PkIn p) (hT : Tabs w) :
    Calls Tryz.prog 4 #[.agg (cfC c), .slice la rs.length lk, .slice aa ds.length ak, .agg (pkC p)] w fun e w' => e = .returned (.bool true) ∧ Below w.heap.size w w' := autoCounts_walk c la lk rs aa ak ds p w h1.1 h1.2.1 h1.2.2 h2.1 h2.2 hp hT
theorem autoOnce_row (c : Cf) (la : Option Addr) (lk : Nat) (rs : List Rl) (aa : Option Addr) (ak : Nat) (ds : List Dod) (n : Int) (w : World) (hc : True) (h1 : RArg w la lk rs) (h2 : DArg w aa ds) (hn : (Lit.int .u16 n).wf = true) (hT : Tabs w) :
    Calls Tryz.prog 6 #[.agg (cfC c), .slice la rs.length lk, .slice aa ds.length ak, .int .u16 n] w fun e w' => e = .returned (.bool true) ∧ Below w.heap.size w w' := autoOnce_walk c la lk rs aa ak ds n w h1.1 h1.2.1 h1.2.2 h2.1 h2.2 hn hT
theorem autoStays_row (c : Cf) (la : Option Addr) (lk : Nat) (rs : List Rl) (oa : Option Addr) (ok : Nat) (os : List Rl) (aa : Option Addr) (ak : Nat) (ds : List Dod) (p : Pk) (w : World) (hc : True) (h1 : RArg w la lk rs) (h3 : RArg w oa ok os) (h2 : DArg w aa ds) (hp : PkIn p) (hT : Tabs w) :
    Calls Tryz.prog 5 #[.agg (cfC c), .slice la rs.length lk, .slice oa os.length ok, .slice aa ds.length ak, .agg (pkC p)] w fun e w' => e = .returned (.bool true) ∧ Below w.heap.size w w' := autoStays_walk c la lk rs oa ok os aa ak ds p w h1.1 h1.2.1 h1.2.2 h3.1 h3.2.1 h3.2.2 h2.1 h2.2 hp hT
end Go.Proofs.YtahgapkecabnjaaGreatDoor
/- Plain law: flows in the order of their keys, place by place, as the reference keeps them. -/
namespace Go.Proofs.YtahgapkecabnjaaGreatDoor
set_option linter.unusedSimpArgs false
set_option linter.unusedVariables false

variable {α : Type}
/-- The place of a key; none: it is not there. -/
def placeL (l : Kl α) (k : Ky) : Option Nat := l.findIdx? fun p => decide (p.1 = k)
theorem placeL_some {l : Kl α} {k : Ky} {n : Nat} (h : placeL l k = some n) : ∃ x, l[n]? = some (k, x) ∧ getL l k = some x := by
  unfold placeL at h
  obtain ⟨hn, h1, h2⟩ := List.findIdx?_eq_some_iff_getElem.1 h
  have hk : l[n].1 = k := by simpa using h1
  refine ⟨l[n].2, ?_, ?_⟩
  · rw [List.getElem?_eq_getElem hn]; exact congrArg some (Prod.ext hk rfl)
  · unfold getL
    have : l.find? (fun p => decide (p.1 = k)) = some l[n] := by
      rw [List.find?_eq_some_iff_getElem]
      exact ⟨by simpa using hk, n, hn, rfl, fun j hj => by simpa using h2 j hj⟩
    rw [this]; rfl
theorem placeL_none {l : Kl α} {k : Ky} (h : placeL l k = none) : getL l k = none := by
  unfold placeL at h
  rw [List.findIdx?_eq_none_iff] at h
  unfold getL
  rw [List.find?_eq_none.2 (fun x hx => by simpa using h x hx)]; rfl
theorem getL_at {l : Kl α} (hr : Rises (keysL l)) {n : Nat} {k : Ky} {x : α} (h : l[n]? = some (k, x)) : getL l k = some x := getL_of_mem hr (List.mem_of_getElem? h)
theorem split_at {l : Kl α} {n : Nat} {p : Ky × α} (h : l[n]? = some p) : l = l.take n ++ p :: l.drop (n + 1) := by
  have hn := (List.getElem?_eq_some_iff.1 h).1
  have hp := (List.getElem?_eq_some_iff.1 h).2
  conv => lhs; rw [← List.take_append_drop n l, List.drop_eq_getElem_cons hn, hp]
theorem rises_parts {a b : Kl α} {p : Ky × α} (h : Rises (keysL (a ++ p :: b))) : (∀ q ∈ a, ltK q.1 p.1) ∧ (∀ q ∈ b, ltK p.1 q.1) ∧ Rises (keysL a) ∧ Rises (keysL b) ∧ ∀ q ∈ a, ∀ r ∈ b, ltK q.1 r.1 := by
  unfold keysL Rises at *
  rw [List.map_append, List.map_cons, List.pairwise_append, List.pairwise_cons] at h
  obtain ⟨h1, ⟨h2, h3⟩, h4⟩ := h
  exact ⟨fun q hq => h4 _ (List.mem_map.2 ⟨q, hq, rfl⟩) _ (List.mem_cons_self ..), fun q hq => h2 _ (List.mem_map.2 ⟨q, hq, rfl⟩), h1, h3, fun q hq r hr => h4 _ (List.mem_map.2 ⟨q, hq, rfl⟩) _ (List.mem_cons_of_mem _ (List.mem_map.2 ⟨r, hr, rfl⟩))⟩
theorem filter_all {β : Type} {l : List β} {f : β → Bool} (h : ∀ x ∈ l, f x = true) : l.filter f = l := List.filter_eq_self.2 h
theorem filter_none {β : Type} {l : List β} {f : β → Bool} (h : ∀ x ∈ l, f x = false) : l.filter f = [] := List.filter_eq_nil_iff.2 (fun x hx => by simp [h x hx])
theorem delL_parts {a b : Kl α} {p : Ky × α} (h : Rises (keysL (a ++ p :: b))) : delL (a ++ p :: b) p.1 = a ++ b := by
  obtain ⟨h1, h2, _⟩ := rises_parts h
  unfold delL
  rw [List.filter_append, List.filter_cons, if_neg (by simp), filter_all (fun q hq => by have := ltK_ne (h1 q hq); simpa using this), filter_all (fun q hq => by have := ltK_ne (h2 q hq); simp; exact fun e => this e.symm)]
theorem putL_parts {a b : Kl α} {k : Ky} (ha : ∀ q ∈ a, ltK q.1 k) (hb : ∀ q ∈ b, ltK k q.1) (x : α) : putL (a ++ b) k x = a ++ (k, x) :: b := by
  unfold putL
  rw [List.filter_append, List.filter_append, filter_all (l := a) (fun q hq => lessK_iff.2 (ha q hq)), filter_none (l := b) (fun q hq => lessK_not.2 (ltK_asymm (hb q hq))), filter_none (l := a) (fun q hq => lessK_not.2 (ltK_asymm (ha q hq))), filter_all (l := b) (fun q hq => lessK_iff.2 (hb q hq)), List.append_nil, List.nil_append]
theorem putL_parts_old {a b : Kl α} {p : Ky × α} (h : Rises (keysL (a ++ p :: b))) (x : α) : putL (a ++ p :: b) p.1 x = a ++ (p.1, x) :: b := by
  obtain ⟨h1, h2, _⟩ := rises_parts h
  unfold putL
  rw [List.filter_append, List.filter_cons, if_neg (by rw [lessK_not.2 (ltK_irrefl _)]; decide), List.filter_append, List.filter_cons, if_neg (by rw [lessK_not.2 (ltK_irrefl _)]; decide)]
  rw [filter_all (l := a) (fun q hq => lessK_iff.2 (h1 q hq)), filter_none (l := b) (fun q hq => lessK_not.2 (ltK_asymm (h2 q hq))), filter_none (l := a) (fun q hq => lessK_not.2 (ltK_asymm (h1 q hq))), filter_all (l := b) (fun q hq => lessK_iff.2 (h2 q hq)), List.append_nil, List.nil_append]
/-- A flow goes. -/
theorem delL_at {l : Kl α} (hr : Rises (keysL l)) {n : Nat} {k : Ky} {x : α} (h : l[n]? = some (k, x)) : delL l k = l.take n ++ l.drop (n + 1) := by
  have e := split_at h
  have hr2 := hr
  rw [e] at hr2
  conv => lhs; rw [e]
  exact delL_parts hr2
/-- A flow's word is stored anew. -/
theorem putL_at {l : Kl α} (hr : Rises (keysL l)) {n : Nat} {k : Ky} {x : α} (h : l[n]? = some (k, x)) (y : α) : putL l k y = l.set n (k, y) := by
  have e := split_at h
  have hr2 := hr
  rw [e] at hr2
  have h3 := putL_parts_old hr2 y
  conv => lhs; rw [e]
  rw [h3]
  have hn := (List.getElem?_eq_some_iff.1 h).1
  rw [List.set_eq_take_append_cons_drop, if_pos hn]
/-- A flow more, behind all that are before it. -/
theorem putL_here {l : Kl α} (hr : Rises (keysL l)) {k : Ky} (hk : getL l k = none) {n : Nat} (hn : n ≤ l.length) (hb : ∀ j p, n ≤ j → l[j]? = some p → ltK k p.1) (ha : ∀ p, 0 < n → l[n - 1]? = some p → ¬ ltK k p.1) (x : α) :
    putL l k x = l.take n ++ (k, x) :: l.drop n := by
  have e := (List.take_append_drop n l).symm
  have hb2 : ∀ q ∈ l.drop n, ltK k q.1 := fun q hq => by
    obtain ⟨j, hj, rfl⟩ := List.getElem_of_mem hq
    rw [List.length_drop] at hj
    rw [List.getElem_drop]
    exact hb (n + j) _ (by omega) (List.getElem?_eq_getElem (by omega))
  have ha2 : ∀ q ∈ l.take n, ltK q.1 k := fun q hq => by
    obtain ⟨j, hj, rfl⟩ := List.getElem_of_mem hq
    rw [List.length_take] at hj
    rw [List.getElem_take]
    have hne : ∀ i (hi : i < l.length), l[i].1 ≠ k := fun i hi e => by
      have := getL_of_mem (k := k) (x := l[i].2) hr (by rw [← e]; exact List.getElem_mem hi)
      rw [hk] at this; cases this
    have hlast : ltK (l[n - 1]'(by omega)).1 k := by
      have h1 := ha _ (by omega) (List.getElem?_eq_getElem (show n - 1 < l.length by omega))
      rcases ltK_total (hne (n - 1) (by omega)) with h | h
      · exact h
      · exact absurd h h1
    by_cases hjn : j = n - 1
    · subst hjn; exact hlast
    · have hp := List.pairwise_iff_getElem.1 hr j (n - 1) (by simp [keysL]; omega) (by simp [keysL]; omega) (by omega)
      simp [keysL] at hp
      exact ltK_trans hp hlast
  conv => lhs; rw [e]
  exact putL_parts ha2 hb2 x
end Go.Proofs.YtahgapkecabnjaaGreatDoor
/- Keys of flows compared. -/
namespace Go.Proofs.YtahgapkecabnjaaGreatDoor
set_option linter.unusedSimpArgs false
set_option linter.unusedVariables false
open Go Go.RowKit Go.Maps Go.MapKept

def kyLits (k : Ky) : List Lit := [.int .u32 k.a0, .int .u32 k.a1, .int .u16 k.p0, .int .u16 k.p1, .int .u8 k.pr]
theorem ky_lits {k : Ky} (hk : k.In) (m : Nat) : Tryz.prog.keyLits (m + 3) 45 (kyV k).cells.toList = some (kyLits k) := by
  have h0 := wf_u32 hk.a0
  have h1 := wf_u32 hk.a1
  have h2 := wf_u16 hk.p0
  have h3 := wf_u16 hk.p1
  have h4 := wf_u8 hk.pr
  have r2 : List.range 2 = [0, 1] := rfl
  simp [kyLits, kyC, Value.cells, Program.keyLits, kcells_key, kcells_u8, kcells_u16, kcells_u32, kcells_a16, kcells_a32, Tryz.underlying45, Tryz.underlying5, Tryz.underlying39, Tryz.underlying38, Tryz.underlying43, Tryz.underlying42, h0, h1, h2, h3, h4, r2]
theorem ky_formed (k : Ky) : (kyV k).formed Tryz.prog 45 = true := by simp [kyC, Value.formed, Tryz.underlying45, kcells_key]
theorem kyLits_inj {x y : Ky} (h : kyLits x = kyLits y) : x = y := by
  simp [kyLits] at h
  rw [Ky.same]
  omega
theorem key_eq (d : Nat) {x y : Ky} (hx : x.In) (hy : y.In) (w : World) : (Op.equalIn (d + 3) 45 (kyV x) (kyV y)).run Tryz.prog w = .ok (decide (x = y)) w := by
  have h := run_equalIn_deep (P := Tryz.prog) d 3 45 (by kernel_rfl)
  obtain ⟨r, hr, hiff⟩ := h w 3 3 (kyV x) (kyV y) _ _ (ky_formed x) (ky_formed y) (ky_lits hx 0) (ky_lits hy 0)
  refine hr.trans ?_
  have : r = decide (x = y) := by
    rw [Bool.eq_iff_iff, hiff, decide_eq_true_iff]
    exact ⟨kyLits_inj, fun e => by rw [e]⟩
  rw [this]
theorem depth_three : ∃ d, Op.maxDepth = d + 3 := ⟨9997, by decide⟩
theorem exec_eqKey {o : Oper} {ev : Operand → Value} {w : World} (a b : Operand) (ty : TypeId) (ho : o.op = .binOp .eql 45 a b ty) {x y : Ky} (hx : x.In) (hy : y.In) (ha : ev a = kyV x) (hb : ev b = kyV y) :
    (execOp ev o).run Tryz.prog w = .ok (.value (.bool (decide (x = y)))) w := by
  obtain ⟨d, hd⟩ := depth_three
  have hk := key_eq d hx hy w
  rw [← hd] at hk
  unfold execOp
  simp only [ho, ha, hb]
  simp [eqGuard, binOp, Op.equal, Sem.run_bind]
  rw [hk]
  rfl
theorem exec_neKey {o : Oper} {ev : Operand → Value} {w : World} (a b : Operand) (ty : TypeId) (ho : o.op = .binOp .neq 45 a b ty) {x y : Ky} (hx : x.In) (hy : y.In) (ha : ev a = kyV x) (hb : ev b = kyV y) :
    (execOp ev o).run Tryz.prog w = .ok (.value (.bool (!decide (x = y)))) w := by
  obtain ⟨d, hd⟩ := depth_three
  have hk := key_eq d hx hy w
  rw [← hd] at hk
  unfold execOp
  simp only [ho, ha, hb]
  simp [eqGuard, binOp, Op.equal, Sem.run_bind]
  rw [hk]
  simp [Result.andThen]
end Go.Proofs.YtahgapkecabnjaaGreatDoor
/- The reference's firewall in memory; Find. Printed by gen_refa.py. -/
namespace Go.Proofs.YtahgapkecabnjaaGreatDoor
set_option linter.unusedSimpArgs false
set_option linter.unusedVariables false
open Go Go.RowKit Go.Shelf Go.Lib Go.Maps Go.MapKept

/-- The reference's 27 cells: rv the slice of rules, fv the slice of flows. -/
def refC (s : St) (rv : Value) (fv : Value) : Array Value :=
  #[.int .i64 s.c.st, .int .i64 s.c.cap, .int .i64 (s.c.ts 0), .int .i64 (s.c.ts 1), .int .i64 (s.c.ts 2), .int .i64 (s.c.ts 3), .int .i64 (s.c.ts 4), .int .i64 (s.c.ts 5), .int .i64 (s.c.ts 6), .int .i64 (s.c.ts 7), .int .i64 (s.c.ts 8), .int .i64 (s.c.ts 9), .int .i64 (s.c.ts 10), .int .i64 (s.c.ts 11), .int .i64 (s.c.ts 12), .int .i64 (s.c.ts 13), .int .i64 (s.c.ts 14), .int .i64 (s.c.ts 15),
    .int .u64 (s.g : Nat), rv, fv, .int .u64 (s.told 0 : Nat), .int .u64 (s.told 1 : Nat), .int .u64 (s.told 2 : Nat), .int .u64 (s.told 3 : Nat), .int .u64 (s.told 4 : Nat), .int .u64 (s.told 5 : Nat)]
def flowC (p : Ky × (Nat × Bool)) : List Value := [.int .u32 p.1.a0, .int .u32 p.1.a1, .int .u16 p.1.p0, .int .u16 p.1.p1, .int .u8 p.1.pr, .int .u64 (p.2.1 : Nat), .bool p.2.2]
def flowsC (l : Kl (Nat × Bool)) : List Value := l.flatMap flowC
theorem flowsC_len (l : Kl (Nat × Bool)) : (flowsC l).length = l.length * 7 := by
  induction l with
  | nil => rfl
  | cons p l ih => simp only [flowsC, List.flatMap_cons, List.length_append, List.length_cons] at *; rw [ih]; simp [flowC]; omega
theorem flowsC_at : ∀ (l : Kl (Nat × Bool)) (i : Nat) (p : Ky × (Nat × Bool)) (j : Nat), l[i]? = some p → j < 7 → (flowsC l)[i * 7 + j]? = (flowC p)[j]?
  | [], i, p, j, h, _ => by simp at h
  | q :: l, 0, p, j, h, hj => by
    obtain rfl : q = p := by simpa using h
    have e : flowsC (q :: l) = flowC q ++ flowsC l := by simp [flowsC]
    rw [e, Nat.zero_mul, Nat.zero_add, List.getElem?_append_left (by simpa [flowC] using hj)]
  | q :: l, i + 1, p, j, h, hj => by
    have e : flowsC (q :: l) = flowC q ++ flowsC l := by simp [flowsC]
    have hl : (flowC q).length = 7 := rfl
    rw [e, List.getElem?_append_right (by rw [hl]; omega), hl, show (i + 1) * 7 + j - 7 = i * 7 + j by omega]
    exact flowsC_at l i p j (by simpa using h) hj
/-- The reference lies in the blocks F, its box in block ra. -/
structure RefW (w : World) (ra : Nat) (F : Nat → Prop) (s : St) (rv fv : Value) (vs : List Value) : Prop where
  box : w.heap[ra]? = some (.cells (refC s rv fv) 88 (0, 0))
  row : Row w 25 1 rv s.rules.length vs
  inner : ∀ (i : Nat) (rs : List Rl), s.rules[i]? = some rs → ∃ v : Value, vs[i]? = some v ∧ Inner w F v rs
  frow : Row w 96 7 fv s.flows.length (flowsC s.flows)
  fra : F ra
  frv : ∀ b, rv.ownBlock = some b → F b
  ffv : ∀ b, fv.ownBlock = some b → F b
def RefAt (w : World) (ra : Nat) (F : Nat → Prop) (s : St) : Prop := ∃ rv fv vs, RefW w ra F s rv fv vs
section
variable {w w' : World} {ra : Nat} {F G : Nat → Prop} {s : St} {rv fv : Value} {vs : List Value}
theorem RefW.of_turn (h : RefW w ra F s rv fv vs) (t : Turn G w w') (hs : Sep F G) : RefW w' ra F s rv fv vs := by
  refine ⟨(t.block ra (Array.getElem?_eq_some_iff.1 h.box).1 (hs _ h.fra)).trans h.box, row_turn h.row t (fun b e => hs _ (h.frv b e)), fun i rs hi => ?_, row_turn h.frow t (fun b e => hs _ (h.ffv b e)), h.fra, h.frv, h.ffv⟩
  obtain ⟨v, e, hv⟩ := h.inner i rs hi
  exact ⟨v, e, hv.keep (fun b eb => t.block b (row_lt hv.row eb) (hs _ (hv.foot b eb))) (fun _ h => h)⟩
theorem RefAt.of_turn (h : RefAt w ra F s) (t : Turn G w w') (hs : Sep F G) : RefAt w' ra F s := by
  obtain ⟨rv, fv, vs, h⟩ := h
  exact ⟨rv, fv, vs, h.of_turn t hs⟩
theorem RefW.below (h : RefW w ra F s rv fv vs) (k : Below w.heap.size w w') : RefW w' ra F s rv fv vs := h.of_turn (Turn.of_below (F := fun _ => False) k) (fun _ _ h => h)
theorem RefAt.below (h : RefAt w ra F s) (k : Below w.heap.size w w') : RefAt w' ra F s := h.of_turn (Turn.of_below (F := fun _ => False) k) (fun _ _ h => h)
theorem RefW.drewN (h : RefW w ra F s rv fv vs) (n : Nat) : RefW (w.drewN n) ra F s rv fv vs := h.of_turn ((Turn.refl (fun _ => False) w).drewN n) (fun _ _ h => h)
theorem RefW.cell (h : RefW w ra F s rv fv vs) {j : Nat} {v : Value} (hj : (refC s rv fv)[j]? = some v) : w.cell? ⟨ra, j, none⟩ = some v := by
  have := h.box
  simp [World.cell?, this, hj]
theorem RefW.free (h : RefW w ra F s rv fv vs) (j : Nat) : w.frozen? ⟨ra, j, none⟩ = false := by
  have := h.box
  simp [World.frozen?, this]
/-- The flows' slice, and where each of them lies. -/
theorem RefW.flows (h : RefW w ra F s rv fv vs) : ∃ a c, fv = .slice a s.flows.length c ∧ ∀ (i : Nat) (p : Ky × (Nat × Bool)), s.flows[i]? = some p → ∃ g, a = some ⟨g, 0, none⟩ ∧ F g ∧ ∀ j v, (flowC p)[j]? = some v → w.cell? ⟨g, i * 7 + j, none⟩ = some v ∧ w.frozen? ⟨g, i * 7 + j, none⟩ = false := by
  obtain ⟨a, c, hv, hx⟩ := row_form h.frow
  refine ⟨a, c, hv, fun i p hp => ?_⟩
  have h0 := flowsC_at s.flows i p 0 hp (by omega)
  obtain ⟨g, rfl, _, _⟩ := hx _ _ (show (flowsC s.flows)[i * 7 + 0]? = some (.int .u32 p.1.a0) from h0)
  refine ⟨g, rfl, h.ffv g (by rw [hv]; rfl), fun j v hj => ?_⟩
  have hj7 : j < 7 := (List.getElem?_eq_some_iff.1 hj).1
  obtain ⟨g', e, c1, c2⟩ := hx (i * 7 + j) v (by rw [flowsC_at s.flows i p j hp hj7]; exact hj)
  cases e
  exact ⟨c1, c2⟩
end
/-- The place of a key as Find tells it. -/
def idxI (l : Kl (Nat × Bool)) (k : Ky) : Int := match placeL l k with | some n => (n : Int) | none => -1
theorem idxI_take {l : Kl (Nat × Bool)} {k : Ky} {n : Nat} {p : Ky × (Nat × Bool)} (h : l[n]? = some p) (hk : p.1 = k) (hb : ∀ j q, j < n → l[j]? = some q → q.1 ≠ k) : idxI l k = n := by
  have hn := (List.getElem?_eq_some_iff.1 h).1
  have : placeL l k = some n := by
    unfold placeL
    rw [List.findIdx?_eq_some_iff_getElem]
    exact ⟨hn, by rw [(List.getElem?_eq_some_iff.1 h).2]; simpa using hk, fun j hj => by simpa using hb j _ hj (List.getElem?_eq_getElem (by omega))⟩
  unfold idxI
  rw [this]
theorem idxI_none {l : Kl (Nat × Bool)} {k : Ky} (hb : ∀ j q, j < l.length → l[j]? = some q → q.1 ≠ k) : idxI l k = -1 := by
  have : placeL l k = none := by
    unfold placeL
    rw [List.findIdx?_eq_none_iff]
    intro x hx
    obtain ⟨j, hj, rfl⟩ := List.getElem_of_mem hx
    simpa using hb j _ hj (List.getElem?_eq_getElem hj)
  unfold idxI
  rw [this]
set_option maxHeartbeats 4000000 in
set_option maxRecDepth 100000 in
theorem find_any {w : World} {ra : Nat} {F : Nat → Prop} {s : St} {k : Ky} (hk : k.In) (h : RefAt w ra F s) (hs : s.Ok) :
    Calls Tryz.prog 68 #[.pointer (some ⟨ra, 0, none⟩), kyV k] w fun e w' => e = .returned (.int .i64 (idxI s.flows k)) ∧ Below w.heap.size w w' := by
  have HB0 : Hid (Below w.heap.size w (w.alloc (.cells (kyC k) 45))) := Lib.hid ((Below.refl _ w).alloc (Nat.le_refl _) _)
  obtain ⟨rv, fv, vs, h⟩ := h
  have HR := Lib.hid (h.below HB0.out)
  obtain ⟨a, c, hfv, hfl⟩ := HR.out.flows
  have c0 : (w.alloc (.cells (kyC k) 45)).cell? ⟨ra, 20, none⟩ = some fv := HR.out.cell rfl
  rw [hfv] at c0
  have c1 : (w.alloc (.cells (kyC k) 45)).cell? ⟨w.heap.size, 0, none⟩ = some (.int .u32 k.a0) := by simp [kyC]
  have c2 : (w.alloc (.cells (kyC k) 45)).cell? ⟨w.heap.size, 1, none⟩ = some (.int .u32 k.a1) := by simp [kyC]
  have c3 : (w.alloc (.cells (kyC k) 45)).cell? ⟨w.heap.size, 2, none⟩ = some (.int .u16 k.p0) := by simp [kyC]
  have c4 : (w.alloc (.cells (kyC k) 45)).cell? ⟨w.heap.size, 3, none⟩ = some (.int .u16 k.p1) := by simp [kyC]
  have c5 : (w.alloc (.cells (kyC k) 45)).cell? ⟨w.heap.size, 4, none⟩ = some (.int .u8 k.pr) := by simp [kyC]
  have HFL := Lib.hid hfl
  have hN := hs.small
  have HKI := Lib.hid hk
  have HIN := Lib.hid hs.kin
  clear hs hk
  have HI1 := Lib.hid (fun n p => idxI_take (l := s.flows) (k := k) (n := n) (p := p))
  have HI2 := Lib.hid (idxI_none (l := s.flows) (k := k))
  clear h hfl hfv HR
  generalize idxI s.flows k = res at *
  generalize s.flows = fl at *
  go_enter Tryz.func68, Tryz.ntmps68
  go_wp2_with fail
  generalize hw1 : w.alloc (.cells (kyC k) 45) = w1 at *
  clear hw1
  go_loopw [5] (fun x wr => ∃ n : Nat, x = .int .i64 n ∧ n ≤ fl.length ∧ Hid (Since w1 wr) ∧ Hid (∀ j q, j < n → fl[j]? = some q → q.1 ≠ k)) (fun x _ => fl.length - (intOf x).toNat)
  case atStart => exact ⟨0, rfl, by omega, Lib.hid (Since.refl _), Lib.hid (fun j q h => by omega)⟩
  case round =>
    obtain ⟨n, rfl, hn, HSR, HNO⟩ := hrel
    have d0 := HSR.out.cell c0
    by_cases hlt : n < fl.length
    · obtain ⟨p, hp⟩ : ∃ p, fl[n]? = some p := ⟨_, List.getElem?_eq_getElem hlt⟩
      obtain ⟨g, rfl, -, hc⟩ := HFL.out n p hp
      have f0 : wr.cell? ⟨g, n * 7, none⟩ = some (.int .u32 p.1.a0) := HSR.out.cell (hc 0 _ rfl).1
      have f1 : wr.cell? ⟨g, n * 7 + 1, none⟩ = some (.int .u32 p.1.a1) := HSR.out.cell (hc 1 _ rfl).1
      have f2 : wr.cell? ⟨g, n * 7 + 2, none⟩ = some (.int .u16 p.1.p0) := HSR.out.cell (hc 2 _ rfl).1
      have f3 : wr.cell? ⟨g, n * 7 + 3, none⟩ = some (.int .u16 p.1.p1) := HSR.out.cell (hc 3 _ rfl).1
      have f4 : wr.cell? ⟨g, n * 7 + 4, none⟩ = some (.int .u8 p.1.pr) := HSR.out.cell (hc 4 _ rfl).1
      have d1 := HSR.out.cell c1
      have d2 := HSR.out.cell c2
      have d3 := HSR.out.cell c3
      have d4 := HSR.out.cell c4
      have d5 := HSR.out.cell c5
      have hni : (0 : Int) ≤ n := by omega
      have hnm : (n : Int) < (fl.length : Int) := by omega
      have HPI := Lib.hid (HIN.out p (List.mem_of_getElem? hp)).1
      obtain ⟨eqb, heq⟩ : ∃ e, decide (p.1 = k) = e := ⟨_, rfl⟩
      have HEQ := Lib.hid heq
      have HP := Lib.hid hp
      clear heq hp hc
      go_wp2_with fail
      refine WQ.enter wr (Since.refl _) (by kernel_rfl) (by kernel_rfl) ?_
      refine WQ.val (by rfl) (fun v hv => by have k0 := hv.cell d0; have k1 := hv.cell d1; have k2 := hv.cell d2; have k3 := hv.cell d3; have k4 := hv.cell d4; have k5 := hv.cell d5; have k6 := hv.cell f0; have k7 := hv.cell f1; have k8 := hv.cell f2; have k9 := hv.cell f3; have k10 := hv.cell f4; go_simp; first | done | with_reducible rfl | (rw [if_neg (by omega)])) ?_; simp only [Act.put, List.setIfInBounds_toArray, List.set_cons_zero, List.set_cons_succ]
      refine WQ.val (by rfl) (fun v hv => by have k0 := hv.cell d0; have k1 := hv.cell d1; have k2 := hv.cell d2; have k3 := hv.cell d3; have k4 := hv.cell d4; have k5 := hv.cell d5; have k6 := hv.cell f0; have k7 := hv.cell f1; have k8 := hv.cell f2; have k9 := hv.cell f3; have k10 := hv.cell f4; go_simp; first | done | with_reducible rfl | (rw [if_neg (by omega)])) ?_; simp only [Act.put, List.setIfInBounds_toArray, List.set_cons_zero, List.set_cons_succ]
      refine WQ.val (by rfl) (fun v hv => by have k0 := hv.cell d0; have k1 := hv.cell d1; have k2 := hv.cell d2; have k3 := hv.cell d3; have k4 := hv.cell d4; have k5 := hv.cell d5; have k6 := hv.cell f0; have k7 := hv.cell f1; have k8 := hv.cell f2; have k9 := hv.cell f3; have k10 := hv.cell f4; go_simp; first | done | with_reducible rfl | (rw [if_neg (by omega)])) ?_; simp only [Act.put, List.setIfInBounds_toArray, List.set_cons_zero, List.set_cons_succ]
      refine WQ.val (by rfl) (fun v hv => by have k0 := hv.cell d0; have k1 := hv.cell d1; have k2 := hv.cell d2; have k3 := hv.cell d3; have k4 := hv.cell d4; have k5 := hv.cell d5; have k6 := hv.cell f0; have k7 := hv.cell f1; have k8 := hv.cell f2; have k9 := hv.cell f3; have k10 := hv.cell f4; go_simp; first | done | with_reducible rfl | (rw [if_neg (by omega)])) ?_; simp only [Act.put, List.setIfInBounds_toArray, List.set_cons_zero, List.set_cons_succ]
      refine WQ.val (by rfl) (fun v hv => by have k0 := hv.cell d0; have k1 := hv.cell d1; have k2 := hv.cell d2; have k3 := hv.cell d3; have k4 := hv.cell d4; have k5 := hv.cell d5; have k6 := hv.cell f0; have k7 := hv.cell f1; have k8 := hv.cell f2; have k9 := hv.cell f3; have k10 := hv.cell f4; go_simp; first | done | with_reducible rfl | (rw [if_neg (by omega)])) ?_; simp only [Act.put, List.setIfInBounds_toArray, List.set_cons_zero, List.set_cons_succ]
      refine WQ.val (by rfl) (fun v hv => by have k0 := hv.cell d0; have k1 := hv.cell d1; have k2 := hv.cell d2; have k3 := hv.cell d3; have k4 := hv.cell d4; have k5 := hv.cell d5; have k6 := hv.cell f0; have k7 := hv.cell f1; have k8 := hv.cell f2; have k9 := hv.cell f3; have k10 := hv.cell f4; go_simp; first | done | with_reducible rfl | (rw [if_neg (by omega)])) ?_; simp only [Act.put, List.setIfInBounds_toArray, List.set_cons_zero, List.set_cons_succ]
      refine WQ.val (by rfl) (fun v hv => by have k0 := hv.cell d0; have k1 := hv.cell d1; have k2 := hv.cell d2; have k3 := hv.cell d3; have k4 := hv.cell d4; have k5 := hv.cell d5; have k6 := hv.cell f0; have k7 := hv.cell f1; have k8 := hv.cell f2; have k9 := hv.cell f3; have k10 := hv.cell f4; go_simp; first | done | with_reducible rfl | (rw [if_neg (by omega)])) ?_; simp only [Act.put, List.setIfInBounds_toArray, List.set_cons_zero, List.set_cons_succ]
      refine WQ.val (by rfl) (fun v hv => by have k0 := hv.cell d0; have k1 := hv.cell d1; have k2 := hv.cell d2; have k3 := hv.cell d3; have k4 := hv.cell d4; have k5 := hv.cell d5; have k6 := hv.cell f0; have k7 := hv.cell f1; have k8 := hv.cell f2; have k9 := hv.cell f3; have k10 := hv.cell f4; go_simp; first | done | with_reducible rfl | (rw [if_neg (by omega)])) ?_; simp only [Act.put, List.setIfInBounds_toArray, List.set_cons_zero, List.set_cons_succ]
      refine WQ.val (by rfl) (fun v hv => by have k0 := hv.cell d0; have k1 := hv.cell d1; have k2 := hv.cell d2; have k3 := hv.cell d3; have k4 := hv.cell d4; have k5 := hv.cell d5; have k6 := hv.cell f0; have k7 := hv.cell f1; have k8 := hv.cell f2; have k9 := hv.cell f3; have k10 := hv.cell f4; go_simp; first | done | with_reducible rfl | (rw [if_neg (by omega)])) ?_; simp only [Act.put, List.setIfInBounds_toArray, List.set_cons_zero, List.set_cons_succ]
      refine WQ.val (u := .bool eqb) (by rfl) (fun v hv => by rw [exec_eqKey (.tmp 22) (.tmp 23) _ rfl HPI.out HKI.out rfl rfl, HEQ.out]) ?_; simp only [Act.put, List.setIfInBounds_toArray, List.set_cons_zero, List.set_cons_succ]
      refine WQ.done ?_
      intro w5 hw5
      have HS5 := Lib.hid hw5
      clear hw5 d0 d1 d2 d3 d4 d5 f0 f1 f2 f3 f4
      cases eqb with
      | true =>
        have HV : Hid (res = (n : Int)) := Lib.hid (HI1.out n p HP.out (of_decide_eq_true HEQ.out) HNO.out)
        go_wp2_with fail
        go_ret
        exact ⟨by (rw [HV.out]) <;> rfl, below_then (below_then HB0.out HSR.out) HS5.out⟩
      | false =>
        have HNN : Hid (∀ j q, j < n + 1 → fl[j]? = some q → q.1 ≠ k) := Lib.hid (fun j q hj hq => by
          by_cases hjn : j = n
          · subst hjn
            rw [HP.out] at hq
            cases hq
            exact of_decide_eq_false HEQ.out
          · exact HNO.out j q (by omega) hq)
        have HS6 : Hid (Since w1 w5) := Lib.hid (below_then HSR.out HS5.out)
        go_wp2_with fail
        go_roundw
        case rel => exact ⟨n + 1, by go_num, by omega, HS6, HNN⟩
        case measure => simp [intOf]; omega
    · obtain rfl : n = fl.length := by omega
      have HV : Hid (res = -1) := Lib.hid (HI2.out HNO.out)
      go_wp2_with fail
      go_ret
      exact ⟨by (rw [HV.out]) <;> rfl, below_then HB0.out HSR.out⟩
end Go.Proofs.YtahgapkecabnjaaGreatDoor
/- Walks of the references of gate and flow. Printed by gen_gated.py. -/
namespace Go.Proofs.YtahgapkecabnjaaGreatDoor
set_option linter.unusedSimpArgs false
set_option linter.unusedVariables false
open Go Go.RowKit

set_option maxHeartbeats 4000000 in
set_option maxRecDepth 100000 in
theorem rgunpack_any (v a b c : Nat) (w : World) (hv : U64 v) (h1 : verW v = a) (h2 : cntW v = b) (h3 : clkW v = c) :
    Calls Tryz.prog 38 #[.int .u64 v] w fun e w' => e = .returned (.agg #[.int .i64 a, .int .i64 b, .int .i64 c]) ∧ Below w.heap.size w w' := by
  obtain ⟨-, p1, p2, p3⟩ := gate_parts hv
  have hv0 : (0 : Int) ≤ (v : Int) := by omega
  have hv1 : (v : Int) < 18446744073709551616 := by unfold U64 at hv; omega
  have q1 : IntKind.u64.wrap ((v : Int).tdiv 4503599627370496) = ((verW v : Nat) : Int) := by
    rw [Int.tdiv_eq_ediv_of_nonneg hv0, wrapU]; unfold verW; omega
  have q2 : (IntKind.u64.wrap ((v : Int).tdiv 1099511627776)).tmod 4096 = ((cntW v : Nat) : Int) := by
    rw [Int.tdiv_eq_ediv_of_nonneg hv0, wrapU, Int.tmod_eq_emod_of_nonneg (by omega)]; unfold cntW; omega
  have q3 : (v : Int).tmod 1099511627776 = ((clkW v : Nat) : Int) := by
    rw [Int.tmod_eq_emod_of_nonneg hv0]; unfold clkW; omega
  have w1 : wrap64 ((verW v : Nat) : Int) = ((verW v : Nat) : Int) := by unfold wrap64; omega
  have w2 : wrap64 ((cntW v : Nat) : Int) = ((cntW v : Nat) : Int) := by unfold wrap64; omega
  have w3 : wrap64 ((clkW v : Nat) : Int) = ((clkW v : Nat) : Int) := by unfold wrap64; omega
  subst h1 h2 h3
  clear p1 p2 p3 hv hv0 hv1
  generalize verW v = x at *
  generalize cntW v = y at *
  generalize clkW v = z at *
  generalize (x : Int) = x at *
  generalize (y : Int) = y at *
  generalize (z : Int) = z at *
  generalize (v : Int) = vi at *
  go_enter Tryz.func38, Tryz.ntmps38
  go_wp2_with fail
  refine bodyPost_ret (v := .agg #[.int .i64 x, .int .i64 y, .int .i64 z]) (by simp [results, Tryz.results38, go_sem, *]) rfl ⟨rfl, ?_⟩
  first
    | exact (Below.refl _ _).alloc (Nat.le_refl _) _
    | exact ((((Below.refl _ _).alloc (Nat.le_refl _) _).setCell (p := ⟨w.heap.size, 0, none⟩) (Nat.le_refl _) _).setCell (p := ⟨w.heap.size, 1, none⟩) (Nat.le_refl _) _).setCell (p := ⟨w.heap.size, 2, none⟩) (Nat.le_refl _) _
set_option maxHeartbeats 4000000 in
set_option maxRecDepth 100000 in
theorem rfunpack_any (v a b c : Nat) (w : World) (hv : U64 v) (h1 : stW v = a) (h2 : seqW v = b) (h3 : untW v = c) :
    Calls Tryz.prog 39 #[.int .u64 v] w fun e w' => e = .returned (.agg #[.int .i64 a, .int .i64 b, .int .i64 c]) ∧ Below w.heap.size w w' := by
  obtain ⟨-, p1, p2, p3⟩ := flow_parts hv
  have hv0 : (0 : Int) ≤ (v : Int) := by omega
  have hv1 : (v : Int) < 18446744073709551616 := by unfold U64 at hv; omega
  have q1 : IntKind.u64.wrap ((v : Int).tdiv 1152921504606846976) = ((stW v : Nat) : Int) := by
    rw [Int.tdiv_eq_ediv_of_nonneg hv0, wrapU]; unfold stW; omega
  have q2 : (IntKind.u64.wrap ((v : Int).tdiv 1099511627776)).tmod 1048576 = ((seqW v : Nat) : Int) := by
    rw [Int.tdiv_eq_ediv_of_nonneg hv0, wrapU, Int.tmod_eq_emod_of_nonneg (by omega)]; unfold seqW; omega
  have q3 : (v : Int).tmod 1099511627776 = ((untW v : Nat) : Int) := by
    rw [Int.tmod_eq_emod_of_nonneg hv0]; unfold untW; omega
  have w1 : wrap64 ((stW v : Nat) : Int) = ((stW v : Nat) : Int) := by unfold wrap64; omega
  have w2 : wrap64 ((seqW v : Nat) : Int) = ((seqW v : Nat) : Int) := by unfold wrap64; omega
  have w3 : wrap64 ((untW v : Nat) : Int) = ((untW v : Nat) : Int) := by unfold wrap64; omega
  subst h1 h2 h3
  clear p1 p2 p3 hv hv0 hv1
  generalize stW v = x at *
  generalize seqW v = y at *
  generalize untW v = z at *
  generalize (x : Int) = x at *
  generalize (y : Int) = y at *
  generalize (z : Int) = z at *
  generalize (v : Int) = vi at *
  go_enter Tryz.func39, Tryz.ntmps39
  go_wp2_with fail
  refine bodyPost_ret (v := .agg #[.int .i64 x, .int .i64 y, .int .i64 z]) (by simp [results, Tryz.results39, go_sem, *]) rfl ⟨rfl, ?_⟩
  first
    | exact (Below.refl _ _).alloc (Nat.le_refl _) _
    | exact ((((Below.refl _ _).alloc (Nat.le_refl _) _).setCell (p := ⟨w.heap.size, 0, none⟩) (Nat.le_refl _) _).setCell (p := ⟨w.heap.size, 1, none⟩) (Nat.le_refl _) _).setCell (p := ⟨w.heap.size, 2, none⟩) (Nat.le_refl _) _
set_option maxHeartbeats 4000000 in
set_option maxRecDepth 100000 in
theorem rgpack_any (a b c n : Int) (w : World) (h1 : 0 ≤ a ∧ a ≤ 4095) (h2 : 0 ≤ b ∧ b ≤ 4095) (h3 : 0 ≤ c ∧ c ≤ 1099511627775) (hn : (a * 4096 + b) * 1099511627776 + c = n) :
    Calls Tryz.prog 96 #[.agg #[.int .i64 a, .int .i64 b, .int .i64 c]] w fun e w' => e = .returned (.tuple #[.int .u64 n, .int .i64 0]) ∧ Below w.heap.size w w' := by
  subst hn
  have a1 : ¬ a < 0 := by omega
  have a2 : ¬ 4095 < a := by omega
  have b1 : ¬ b < 0 := by omega
  have b2 : ¬ 4095 < b := by omega
  have b3 : ¬ 4096 ≤ b := by omega
  have c1 : ¬ c < 0 := by omega
  have c2 : ¬ 1099511627776 ≤ c := by omega
  have u1 : IntKind.u64.wrap a = a := by rw [wrapU]; omega
  have u2 : IntKind.u64.wrap b = b := by rw [wrapU]; omega
  have u3 : IntKind.u64.wrap c = c := by rw [wrapU]; omega
  have u4 : IntKind.u64.wrap (a * 4096) = a * 4096 := by rw [wrapU]; omega
  have u5 : IntKind.u64.wrap (a * 4096 + b) = a * 4096 + b := by rw [wrapU]; omega
  have u6 : IntKind.u64.wrap ((a * 4096 + b) * 1099511627776) = (a * 4096 + b) * 1099511627776 := by rw [wrapU]; omega
  have u7 : IntKind.u64.wrap ((a * 4096 + b) * 1099511627776 + c) = (a * 4096 + b) * 1099511627776 + c := by rw [wrapU]; omega
  clear h1 h2 h3
  go_enter Tryz.func96, Tryz.ntmps96
  go_wp2_with fail
  all_goals first
    | (exfalso; omega)
    | (go_ret2; exact ⟨by first | rfl | simp_all, (Below.refl _ _).alloc (Nat.le_refl _) _⟩)
set_option maxHeartbeats 4000000 in
set_option maxRecDepth 100000 in
theorem rfpack_any (a b c n : Int) (w : World) (h1 : 0 ≤ a ∧ a ≤ 15) (h2 : 0 ≤ b ∧ b ≤ 1048575) (h3 : 0 ≤ c ∧ c ≤ 1099511627775) (hn : (a * 1048576 + b) * 1099511627776 + c = n) :
    Calls Tryz.prog 99 #[.agg #[.int .i64 a, .int .i64 b, .int .i64 c]] w fun e w' => e = .returned (.tuple #[.int .u64 n, .int .i64 0]) ∧ Below w.heap.size w w' := by
  subst hn
  have a1 : ¬ a < 0 := by omega
  have a2 : ¬ 15 < a := by omega
  have b1 : ¬ b < 0 := by omega
  have b2 : ¬ 1048575 < b := by omega
  have b3 : ¬ 1048576 ≤ b := by omega
  have c1 : ¬ c < 0 := by omega
  have c2 : ¬ 1099511627776 ≤ c := by omega
  have u1 : IntKind.u64.wrap a = a := by rw [wrapU]; omega
  have u2 : IntKind.u64.wrap b = b := by rw [wrapU]; omega
  have u3 : IntKind.u64.wrap c = c := by rw [wrapU]; omega
  have u4 : IntKind.u64.wrap (a * 1048576) = a * 1048576 := by rw [wrapU]; omega
  have u5 : IntKind.u64.wrap (a * 1048576 + b) = a * 1048576 + b := by rw [wrapU]; omega
  have u6 : IntKind.u64.wrap ((a * 1048576 + b) * 1099511627776) = (a * 1048576 + b) * 1099511627776 := by rw [wrapU]; omega
  have u7 : IntKind.u64.wrap ((a * 1048576 + b) * 1099511627776 + c) = (a * 1048576 + b) * 1099511627776 + c := by rw [wrapU]; omega
  clear h1 h2 h3
  go_enter Tryz.func99, Tryz.ntmps99
  go_wp2_with fail
  all_goals first
    | (exfalso; omega)
    | (go_ret2; exact ⟨by first | rfl | simp_all, (Below.refl _ _).alloc (Nat.le_refl _) _⟩)
set_option maxHeartbeats 4000000 in
set_option maxRecDepth 100000 in
theorem rgwith_any (a b c n : Int) (w : World) (h1 : 0 ≤ a ∧ a ≤ 4095) (h2 : 0 ≤ b ∧ b ≤ 4095) (h3 : 0 ≤ c ∧ c ≤ 1099511627775) (hn : (a * 4096 + b) * 1099511627776 + c = n) :
    Calls Tryz.prog 65 #[.agg #[.int .i64 a, .int .i64 b, .int .i64 c]] w fun e w' => e = .returned (.int .u64 n) ∧ Below w.heap.size w w' := by
  have HP := Lib.hid (fun W => rgpack_any a b c n W h1 h2 h3 hn)
  clear h1 h2 h3 hn
  go_enter Tryz.func65, Tryz.ntmps65
  go_wp2_with fail
  refine (HP.out _).mono ?_
  rintro e w1 ⟨rfl, h1⟩
  have HB1 : Hid (Below w.heap.size w w1) := Lib.hid (Below.trans ((Below.refl _ _).alloc (Nat.le_refl _) _) (h1.mono (by simp)))
  clear h1
  go_wp2_with fail
  go_ret
  exact ⟨rfl, HB1.out⟩
end Go.Proofs.YtahgapkecabnjaaGreatDoor
