/- Rules among the arguments; the walk of RulesPrints. Printed by gen_rulek.py. -/
import Derived.Test.YtfiddoibnjildaaGreatDoorRuleJ
import Derived.Test.YtfiddoibnjildaaGreatDoorReadS
import Derived.Test.YtfiddoibnjildaaGreatDoorLaidA
namespace Go.Proofs.YtfiddoibnjildaaGreatDoor
set_option linter.unusedSimpArgs false
set_option linter.unusedVariables false
open Go Go.RowKit Go.ChangeShapes Go.WideShapes

theorem nat_u {k : IntKind} {z : Int} {m : Nat} (h : (Lit.int k z).wf = true) (h0 : k.min = 0) (h1 : k.max = (m : Int)) : ∃ n : Nat, z = n ∧ n ≤ m := by
  have h2 : k.min ≤ z ∧ z ≤ k.max := by simpa [Lit.wf] using h
  rw [h0, h1] at h2
  obtain ⟨n, rfl⟩ := Int.eq_ofNat_of_zero_le h2.1
  exact ⟨n, rfl, by omega⟩
abbrev ruleTs : List TypeId := [4, 5, 37, 3, 37, 3, 40, 40, 40, 40]
theorem open_leafs_rule {H : Type} {enc : TypeId × Value → H} {w : World} {b : Nat} {sp : Nat → Bool} {held : Bool} {cs : List Value} (h : Leafs enc Tryz.prog w b sp held ruleTs cs) (hl : cs.length = 10) : ∃ r : Rl, r.In ∧ cs = ruleC r := by
  match cs, hl with
  | [x0, x1, x2, x3, x4, x5, x6, x7, x8, x9], _ =>
    obtain ⟨h0, h1, h2, h3, h4, h5, h6, h7, h8, h9, _⟩ := h
    obtain ⟨acc, rfl⟩ := h0.bool Tryz.underlying4
    obtain ⟨n1, rfl, w1⟩ := h1.int Tryz.underlying5
    obtain ⟨n2, rfl, w2⟩ := h2.int Tryz.underlying37
    obtain ⟨n3, rfl, w3⟩ := h3.int Tryz.underlying3
    obtain ⟨n4, rfl, w4⟩ := h4.int Tryz.underlying37
    obtain ⟨n5, rfl, w5⟩ := h5.int Tryz.underlying3
    obtain ⟨n6, rfl, w6⟩ := h6.int Tryz.underlying40
    obtain ⟨n7, rfl, w7⟩ := h7.int Tryz.underlying40
    obtain ⟨n8, rfl, w8⟩ := h8.int Tryz.underlying40
    obtain ⟨n9, rfl, w9⟩ := h9.int Tryz.underlying40
    obtain ⟨pr, rfl, b1⟩ := nat_u (m := 255) w1 rfl rfl
    obtain ⟨sa, rfl, b2⟩ := nat_u (m := 4294967295) w2 rfl rfl
    obtain ⟨da, rfl, b4⟩ := nat_u (m := 4294967295) w4 rfl rfl
    obtain ⟨sl, rfl, b6⟩ := nat_u (m := 65535) w6 rfl rfl
    obtain ⟨sh, rfl, b7⟩ := nat_u (m := 65535) w7 rfl rfl
    obtain ⟨dl, rfl, b8⟩ := nat_u (m := 65535) w8 rfl rfl
    obtain ⟨dh, rfl, b9⟩ := nat_u (m := 65535) w9 rfl rfl
    exact ⟨⟨acc, pr, sa, n3, da, n5, sl, sh, dl, dh⟩, ⟨by show pr < 256; omega, by show sa < 4294967296; omega, by show da < 4294967296; omega, by show sl < 65536; omega, by show sh < 65536; omega, by show dl < 65536; omega, by show dh < 65536; omega⟩, rfl⟩
set_option maxRecDepth 100000 in
theorem open_rule {H : Type} {enc : TypeId × Value → H} {w : World} {base : Nat} {sp : Nat → Bool} {held : Bool} {v : Value} {r : Reach} {b : Nat} {x : DataW H} {ps : List MemPlace}
    (hv : Value.okWide Tryz.prog w r b 44 v) (h : DataW.Trod enc Tryz.prog w base sp held 44 v x ps) : ∃ r : Rl, v = ruleW r ∧ r.In := by
  obtain ⟨cs, rfl, hl⟩ := open_leafs (d := 4) (ts := ruleTs) (by kernel_rfl) (by kernel_rfl) (by kernel_rfl) hv h
  have hlen : cs.toList.length = 10 := by
    have : ∀ (ts : List TypeId) (cs : List Value), Leafs enc Tryz.prog w base sp held ts cs → cs.length = ts.length := fun ts => by
      induction ts with
      | nil => intro cs h; cases cs with
        | nil => rfl
        | cons => exact h.elim
      | cons t ts ih => intro cs h; cases cs with
        | nil => exact h.elim
        | cons c cs => simp only [List.length_cons]; rw [ih cs h.2]
    exact this _ _ hl
  obtain ⟨r, hr, e⟩ := open_leafs_rule hl hlen
  obtain ⟨l⟩ := cs
  simp only at e
  subst e
  exact ⟨r, rfl, hr⟩
/-- Rules that are read. -/
structure RdRules (w : World) (a : Option Addr) (len cap : Nat) : Prop where
  le : len ≤ cap
  cap : cap ≤ maxLen
  some_ : 0 < len → ∃ ad, a = some ad
  rules : ∃ rs : List Rl, rs.length = len ∧ RulesAt w a rs
theorem open_slice_leafs2 {H : Type} {enc : TypeId × Value → H} {P : Program} {W : World} {base b : Nat} {held : Bool} {d : Nat} {t e : TypeId} {ts : List TypeId} {v : Value} {x : DataW H} {ps : List MemPlace}
    (ht : P.underlying t = some (.slice e)) (hl : leafs P d e = some ts) (hc : P.cellsOf e = ts.length) (hv : Value.okWide P W .any base t v) (h : DataW.Trod enc P W b (fun _ => true) held t v x ps) :
    ∃ a len cap, v = .slice a len cap ∧ len ≤ cap ∧ cap ≤ maxLen ∧ ∀ j, j < len → ∃ ad cs, a = some ad ∧ (∀ k, k < ts.length → W.cell? ((ad.add (j * ts.length)).add k) = cs[k]?) ∧ cs.length = ts.length ∧ Leafs enc P W b (fun _ => true) held ts cs := by
  obtain ⟨a, len, cap, rfl⟩ := WideShapes.okWide_slice ht hv
  obtain ⟨fuel, hf⟩ := h
  rcases Go.Deep.open_slice ht hf with ⟨hcs, _⟩ | ⟨a', len', cap', m, n, D, Pl, hcs, hb, hle, hm, hmm, _, hx⟩
  · simp [Value.cells] at hcs
    obtain ⟨rfl, rfl, rfl⟩ := hcs
    exact ⟨none, 0, 0, rfl, by decide, by decide, fun j hj => absurd hj (by omega)⟩
  · simp [Value.cells] at hcs
    obtain ⟨rfl, rfl, rfl⟩ := hcs
    refine ⟨_, _, _, rfl, hle, hm, fun j hj => ?_⟩
    obtain ⟨cs, h1, h2⟩ := hx j (by rw [hmm]; simp; omega)
    rw [hc] at h1
    obtain ⟨h3, h4, h5⟩ := World.cells?_some h1
    exact ⟨_, cs, rfl, h5, h4, leafs_of_trod d e ts cs n hl h4 ⟨_, h2⟩⟩
set_option maxRecDepth 100000 in
theorem open_rules {H : Type} {enc : TypeId × Value → H} {W : World} {base b : Nat} {held : Bool} {v : Value} {x : DataW H} {ps : List MemPlace}
    (hv : Value.okWide Tryz.prog W .any base 22 v) (h : DataW.Trod enc Tryz.prog W b (fun _ => true) held 22 v x ps) :
    ∃ a len cap, v = .slice a len cap ∧ RdRules W a len cap := by
  obtain ⟨a, len, cap, rfl, h1, h2, hx⟩ := open_slice_leafs2 (d := 4) (ts := ruleTs) Tryz.underlying22 (by kernel_rfl) (by kernel_rfl) hv h
  have hy : ∀ j, j < len → ∃ r : Rl, r.In ∧ ∃ ad, a = some ad ∧ RuleAt W (ad.add (j * 10)) r := fun j hj => by
    obtain ⟨ad, cs, rfl, g1, g2, g3⟩ := hx j hj
    obtain ⟨r, hr, rfl⟩ := open_leafs_rule g3 g2
    have hz : ∀ a : Addr, a.add 0 = a := fun a => by simp [Addr.add]
    have e0 := g1 0 (by decide)
    rw [hz] at e0
    exact ⟨r, hr, ad, rfl, e0, g1 1 (by decide), g1 2 (by decide), g1 3 (by decide), g1 4 (by decide), g1 5 (by decide), g1 6 (by decide), g1 7 (by decide), g1 8 (by decide), g1 9 (by decide)⟩
  haveI : Inhabited Rl := ⟨⟨false, 0, 0, 0, 0, 0, 0, 0, 0, 0⟩⟩
  obtain ⟨f, hf⟩ := Go.Deep.choose_lt hy
  refine ⟨a, len, cap, rfl, h1, h2, fun h0 => ?_, (List.range len).map f, by simp, fun j r hj => ?_⟩
  · obtain ⟨_, ad, e, _⟩ := hf 0 h0
    exact ⟨ad, e⟩
  · rw [List.getElem?_map] at hj
    obtain ⟨i, hi, rfl⟩ := Option.map_eq_some_iff.1 hj
    obtain ⟨hil, e⟩ := List.getElem?_eq_some_iff.1 hi
    simp at hil e
    subst e
    exact hf j hil
/-- The first eighty. -/
theorem RdRules.few {w : World} {a : Option Addr} {len cap : Nat} (h : RdRules w a len cap) : ∃ rs : List Rl, min len 80 = rs.length ∧ rs.length ≤ maxLen ∧ RulesAt w a rs := by
  obtain ⟨rs, hl, hr⟩ := h.rules
  refine ⟨rs.take 80, by rw [List.length_take, hl]; omega, ?_, fun j r hj => ?_⟩
  · have h1 := h.le
    have h2 := h.cap
    rw [List.length_take, hl]
    exact Nat.le_trans (Nat.min_le_right _ _) (Nat.le_trans h1 h2)
  · rw [List.getElem?_take] at hj
    split at hj
    · exact hr j r hj
    · cases hj
end Go.Proofs.YtfiddoibnjildaaGreatDoor
