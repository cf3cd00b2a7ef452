/- The walk of the reference's Same of layer 11, where both are the same lines. Printed by gen_textd.py. -/
import Derived.Test.YtfiddoibnjildaaGreatDoorTextC
namespace Go.Proofs.YtfiddoibnjildaaGreatDoor
set_option linter.unusedSimpArgs false
set_option linter.unusedVariables false
open Go Go.RowKit

theorem Lines.at {w : World} {v : Value} {ls : List Ln} (h : Lines w v ls) : ∃ a c, v = .slice a ls.length c ∧ ∀ (i : Nat) (hi : i < ls.length), ∃ b o a' c', a = some ⟨b, o, none⟩ ∧ w.cell? ⟨b, o + i * 2, none⟩ = some (.int .i64 ls[i].1) ∧
    w.cell? ⟨b, o + i * 2 + 1, none⟩ = some (.slice a' ls[i].2.length c') ∧ ∀ (j : Nat) (hj : j < ls[i].2.length), ∃ b' o', a' = some ⟨b', o', none⟩ ∧ w.cell? ⟨b', o' + j, none⟩ = some (str ls[i].2[j]) := by
  obtain ⟨a, c, rfl, hc, h3⟩ := h
  refine ⟨a, c, rfl, fun i hi => ?_⟩
  obtain ⟨b, o, wv, rfl, k1, k2, a', c', rfl, _, k3⟩ := h3 i _ (List.getElem?_eq_getElem hi)
  refine ⟨b, o, a', c', rfl, by rw [Nat.mul_comm]; exact k1, by rw [Nat.mul_comm]; exact k2, fun j hj => ?_⟩
  obtain ⟨b', o', rfl, _, k⟩ := k3 j _ (List.getElem?_eq_getElem hj)
  exact ⟨b', o', rfl, k⟩
end Go.Proofs.YtfiddoibnjildaaGreatDoor
