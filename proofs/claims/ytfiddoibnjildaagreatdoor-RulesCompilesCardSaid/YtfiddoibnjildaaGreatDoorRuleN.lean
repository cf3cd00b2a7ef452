/- Plain law for the reference's Compile: what Lines' words are, the joined line, the search for a protocol. No program in sight. -/
import Derived.Test.YtfiddoibnjildaaGreatDoorRuleP
namespace Go.Proofs.YtfiddoibnjildaaGreatDoor
set_option linter.unusedSimpArgs false
set_option linter.unusedVariables false
open Go.Lib

theorem rising_ok : ∀ (ls : List Ln) (n : Nat), Rising n ls → ∀ x ∈ ls, ∀ w ∈ x.2, okW w
  | [], _, _, x, hx, _, _ => by cases hx
  | (m, ws) :: r, n, h, x, hx, w, hw => by
    obtain ⟨_, _, h3, h4⟩ := h
    rcases List.mem_cons.1 hx with rfl | hx
    · exact h3 w hw
    · exact rising_ok r (m + 1) h4 x hx w hw
/-- The words of a text's lines hold neither a space nor a #. -/
theorem textF_ok {l : List UInt8} {ls : List Ln} {a : Nat} {c : Int} (h : textF l = (ls, a, c)) : ∀ x ∈ ls, ∀ w ∈ x.2, okW w := by
  unfold textF at h
  split at h
  · cases h; intro x hx; cases hx
  · cases hb : firstBad l with
    | some i => rw [hb] at h; cases h; intro x hx; cases hx
    | none =>
      rw [hb] at h; cases h
      exact rising_ok _ 1 (lines_rising hb)
theorem join_six (a b c d e f : List UInt8) : Lib.join [a, b, c, d, e, f] [32] = a ++ [32] ++ b ++ [32] ++ c ++ [32] ++ d ++ [32] ++ e ++ [32] ++ f := by
  rw [Lib.join_cons]; simp [Lib.joinTail]
theorem proto_next (l : List UInt8) (k : Nat) : protoUpTo l (k + 1) = if wordF k = l then k else protoUpTo l k := rfl
theorem proto_lt (l : List UInt8) : ∀ k, protoUpTo l k ≤ k
  | 0 => Nat.le_refl _
  | k + 1 => by
    rw [proto_next]
    split
    · omega
    · have := proto_lt l k; omega
/-- What the reference does with a line's six words. -/
theorem comp_ref {w0 w1 w2 w3 w4 w5 : List UInt8} (hw : ∀ w ∈ [w0, w1, w2, w3, w4, w5], okW w) :
    ruleOf [w0, w1, w2, w3, w4, w5] = if (goodR (refRule w0 w1 w2 w3 w4 w5) && (Lib.join (wordsR (refRule w0 w1 w2 w3 w4 w5)) [32] == Lib.join [w0, w1, w2, w3, w4, w5] [32])) = true then some (refRule w0 w1 w2 w3 w4 w5) else none := by
  have h := refRule_iff hw
  split
  · rename_i hc
    rw [Bool.and_eq_true, beq_iff_eq] at hc
    exact h.1 hc
  · rename_i hc
    cases hr : ruleOf [w0, w1, w2, w3, w4, w5] with
    | none => rfl
    | some r =>
      have e := ruleOf_ref hr
      rw [← e] at hr
      have := h.2 hr
      exact absurd (by rw [Bool.and_eq_true, beq_iff_eq]; exact this) hc
end Go.Proofs.YtfiddoibnjildaaGreatDoor
