/- Plain law of package rules: spans, rules, their lines, texts of rules. No program in sight. -/
import Derived.Test.YtahgapkecabnjaaGreatDoorC03
import Derived.Test.YtahgapkecabnjaaGreatDoorProg
import Derived.WalkKit
import Derived.KernelRfl
import Derived.OwnWalk
import Derived.Outline
import Derived.Deep.Light
import Derived.Below
import Derived.LoopTactic
import Derived.Lib.Hide
import Derived.Deep.LoopGhost
import Derived.Lib.ConvBytes
import Derived.Laws.IdiomStrings
namespace Go.Proofs.YtahgapkecabnjaaGreatDoor
set_option linter.unusedSimpArgs false
set_option linter.unusedVariables false
open Go.Lib

def big62' : Nat := 4611686018427387904
def acceptL : List UInt8 := [97, 99, 99, 101, 112, 116]
def dropL : List UInt8 := [100, 114, 111, 112]
def icmpL : List UInt8 := [105, 99, 109, 112]
def tcpL : List UInt8 := [116, 99, 112]
def udpL : List UInt8 := [117, 100, 112]
/-- A protocol's word. -/
def wordF (n : Nat) : List UInt8 := if n = 0 then anyL else if n = 1 then icmpL else if n = 6 then tcpL else if n = 17 then udpL else []
/-- A word's protocol. -/
def protoOf (l : List UInt8) : Option Nat := if l = anyL then some 0 else if l = icmpL then some 1 else if l = tcpL then some 6 else if l = udpL then some 17 else none
theorem protoOf_iff {l : List UInt8} {n : Nat} : protoOf l = some n ↔ wordF n = l ∧ wordF n ≠ [] := by
  unfold protoOf wordF
  constructor
  · intro h
    split at h
    · cases h; subst_vars; exact ⟨rfl, by decide⟩
    · split at h
      · cases h; subst_vars; exact ⟨rfl, by decide⟩
      · split at h
        · cases h; subst_vars; exact ⟨rfl, by decide⟩
        · split at h
          · cases h; subst_vars; exact ⟨rfl, by decide⟩
          · cases h
  · rintro ⟨h1, h2⟩
    subst h1
    split at h2
    · rename_i h; subst h; rfl
    · split at h2
      · rename_i h; subst h; rfl
      · split at h2
        · rename_i h; subst h; rfl
        · split at h2
          · rename_i h; subst h; rfl
          · exact absurd rfl h2
/-- A span's text. -/
def spanL (lo hi : Nat) : List UInt8 := if lo = 0 ∧ hi = 65535 then anyL else if lo = hi then decDigits lo else decDigits lo ++ 45 :: decDigits hi
theorem dash_no (n : Nat) : (45 : UInt8) ∉ decDigits n := dec_no (by unfold digit; decide)
theorem any_no (n : Nat) : decDigits n ≠ anyL := fun e => by
  have : (97 : UInt8) ∈ decDigits n := by rw [e]; decide
  exact absurd (dec_digits n _ this) (by unfold digit; decide)
/-- What a number's text says. -/
def numV (l : List UInt8) : Nat := if isNum l big62' then valOf l else 0
/-- What a span's text says, part by part. -/
def cutA (l : List UInt8) : List UInt8 := (Lib.cut l [45]).1
def cutB (l : List UInt8) : List UInt8 := if (Lib.cut l [45]).2.2 then (Lib.cut l [45]).2.1 else cutA l
def portB (l : List UInt8) : Bool := isNum l big62' && decide (numV l ≤ 65535)
def spanOf (l : List UInt8) : Option (Nat × Nat) :=
  if l = anyL then some (0, 65535)
  else if portB (cutA l) = true ∧ portB (cutB l) = true ∧ spanL (numV (cutA l)) (numV (cutB l)) = l ∧ numV (cutA l) ≤ numV (cutB l) then some (numV (cutA l), numV (cutB l)) else none
theorem numV_dec {n : Nat} (h : n ≤ 65535) : numV (decDigits n) = n ∧ portB (decDigits n) = true := by
  have h1 : isNum (decDigits n) big62' = true := isNum_dec (by unfold big62'; omega)
  have h2 : numV (decDigits n) = n := by unfold numV; rw [if_pos h1, valOf_dec]
  exact ⟨h2, by unfold portB; rw [h1, h2]; simpa using h⟩
theorem cut_dec (n : Nat) : cutA (decDigits n) = decDigits n ∧ cutB (decDigits n) = decDigits n := by
  have := cut_none (dash_no n)
  constructor
  · unfold cutA; rw [this]
  · unfold cutB cutA; rw [this]; rfl
theorem cut_two (a b : Nat) : cutA (decDigits a ++ 45 :: decDigits b) = decDigits a ∧ cutB (decDigits a ++ 45 :: decDigits b) = decDigits b := by
  have := cut_at (r := decDigits b) (dash_no a)
  constructor
  · unfold cutA; rw [this]
  · unfold cutB; rw [this]; rfl
theorem dash_any (a b : Nat) : decDigits a ++ 45 :: decDigits b ≠ anyL := fun e => by
  have : (45 : UInt8) ∈ anyL := by rw [← e]; simp
  revert this; decide
theorem spanL_any {lo hi : Nat} (h : spanL lo hi = anyL) : lo = 0 ∧ hi = 65535 := by
  unfold spanL at h
  split at h
  · assumption
  · split at h
    · exact absurd h (any_no _)
    · exact absurd h (dash_any _ _)
/-- The parts of a span's text. -/
theorem span_parts {lo hi : Nat} (h1 : lo ≤ 65535) (h2 : hi ≤ 65535) (hne : spanL lo hi ≠ anyL) : numV (cutA (spanL lo hi)) = lo ∧ numV (cutB (spanL lo hi)) = hi ∧ portB (cutA (spanL lo hi)) = true ∧ portB (cutB (spanL lo hi)) = true := by
  unfold spanL at hne ⊢
  split
  · rename_i h; rw [if_pos h] at hne; exact absurd rfl hne
  · split
    · rename_i h; subst h
      rw [(cut_dec lo).1, (cut_dec lo).2]
      exact ⟨(numV_dec h1).1, (numV_dec h1).1, (numV_dec h1).2, (numV_dec h1).2⟩
    · rw [(cut_two lo hi).1, (cut_two lo hi).2]
      exact ⟨(numV_dec h1).1, (numV_dec h2).1, (numV_dec h1).2, (numV_dec h2).2⟩
theorem spanOf_iff {l : List UInt8} {lo hi : Nat} : spanOf l = some (lo, hi) ↔ lo ≤ hi ∧ hi ≤ 65535 ∧ spanL lo hi = l := by
  constructor
  · intro h
    unfold spanOf at h
    split at h
    · rename_i hl
      injection h with h; injection h with e1 e2
      subst e1 e2
      exact ⟨by decide, by decide, by rw [hl]; rfl⟩
    · split at h
      · rename_i hc
        injection h with h; injection h with e1 e2
        subst e1 e2
        obtain ⟨h1, h2, h3, h4⟩ := hc
        unfold portB at h2
        simp at h2
        exact ⟨h4, h2.2, h3⟩
      · cases h
  · rintro ⟨h1, h2, h3⟩
    unfold spanOf
    split
    · rename_i hl
      rw [hl] at h3
      obtain ⟨rfl, rfl⟩ := spanL_any h3
      rfl
    · rename_i hl
      have := span_parts (lo := lo) (hi := hi) (by omega) h2 (by rw [h3]; exact hl)
      rw [h3] at this
      obtain ⟨e1, e2, e3, e4⟩ := this
      rw [e1, e2, e3, e4, if_pos ⟨rfl, rfl, h3, h1⟩]
/-- What the reference sees in a span's text. -/
def refSpan (l : List UInt8) : Nat × Nat :=
  if l = anyL then (0, 65535) else if numV (cutA l) > 65535 ∨ numV (cutB l) > 65535 then (1, 0) else (numV (cutA l), numV (cutB l))
theorem refSpan_iff {l : List UInt8} : spanOf l = some (refSpan l) ↔ (refSpan l).1 ≤ (refSpan l).2 ∧ spanL (refSpan l).1 (refSpan l).2 = l := by
  constructor
  · intro h
    have := spanOf_iff.1 (show spanOf l = some ((refSpan l).1, (refSpan l).2) from h)
    exact ⟨this.1, this.2.2⟩
  · rintro ⟨h1, h2⟩
    show spanOf l = some ((refSpan l).1, (refSpan l).2)
    refine (spanOf_iff (lo := (refSpan l).1) (hi := (refSpan l).2)).2 ⟨h1, ?_, h2⟩
    by_cases hl : l = anyL
    · have e : refSpan l = (0, 65535) := if_pos hl
      rw [e]; exact Nat.le_refl _
    · by_cases h3 : numV (cutA l) > 65535 ∨ numV (cutB l) > 65535
      · have e : refSpan l = (1, 0) := (if_neg hl).trans (if_pos h3)
        rw [e] at h1; exact absurd h1 (by decide)
      · have e : refSpan l = (numV (cutA l), numV (cutB l)) := (if_neg hl).trans (if_neg h3)
        rw [e]
        show numV (cutB l) ≤ 65535
        omega
theorem refSpan_of {l : List UInt8} {lo hi : Nat} (h : spanOf l = some (lo, hi)) : refSpan l = (lo, hi) := by
  have hh := spanOf_iff.1 h
  unfold refSpan
  split
  · rename_i hl
    rw [hl] at hh
    obtain ⟨rfl, rfl⟩ := spanL_any hh.2.2
    rfl
  · rename_i hl
    have := span_parts (lo := lo) (hi := hi) (by omega) hh.2.1 (by rw [hh.2.2]; exact hl)
    rw [hh.2.2] at this
    rw [this.1, this.2.1, if_neg (by omega)]

/-! ### Rules -/
structure Rl where
  acc : Bool
  pr : Nat
  sa : Nat
  sb : Int
  da : Nat
  db : Int
  sl : Nat
  sh : Nat
  dl : Nat
  dh : Nat
/-- What the types of its parts can hold. -/
structure Rl.In (r : Rl) : Prop where
  pr : r.pr < 256
  sa : r.sa < 4294967296
  da : r.da < 4294967296
  sl : r.sl < 65536
  sh : r.sh < 65536
  dl : r.dl < 65536
  dh : r.dh < 65536
def goodR (r : Rl) : Bool := mayNet r.sa r.sb && mayNet r.da r.db && decide (wordF r.pr ≠ []) && decide (r.sl ≤ r.sh) && decide (r.dl ≤ r.dh)
theorem goodR_iff {r : Rl} : goodR r = true ↔ mayNet r.sa r.sb = true ∧ mayNet r.da r.db = true ∧ wordF r.pr ≠ [] ∧ r.sl ≤ r.sh ∧ r.dl ≤ r.dh := by
  unfold goodR
  simp only [Bool.and_eq_true, decide_eq_true_eq, and_assoc]
/-- A net's text; nothing: it has none. -/
def netL (a : Nat) (n : Int) : List UInt8 := (showNet a n).getD []
def actL (b : Bool) : List UInt8 := if b then acceptL else dropL
def wordsR (r : Rl) : List (List UInt8) := [actL r.acc, wordF r.pr, netL r.sa r.sb, spanL r.sl r.sh, netL r.da r.db, spanL r.dl r.dh]
/-- The rule of a line's words. -/
def ruleOf : List (List UInt8) → Option Rl
  | [w0, w1, w2, w3, w4, w5] =>
    if w0 = acceptL ∨ w0 = dropL then
      match protoOf w1, netOf w2, netOf w4, spanOf w3, spanOf w5 with
      | some p, some s, some d, some a, some b => some ⟨decide (w0 = acceptL), p, s.1, s.2, d.1, d.2, a.1, a.2, b.1, b.2⟩
      | _, _, _, _, _ => none
    else none
  | _ => none
theorem show_may {a : Nat} {n : Int} : (showNet a n).isSome = mayNet a n := by unfold showNet; split <;> simp_all
theorem netL_may {a : Nat} {n : Int} (h : mayNet a n = true) : showNet a n = some (netL a n) := by
  unfold netL
  have : (showNet a n).isSome = true := by rw [show_may, h]
  cases hs : showNet a n with
  | none => rw [hs] at this; cases this
  | some l => rfl
theorem may_bits {a : Nat} {n : Int} (h : mayNet a n = true) : 0 ≤ n ∧ n ≤ 32 := by unfold mayNet at h; rw [decide_eq_true_iff] at h; exact ⟨h.1, h.2.1⟩
theorem netOf_iff {l : List UInt8} {a b : Nat} : netOf l = some (a, b) ↔ a < 4294967296 ∧ mayNet a b = true ∧ netL a b = l := by
  constructor
  · intro h
    have := showNet_netOf h
    refine ⟨this.2.1, by rw [← show_may, this.1]; rfl, by unfold netL; rw [this.1]; rfl⟩
  · rintro ⟨h1, h2, h3⟩
    have := netOf_show h1 (netL_may h2)
    rw [h3] at this
    exact this
theorem word_in {n : Nat} (h : wordF n ≠ []) : n < 256 := by
  unfold wordF at h
  split at h
  · omega
  · split at h
    · omega
    · split at h
      · omega
      · split at h
        · omega
        · exact absurd rfl h
theorem ruleOf_iff {ws : List (List UInt8)} {r : Rl} : ruleOf ws = some r ↔ r.In ∧ goodR r = true ∧ wordsR r = ws := by
  constructor
  · intro h
    unfold ruleOf at h
    split at h
    · rename_i w0 w1 w2 w3 w4 w5
      split at h
      · rename_i hact
        split at h
        · rename_i p s d a b hp hs hd ha hb
          obtain ⟨s1, s2⟩ := s; obtain ⟨d1, d2⟩ := d; obtain ⟨a1, a2⟩ := a; obtain ⟨b1, b2⟩ := b
          have hp := protoOf_iff.1 hp
          have hs := netOf_iff.1 hs
          have hd := netOf_iff.1 hd
          have ha := spanOf_iff.1 ha
          have hb := spanOf_iff.1 hb
          injection h with h
          subst h
          refine ⟨⟨word_in hp.2, hs.1, hd.1, by show a1 < 65536; omega, by show a2 < 65536; omega, by show b1 < 65536; omega, by show b2 < 65536; omega⟩, goodR_iff.2 ⟨hs.2.1, hd.2.1, hp.2, ha.1, hb.1⟩, ?_⟩
          show [actL (decide (w0 = acceptL)), wordF p, netL s1 s2, spanL a1 a2, netL d1 d2, spanL b1 b2] = _
          rw [hp.1, hs.2.2, hd.2.2, ha.2.2, hb.2.2]
          congr 1
          unfold actL
          rcases hact with rfl | rfl
          · simp
          · simp [show dropL ≠ acceptL by decide]
        · cases h
      · cases h
    · cases h
  · rintro ⟨hi, hg, rfl⟩
    obtain ⟨g1, g2, g3, g4, g5⟩ := goodR_iff.1 hg
    obtain ⟨acc, pr, sa, sb, da, db, sl, sh, dl, dh⟩ := r
    simp only at g1 g2 g3 g4 g5
    obtain ⟨sbn, rfl⟩ := Int.eq_ofNat_of_zero_le (may_bits g1).1
    obtain ⟨dbn, rfl⟩ := Int.eq_ofNat_of_zero_le (may_bits g2).1
    have h1 : protoOf (wordF pr) = some pr := protoOf_iff.2 ⟨rfl, g3⟩
    have h2 : netOf (netL sa sbn) = some (sa, sbn) := netOf_iff.2 ⟨hi.sa, g1, rfl⟩
    have h3 : netOf (netL da dbn) = some (da, dbn) := netOf_iff.2 ⟨hi.da, g2, rfl⟩
    have h4 : spanOf (spanL sl sh) = some (sl, sh) := spanOf_iff.2 ⟨g4, by have := hi.sh; simp only at this; omega, rfl⟩
    have h5 : spanOf (spanL dl dh) = some (dl, dh) := spanOf_iff.2 ⟨g5, by have := hi.dh; simp only at this; omega, rfl⟩
    show ruleOf [actL acc, wordF pr, netL sa sbn, spanL sl sh, netL da dbn, spanL dl dh] = _
    unfold ruleOf
    simp only [h1, h2, h3, h4, h5]
    cases acc
    · rw [if_pos (.inr rfl)]; rfl
    · rw [if_pos (.inl rfl)]; rfl

/-! ### The words that a rule is written as -/
def okC (b : UInt8) : Prop := 32 < b.toNat ∧ b.toNat ≤ 126 ∧ b ≠ 35
theorem okC_digit {b : UInt8} (h : digit b) : okC b := ⟨by unfold digit at h; omega, by unfold digit at h; omega, fun e => by subst e; exact absurd h (by unfold digit; decide)⟩
theorem okC_dec (n : Nat) : ∀ b ∈ decDigits n, okC b := fun b hb => okC_digit (dec_digits n b hb)
theorem join_sub {b s : UInt8} : ∀ {ps : List (List UInt8)}, b ∈ Lib.join ps [s] → b = s ∨ ∃ p ∈ ps, b ∈ p
  | [], h => by simp [join_nil] at h
  | [p], h => by rw [join_one] at h; exact .inr ⟨p, by simp, h⟩
  | p :: q :: r, h => by
    have ih := join_sub (b := b) (s := s) (ps := q :: r)
    rw [join_cons] at ih h
    simp only [joinTail, List.map_cons, List.flatten_cons, List.mem_append, List.mem_singleton] at ih h
    rcases h with h | (h | h) | h
    · exact .inr ⟨p, by simp, h⟩
    · exact .inl h
    · rcases ih (.inl h) with h | ⟨x, hx, hb⟩
      · exact .inl h
      · exact .inr ⟨x, List.mem_cons_of_mem _ hx, hb⟩
    · rcases ih (.inr h) with h | ⟨x, hx, hb⟩
      · exact .inl h
      · exact .inr ⟨x, List.mem_cons_of_mem _ hx, hb⟩
theorem okC_show (a : Nat) : ∀ b ∈ showAddr a, okC b := fun b hb => by
  unfold showAddr at hb
  rcases join_sub hb with rfl | ⟨p, hp, h⟩
  · unfold okC; decide
  · simp only [List.mem_cons, List.not_mem_nil, or_false] at hp
    rcases hp with rfl | rfl | rfl | rfl <;> exact okC_dec _ _ h
theorem okW_of {l : List UInt8} (h : l ≠ []) (k : ∀ b ∈ l, okC b) : okW l := ⟨h, k⟩
theorem okC_any : ∀ b ∈ anyL, okC b := by unfold okC; decide
theorem okW_span (lo hi : Nat) : okW (spanL lo hi) := by
  unfold spanL
  split
  · exact okW_of (by decide) okC_any
  · split
    · exact okW_of (dec_ne_nil _) (okC_dec _)
    · refine okW_of (by simp) fun b hb => ?_
      simp only [List.mem_append, List.mem_cons] at hb
      rcases hb with hb | rfl | hb
      · exact okC_dec _ _ hb
      · unfold okC; decide
      · exact okC_dec _ _ hb
theorem okW_net {a : Nat} {n : Int} (h : mayNet a n = true) : okW (netL a n) := by
  unfold netL showNet
  rw [if_pos h]
  simp only [Option.getD_some]
  split
  · exact okW_of (by decide) okC_any
  · refine okW_of (by simp) fun b hb => ?_
    simp only [List.mem_append, List.mem_cons] at hb
    rcases hb with hb | rfl | hb
    · exact okC_show _ _ hb
    · unfold okC; decide
    · exact okC_dec _ _ hb
theorem okW_word {n : Nat} (h : wordF n ≠ []) : okW (wordF n) := by
  refine okW_of h ?_
  unfold wordF
  split
  · exact okC_any
  · split
    · unfold okC; decide
    · split
      · unfold okC; decide
      · split
        · unfold okC; decide
        · intro b hb; cases hb
theorem okW_act (b : Bool) : okW (actL b) := by cases b <;> exact ⟨by decide, by decide⟩
theorem okW_rule {r : Rl} (h : goodR r = true) : ∀ w ∈ wordsR r, okW w := by
  obtain ⟨g1, g2, g3, g4, g5⟩ := goodR_iff.1 h
  intro w hw
  simp only [wordsR, List.mem_cons, List.not_mem_nil, or_false] at hw
  rcases hw with rfl | rfl | rfl | rfl | rfl | rfl
  · exact okW_act _
  · exact okW_word g3
  · exact okW_net g1
  · exact okW_span _ _
  · exact okW_net g2
  · exact okW_span _ _

/-! ### The reference's rule of a line -/
/-- The last protocol of that word. -/
def protoUpTo (l : List UInt8) : Nat → Nat
  | 0 => 0
  | k + 1 => if wordF k = l then k else protoUpTo l k
def refProto (l : List UInt8) : Nat := protoUpTo l 18
theorem refProto_of {l : List UInt8} {p : Nat} (h : protoOf l = some p) : refProto l = p := by
  have hh := protoOf_iff.1 h
  have hp : p = 0 ∨ p = 1 ∨ p = 6 ∨ p = 17 := by
    have := hh.2
    unfold wordF at this
    split at this
    · exact .inl ‹_›
    · split at this
      · exact .inr (.inl ‹_›)
      · split at this
        · exact .inr (.inr (.inl ‹_›))
        · split at this
          · exact .inr (.inr (.inr ‹_›))
          · exact absurd rfl this
  rcases hp with rfl | rfl | rfl | rfl <;> rw [← hh.1] <;> decide
/-- A text's net, or nothing. -/
def netV (l : List UInt8) : Nat × Nat := (netOf l).getD (0, 0)
theorem netV_lt (l : List UInt8) : (netV l).1 < 4294967296 := by
  unfold netV
  cases h : netOf l with
  | none => decide
  | some q => obtain ⟨a, b⟩ := q; exact (netOf_iff.1 h).1
theorem refSpan_lt (l : List UInt8) : (refSpan l).1 < 65536 ∧ (refSpan l).2 < 65536 := by
  by_cases hl : l = anyL
  · have e : refSpan l = (0, 65535) := if_pos hl
    rw [e]; decide
  · by_cases h3 : numV (cutA l) > 65535 ∨ numV (cutB l) > 65535
    · have e : refSpan l = (1, 0) := (if_neg hl).trans (if_pos h3)
      rw [e]; decide
    · have e : refSpan l = (numV (cutA l), numV (cutB l)) := (if_neg hl).trans (if_neg h3)
      rw [e]
      show numV (cutA l) < 65536 ∧ numV (cutB l) < 65536
      omega
def refRule (w0 w1 w2 w3 w4 w5 : List UInt8) : Rl := ⟨decide (w0 = acceptL), refProto w1, (netV w2).1, (netV w2).2, (netV w4).1, (netV w4).2, (refSpan w3).1, (refSpan w3).2, (refSpan w5).1, (refSpan w5).2⟩
theorem refRule_iff {w0 w1 w2 w3 w4 w5 : List UInt8} (hw : ∀ w ∈ [w0, w1, w2, w3, w4, w5], okW w) :
    (goodR (refRule w0 w1 w2 w3 w4 w5) = true ∧ Lib.join (wordsR (refRule w0 w1 w2 w3 w4 w5)) [32] = Lib.join [w0, w1, w2, w3, w4, w5] [32]) ↔ ruleOf [w0, w1, w2, w3, w4, w5] = some (refRule w0 w1 w2 w3 w4 w5) := by
  constructor
  · rintro ⟨h1, h2⟩
    have h3 : wordsR (refRule w0 w1 w2 w3 w4 w5) = [w0, w1, w2, w3, w4, w5] := by
      rw [← fields_join _ (okW_rule h1), h2, fields_join _ hw]
    exact ruleOf_iff.2 ⟨⟨word_in (goodR_iff.1 h1).2.2.1, netV_lt _, netV_lt _, (refSpan_lt _).1, (refSpan_lt _).2, (refSpan_lt _).1, (refSpan_lt _).2⟩, h1, h3⟩
  · intro h
    have := ruleOf_iff.1 h
    exact ⟨this.2.1, by rw [this.2.2]⟩
theorem ruleOf_ref {w0 w1 w2 w3 w4 w5 : List UInt8} {r : Rl} (h : ruleOf [w0, w1, w2, w3, w4, w5] = some r) : refRule w0 w1 w2 w3 w4 w5 = r := by
  unfold ruleOf at h
  simp only at h
  split at h
  · split at h
    · rename_i p s d a b hp hs hd ha hb
      injection h with h
      rw [← h]
      unfold refRule netV
      obtain ⟨a1, a2⟩ := a; obtain ⟨b1, b2⟩ := b
      rw [refProto_of hp, hs, hd, refSpan_of ha, refSpan_of hb]
      rfl
    · cases h
  · cases h

/-! ### Texts of rules -/
def lineB (r : Rl) : List UInt8 := Lib.join (wordsR r) [32] ++ [10]
def printL (rs : List Rl) : List UInt8 := (rs.map lineB).flatten
/-- What Print answers. -/
def printF (rs : List Rl) : List UInt8 × Int := if 64 < rs.length then ([], 14) else if rs.all goodR then (printL rs, 0) else ([], 1)
def linesR : Nat → List Rl → List Ln
  | _, [] => []
  | n, r :: rs => (n, wordsR r) :: linesR (n + 1) rs
def compF : List Rl → List Ln → List Rl × Nat × Int
  | acc, [] => (acc, 0, 0)
  | acc, (n, ws) :: r => if acc.length = 64 then ([], n, 14) else match ruleOf ws with
    | none => ([], n, 3)
    | some x => compF (acc ++ [x]) r
/-- What Compile answers. -/
def compileF (l : List UInt8) : List Rl × Nat × Int := if (textF l).2.2 = 0 then compF [] (textF l).1 else ([], (textF l).2.1, (textF l).2.2)
theorem lines_print : ∀ (rs : List Rl) (n : Nat), (∀ r ∈ rs, goodR r = true) → linesGo n (pieces 10 (printL rs)) = linesR n rs
  | [], n, _ => by
    show linesGo n (pieces 10 []) = []
    show linesGo n [[]] = []
    unfold linesGo
    rw [if_pos wordsOf_nil]; rfl
  | r :: rs, n, h => by
    have hr := h r (by simp)
    have hok := okW_rule hr
    have e : printL (r :: rs) = Lib.join (wordsR r) [32] ++ 10 :: printL rs := by unfold printL lineB; simp
    rw [e, pieces_at _ (join_no hok).1]
    unfold linesGo
    rw [wordsOf_join hok, if_neg (by unfold wordsR; simp), lines_print rs (n + 1) (fun x hx => h x (by simp [hx]))]
    rfl
theorem okB_word {w : List UInt8} (h : okW w) : ∀ b ∈ w, okB b := fun b hb => by
  have := h.2 b hb
  unfold okB badB
  simp
  intro _
  omega
theorem print_good : ∀ (rs : List Rl), (∀ r ∈ rs, goodR r = true) → ∀ b ∈ printL rs, okB b := fun rs h b hb => by
  unfold printL at hb
  obtain ⟨l, hl, hbl⟩ := List.mem_flatten.1 hb
  obtain ⟨r, hr, rfl⟩ := List.mem_map.1 hl
  unfold lineB at hbl
  rw [List.mem_append, List.mem_singleton] at hbl
  rcases hbl with hbl | rfl
  · rcases join_sub hbl with rfl | ⟨w, hw, hbw⟩
    · unfold okB badB; decide
    · exact okB_word (okW_rule (h r hr) w hw) b hbw
  · unfold okB badB; decide
theorem text_print {rs : List Rl} (h : ∀ r ∈ rs, goodR r = true) : textF (printL rs) = if 4096 < (printL rs).length then ([], 0, 2) else (linesR 1 rs, 0, 0) := by
  unfold textF
  rw [firstBad_none.2 (print_good rs h)]
  simp only
  unfold linesOf
  rw [lines_print rs 1 h]
theorem comp_lines : ∀ (rs acc : List Rl) (n : Nat), (∀ r ∈ rs, r.In ∧ goodR r = true) → acc.length + rs.length ≤ 64 → compF acc (linesR n rs) = (acc ++ rs, 0, 0)
  | [], acc, n, _, _ => by unfold linesR compF; rw [List.append_nil]
  | r :: rs, acc, n, h, hl => by
    have hr := h r (by simp)
    unfold linesR compF
    rw [if_neg (by simp at hl; omega), ruleOf_iff.2 ⟨hr.1, hr.2, rfl⟩]
    simp only
    rw [comp_lines rs (acc ++ [r]) (n + 1) (fun x hx => h x (by simp [hx])) (by simp at hl ⊢; omega)]
    simp
theorem print_back {rs : List Rl} {t : List UInt8} (hi : ∀ r ∈ rs, r.In) (h : printF rs = (t, 0)) :
    compileF t = if 4096 < t.length then ([], 0, 2) else (rs, 0, 0) := by
  unfold printF at h
  split at h
  · injection h with _ h; cases h
  · split at h
    · rename_i hl hg
      injection h with h _
      subst h
      rw [List.all_eq_true] at hg
      unfold compileF
      rw [text_print hg]
      split
      · rfl
      · simp only [if_true]
        rw [comp_lines rs [] 1 (fun r hr => ⟨hi r hr, hg r hr⟩) (by simp; omega)]
        rfl
    · injection h with _ h; cases h
theorem comp_out : ∀ (ls : List Ln) (acc rs : List Rl) (n : Nat) (e : Int), compF acc ls = (rs, n, e) → (∀ r ∈ acc, r.In ∧ goodR r = true) → acc.length ≤ 64 →
    (e = 0 → (∀ r ∈ rs, r.In ∧ goodR r = true) ∧ rs.length ≤ 64) ∧ (e ≠ 0 → rs = [])
  | [], acc, rs, n, e, h, ha, hl => by
    unfold compF at h
    cases h
    exact ⟨fun _ => ⟨ha, hl⟩, fun h => absurd rfl h⟩
  | (k, ws) :: r, acc, rs, n, e, h, ha, hl => by
    unfold compF at h
    split at h
    · cases h
      exact ⟨(fun h => by cases h), fun _ => rfl⟩
    · split at h
      · cases h
        exact ⟨(fun h => by cases h), fun _ => rfl⟩
      · rename_i x hx
        have hxx := ruleOf_iff.1 hx
        refine comp_out r _ rs n e h (fun y hy => ?_) (by simp; omega)
        rcases List.mem_append.1 hy with h1 | h1
        · exact ha y h1
        · rw [List.mem_singleton.1 h1]; exact ⟨hxx.1, hxx.2.1⟩
theorem compile_out {l : List UInt8} {rs : List Rl} {n : Nat} {e : Int} (h : compileF l = (rs, n, e)) : (e = 0 → (∀ r ∈ rs, r.In ∧ goodR r = true) ∧ rs.length ≤ 64) ∧ (e ≠ 0 → rs = []) := by
  unfold compileF at h
  split at h
  · exact comp_out _ _ _ _ _ h (fun _ h => by cases h) (by simp)
  · cases h
    rename_i h0
    exact ⟨fun h => absurd h h0, fun _ => rfl⟩
/-- What is compiled is printed, and compiled as the same. -/
theorem compile_print {l : List UInt8} {rs : List Rl} {n : Nat} (h : compileF l = (rs, n, 0)) : printF rs = (printL rs, 0) := by
  obtain ⟨h1, h2⟩ := (compile_out h).1 rfl
  unfold printF
  rw [if_neg (by omega), if_pos (List.all_eq_true.2 fun r hr => (h1 r hr).2)]
end Go.Proofs.YtahgapkecabnjaaGreatDoor
/- Walks of the reference of layer 3: Num. -/
namespace Go.Proofs.YtahgapkecabnjaaGreatDoor
set_option linter.unusedSimpArgs false
set_option linter.unusedVariables false
open Go Go.RowKit

theorem dec_len (n : Nat) (h : n ≤ 9223372036854775807) : (Lib.decDigits n).length ≤ 19 := by
  rw [Lib.decDigits_length]
  by_cases e : Lib.nDigits n ≤ 19
  · exact e
  · exfalso
    have h2 : ∀ k u : Nat, k < Lib.nDigits u → 10 ^ k ≤ u ∨ k = 0 := by
      intro k
      induction k with
      | zero => intro u _; exact .inr rfl
      | succ k ih =>
        intro u hu
        left
        by_cases h10 : u < 10
        · rw [Lib.nDigits_small h10] at hu; omega
        · rw [Lib.nDigits_big h10] at hu
          rcases ih (u / 10) (by omega) with h | rfl
          · rw [Nat.pow_succ]; omega
          · simp; omega
    rcases h2 19 n (by omega) with h3 | h3
    · have : (10 : Nat) ^ 19 = 10000000000000000000 := by decide
      omega
    · omega

/-- One byte as a string. -/
theorem conv_one (wr : World) (v : Int) (h0 : 0 ≤ v) (h1 : v ≤ 255) :
    (convert 189 9 (.slice (some ⟨wr.heap.size, 0, none⟩) 1 1)).run Tryz.prog (wr.alloc (.cells #[.int .u8 v] 5)) = .ok (.string ⟨#[UInt8.ofNat v.toNat]⟩) (wr.alloc (.cells #[.int .u8 v] 5)) := by
  have := run_convert_bytes_back (P := Tryz.prog) (wr.alloc (.cells #[.int .u8 v] 5)) 189 9 5 ⟨wr.heap.size, 0, none⟩ 1 [UInt8.ofNat v.toNat] Tryz.underlying189 Tryz.underlying5 Tryz.underlying9 (fun j hj => by
    have : j = 0 := by simpa using hj
    subst this
    simp [Addr.add]
    omega)
  simpa using this

/-- A walk's end with one result. -/
theorem retB {v u : Value} {w w' : World} (h : v = u) (hb : Below w.heap.size w w') : Ending.returned v = Ending.returned u ∧ Below w.heap.size w w' := ⟨by rw [h], hb⟩

theorem str_cat {a b c : List UInt8} (h : a ++ b = c) : (⟨a.toArray⟩ : ByteArray) ++ ⟨b.toArray⟩ = ⟨c.toArray⟩ := by
  subst h; apply ByteArray.ext; simp

/-- What the reference's Number answers. -/
def numF (l : List UInt8) : Int := if l.length ≤ 9 ∧ Lib.decDigits (valOf l) = l then valOf l else -1

theorem strEq {a : ByteArray} {l : List UInt8} : a = ⟨l.toArray⟩ ↔ a.data.toList = l := by
  constructor
  · rintro rfl; rfl
  · rintro rfl; rfl

theorem take_val (s : ByteArray) (k : Nat) (h : k < s.size) : valOf (s.data.toList.take (k + 1)) = valOf (s.data.toList.take k) * 10 + (s[k].toNat - 48) := by
  have : s.data.toList.take (k + 1) = s.data.toList.take k ++ [s[k]] := by rw [List.take_succ_eq_append_getElem (by simpa using h)]; rfl
  rw [this, valOf, valFrom_snoc, valOf]

theorem valFrom_lt : ∀ (l : List UInt8) (a : Nat), (∀ c ∈ l, digit c) → valFrom a l < (a + 1) * 10 ^ l.length
  | [], a, _ => by simp [valFrom]
  | c :: r, a, h => by
    have h2 := h c (by simp)
    unfold digit at h2
    have h1 := valFrom_lt r (a * 10 + (c.toNat - 48)) (fun x hx => h x (by simp [hx]))
    rw [valFrom_cons, List.length_cons, Nat.pow_succ, Nat.mul_comm (10 ^ r.length) 10, ← Nat.mul_assoc]
    exact Nat.lt_of_lt_of_le h1 (Nat.mul_le_mul_right (10 ^ r.length) (show a * 10 + (c.toNat - 48) + 1 ≤ (a + 1) * 10 by omega))
theorem val_lt (l : List UInt8) (h : ∀ c ∈ l, digit c) : valOf l < 10 ^ l.length := by
  have := valFrom_lt l 0 h
  simpa [valOf] using this
theorem numF_bad {l : List UInt8} {c : UInt8} (hc : c ∈ l) (h : ¬ digit c) : numF l = -1 := by
  unfold numF
  rw [if_neg]
  rintro ⟨_, e⟩
  exact h (dec_digits (valOf l) c (by rw [e]; exact hc))
theorem dec_len_le : ∀ (k n : Nat), n < 10 ^ k → 1 ≤ k → (Lib.decDigits n).length ≤ k := by
  intro k
  induction k with
  | zero => intro n _ h; omega
  | succ k ih =>
    intro n hn _
    rw [Lib.decDigits_length]
    by_cases h : n < 10
    · rw [Lib.nDigits_small h]; omega
    · rw [Lib.nDigits_big h]
      by_cases hk : k = 0
      · subst hk; omega
      · have := ih (n / 10) (by rw [Nat.pow_succ] at hn; omega) (by omega)
        rw [Lib.decDigits_length] at this; omega
/-- What is left to ask behind the loop. -/
theorem numF_end {l : List UInt8} {k : Nat} (hk : k ≤ l.length) (h : k = l.length ∨ k = 9) (h9 : k ≤ 9) (hd : ∀ c ∈ l.take k, digit c) :
    numF l = if Lib.decDigits (valOf (l.take k)) = l then (valOf (l.take k) : Int) else -1 := by
  by_cases he : k = l.length
  · subst he
    rw [List.take_length]
    unfold numF
    by_cases e : Lib.decDigits (valOf l) = l
    · rw [if_pos ⟨h9, e⟩, if_pos e]
    · rw [if_neg (fun x => e x.2), if_neg e]
  · have h9' : k = 9 := by omega
    subst h9'
    unfold numF
    rw [if_neg (by omega), if_neg]
    intro e
    have h1 := val_lt _ hd
    have h2 : (l.take 9).length = 9 := by rw [List.length_take]; omega
    rw [h2] at h1
    have h3 := dec_len_le 9 _ h1 (by omega)
    rw [e] at h3
    omega
theorem num_yes {s : ByteArray} {m : Nat} (h : numF s.data.toList = if Lib.decDigits m = s.data.toList then (m : Int) else -1) (hb : (!Lib.decDigits m == s.toList) = false) : Value.int .i64 m = Value.int .i64 (numF s.data.toList) := by
  rw [h, if_pos]
  rw [ByteArray.toList_eq] at hb
  simpa using hb
theorem num_no {s : ByteArray} {m : Nat} (h : numF s.data.toList = if Lib.decDigits m = s.data.toList then (m : Int) else -1) (hb : (!Lib.decDigits m == s.toList) = true) : Value.int .i64 (-1) = Value.int .i64 (numF s.data.toList) := by
  rw [h, if_neg]
  rw [ByteArray.toList_eq] at hb
  simpa using hb
theorem mem_take_at (s : ByteArray) (k : Nat) (h : k < s.size) : s[k] ∈ s.data.toList := by
  show s.data[k] ∈ s.data.toList
  simp
theorem digits_take (s : ByteArray) (k : Nat) (h : k < s.size) (hd : ∀ c ∈ s.data.toList.take k, digit c) (h2 : digit s[k]) : ∀ c ∈ s.data.toList.take (k + 1), digit c := by
  have : s.data.toList.take (k + 1) = s.data.toList.take k ++ [s[k]] := by rw [List.take_succ_eq_append_getElem (by simpa using h)]; rfl
  rw [this]
  intro c hc
  rw [List.mem_append, List.mem_singleton] at hc
  rcases hc with hc | rfl
  · exact hd c hc
  · exact h2

end Go.Proofs.YtahgapkecabnjaaGreatDoor
/- The walk of the reference's Parse of layer 3. -/
namespace Go.Proofs.YtahgapkecabnjaaGreatDoor
set_option linter.unusedSimpArgs false
set_option linter.unusedVariables false
open Go Go.RowKit

theorem isNum_numF {p : List UInt8} : (isNum p 255 = true ∧ numF p = valOf p ∧ valOf p ≤ 255) ∨ (isNum p 255 = false ∧ (numF p < 0 ∨ 255 < numF p)) := by
  cases h : isNum p 255 with
  | true =>
    obtain ⟨n, h1, rfl⟩ := isNum_iff.1 h
    refine .inl ⟨rfl, ?_, by rw [valOf_dec]; exact h1⟩
    unfold numF
    rw [if_pos]
    have := dec_len_le 3 n (by omega) (by omega)
    exact ⟨by omega, by rw [valOf_dec]⟩
  | false =>
    refine .inr ⟨rfl, ?_⟩
    unfold numF
    split
    · rename_i hc
      right
      have h2 : ¬ (valOf p ≤ 255) := fun h3 => by
        have := (isNum_iff (l := p) (most := 255)).2 ⟨_, h3, hc.2.symm⟩
        rw [h] at this; cases this
      omega
    · left; omega
def pairA (o : Option Nat) : Int × Int := match o with | some a => ((a : Int), 0) | none => (0, 3)

/-- The pieces that are still to be read. -/
def Left3 (l : List UInt8) (a many fr i : Nat) (ps : List (List UInt8)) : Prop :=
  addrOf l = addrGo a many ps ∧ ((i ≤ l.length ∧ fr ≤ i ∧ ps = pieces 46 (l.drop fr) ∧ (46 : UInt8) ∉ (l.drop fr).take (i - fr)) ∨ (i = l.length + 1 ∧ ps = []))
theorem Left3.start (l : List UInt8) : Left3 l 0 0 0 0 (pieces 46 l) := ⟨rfl, .inl ⟨Nat.zero_le _, Nat.le_refl _, by simp, by simp⟩⟩
theorem Left3.skip {s : ByteArray} {a many fr i : Nat} {ps : List (List UInt8)} (h : Left3 s.data.toList a many fr i ps) (hi : i < s.size) (hc : s[i] ≠ 46) : Left3 s.data.toList a many fr (i + 1) ps := by
  obtain ⟨h1, h2⟩ := h
  refine ⟨h1, ?_⟩
  rcases h2 with ⟨h3, h4, h5, h6⟩ | ⟨h3, _⟩
  · left
    refine ⟨by simp; omega, by omega, h5, ?_⟩
    rw [show i + 1 - fr = (i - fr) + 1 by omega, List.take_add_one]
    have : (s.data.toList.drop fr)[i - fr]? = some s[i] := by
      rw [List.getElem?_drop, show fr + (i - fr) = i by omega]
      simp [hi]; rfl
    rw [this]
    simp only [Option.toList_some, List.mem_append, List.mem_singleton, not_or]
    exact ⟨h6, fun e => hc e.symm⟩
  · simp at h3; omega
/-- A piece ends. -/
theorem Left3.piece {s : ByteArray} {a many fr i : Nat} {ps : List (List UInt8)} (h : Left3 s.data.toList a many fr i ps) (hi : i ≤ s.size) (hc : ∀ h : i < s.size, s[i] = 46) :
    fr ≤ i ∧ ∃ qs, ps = (s.extract fr i).data.toList :: qs ∧
      (isNum (s.extract fr i).data.toList 255 = true → Left3 s.data.toList ((a * 256 + valOf (s.extract fr i).data.toList) % 4294967296) (many + 1) (i + 1) (i + 1) qs) ∧
      (isNum (s.extract fr i).data.toList 255 = false → addrOf s.data.toList = none) := by
  obtain ⟨h1, h2⟩ := h
  rcases h2 with ⟨h3, h4, h5, h6⟩ | ⟨h3, _⟩
  · have hx : (s.extract fr i).data.toList = (s.data.toList.drop fr).take (i - fr) := by rw [Lib.extract_data]
    refine ⟨h4, ?_⟩
    rw [hx]
    by_cases hlt : i < s.size
    · have e : s.data.toList.drop fr = (s.data.toList.drop fr).take (i - fr) ++ 46 :: s.data.toList.drop (i + 1) := by
        have h7 : (s.data.toList.drop fr).drop (i - fr) = 46 :: s.data.toList.drop (i + 1) := by
          rw [List.drop_drop, show fr + (i - fr) = i by omega]
          have h8 : s.data.toList[i]'(by simpa using hlt) = 46 := by
            have := hc hlt
            rw [← this]; simp; rfl
          rw [← h8]
          exact List.drop_eq_getElem_cons (by simpa using hlt)
        rw [← h7, List.take_append_drop]
      have hp : ps = (s.data.toList.drop fr).take (i - fr) :: pieces 46 (s.data.toList.drop (i + 1)) := by
        rw [h5]
        conv => lhs; rw [e]
        exact pieces_at _ h6
      refine ⟨_, hp, fun hn => ⟨?_, .inl ⟨by simp; omega, Nat.le_refl _, rfl, by simp⟩⟩, fun hn => ?_⟩
      · rw [h1, hp, addrGo, if_pos hn]
      · rw [h1, hp, addrGo, if_neg (by simp [hn])]
    · have he : i = s.size := by omega
      have ht : (s.data.toList.drop fr).take (i - fr) = s.data.toList.drop fr := List.take_of_length_le (by simp; omega)
      have hp : ps = (s.data.toList.drop fr).take (i - fr) :: [] := by
        rw [h5]
        rw [ht] at h6 ⊢
        exact pieces_none h6
      refine ⟨_, hp, fun hn => ⟨?_, .inr ⟨by simp; omega, rfl⟩⟩, fun hn => ?_⟩
      · rw [h1, hp]; simp only [addrGo]; rw [if_pos hn]
      · rw [h1, hp]; simp only [addrGo]; rw [if_neg (by simp [hn])]
  · simp at h3; omega
theorem Left3.last {s : ByteArray} {a many fr i : Nat} {ps : List (List UInt8)} (h : Left3 s.data.toList a many fr i ps) (hi : s.size < i) : addrOf s.data.toList = if many = 4 then some a else none := by
  obtain ⟨h1, h2⟩ := h
  rcases h2 with ⟨h3, _⟩ | ⟨_, rfl⟩
  · simp at h3; omega
  · rw [h1, addrGo]

def PairPost3 (q : Int × Int) (w : World) (e : Ending) (w' : World) : Prop := e = .returned (.tuple #[.int .u32 q.1, .int .i64 q.2]) ∧ Below w.heap.size w w'
theorem pair3 {q : Int × Int} {a b : Int} {w w' : World} (h : q = (a, b)) (hb : Below w.heap.size w w') : PairPost3 q w (.returned (.tuple #[.int .u32 a, .int .i64 b])) w' := by
  subst h; exact ⟨rfl, hb⟩

end Go.Proofs.YtahgapkecabnjaaGreatDoor
