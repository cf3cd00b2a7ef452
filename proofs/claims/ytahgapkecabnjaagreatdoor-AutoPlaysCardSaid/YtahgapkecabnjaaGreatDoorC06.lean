/- Plain law of package rules: spans, rules, their lines, texts of rules. No program in sight. -/
import Derived.Test.YtahgapkecabnjaaGreatDoorC05
import Derived.Test.YtahgapkecabnjaaGreatDoorC02
import Derived.Maps.AppendAt
import Derived.Below
import Derived.Deep.OwnRows
import Derived.OwnWalk
import Derived.WalkKit
import Derived.Deep.Draws
import Derived.Shelf.GgClosure.StringsIndexFunc
namespace Go.Proofs.YtahgapkecabnjaaGreatDoor
set_option linter.unusedSimpArgs false
set_option linter.unusedVariables false
open Go.Lib

def big62' : Nat := 4611686018427387904
def acceptL : List UInt8 := [97, 99, 99, 101, 112, 116]
def dropL : List UInt8 := [100, 114, 111, 112]
def icmpL : List UInt8 := [105, 99, 109, 112]
def tcpL : List UInt8 := [116, 99, 112]
def udpL : List UInt8 := [117, 100, 112]
/-- A protocol's word. -/
def wordF (n : Nat) : List UInt8 := if n = 0 then anyL else if n = 1 then icmpL else if n = 6 then tcpL else if n = 17 then udpL else []
/-- A word's protocol. -/
def protoOf (l : List UInt8) : Option Nat := if l = anyL then some 0 else if l = icmpL then some 1 else if l = tcpL then some 6 else if l = udpL then some 17 else none
theorem protoOf_iff {l : List UInt8} {n : Nat} : protoOf l = some n ↔ wordF n = l ∧ wordF n ≠ [] := by
  unfold protoOf wordF
  constructor
  · intro h
    split at h
    · cases h; subst_vars; exact ⟨rfl, by decide⟩
    · split at h
      · cases h; subst_vars; exact ⟨rfl, by decide⟩
      · split at h
        · cases h; subst_vars; exact ⟨rfl, by decide⟩
        · split at h
          · cases h; subst_vars; exact ⟨rfl, by decide⟩
          · cases h
  · rintro ⟨h1, h2⟩
    subst h1
    split at h2
    · rename_i h; subst h; rfl
    · split at h2
      · rename_i h; subst h; rfl
      · split at h2
        · rename_i h; subst h; rfl
        · split at h2
          · rename_i h; subst h; rfl
          · exact absurd rfl h2
/-- A span's text. -/
def spanL (lo hi : Nat) : List UInt8 := if lo = 0 ∧ hi = 65535 then anyL else if lo = hi then decDigits lo else decDigits lo ++ 45 :: decDigits hi
theorem dash_no (n : Nat) : (45 : UInt8) ∉ decDigits n := dec_no (by unfold digit; decide)
theorem any_no (n : Nat) : decDigits n ≠ anyL := fun e => by
  have : (97 : UInt8) ∈ decDigits n := by rw [e]; decide
  exact absurd (dec_digits n _ this) (by unfold digit; decide)
/-- What a number's text says. -/
def numV (l : List UInt8) : Nat := if isNum l big62' then valOf l else 0
/-- What a span's text says, part by part. -/
def cutA (l : List UInt8) : List UInt8 := (Lib.cut l [45]).1
def cutB (l : List UInt8) : List UInt8 := if (Lib.cut l [45]).2.2 then (Lib.cut l [45]).2.1 else cutA l
def portB (l : List UInt8) : Bool := isNum l big62' && decide (numV l ≤ 65535)
def spanOf (l : List UInt8) : Option (Nat × Nat) :=
  if l = anyL then some (0, 65535)
  else if portB (cutA l) = true ∧ portB (cutB l) = true ∧ spanL (numV (cutA l)) (numV (cutB l)) = l ∧ numV (cutA l) ≤ numV (cutB l) then some (numV (cutA l), numV (cutB l)) else none
theorem numV_dec {n : Nat} (h : n ≤ 65535) : numV (decDigits n) = n ∧ portB (decDigits n) = true := by
  have h1 : isNum (decDigits n) big62' = true := isNum_dec (by unfold big62'; omega)
  have h2 : numV (decDigits n) = n := by unfold numV; rw [if_pos h1, valOf_dec]
  exact ⟨h2, by unfold portB; rw [h1, h2]; simpa using h⟩
theorem cut_dec (n : Nat) : cutA (decDigits n) = decDigits n ∧ cutB (decDigits n) = decDigits n := by
  have := cut_none (dash_no n)
  constructor
  · unfold cutA; rw [this]
  · unfold cutB cutA; rw [this]; rfl
theorem cut_two (a b : Nat) : cutA (decDigits a ++ 45 :: decDigits b) = decDigits a ∧ cutB (decDigits a ++ 45 :: decDigits b) = decDigits b := by
  have := cut_at (r := decDigits b) (dash_no a)
  constructor
  · unfold cutA; rw [this]
  · unfold cutB; rw [this]; rfl
theorem dash_any (a b : Nat) : decDigits a ++ 45 :: decDigits b ≠ anyL := fun e => by
  have : (45 : UInt8) ∈ anyL := by rw [← e]; simp
  revert this; decide
theorem spanL_any {lo hi : Nat} (h : spanL lo hi = anyL) : lo = 0 ∧ hi = 65535 := by
  unfold spanL at h
  split at h
  · assumption
  · split at h
    · exact absurd h (any_no _)
    · exact absurd h (dash_any _ _)
/-- The parts of a span's text. -/
theorem span_parts {lo hi : Nat} (h1 : lo ≤ 65535) (h2 : hi ≤ 65535) (hne : spanL lo hi ≠ anyL) : numV (cutA (spanL lo hi)) = lo ∧ numV (cutB (spanL lo hi)) = hi ∧ portB (cutA (spanL lo hi)) = true ∧ portB (cutB (spanL lo hi)) = true := by
  unfold spanL at hne ⊢
  split
  · rename_i h; rw [if_pos h] at hne; exact absurd rfl hne
  · split
    · rename_i h; subst h
      rw [(cut_dec lo).1, (cut_dec lo).2]
      exact ⟨(numV_dec h1).1, (numV_dec h1).1, (numV_dec h1).2, (numV_dec h1).2⟩
    · rw [(cut_two lo hi).1, (cut_two lo hi).2]
      exact ⟨(numV_dec h1).1, (numV_dec h2).1, (numV_dec h1).2, (numV_dec h2).2⟩
theorem spanOf_iff {l : List UInt8} {lo hi : Nat} : spanOf l = some (lo, hi) ↔ lo ≤ hi ∧ hi ≤ 65535 ∧ spanL lo hi = l := by
  constructor
  · intro h
    unfold spanOf at h
    split at h
    · rename_i hl
      injection h with h; injection h with e1 e2
      subst e1 e2
      exact ⟨by decide, by decide, by rw [hl]; rfl⟩
    · split at h
      · rename_i hc
        injection h with h; injection h with e1 e2
        subst e1 e2
        obtain ⟨h1, h2, h3, h4⟩ := hc
        unfold portB at h2
        simp at h2
        exact ⟨h4, h2.2, h3⟩
      · cases h
  · rintro ⟨h1, h2, h3⟩
    unfold spanOf
    split
    · rename_i hl
      rw [hl] at h3
      obtain ⟨rfl, rfl⟩ := spanL_any h3
      rfl
    · rename_i hl
      have := span_parts (lo := lo) (hi := hi) (by omega) h2 (by rw [h3]; exact hl)
      rw [h3] at this
      obtain ⟨e1, e2, e3, e4⟩ := this
      rw [e1, e2, e3, e4, if_pos ⟨rfl, rfl, h3, h1⟩]
/-- What the reference sees in a span's text. -/
def refSpan (l : List UInt8) : Nat × Nat :=
  if l = anyL then (0, 65535) else if numV (cutA l) > 65535 ∨ numV (cutB l) > 65535 then (1, 0) else (numV (cutA l), numV (cutB l))
theorem refSpan_iff {l : List UInt8} : spanOf l = some (refSpan l) ↔ (refSpan l).1 ≤ (refSpan l).2 ∧ spanL (refSpan l).1 (refSpan l).2 = l := by
  constructor
  · intro h
    have := spanOf_iff.1 (show spanOf l = some ((refSpan l).1, (refSpan l).2) from h)
    exact ⟨this.1, this.2.2⟩
  · rintro ⟨h1, h2⟩
    show spanOf l = some ((refSpan l).1, (refSpan l).2)
    refine (spanOf_iff (lo := (refSpan l).1) (hi := (refSpan l).2)).2 ⟨h1, ?_, h2⟩
    by_cases hl : l = anyL
    · have e : refSpan l = (0, 65535) := if_pos hl
      rw [e]; exact Nat.le_refl _
    · by_cases h3 : numV (cutA l) > 65535 ∨ numV (cutB l) > 65535
      · have e : refSpan l = (1, 0) := (if_neg hl).trans (if_pos h3)
        rw [e] at h1; exact absurd h1 (by decide)
      · have e : refSpan l = (numV (cutA l), numV (cutB l)) := (if_neg hl).trans (if_neg h3)
        rw [e]
        show numV (cutB l) ≤ 65535
        omega
theorem refSpan_of {l : List UInt8} {lo hi : Nat} (h : spanOf l = some (lo, hi)) : refSpan l = (lo, hi) := by
  have hh := spanOf_iff.1 h
  unfold refSpan
  split
  · rename_i hl
    rw [hl] at hh
    obtain ⟨rfl, rfl⟩ := spanL_any hh.2.2
    rfl
  · rename_i hl
    have := span_parts (lo := lo) (hi := hi) (by omega) hh.2.1 (by rw [hh.2.2]; exact hl)
    rw [hh.2.2] at this
    rw [this.1, this.2.1, if_neg (by omega)]

/-! ### Rules -/
structure Rl where
  acc : Bool
  pr : Nat
  sa : Nat
  sb : Int
  da : Nat
  db : Int
  sl : Nat
  sh : Nat
  dl : Nat
  dh : Nat
/-- What the types of its parts can hold. -/
structure Rl.In (r : Rl) : Prop where
  pr : r.pr < 256
  sa : r.sa < 4294967296
  da : r.da < 4294967296
  sl : r.sl < 65536
  sh : r.sh < 65536
  dl : r.dl < 65536
  dh : r.dh < 65536
def goodR (r : Rl) : Bool := mayNet r.sa r.sb && mayNet r.da r.db && decide (wordF r.pr ≠ []) && decide (r.sl ≤ r.sh) && decide (r.dl ≤ r.dh)
theorem goodR_iff {r : Rl} : goodR r = true ↔ mayNet r.sa r.sb = true ∧ mayNet r.da r.db = true ∧ wordF r.pr ≠ [] ∧ r.sl ≤ r.sh ∧ r.dl ≤ r.dh := by
  unfold goodR
  simp only [Bool.and_eq_true, decide_eq_true_eq, and_assoc]
/-- A net's text; nothing: it has none. -/
def netL (a : Nat) (n : Int) : List UInt8 := (showNet a n).getD []
def actL (b : Bool) : List UInt8 := if b then acceptL else dropL
def wordsR (r : Rl) : List (List UInt8) := [actL r.acc, wordF r.pr, netL r.sa r.sb, spanL r.sl r.sh, netL r.da r.db, spanL r.dl r.dh]
/-- The rule of a line's words. -/
def ruleOf : List (List UInt8) → Option Rl
  | [w0, w1, w2, w3, w4, w5] =>
    if w0 = acceptL ∨ w0 = dropL then
      match protoOf w1, netOf w2, netOf w4, spanOf w3, spanOf w5 with
      | some p, some s, some d, some a, some b => some ⟨decide (w0 = acceptL), p, s.1, s.2, d.1, d.2, a.1, a.2, b.1, b.2⟩
      | _, _, _, _, _ => none
    else none
  | _ => none
theorem show_may {a : Nat} {n : Int} : (showNet a n).isSome = mayNet a n := by unfold showNet; split <;> simp_all
theorem netL_may {a : Nat} {n : Int} (h : mayNet a n = true) : showNet a n = some (netL a n) := by
  unfold netL
  have : (showNet a n).isSome = true := by rw [show_may, h]
  cases hs : showNet a n with
  | none => rw [hs] at this; cases this
  | some l => rfl
theorem may_bits {a : Nat} {n : Int} (h : mayNet a n = true) : 0 ≤ n ∧ n ≤ 32 := by unfold mayNet at h; rw [decide_eq_true_iff] at h; exact ⟨h.1, h.2.1⟩
theorem netOf_iff {l : List UInt8} {a b : Nat} : netOf l = some (a, b) ↔ a < 4294967296 ∧ mayNet a b = true ∧ netL a b = l := by
  constructor
  · intro h
    have := showNet_netOf h
    refine ⟨this.2.1, by rw [← show_may, this.1]; rfl, by unfold netL; rw [this.1]; rfl⟩
  · rintro ⟨h1, h2, h3⟩
    have := netOf_show h1 (netL_may h2)
    rw [h3] at this
    exact this
theorem word_in {n : Nat} (h : wordF n ≠ []) : n < 256 := by
  unfold wordF at h
  split at h
  · omega
  · split at h
    · omega
    · split at h
      · omega
      · split at h
        · omega
        · exact absurd rfl h
theorem ruleOf_iff {ws : List (List UInt8)} {r : Rl} : ruleOf ws = some r ↔ r.In ∧ goodR r = true ∧ wordsR r = ws := by
  constructor
  · intro h
    unfold ruleOf at h
    split at h
    · rename_i w0 w1 w2 w3 w4 w5
      split at h
      · rename_i hact
        split at h
        · rename_i p s d a b hp hs hd ha hb
          obtain ⟨s1, s2⟩ := s; obtain ⟨d1, d2⟩ := d; obtain ⟨a1, a2⟩ := a; obtain ⟨b1, b2⟩ := b
          have hp := protoOf_iff.1 hp
          have hs := netOf_iff.1 hs
          have hd := netOf_iff.1 hd
          have ha := spanOf_iff.1 ha
          have hb := spanOf_iff.1 hb
          injection h with h
          subst h
          refine ⟨⟨word_in hp.2, hs.1, hd.1, by show a1 < 65536; omega, by show a2 < 65536; omega, by show b1 < 65536; omega, by show b2 < 65536; omega⟩, goodR_iff.2 ⟨hs.2.1, hd.2.1, hp.2, ha.1, hb.1⟩, ?_⟩
          show [actL (decide (w0 = acceptL)), wordF p, netL s1 s2, spanL a1 a2, netL d1 d2, spanL b1 b2] = _
          rw [hp.1, hs.2.2, hd.2.2, ha.2.2, hb.2.2]
          congr 1
          unfold actL
          rcases hact with rfl | rfl
          · simp
          · simp [show dropL ≠ acceptL by decide]
        · cases h
      · cases h
    · cases h
  · rintro ⟨hi, hg, rfl⟩
    obtain ⟨g1, g2, g3, g4, g5⟩ := goodR_iff.1 hg
    obtain ⟨acc, pr, sa, sb, da, db, sl, sh, dl, dh⟩ := r
    simp only at g1 g2 g3 g4 g5
    obtain ⟨sbn, rfl⟩ := Int.eq_ofNat_of_zero_le (may_bits g1).1
    obtain ⟨dbn, rfl⟩ := Int.eq_ofNat_of_zero_le (may_bits g2).1
    have h1 : protoOf (wordF pr) = some pr := protoOf_iff.2 ⟨rfl, g3⟩
    have h2 : netOf (netL sa sbn) = some (sa, sbn) := netOf_iff.2 ⟨hi.sa, g1, rfl⟩
    have h3 : netOf (netL da dbn) = some (da, dbn) := netOf_iff.2 ⟨hi.da, g2, rfl⟩
    have h4 : spanOf (spanL sl sh) = some (sl, sh) := spanOf_iff.2 ⟨g4, by have := hi.sh; simp only at this; omega, rfl⟩
    have h5 : spanOf (spanL dl dh) = some (dl, dh) := spanOf_iff.2 ⟨g5, by have := hi.dh; simp only at this; omega, rfl⟩
    show ruleOf [actL acc, wordF pr, netL sa sbn, spanL sl sh, netL da dbn, spanL dl dh] = _
    unfold ruleOf
    simp only [h1, h2, h3, h4, h5]
    cases acc
    · rw [if_pos (.inr rfl)]; rfl
    · rw [if_pos (.inl rfl)]; rfl

/-! ### The words that a rule is written as -/
def okC (b : UInt8) : Prop := 32 < b.toNat ∧ b.toNat ≤ 126 ∧ b ≠ 35
theorem okC_digit {b : UInt8} (h : digit b) : okC b := ⟨by unfold digit at h; omega, by unfold digit at h; omega, fun e => by subst e; exact absurd h (by unfold digit; decide)⟩
theorem okC_dec (n : Nat) : ∀ b ∈ decDigits n, okC b := fun b hb => okC_digit (dec_digits n b hb)
theorem join_sub {b s : UInt8} : ∀ {ps : List (List UInt8)}, b ∈ Lib.join ps [s] → b = s ∨ ∃ p ∈ ps, b ∈ p
  | [], h => by simp [join_nil] at h
  | [p], h => by rw [join_one] at h; exact .inr ⟨p, by simp, h⟩
  | p :: q :: r, h => by
    have ih := join_sub (b := b) (s := s) (ps := q :: r)
    rw [join_cons] at ih h
    simp only [joinTail, List.map_cons, List.flatten_cons, List.mem_append, List.mem_singleton] at ih h
    rcases h with h | (h | h) | h
    · exact .inr ⟨p, by simp, h⟩
    · exact .inl h
    · rcases ih (.inl h) with h | ⟨x, hx, hb⟩
      · exact .inl h
      · exact .inr ⟨x, List.mem_cons_of_mem _ hx, hb⟩
    · rcases ih (.inr h) with h | ⟨x, hx, hb⟩
      · exact .inl h
      · exact .inr ⟨x, List.mem_cons_of_mem _ hx, hb⟩
theorem okC_show (a : Nat) : ∀ b ∈ showAddr a, okC b := fun b hb => by
  unfold showAddr at hb
  rcases join_sub hb with rfl | ⟨p, hp, h⟩
  · unfold okC; decide
  · simp only [List.mem_cons, List.not_mem_nil, or_false] at hp
    rcases hp with rfl | rfl | rfl | rfl <;> exact okC_dec _ _ h
theorem okW_of {l : List UInt8} (h : l ≠ []) (k : ∀ b ∈ l, okC b) : okW l := ⟨h, k⟩
theorem okC_any : ∀ b ∈ anyL, okC b := by unfold okC; decide
theorem okW_span (lo hi : Nat) : okW (spanL lo hi) := by
  unfold spanL
  split
  · exact okW_of (by decide) okC_any
  · split
    · exact okW_of (dec_ne_nil _) (okC_dec _)
    · refine okW_of (by simp) fun b hb => ?_
      simp only [List.mem_append, List.mem_cons] at hb
      rcases hb with hb | rfl | hb
      · exact okC_dec _ _ hb
      · unfold okC; decide
      · exact okC_dec _ _ hb
theorem okW_net {a : Nat} {n : Int} (h : mayNet a n = true) : okW (netL a n) := by
  unfold netL showNet
  rw [if_pos h]
  simp only [Option.getD_some]
  split
  · exact okW_of (by decide) okC_any
  · refine okW_of (by simp) fun b hb => ?_
    simp only [List.mem_append, List.mem_cons] at hb
    rcases hb with hb | rfl | hb
    · exact okC_show _ _ hb
    · unfold okC; decide
    · exact okC_dec _ _ hb
theorem okW_word {n : Nat} (h : wordF n ≠ []) : okW (wordF n) := by
  refine okW_of h ?_
  unfold wordF
  split
  · exact okC_any
  · split
    · unfold okC; decide
    · split
      · unfold okC; decide
      · split
        · unfold okC; decide
        · intro b hb; cases hb
theorem okW_act (b : Bool) : okW (actL b) := by cases b <;> exact ⟨by decide, by decide⟩
theorem okW_rule {r : Rl} (h : goodR r = true) : ∀ w ∈ wordsR r, okW w := by
  obtain ⟨g1, g2, g3, g4, g5⟩ := goodR_iff.1 h
  intro w hw
  simp only [wordsR, List.mem_cons, List.not_mem_nil, or_false] at hw
  rcases hw with rfl | rfl | rfl | rfl | rfl | rfl
  · exact okW_act _
  · exact okW_word g3
  · exact okW_net g1
  · exact okW_span _ _
  · exact okW_net g2
  · exact okW_span _ _

/-! ### The reference's rule of a line -/
/-- The last protocol of that word. -/
def protoUpTo (l : List UInt8) : Nat → Nat
  | 0 => 0
  | k + 1 => if wordF k = l then k else protoUpTo l k
def refProto (l : List UInt8) : Nat := protoUpTo l 18
theorem refProto_of {l : List UInt8} {p : Nat} (h : protoOf l = some p) : refProto l = p := by
  have hh := protoOf_iff.1 h
  have hp : p = 0 ∨ p = 1 ∨ p = 6 ∨ p = 17 := by
    have := hh.2
    unfold wordF at this
    split at this
    · exact .inl ‹_›
    · split at this
      · exact .inr (.inl ‹_›)
      · split at this
        · exact .inr (.inr (.inl ‹_›))
        · split at this
          · exact .inr (.inr (.inr ‹_›))
          · exact absurd rfl this
  rcases hp with rfl | rfl | rfl | rfl <;> rw [← hh.1] <;> decide
/-- A text's net, or nothing. -/
def netV (l : List UInt8) : Nat × Nat := (netOf l).getD (0, 0)
theorem netV_lt (l : List UInt8) : (netV l).1 < 4294967296 := by
  unfold netV
  cases h : netOf l with
  | none => decide
  | some q => obtain ⟨a, b⟩ := q; exact (netOf_iff.1 h).1
theorem refSpan_lt (l : List UInt8) : (refSpan l).1 < 65536 ∧ (refSpan l).2 < 65536 := by
  by_cases hl : l = anyL
  · have e : refSpan l = (0, 65535) := if_pos hl
    rw [e]; decide
  · by_cases h3 : numV (cutA l) > 65535 ∨ numV (cutB l) > 65535
    · have e : refSpan l = (1, 0) := (if_neg hl).trans (if_pos h3)
      rw [e]; decide
    · have e : refSpan l = (numV (cutA l), numV (cutB l)) := (if_neg hl).trans (if_neg h3)
      rw [e]
      show numV (cutA l) < 65536 ∧ numV (cutB l) < 65536
      omega
def refRule (w0 w1 w2 w3 w4 w5 : List UInt8) : Rl := ⟨decide (w0 = acceptL), refProto w1, (netV w2).1, (netV w2).2, (netV w4).1, (netV w4).2, (refSpan w3).1, (refSpan w3).2, (refSpan w5).1, (refSpan w5).2⟩
theorem refRule_iff {w0 w1 w2 w3 w4 w5 : List UInt8} (hw : ∀ w ∈ [w0, w1, w2, w3, w4, w5], okW w) :
    (goodR (refRule w0 w1 w2 w3 w4 w5) = true ∧ Lib.join (wordsR (refRule w0 w1 w2 w3 w4 w5)) [32] = Lib.join [w0, w1, w2, w3, w4, w5] [32]) ↔ ruleOf [w0, w1, w2, w3, w4, w5] = some (refRule w0 w1 w2 w3 w4 w5) := by
  constructor
  · rintro ⟨h1, h2⟩
    have h3 : wordsR (refRule w0 w1 w2 w3 w4 w5) = [w0, w1, w2, w3, w4, w5] := by
      rw [← fields_join _ (okW_rule h1), h2, fields_join _ hw]
    exact ruleOf_iff.2 ⟨⟨word_in (goodR_iff.1 h1).2.2.1, netV_lt _, netV_lt _, (refSpan_lt _).1, (refSpan_lt _).2, (refSpan_lt _).1, (refSpan_lt _).2⟩, h1, h3⟩
  · intro h
    have := ruleOf_iff.1 h
    exact ⟨this.2.1, by rw [this.2.2]⟩
theorem ruleOf_ref {w0 w1 w2 w3 w4 w5 : List UInt8} {r : Rl} (h : ruleOf [w0, w1, w2, w3, w4, w5] = some r) : refRule w0 w1 w2 w3 w4 w5 = r := by
  unfold ruleOf at h
  simp only at h
  split at h
  · split at h
    · rename_i p s d a b hp hs hd ha hb
      injection h with h
      rw [← h]
      unfold refRule netV
      obtain ⟨a1, a2⟩ := a; obtain ⟨b1, b2⟩ := b
      rw [refProto_of hp, hs, hd, refSpan_of ha, refSpan_of hb]
      rfl
    · cases h
  · cases h

/-! ### Texts of rules -/
def lineB (r : Rl) : List UInt8 := Lib.join (wordsR r) [32] ++ [10]
def printL (rs : List Rl) : List UInt8 := (rs.map lineB).flatten
/-- What Print answers. -/
def printF (rs : List Rl) : List UInt8 × Int := if 64 < rs.length then ([], 14) else if rs.all goodR then (printL rs, 0) else ([], 1)
def linesR : Nat → List Rl → List Ln
  | _, [] => []
  | n, r :: rs => (n, wordsR r) :: linesR (n + 1) rs
def compF : List Rl → List Ln → List Rl × Nat × Int
  | acc, [] => (acc, 0, 0)
  | acc, (n, ws) :: r => if acc.length = 64 then ([], n, 14) else match ruleOf ws with
    | none => ([], n, 3)
    | some x => compF (acc ++ [x]) r
/-- What Compile answers. -/
def compileF (l : List UInt8) : List Rl × Nat × Int := if (textF l).2.2 = 0 then compF [] (textF l).1 else ([], (textF l).2.1, (textF l).2.2)
theorem lines_print : ∀ (rs : List Rl) (n : Nat), (∀ r ∈ rs, goodR r = true) → linesGo n (pieces 10 (printL rs)) = linesR n rs
  | [], n, _ => by
    show linesGo n (pieces 10 []) = []
    show linesGo n [[]] = []
    unfold linesGo
    rw [if_pos wordsOf_nil]; rfl
  | r :: rs, n, h => by
    have hr := h r (by simp)
    have hok := okW_rule hr
    have e : printL (r :: rs) = Lib.join (wordsR r) [32] ++ 10 :: printL rs := by unfold printL lineB; simp
    rw [e, pieces_at _ (join_no hok).1]
    unfold linesGo
    rw [wordsOf_join hok, if_neg (by unfold wordsR; simp), lines_print rs (n + 1) (fun x hx => h x (by simp [hx]))]
    rfl
theorem okB_word {w : List UInt8} (h : okW w) : ∀ b ∈ w, okB b := fun b hb => by
  have := h.2 b hb
  unfold okB badB
  simp
  intro _
  omega
theorem print_good : ∀ (rs : List Rl), (∀ r ∈ rs, goodR r = true) → ∀ b ∈ printL rs, okB b := fun rs h b hb => by
  unfold printL at hb
  obtain ⟨l, hl, hbl⟩ := List.mem_flatten.1 hb
  obtain ⟨r, hr, rfl⟩ := List.mem_map.1 hl
  unfold lineB at hbl
  rw [List.mem_append, List.mem_singleton] at hbl
  rcases hbl with hbl | rfl
  · rcases join_sub hbl with rfl | ⟨w, hw, hbw⟩
    · unfold okB badB; decide
    · exact okB_word (okW_rule (h r hr) w hw) b hbw
  · unfold okB badB; decide
theorem text_print {rs : List Rl} (h : ∀ r ∈ rs, goodR r = true) : textF (printL rs) = if 4096 < (printL rs).length then ([], 0, 2) else (linesR 1 rs, 0, 0) := by
  unfold textF
  rw [firstBad_none.2 (print_good rs h)]
  simp only
  unfold linesOf
  rw [lines_print rs 1 h]
theorem comp_lines : ∀ (rs acc : List Rl) (n : Nat), (∀ r ∈ rs, r.In ∧ goodR r = true) → acc.length + rs.length ≤ 64 → compF acc (linesR n rs) = (acc ++ rs, 0, 0)
  | [], acc, n, _, _ => by unfold linesR compF; rw [List.append_nil]
  | r :: rs, acc, n, h, hl => by
    have hr := h r (by simp)
    unfold linesR compF
    rw [if_neg (by simp at hl; omega), ruleOf_iff.2 ⟨hr.1, hr.2, rfl⟩]
    simp only
    rw [comp_lines rs (acc ++ [r]) (n + 1) (fun x hx => h x (by simp [hx])) (by simp at hl ⊢; omega)]
    simp
theorem print_back {rs : List Rl} {t : List UInt8} (hi : ∀ r ∈ rs, r.In) (h : printF rs = (t, 0)) :
    compileF t = if 4096 < t.length then ([], 0, 2) else (rs, 0, 0) := by
  unfold printF at h
  split at h
  · injection h with _ h; cases h
  · split at h
    · rename_i hl hg
      injection h with h _
      subst h
      rw [List.all_eq_true] at hg
      unfold compileF
      rw [text_print hg]
      split
      · rfl
      · simp only [if_true]
        rw [comp_lines rs [] 1 (fun r hr => ⟨hi r hr, hg r hr⟩) (by simp; omega)]
        rfl
    · injection h with _ h; cases h
theorem comp_out : ∀ (ls : List Ln) (acc rs : List Rl) (n : Nat) (e : Int), compF acc ls = (rs, n, e) → (∀ r ∈ acc, r.In ∧ goodR r = true) → acc.length ≤ 64 →
    (e = 0 → (∀ r ∈ rs, r.In ∧ goodR r = true) ∧ rs.length ≤ 64) ∧ (e ≠ 0 → rs = [])
  | [], acc, rs, n, e, h, ha, hl => by
    unfold compF at h
    cases h
    exact ⟨fun _ => ⟨ha, hl⟩, fun h => absurd rfl h⟩
  | (k, ws) :: r, acc, rs, n, e, h, ha, hl => by
    unfold compF at h
    split at h
    · cases h
      exact ⟨(fun h => by cases h), fun _ => rfl⟩
    · split at h
      · cases h
        exact ⟨(fun h => by cases h), fun _ => rfl⟩
      · rename_i x hx
        have hxx := ruleOf_iff.1 hx
        refine comp_out r _ rs n e h (fun y hy => ?_) (by simp; omega)
        rcases List.mem_append.1 hy with h1 | h1
        · exact ha y h1
        · rw [List.mem_singleton.1 h1]; exact ⟨hxx.1, hxx.2.1⟩
theorem compile_out {l : List UInt8} {rs : List Rl} {n : Nat} {e : Int} (h : compileF l = (rs, n, e)) : (e = 0 → (∀ r ∈ rs, r.In ∧ goodR r = true) ∧ rs.length ≤ 64) ∧ (e ≠ 0 → rs = []) := by
  unfold compileF at h
  split at h
  · exact comp_out _ _ _ _ _ h (fun _ h => by cases h) (by simp)
  · cases h
    rename_i h0
    exact ⟨fun h => absurd h h0, fun _ => rfl⟩
/-- What is compiled is printed, and compiled as the same. -/
theorem compile_print {l : List UInt8} {rs : List Rl} {n : Nat} (h : compileF l = (rs, n, 0)) : printF rs = (printL rs, 0) := by
  obtain ⟨h1, h2⟩ := (compile_out h).1 rfl
  unfold printF
  rw [if_neg (by omega), if_pos (List.all_eq_true.2 fun r hr => (h1 r hr).2)]
end Go.Proofs.YtahgapkecabnjaaGreatDoor
/- The walks of the two Numbers of layer 11, and of the law TextNumbers. -/
namespace Go.Proofs.YtahgapkecabnjaaGreatDoor
set_option linter.unusedSimpArgs false
set_option linter.unusedVariables false
open Go Go.RowKit

/-- 2^62. -/
def big62 : Nat := 4611686018427387904
def numT (l : List UInt8) : Int := if isNum l big62 then valOf l else 0

theorem isNum_bad {l : List UInt8} {c : UInt8} {m : Nat} (hc : c ∈ l) (h : ¬ digit c) : isNum l m = false := by
  unfold isNum
  rw [decide_eq_false]
  rintro ⟨e, _⟩
  exact h (dec_digits (valOf l) c (by rw [e]; exact hc))
theorem isNum_long {l : List UInt8} (h : 19 < l.length) : isNum l big62 = false := by
  unfold isNum
  rw [decide_eq_false]
  rintro ⟨e, h2⟩
  have := dec_len_le 19 (valOf l) (by unfold big62 at h2; omega) (by omega)
  rw [e] at this; omega

/-- The walk of the law TextNumbers needs the fixed fact; it stands in a later text. -/
theorem numT_bounds (l : List UInt8) : 0 ≤ numT l ∧ numT l ≤ 4611686018427387904 := by
  unfold numT
  split
  · rename_i h
    have := (isNum_atoi (by decide) h).2.1
    unfold big62 at this
    omega
  · omega
end Go.Proofs.YtahgapkecabnjaaGreatDoor
/- What a call may change of memory: footprints; rows of a call's own under them. -/
namespace Go.Proofs.YtahgapkecabnjaaGreatDoor
set_option linter.unusedSimpArgs false
set_option linter.unusedVariables false
open Go Go.RowKit

/-- Of what was there only blocks of F may have changed. -/
structure Turn (F : Nat → Prop) (w w' : World) : Prop where
  os : w'.os = w.os
  tape : w'.tape = w.tape
  output : w'.output = w.output
  size : w.heap.size ≤ w'.heap.size
  block : ∀ i, i < w.heap.size → ¬ F i → w'.heap[i]? = w.heap[i]?

theorem Turn.refl (F : Nat → Prop) (w : World) : Turn F w w := ⟨rfl, rfl, rfl, Nat.le_refl _, fun _ _ _ => rfl⟩
theorem Turn.trans {F G : Nat → Prop} {w w1 w2 : World} (h : Turn F w w1) (k : Turn G w1 w2) (hG : ∀ i, G i → F i ∨ w.heap.size ≤ i) : Turn F w w2 :=
  ⟨k.os.trans h.os, k.tape.trans h.tape, k.output.trans h.output, Nat.le_trans h.size k.size, fun i hi hf => (k.block i (Nat.lt_of_lt_of_le hi h.size) (fun hg => (hG i hg).elim hf (fun hle => by omega))).trans (h.block i hi hf)⟩
theorem Turn.mono {F G : Nat → Prop} {w w' : World} (h : Turn F w w') (hG : ∀ i, F i → G i) : Turn G w w' := ⟨h.os, h.tape, h.output, h.size, fun i hi hg => h.block i hi (fun hf => hg (hG i hf))⟩
theorem Turn.of_below {F : Nat → Prop} {w w' : World} (h : Below w.heap.size w w') : Turn F w w' := ⟨h.os, h.tape, h.output, h.size, fun i hi _ => h.block i hi⟩
theorem Turn.below {F : Nat → Prop} {w w' : World} {B : Nat} (h : Turn F w w') (hB : B ≤ w.heap.size) (hF : ∀ i, F i → B ≤ i) : Below B w w' :=
  ⟨h.os, h.tape, h.output, h.size, fun i hi => h.block i (by omega) (fun hf => by have := hF i hf; omega)⟩
theorem Turn.grown {F : Nat → Prop} {w w1 w2 : World} {row : Option Nat} (h : Turn F w w1) (k : w1.grownBy w2 row) (hr : ∀ b, row = some b → F b ∨ w.heap.size ≤ b) : Turn F w w2 :=
  ⟨k.os.trans h.os, k.tape.trans h.tape, k.output.trans h.output, Nat.le_trans h.size k.size, fun i hi hf => (k.block i (Nat.lt_of_lt_of_le hi h.size) (fun e => (hr i e.symm).elim hf (fun hle => by omega))).trans (h.block i hi hf)⟩
theorem Turn.alloc {F : Nat → Prop} {w w1 : World} (h : Turn F w w1) (o : Obj) : Turn F w (w1.alloc o) :=
  h.grown (World.grownBy_alloc w1 o none) (fun b e => by cases e)
theorem Turn.setCell {F : Nat → Prop} {w w1 : World} (h : Turn F w w1) (a : Addr) (v : Value) (ha : F a.block ∨ w.heap.size ≤ a.block) : Turn F w (w1.setCell a v) :=
  ⟨h.os, h.tape, h.output, by simpa [World.setCell] using h.size, fun i hi hf => by
    rw [Below.heap_setCell _ _ _ _ (fun e => by subst e; exact ha.elim hf (fun hle => by omega))]; exact h.block i hi hf⟩
theorem Turn.drew {F : Nat → Prop} {w w1 : World} (h : Turn F w w1) : Turn F w w1.drew := ⟨h.os, h.tape, h.output, h.size, h.block⟩
theorem Turn.drewN {F : Nat → Prop} {w w1 : World} (h : Turn F w w1) (n : Nat) : Turn F w (w1.drewN n) := ⟨h.os, h.tape, h.output, h.size, h.block⟩
theorem Turn.cell {F : Nat → Prop} {w w' : World} (h : Turn F w w') {a : Addr} {v : Value} (hc : w.cell? a = some v) (hf : ¬ F a.block) : w'.cell? a = some v :=
  (World.cell?_of_block (w := w) (h.block a.block (World.block_lt_of_cell? w a hc) hf)).trans hc

/-- A footprint that has grown by new blocks alone. -/
def Ext (w : World) (F F' : Nat → Prop) : Prop := ∀ i, F' i → F i ∨ w.heap.size ≤ i
def Sep (F G : Nat → Prop) : Prop := ∀ i, F i → ¬ G i
theorem Ext.refl (w : World) (F : Nat → Prop) : Ext w F F := fun _ h => .inl h
theorem Ext.trans {w w1 : World} {F G K : Nat → Prop} (h : Ext w F G) (k : Ext w1 G K) (hs : w.heap.size ≤ w1.heap.size) : Ext w F K := fun i hi => (k i hi).elim (h i) (fun hle => .inr (by omega))
theorem Sep.symm {F G : Nat → Prop} (h : Sep F G) : Sep G F := fun i hg hf => h i hf hg
theorem Sep.ext {w : World} {F F' G : Nat → Prop} (h : Sep F G) (k : Ext w F F') (hG : ∀ i, G i → i < w.heap.size) : Sep F' G := fun i hi hg => (k i hi).elim (fun hf => h i hf hg) (fun hle => by have := hG i hg; omega)
theorem Ext.base {w : World} {F F' : Nat → Prop} {B : Nat} (k : Ext w F F') (hB : B ≤ w.heap.size) (hF : ∀ i, F i → B ≤ i) : ∀ i, F' i → B ≤ i := fun i hi => (k i hi).elim (hF i) (fun hle => by omega)

/-! ### Rows -/
/-- Slice value v owns, in a block of its own, just the cells xs: n elements of type e, of 'size' cells. -/
abbrev Row (w : World) (e : TypeId) (size : Nat) (v : Value) (n : Nat) (xs : List Value) : Prop := w.ownsRow 0 e size v n xs

def rowFoot (v : Value) : Nat → Prop := fun i => v.ownBlock = some i

theorem row_of_block {w w' : World} {e : TypeId} {size n : Nat} {v : Value} {xs : List Value} (h : Row w e size v n xs) (hb : ∀ b, v.ownBlock = some b → w'.heap[b]? = w.heap[b]?) : Row w' e size v n xs := by
  refine ⟨h.1, ?_⟩
  rcases h.2 with h1 | ⟨g, cap, cur, rfl, h2, h3, h4⟩
  · exact .inl h1
  · exact .inr ⟨g, cap, cur, rfl, h2, (hb g rfl).trans h3, h4⟩
theorem row_lt {w : World} {e : TypeId} {size n : Nat} {v : Value} {xs : List Value} (h : Row w e size v n xs) {b : Nat} (hb : v.ownBlock = some b) : b < w.heap.size := by
  rcases h.2 with ⟨rfl, _⟩ | ⟨g, cap, cur, rfl, h2, h3, h4⟩
  · cases hb
  · cases hb
    exact (Array.getElem?_eq_some_iff.1 h3).1
theorem row_turn {F : Nat → Prop} {w w' : World} {e : TypeId} {size n : Nat} {v : Value} {xs : List Value} (h : Row w e size v n xs) (t : Turn F w w') (hF : ∀ b, v.ownBlock = some b → ¬ F b) : Row w' e size v n xs :=
  row_of_block h fun b hb => t.block b (row_lt h hb) (hF b hb)
theorem row_nil (w : World) (e : TypeId) (size : Nat) : Row w e size (.slice none 0 0) 0 [] := ⟨by simp, .inl ⟨rfl, rfl⟩⟩
theorem row_type {w : World} {e : TypeId} {size n : Nat} {v : Value} {xs : List Value} (h : Row w e size v n xs) {b : Nat} (hb : v.ownBlock = some b) : ∃ cur, w.heap[b]? = some (.cells cur e (0, 0)) := by
  rcases h.2 with ⟨rfl, _⟩ | ⟨g, cap, cur, rfl, h2, h3, h4⟩
  · cases hb
  · cases hb; exact ⟨cur, h3⟩
theorem row_len {w : World} {e : TypeId} {size n : Nat} {v : Value} {xs : List Value} (h : Row w e size v n xs) : n ≤ maxLen := by
  rcases h.2 with ⟨_, rfl⟩ | ⟨g, cap, cur, rfl, h2, h3, h4, h5, _⟩
  · exact Nat.zero_le _
  · omega
/-- The shape of the slice: what its cells hold. -/
theorem row_form {w : World} {e : TypeId} {size n : Nat} {v : Value} {xs : List Value} (h : Row w e size v n xs) : ∃ a c, v = .slice a n c ∧ (∀ j x, xs[j]? = some x → ∃ g, a = some ⟨g, 0, none⟩ ∧ w.cell? ⟨g, j, none⟩ = some x ∧ w.frozen? ⟨g, j, none⟩ = false) := by
  rcases h.2 with ⟨rfl, rfl⟩ | ⟨g, cap, cur, rfl, h2, h3, h4, h5, h6, h7⟩
  · refine ⟨none, 0, rfl, fun j x hj => ?_⟩
    have : xs = [] := List.eq_nil_of_length_eq_zero (by rw [h.1]; omega)
    subst this
    simp at hj
  · refine ⟨_, cap, rfl, fun j x hj => ⟨g, rfl, ?_, ?_⟩⟩
    · rw [← h7, List.getElem?_take] at hj
      split at hj
      · simp [World.cell?, h3]; simpa using hj
      · cases hj
    · simp [World.frozen?, h3]
/-- One cell of the row is written. -/
theorem row_set {w : World} {e : TypeId} {size n : Nat} {v : Value} {xs : List Value} (h : Row w e size v n xs) {g : Nat} (hg : v.ownBlock = some g) (j : Nat) (x : Value) (hj : j < xs.length) : Row (w.setCell ⟨g, j, none⟩ x) e size v n (xs.set j x) := by
  refine ⟨by rw [List.length_set]; exact h.1, ?_⟩
  rcases h.2 with ⟨rfl, _⟩ | ⟨g', cap, cur, rfl, h2, h3, h4, h5, h6, h7⟩
  · cases hg
  · cases hg
    refine .inr ⟨g', cap, cur.setIfInBounds j x, rfl, h2, ?_, h4, h5, by simpa using h6, ?_⟩
    · show (w.heap.modify g' _)[g']? = _
      rw [Array.getElem?_modify, if_pos rfl, h3]; rfl
    · rw [← h7, Array.toList_setIfInBounds, List.take_set]
/-- The cells of a new block, as the laws on append ask for them. -/
theorem cells_new (w : World) (l : List Value) (t : TypeId) : ∀ j u, l[j]? = some u → (w.alloc (.cells l.toArray t)).cell? ((⟨w.heap.size, 0, none⟩ : Addr).add j) = some u := by
  intro j u hj
  have e : (⟨w.heap.size, 0, none⟩ : Addr).add j = ⟨w.heap.size, j, none⟩ := by unfold Addr.add; split <;> simp_all
  rw [e]
  simp [hj]
theorem set_heap_row {w : World} {g o : Nat} {cs : Array Value} {T : TypeId} {fr : Nat × Nat} (h : w.heap[g]? = some (.cells cs T fr)) (v : Value) : (w.setCell ⟨g, o, none⟩ v).heap[g]? = some (.cells (cs.setIfInBounds o v) T fr) := by
  show (w.heap.modify g _)[g]? = _
  rw [Array.getElem?_modify, if_pos rfl, h]; rfl
end Go.Proofs.YtahgapkecabnjaaGreatDoor
/- The walks of addr's Print and Show. -/
namespace Go.Proofs.YtahgapkecabnjaaGreatDoor
set_option linter.unusedSimpArgs false
set_option linter.unusedVariables false
open Go Go.RowKit

theorem owns_below {w w1 : World} {base : Nat} {e : TypeId} {size n : Nat} {v : Value} {xs : List Value} (h : w.ownsRow base e size v n xs) (hb : Below w.heap.size w w1) : w1.ownsRow base e size v n xs := by
  refine ⟨h.1, ?_⟩
  rcases h.2 with h1 | ⟨g, cap, cur, rfl, h2, h3, h4⟩
  · exact .inl h1
  · refine .inr ⟨g, cap, cur, rfl, h2, ?_, h4⟩
    have hl : g < w.heap.size := by
      by_cases hl : g < w.heap.size
      · exact hl
      · rw [Array.getElem?_eq_none (by omega)] at h3; cases h3
    rw [hb.block g hl]; exact h3
theorem owns_block {w : World} {base : Nat} {e : TypeId} {size n : Nat} {v : Value} {xs : List Value} (h : w.ownsRow base e size v n xs) : ∀ b, v.ownBlock = some b → base ≤ b := by
  rcases h.2 with ⟨rfl, _⟩ | ⟨g, cap, cur, rfl, h2, _⟩
  · intro b hb; cases hb
  · intro b hb; cases hb; exact h2

theorem Row_of_owns {w : World} {base : Nat} {e : TypeId} {size n : Nat} {v : Value} {xs : List Value} (h : w.ownsRow base e size v n xs) : Row w e size v n xs := by
  refine ⟨h.1, ?_⟩
  rcases h.2 with h1 | ⟨g, cap, cur, rfl, h2, h3⟩
  · exact .inl h1
  · exact .inr ⟨g, cap, cur, rfl, Nat.zero_le _, h3⟩
theorem owns_cap {w : World} {base : Nat} {e : TypeId} {size n c : Nat} {a : Option Addr} {xs : List Value} (h : w.ownsRow base e size (.slice a n c) n xs) : n ≤ c := by
  rcases h.2 with ⟨h1, h2⟩ | ⟨g, cap, cur, h1, h2, h3, h4, _⟩
  · omega
  · cases h1; exact h4
theorem infoStr : (Tryz.prog.info? 9).map (fun i => (i.zero, i.size, i.bytes)) = some (some (.string ByteArray.empty), 1, 16) := by kernel_rfl

/-- The four parts of an address's text. -/
def parts4 (a : Nat) : List (List UInt8) := [Lib.decDigits (byteAt a 3), Lib.decDigits (byteAt a 2), Lib.decDigits (byteAt a 1), Lib.decDigits (byteAt a 0)]
theorem itoa_byte (n : Int) (m : Nat) (h : n = m) : Lib.itoa n = Lib.decDigits m := by subst h; rw [Lib.itoa, if_neg (by omega), Int.toNat_natCast]

set_option maxHeartbeats 2000000 in
set_option maxRecDepth 100000 in
theorem print_any (a : Nat) (w : World) (ha : a < 4294967296) (hT : Tabs w) :
    Calls Tryz.prog 117 #[.int .u32 a] w fun e w' => e = .returned (str (showAddr a)) ∧ Below w.heap.size w w' := by
  obtain ⟨i0, hi, hz0, hz1, hz2⟩ := info_parts infoStr
  have HT := Lib.hid hT
  have HA := Lib.hid ha
  clear hT ha
  go_enter Tryz.func117, Tryz.ntmps117
  go_wp2_with fail
  go_loopw [3, 4] (fun v sh wr => ∃ k : Nat, k ≤ 4 ∧ sh = .int .i64 (24 - 8 * k) ∧ wr.ownsRow w.heap.size 9 1 v k (((parts4 a).take k).map str) ∧ Below w.heap.size w wr) (fun _ sh _ => (intOf sh + 8).toNat)
  case atStart => exact ⟨0, by omega, rfl, ⟨rfl, .inl ⟨rfl, rfl⟩⟩, Below.refl _ _⟩
  case round =>
    obtain ⟨k, hk, rfl, hown, hb⟩ := hrel
    have HO := Lib.hid hown
    have HBB := Lib.hid hb
    clear hown hb
    obtain rfl | rfl | rfl | rfl | rfl : k = 0 ∨ k = 1 ∨ k = 2 ∨ k = 3 ∨ k = 4 := by omega
    · have HI := Lib.hid (fun W (hT : Tabs W) => itoa_any ((a : Int) / 16777216 % 256) W (by omega) (by omega) hT)
      go_wp2_with fail
      refine (HI.out _ (HT.out.below HBB.out)).mono ?_
      rintro e w1 ⟨rfl, h1⟩
      have hown := owns_below HO.out h1
      have HB1 := Lib.hid (HBB.out.trans (h1.mono HBB.out.size))
      have hsz : w.heap.size ≤ w1.heap.size := HB1.out.size
      clear h1
      go_wp2_with (at_builtin; refine wpList_append_own _ rfl _ _ 179 rfl w.heap.size 9 i0 (.string ByteArray.empty) 1 16 Tryz.underlying179 hi hz0 hz1 hz2 rfl (by decide) _ _ _ rfl (owns_below hown ((Below.refl _ _).alloc (Nat.le_refl _) _)) ⟨w1.heap.size, 0, none⟩ 1 1 [str (Lib.itoa ((a : Int) / 16777216 % 256))] rfl rfl (cells_new _ [str (Lib.itoa ((a : Int) / 16777216 % 256))] _) (by intro u hu; simp at hu; subst hu; rfl) (by unfold maxLen; omega) (by omega) (by simp; omega) ?_; intro v' w2 hown2 hgrow2 _)
      have HB2 := Lib.hid (((HB1.out.alloc (by omega) (.cells #[str (Lib.itoa ((a : Int) / 16777216 % 256))] 9))).grown hgrow2 (by simp; omega) (owns_block hown))
      clear hgrow2 hown
      have HO2 := Lib.hid hown2
      clear hown2
      go_wp2_with fail
      go_roundw
      case rel =>
        refine ⟨1, by omega, by first | rfl | go_num, ?_, HB2.out⟩
        have := HO2.out
        rw [itoa_byte _ (byteAt a 3) (by have := HA.out; unfold byteAt; omega)] at this
        exact this
      case measure => simp [intOf]
    · have HI := Lib.hid (fun W (hT : Tabs W) => itoa_any ((a : Int) / 65536 % 256) W (by omega) (by omega) hT)
      go_wp2_with fail
      refine (HI.out _ (HT.out.below HBB.out)).mono ?_
      rintro e w1 ⟨rfl, h1⟩
      have hown := owns_below HO.out h1
      have HB1 := Lib.hid (HBB.out.trans (h1.mono HBB.out.size))
      have hsz : w.heap.size ≤ w1.heap.size := HB1.out.size
      clear h1
      go_wp2_with (at_builtin; refine wpList_append_own _ rfl _ _ 179 rfl w.heap.size 9 i0 (.string ByteArray.empty) 1 16 Tryz.underlying179 hi hz0 hz1 hz2 rfl (by decide) _ _ _ rfl (owns_below hown ((Below.refl _ _).alloc (Nat.le_refl _) _)) ⟨w1.heap.size, 0, none⟩ 1 1 [str (Lib.itoa ((a : Int) / 65536 % 256))] rfl rfl (cells_new _ [str (Lib.itoa ((a : Int) / 65536 % 256))] _) (by intro u hu; simp at hu; subst hu; rfl) (by unfold maxLen; omega) (by omega) (by simp; omega) ?_; intro v' w2 hown2 hgrow2 _)
      have HB2 := Lib.hid (((HB1.out.alloc (by omega) (.cells #[str (Lib.itoa ((a : Int) / 65536 % 256))] 9))).grown hgrow2 (by simp; omega) (owns_block hown))
      clear hgrow2 hown
      have HO2 := Lib.hid hown2
      clear hown2
      go_wp2_with fail
      go_roundw
      case rel =>
        refine ⟨2, by omega, by first | rfl | go_num, ?_, HB2.out⟩
        have := HO2.out
        rw [itoa_byte _ (byteAt a 2) (by have := HA.out; unfold byteAt; omega)] at this
        exact this
      case measure => simp [intOf]
    · have HI := Lib.hid (fun W (hT : Tabs W) => itoa_any ((a : Int) / 256 % 256) W (by omega) (by omega) hT)
      go_wp2_with fail
      refine (HI.out _ (HT.out.below HBB.out)).mono ?_
      rintro e w1 ⟨rfl, h1⟩
      have hown := owns_below HO.out h1
      have HB1 := Lib.hid (HBB.out.trans (h1.mono HBB.out.size))
      have hsz : w.heap.size ≤ w1.heap.size := HB1.out.size
      clear h1
      go_wp2_with (at_builtin; refine wpList_append_own _ rfl _ _ 179 rfl w.heap.size 9 i0 (.string ByteArray.empty) 1 16 Tryz.underlying179 hi hz0 hz1 hz2 rfl (by decide) _ _ _ rfl (owns_below hown ((Below.refl _ _).alloc (Nat.le_refl _) _)) ⟨w1.heap.size, 0, none⟩ 1 1 [str (Lib.itoa ((a : Int) / 256 % 256))] rfl rfl (cells_new _ [str (Lib.itoa ((a : Int) / 256 % 256))] _) (by intro u hu; simp at hu; subst hu; rfl) (by unfold maxLen; omega) (by omega) (by simp; omega) ?_; intro v' w2 hown2 hgrow2 _)
      have HB2 := Lib.hid (((HB1.out.alloc (by omega) (.cells #[str (Lib.itoa ((a : Int) / 256 % 256))] 9))).grown hgrow2 (by simp; omega) (owns_block hown))
      clear hgrow2 hown
      have HO2 := Lib.hid hown2
      clear hown2
      go_wp2_with fail
      go_roundw
      case rel =>
        refine ⟨3, by omega, by first | rfl | go_num, ?_, HB2.out⟩
        have := HO2.out
        rw [itoa_byte _ (byteAt a 1) (by have := HA.out; unfold byteAt; omega)] at this
        exact this
      case measure => simp [intOf]
    · have HI := Lib.hid (fun W (hT : Tabs W) => itoa_any ((a : Int) % 256) W (by omega) (by omega) hT)
      go_wp2_with fail
      refine (HI.out _ (HT.out.below HBB.out)).mono ?_
      rintro e w1 ⟨rfl, h1⟩
      have hown := owns_below HO.out h1
      have HB1 := Lib.hid (HBB.out.trans (h1.mono HBB.out.size))
      have hsz : w.heap.size ≤ w1.heap.size := HB1.out.size
      clear h1
      go_wp2_with (at_builtin; refine wpList_append_own _ rfl _ _ 179 rfl w.heap.size 9 i0 (.string ByteArray.empty) 1 16 Tryz.underlying179 hi hz0 hz1 hz2 rfl (by decide) _ _ _ rfl (owns_below hown ((Below.refl _ _).alloc (Nat.le_refl _) _)) ⟨w1.heap.size, 0, none⟩ 1 1 [str (Lib.itoa ((a : Int) % 256))] rfl rfl (cells_new _ [str (Lib.itoa ((a : Int) % 256))] _) (by intro u hu; simp at hu; subst hu; rfl) (by unfold maxLen; omega) (by omega) (by simp; omega) ?_; intro v' w2 hown2 hgrow2 _)
      have HB2 := Lib.hid (((HB1.out.alloc (by omega) (.cells #[str (Lib.itoa ((a : Int) % 256))] 9))).grown hgrow2 (by simp; omega) (owns_block hown))
      clear hgrow2 hown
      have HO2 := Lib.hid hown2
      clear hown2
      go_wp2_with fail
      go_roundw
      case rel =>
        refine ⟨4, by omega, by first | rfl | go_num, ?_, HB2.out⟩
        have := HO2.out
        rw [itoa_byte _ (byteAt a 0) (by have := HA.out; unfold byteAt; omega)] at this
        exact this
      case measure => simp [intOf]
    · obtain ⟨v0, c0, rfl, hcells⟩ := row_form (Row_of_owns HO.out)
      obtain ⟨g, rfl, _⟩ := hcells 0 _ rfl
      have hj : ∀ (j : Nat) x, ((parts4 a).map fun l => (⟨l.toArray⟩ : ByteArray))[j]? = some x → wr.cell? ⟨g, 0 + j, none⟩ = some (.string x) := fun j x hx => by
        obtain ⟨g', e1, e2, _⟩ := hcells j (.string x) (by
          rw [show (parts4 a).take 4 = parts4 a from rfl]
          rw [List.getElem?_map] at hx ⊢
          cases hp : (parts4 a)[j]? with
          | none => rw [hp] at hx; simp at hx
          | some l => rw [hp] at hx; simp at hx; subst hx; rfl)
        cases e1
        rw [Nat.zero_add]; exact e2
      have hjl : Lib.join (((parts4 a).map fun l => (⟨l.toArray⟩ : ByteArray)).map (·.data.toList)) [46] = showAddr a := by simp [parts4, showAddr]
      have HJL := Lib.hid hjl
      have hg : g < wr.heap.size := World.block_lt_of_cell? wr ⟨g, 0 + 0, none⟩ (hj 0 _ rfl)
      have HJ := Lib.hid (Tryz.strings_Join g 0 c0 ((parts4 a).map fun l => (⟨l.toArray⟩ : ByteArray)) ⟨#[46]⟩ wr hj hg (by simp [parts4]) (by have := owns_cap HO.out; simpa [parts4] using this) (by have := show_len a; rw [← hjl] at this; exact Nat.le_trans this (by omega)))
      clear hj hcells hjl
      go_wp2_with fail
      refine HJ.out.mono ?_
      rintro e w1 ⟨rfl, h1⟩
      go_wp2_with fail
      go_ret
      exact retB (congrArg (fun l : List UInt8 => Value.string ⟨l.toArray⟩) HJL.out) (HBB.out.trans (h1.mono HBB.out.size))

theorem itoa_nat (n : Nat) (w : World) (h1 : n ≤ 9223372036854775807) (hT : Tabs w) :
    Calls Tryz.prog 118 #[.int .i64 n] w fun e w' => e = .returned (str (Lib.decDigits n)) ∧ Below w.heap.size w w' := by
  rw [← itoa_byte (n : Int) n rfl]; exact itoa_any n w (by omega) (by omega) hT

set_option maxHeartbeats 2000000 in
set_option maxRecDepth 100000 in
theorem show_any (a : Nat) (n : Int) (w : World) (ha : a < 4294967296) (hT : Tabs w) :
    Calls Tryz.prog 94 #[.agg #[.int .u32 a, .int .i64 n]] w (StrPost (showF a n) w) := by
  have B0 : Below w.heap.size w (w.alloc (.cells #[.int .u32 a, .int .i64 n] 75)) := (Below.refl _ _).alloc (Nat.le_refl _) _
  have N0 := NetAt.new w a n 75
  have HT0 := Lib.hid (hT.below B0)
  cases hm : mayNet a n with
  | false =>
    have hv : Hid (showF a n = ([], 1)) := Lib.hid (by unfold showF showNet; rw [hm]; simp)
    have HM := Lib.hid hm
    clear hm
    go_enter Tryz.func94, Tryz.ntmps94
    go_wp2_with fail
    refine (may_val a n false _ ha HM.out).mono ?_
    rintro e w1 ⟨rfl, h1⟩
    generalize w.alloc (.cells #[.int .u32 a, .int .i64 n] 75) = w0 at *
    have HB0 := Lib.hid B0
    clear B0
    go_wp2_with fail
    go_ret2
    exact str_end (by rw [hv.out]) (by rw [hv.out]) (below_then HB0.out h1)
  | true =>
    have hr := may_range hm
    have HM := Lib.hid hm
    by_cases h0 : n = 0
    · have hv : Hid (showF a n = (anyL, 0)) := Lib.hid (by unfold showF showNet; rw [if_pos hm, if_pos h0])
      have e0 : (n == 0) = true := by rw [h0]; rfl
      clear hm h0
      go_enter Tryz.func94, Tryz.ntmps94
      go_wp2_with fail
      refine (may_val a n true _ ha HM.out).mono ?_
      rintro e w1 ⟨rfl, h1⟩
      generalize w.alloc (.cells #[.int .u32 a, .int .i64 n] 75) = w0 at *
      have HB0 := Lib.hid B0
      have HB1 := Lib.hid (below_then B0 h1)
      obtain ⟨c0, c1⟩ := N0.below h1
      clear B0 h1
      go_wp2_with fail
      go_ret2
      exact str_end (by rw [hv.out]; rfl) (by rw [hv.out]) HB1.out
    · have hv : Hid (showF a n = (showAddr a ++ 47 :: Lib.decDigits n.toNat, 0)) := Lib.hid (by unfold showF showNet; rw [if_pos hm, if_neg h0])
      have e0 : (n == 0) = false := beq_eq_false_iff_ne.2 h0
      have ls := show_len a
      have ld := dec_len_le 2 n.toNat (by omega) (by omega)
      have CP := Lib.hid (fun v (hT : Tabs v) => print_any a v ha hT)
      have CN := Lib.hid (fun v (hT : Tabs v) => (by have := itoa_nat n.toNat v (by omega) hT; rwa [Int.toNat_of_nonneg hr.1] at this : Calls Tryz.prog 118 #[.int .i64 n] v fun e w' => e = .returned (str (Lib.decDigits n.toNat)) ∧ Below v.heap.size v w'))
      generalize showAddr a = la at *
      generalize Lib.decDigits n.toNat = ln at *
      clear hm h0
      go_enter Tryz.func94, Tryz.ntmps94
      go_wp2_with fail
      refine (may_val a n true _ ha HM.out).mono ?_
      rintro e w1 ⟨rfl, h1⟩
      generalize w.alloc (.cells #[.int .u32 a, .int .i64 n] 75) = w0 at *
      have HB0 := Lib.hid B0
      have HB1 := Lib.hid (below_then B0 h1)
      have HT1 := Lib.hid (HT0.out.below h1)
      obtain ⟨c0, c1⟩ := N0.below h1
      clear B0 h1
      go_wp2_with fail
      refine WQ.enter w1 (Since.refl _) (by kernel_rfl) (by kernel_rfl) ?_
      refine WQ.val (by rfl) (fun v hv => by have k0 := hv.cell c0; have k1 := hv.cell c1; go_simp; first | done | with_reducible rfl | (rw [if_neg (by omega)])) ?_; simp only [Act.put, List.setIfInBounds_toArray, List.set_cons_zero, List.set_cons_succ]
      refine WQ.val (by rfl) (fun v hv => by have k0 := hv.cell c0; have k1 := hv.cell c1; go_simp; first | done | with_reducible rfl | (rw [if_neg (by omega)])) ?_; simp only [Act.put, List.setIfInBounds_toArray, List.set_cons_zero, List.set_cons_succ]
      refine WQ.call (f := 117) (args := #[.int .u32 a]) (by rfl) (fun v hv => by go_simp) (fun v hv => (CP.out v (HT1.out.below hv)).mono (fun e v' ⟨he, hb⟩ => ⟨he, hv.step hb⟩)) ?_; simp only [Act.put, List.setIfInBounds_toArray, List.set_cons_zero, List.set_cons_succ]
      refine WQ.val (by rfl) (fun v hv => by have k0 := hv.cell c0; have k1 := hv.cell c1; go_simp; first | done | with_reducible rfl | (rw [if_neg (by omega)])) ?_; simp only [Act.put, List.setIfInBounds_toArray, List.set_cons_zero, List.set_cons_succ]
      refine WQ.val (by rfl) (fun v hv => by have k0 := hv.cell c0; have k1 := hv.cell c1; go_simp; first | done | with_reducible rfl | (rw [if_neg (by omega)])) ?_; simp only [Act.put, List.setIfInBounds_toArray, List.set_cons_zero, List.set_cons_succ]
      refine WQ.val (by rfl) (fun v hv => by have k0 := hv.cell c0; have k1 := hv.cell c1; go_simp; first | done | with_reducible rfl | (rw [if_neg (by omega)])) ?_; simp only [Act.put, List.setIfInBounds_toArray, List.set_cons_zero, List.set_cons_succ]
      refine WQ.call (f := 118) (args := #[.int .i64 n]) (by rfl) (fun v hv => by go_simp) (fun v hv => (CN.out v (HT1.out.below hv)).mono (fun e v' ⟨he, hb⟩ => ⟨he, hv.step hb⟩)) ?_; simp only [Act.put, List.setIfInBounds_toArray, List.set_cons_zero, List.set_cons_succ]
      refine WQ.val (by rfl) (fun v hv => by have k0 := hv.cell c0; have k1 := hv.cell c1; go_simp; first | done | with_reducible rfl | (rw [if_neg (by omega)])) ?_; simp only [Act.put, List.setIfInBounds_toArray, List.set_cons_zero, List.set_cons_succ]
      refine WQ.val (by rfl) (fun v hv => by have k0 := hv.cell c0; have k1 := hv.cell c1; go_simp; first | done | with_reducible rfl | (rw [if_neg (by omega)])) ?_; simp only [Act.put, List.setIfInBounds_toArray, List.set_cons_zero, List.set_cons_succ]
      refine WQ.val (by rfl) (fun v hv => by have k0 := hv.cell c0; have k1 := hv.cell c1; go_simp; first | done | with_reducible rfl | (rw [if_neg (by omega)])) ?_; simp only [Act.put, List.setIfInBounds_toArray, List.set_cons_zero, List.set_cons_succ]
      refine WQ.done ?_
      intro w5 hw5
      have HB5 := Lib.hid (below_then HB1.out hw5)
      clear hw5 c0 c1
      go_wp2_with fail
      go_ret2
      exact str_end (by rw [hv.out]; simp) (by rw [hv.out]) HB5.out
end Go.Proofs.YtahgapkecabnjaaGreatDoor
/- Words and lines in memory; the walks of slices.Clip, text.bad. -/
namespace Go.Proofs.YtahgapkecabnjaaGreatDoor
set_option linter.unusedSimpArgs false
set_option linter.unusedVariables false
open Go Go.RowKit

/-- Words in memory, in a block of P. -/
def WordsIn (P : Nat → Prop) (w : World) (v : Value) (ws : List (List UInt8)) : Prop :=
  ∃ a c, v = .slice a ws.length c ∧ ws.length ≤ c ∧ ∀ j x, ws[j]? = some x → ∃ b o, a = some ⟨b, o, none⟩ ∧ P b ∧ w.cell? ⟨b, o + j, none⟩ = some (str x)
theorem WordsIn.mono {P Q : Nat → Prop} {w w' : World} {v : Value} {ws : List (List UInt8)} (h : WordsIn P w v ws) (hP : ∀ b, b < w.heap.size → P b → Q b ∧ ∀ o x, w.cell? ⟨b, o, none⟩ = some x → w'.cell? ⟨b, o, none⟩ = some x) : WordsIn Q w' v ws := by
  obtain ⟨a, c, h1, h2, h3⟩ := h
  refine ⟨a, c, h1, h2, fun j x hj => ?_⟩
  obtain ⟨b, o, e, hb, hc⟩ := h3 j x hj
  obtain ⟨q1, q2⟩ := hP b (World.block_lt_of_cell? w ⟨b, o + j, none⟩ hc) hb
  exact ⟨b, o, e, q1, q2 _ _ hc⟩
abbrev Words (w : World) (v : Value) (ws : List (List UInt8)) : Prop := WordsIn (fun _ => True) w v ws
theorem Words.below {w w' : World} {v : Value} {ws : List (List UInt8)} (h : Words w v ws) (hb : Below w.heap.size w w') : Words w' v ws :=
  h.mono fun b hl _ => ⟨trivial, fun o x hx => (hb.cell (p := ⟨b, o, none⟩) hl).trans hx⟩

/-- Lines in memory. -/
def Lines (w : World) (v : Value) (ls : List Ln) : Prop :=
  ∃ a c, v = .slice a ls.length c ∧ ls.length ≤ c ∧ ∀ i l, ls[i]? = some l → ∃ b o wv, a = some ⟨b, o, none⟩ ∧ w.cell? ⟨b, o + 2 * i, none⟩ = some (.int .i64 l.1) ∧ w.cell? ⟨b, o + 2 * i + 1, none⟩ = some wv ∧ Words w wv l.2
theorem Lines.below {w w' : World} {v : Value} {ls : List Ln} (h : Lines w v ls) (hb : Below w.heap.size w w') : Lines w' v ls := by
  obtain ⟨a, c, h1, h2, h3⟩ := h
  refine ⟨a, c, h1, h2, fun i l hi => ?_⟩
  obtain ⟨b, o, wv, e, k1, k2, k3⟩ := h3 i l hi
  exact ⟨b, o, wv, e, (hb.cell (p := ⟨b, _, none⟩) (World.block_lt_of_cell? w _ k1)).trans k1, (hb.cell (p := ⟨b, _, none⟩) (World.block_lt_of_cell? w _ k2)).trans k2, k3.below hb⟩

/-! ### Lines that are being put together -/
def flat : List Ln → List Value → List Value
  | l :: ls, c :: cs => .int .i64 l.1 :: c :: flat ls cs
  | _, _ => []
theorem flat_append : ∀ (ls : List Ln) (cs : List Value) (l : Ln) (c : Value), ls.length = cs.length → flat (ls ++ [l]) (cs ++ [c]) = flat ls cs ++ [.int .i64 l.1, c]
  | [], [], l, c, _ => rfl
  | a :: ls, b :: cs, l, c, h => by simp only [List.cons_append, flat]; rw [flat_append ls cs l c (by simpa using h)]
  | [], _ :: _, _, _, h => by simp at h
  | _ :: _, [], _, _, h => by simp at h
theorem flat_get : ∀ (ls : List Ln) (cs : List Value) (i : Nat) (l : Ln), ls.length = cs.length → ls[i]? = some l → ∃ c, cs[i]? = some c ∧ (flat ls cs)[2 * i]? = some (.int .i64 l.1) ∧ (flat ls cs)[2 * i + 1]? = some c
  | [], [], i, l, _, hi => by simp at hi
  | a :: ls, b :: cs, 0, l, h, hi => by simp at hi; subst hi; exact ⟨b, rfl, rfl, rfl⟩
  | a :: ls, b :: cs, i + 1, l, h, hi => by
    obtain ⟨c, h1, h2, h3⟩ := flat_get ls cs i l (by simpa using h) (by simpa using hi)
    refine ⟨c, by simpa using h1, ?_, ?_⟩
    · rw [show 2 * (i + 1) = (2 * i) + 1 + 1 by omega]; simpa [flat] using h2
    · rw [show 2 * (i + 1) + 1 = (2 * i + 1) + 1 + 1 by omega]; simpa [flat] using h3
  | [], _ :: _, _, _, h, _ => by simp at h
  | _ :: _, [], _, _, h, _ => by simp at h

theorem owns_lt {w : World} {base : Nat} {e : TypeId} {size n : Nat} {v : Value} {xs : List Value} (h : w.ownsRow base e size v n xs) : ∀ b, v.ownBlock = some b → b < w.heap.size := by
  rcases h.2 with ⟨rfl, _⟩ | ⟨g, cap, cur, rfl, h2, h3, _⟩
  · intro b hb; cases hb
  · intro b hb; cases hb; exact (Array.getElem?_eq_some_iff.1 h3).1
def badZ (r : Int) : Bool := (r != 10) && (decide (r < 32) || decide (126 < r))
theorem get_at (s : ByteArray) (i : Nat) (h : i < s.size) : s.get! (i + 0) = s[i] := by
  show s.data[i]! = s.data[i]
  rw [getElem!_pos s.data i h]
theorem decode_lo (s : ByteArray) (i : Nat) (h : i < s.size) (hb : s[i].toNat < 128) : Utf8.decode s i = (s[i].toNat, 1) := by
  unfold Utf8.decode
  simp only [get_at s i h]
  rw [if_pos hb]
theorem decode_hi (s : ByteArray) (i : Nat) (h : i < s.size) (hb : ¬ s[i].toNat < 128) : 128 ≤ (Utf8.decode s i).1 := by
  unfold Utf8.decode
  simp only [get_at s i h]
  rw [if_neg hb]
  have he : 128 ≤ Utf8.runeError := by decide
  split
  · split
    · rename_i hc; exact hc
    · exact he
  · split
    · split
      · rename_i hc
        simp only [Bool.and_eq_true, decide_eq_true_iff] at hc
        show 128 ≤ _
        have := hc.1
        omega
      · exact he
    · split
      · split
        · rename_i hc
          simp only [Bool.and_eq_true, decide_eq_true_iff] at hc
          show 128 ≤ _
          have := hc.1
          omega
        · exact he
      · exact he
theorem badZ_byte {b : UInt8} (h : b.toNat < 128) : badZ (b.toNat : Nat) = badB b := by
  unfold badZ badB
  have e : (((b.toNat : Nat) : Int) != 10) = (b != 10) := by
    rw [Bool.eq_iff_iff, bne_iff_ne, bne_iff_ne]
    constructor
    · intro h e; subst e; exact h rfl
    · intro h e; exact h (UInt8.toNat_inj.1 (by have : (10 : UInt8).toNat = 10 := rfl; omega))
  have e1 : decide (((b.toNat : Nat) : Int) < 32) = decide (b.toNat < 32) := by rw [Bool.eq_iff_iff, decide_eq_true_iff, decide_eq_true_iff]; omega
  have e2 : decide (126 < ((b.toNat : Nat) : Int)) = decide (126 < b.toNat) := by rw [Bool.eq_iff_iff, decide_eq_true_iff, decide_eq_true_iff]; omega
  rw [e, e1, e2]
theorem badZ_high {n : Nat} (h : 128 ≤ n) : badZ (n : Int) = true := by
  unfold badZ
  have e : ((n : Int) != 10) = true := by rw [bne_iff_ne]; omega
  rw [e, decide_eq_true (by omega : (126 : Int) < n)]; simp
theorem badB_high {b : UInt8} (h : 128 ≤ b.toNat) : badB b = true := by
  unfold badB
  have e : (b != 10) = true := by rw [bne_iff_ne]; rintro rfl; exact absurd h (by decide)
  rw [e, decide_eq_true (by omega : 126 < b.toNat)]; simp
theorem idx_from (s : ByteArray) : ∀ (f pos : Nat), s.size ≤ pos + f → Lib.idxFuncFrom (fun r => badZ r) true s f pos = match firstBad (s.data.toList.drop pos) with | some i => ((pos + i : Nat) : Int) | none => -1
  | 0, pos, h => by
    rw [List.drop_of_length_le (by simp; omega)]; rfl
  | f + 1, pos, h => by
    rw [Lib.idxFuncFrom]
    by_cases hlt : pos < s.size
    · rw [if_pos hlt]
      have hd : s.data.toList.drop pos = s[pos] :: s.data.toList.drop (pos + 1) := by
        rw [List.drop_eq_getElem_cons (by simpa using hlt)]; simp; rfl
      rw [hd, firstBad]
      by_cases h128 : s[pos].toNat < 128
      · rw [decode_lo s pos hlt h128]
        simp only
        rw [badZ_byte h128]
        cases hb : badB s[pos]
        · simp only [Bool.false_eq_true, if_false]
          rw [idx_from s f (pos + 1) (by omega)]
          cases firstBad (s.data.toList.drop (pos + 1)) with
          | none => rfl
          | some j => simp only [Option.map_some]; congr 1; omega
        · simp
      · have := decode_hi s pos hlt h128
        rw [if_pos (badZ_high this), badB_high (by omega)]
        simp
    · rw [if_neg hlt, List.drop_of_length_le (by simp; omega)]; rfl
/-- The first byte that may not stand, by runes. -/
theorem idx_bad (s : ByteArray) : Lib.idxFunc (fun r => badZ r) true s = match firstBad s.data.toList with | some i => (i : Int) | none => -1 := by
  unfold Lib.idxFunc
  rw [idx_from s s.size 0 (by omega), List.drop_zero]
  cases firstBad s.data.toList <;> simp
end Go.Proofs.YtahgapkecabnjaaGreatDoor
