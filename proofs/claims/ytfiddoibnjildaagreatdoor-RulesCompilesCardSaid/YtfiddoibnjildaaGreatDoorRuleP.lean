/- Plain law of package rules: spans, rules, their lines, texts of rules. No program in sight. -/
import Derived.Test.YtfiddoibnjildaaGreatDoorTextP
namespace Go.Proofs.YtfiddoibnjildaaGreatDoor
set_option linter.unusedSimpArgs false
set_option linter.unusedVariables false
open Go.Lib

def big62' : Nat := 4611686018427387904
def acceptL : List UInt8 := [97, 99, 99, 101, 112, 116]
def dropL : List UInt8 := [100, 114, 111, 112]
def icmpL : List UInt8 := [105, 99, 109, 112]
def tcpL : List UInt8 := [116, 99, 112]
def udpL : List UInt8 := [117, 100, 112]
/-- A protocol's word. -/
def wordF (n : Nat) : List UInt8 := if n = 0 then anyL else if n = 1 then icmpL else if n = 6 then tcpL else if n = 17 then udpL else []
/-- A word's protocol. -/
def protoOf (l : List UInt8) : Option Nat := if l = anyL then some 0 else if l = icmpL then some 1 else if l = tcpL then some 6 else if l = udpL then some 17 else none
theorem protoOf_iff {l : List UInt8} {n : Nat} : protoOf l = some n ↔ wordF n = l ∧ wordF n ≠ [] := by
  unfold protoOf wordF
  constructor
  · intro h
    split at h
    · cases h; subst_vars; exact ⟨rfl, by decide⟩
    · split at h
      · cases h; subst_vars; exact ⟨rfl, by decide⟩
      · split at h
        · cases h; subst_vars; exact ⟨rfl, by decide⟩
        · split at h
          · cases h; subst_vars; exact ⟨rfl, by decide⟩
          · cases h
  · rintro ⟨h1, h2⟩
    subst h1
    split at h2
    · rename_i h; subst h; rfl
    · split at h2
      · rename_i h; subst h; rfl
      · split at h2
        · rename_i h; subst h; rfl
        · split at h2
          · rename_i h; subst h; rfl
          · exact absurd rfl h2
/-- A span's text. -/
def spanL (lo hi : Nat) : List UInt8 := if lo = 0 ∧ hi = 65535 then anyL else if lo = hi then decDigits lo else decDigits lo ++ 45 :: decDigits hi
theorem dash_no (n : Nat) : (45 : UInt8) ∉ decDigits n := dec_no (by unfold digit; decide)
theorem any_no (n : Nat) : decDigits n ≠ anyL := fun e => by
  have : (97 : UInt8) ∈ decDigits n := by rw [e]; decide
  exact absurd (dec_digits n _ this) (by unfold digit; decide)
/-- What a number's text says. -/
def numV (l : List UInt8) : Nat := if isNum l big62' then valOf l else 0
/-- What a span's text says, part by part. -/
def cutA (l : List UInt8) : List UInt8 := (Lib.cut l [45]).1
def cutB (l : List UInt8) : List UInt8 := if (Lib.cut l [45]).2.2 then (Lib.cut l [45]).2.1 else cutA l
def portB (l : List UInt8) : Bool := isNum l big62' && decide (numV l ≤ 65535)
def spanOf (l : List UInt8) : Option (Nat × Nat) :=
  if l = anyL then some (0, 65535)
  else if portB (cutA l) = true ∧ portB (cutB l) = true ∧ spanL (numV (cutA l)) (numV (cutB l)) = l ∧ numV (cutA l) ≤ numV (cutB l) then some (numV (cutA l), numV (cutB l)) else none
theorem numV_dec {n : Nat} (h : n ≤ 65535) : numV (decDigits n) = n ∧ portB (decDigits n) = true := by
  have h1 : isNum (decDigits n) big62' = true := isNum_dec (by unfold big62'; omega)
  have h2 : numV (decDigits n) = n := by unfold numV; rw [if_pos h1, valOf_dec]
  exact ⟨h2, by unfold portB; rw [h1, h2]; simpa using h⟩
theorem cut_dec (n : Nat) : cutA (decDigits n) = decDigits n ∧ cutB (decDigits n) = decDigits n := by
  have := cut_none (dash_no n)
  constructor
  · unfold cutA; rw [this]
  · unfold cutB cutA; rw [this]; rfl
theorem cut_two (a b : Nat) : cutA (decDigits a ++ 45 :: decDigits b) = decDigits a ∧ cutB (decDigits a ++ 45 :: decDigits b) = decDigits b := by
  have := cut_at (r := decDigits b) (dash_no a)
  constructor
  · unfold cutA; rw [this]
  · unfold cutB; rw [this]; rfl
theorem dash_any (a b : Nat) : decDigits a ++ 45 :: decDigits b ≠ anyL := fun e => by
  have : (45 : UInt8) ∈ anyL := by rw [← e]; simp
  revert this; decide
theorem spanL_any {lo hi : Nat} (h : spanL lo hi = anyL) : lo = 0 ∧ hi = 65535 := by
  unfold spanL at h
  split at h
  · assumption
  · split at h
    · exact absurd h (any_no _)
    · exact absurd h (dash_any _ _)
/-- The parts of a span's text. -/
theorem span_parts {lo hi : Nat} (h1 : lo ≤ 65535) (h2 : hi ≤ 65535) (hne : spanL lo hi ≠ anyL) : numV (cutA (spanL lo hi)) = lo ∧ numV (cutB (spanL lo hi)) = hi ∧ portB (cutA (spanL lo hi)) = true ∧ portB (cutB (spanL lo hi)) = true := by
  unfold spanL at hne ⊢
  split
  · rename_i h; rw [if_pos h] at hne; exact absurd rfl hne
  · split
    · rename_i h; subst h
      rw [(cut_dec lo).1, (cut_dec lo).2]
      exact ⟨(numV_dec h1).1, (numV_dec h1).1, (numV_dec h1).2, (numV_dec h1).2⟩
    · rw [(cut_two lo hi).1, (cut_two lo hi).2]
      exact ⟨(numV_dec h1).1, (numV_dec h2).1, (numV_dec h1).2, (numV_dec h2).2⟩
theorem spanOf_iff {l : List UInt8} {lo hi : Nat} : spanOf l = some (lo, hi) ↔ lo ≤ hi ∧ hi ≤ 65535 ∧ spanL lo hi = l := by
  constructor
  · intro h
    unfold spanOf at h
    split at h
    · rename_i hl
      injection h with h; injection h with e1 e2
      subst e1 e2
      exact ⟨by decide, by decide, by rw [hl]; rfl⟩
    · split at h
      · rename_i hc
        injection h with h; injection h with e1 e2
        subst e1 e2
        obtain ⟨h1, h2, h3, h4⟩ := hc
        unfold portB at h2
        simp at h2
        exact ⟨h4, h2.2, h3⟩
      · cases h
  · rintro ⟨h1, h2, h3⟩
    unfold spanOf
    split
    · rename_i hl
      rw [hl] at h3
      obtain ⟨rfl, rfl⟩ := spanL_any h3
      rfl
    · rename_i hl
      have := span_parts (lo := lo) (hi := hi) (by omega) h2 (by rw [h3]; exact hl)
      rw [h3] at this
      obtain ⟨e1, e2, e3, e4⟩ := this
      rw [e1, e2, e3, e4, if_pos ⟨rfl, rfl, h3, h1⟩]
/-- What the reference sees in a span's text. -/
def refSpan (l : List UInt8) : Nat × Nat :=
  if l = anyL then (0, 65535) else if numV (cutA l) > 65535 ∨ numV (cutB l) > 65535 then (1, 0) else (numV (cutA l), numV (cutB l))
theorem refSpan_iff {l : List UInt8} : spanOf l = some (refSpan l) ↔ (refSpan l).1 ≤ (refSpan l).2 ∧ spanL (refSpan l).1 (refSpan l).2 = l := by
  constructor
  · intro h
    have := spanOf_iff.1 (show spanOf l = some ((refSpan l).1, (refSpan l).2) from h)
    exact ⟨this.1, this.2.2⟩
  · rintro ⟨h1, h2⟩
    show spanOf l = some ((refSpan l).1, (refSpan l).2)
    refine (spanOf_iff (lo := (refSpan l).1) (hi := (refSpan l).2)).2 ⟨h1, ?_, h2⟩
    by_cases hl : l = anyL
    · have e : refSpan l = (0, 65535) := if_pos hl
      rw [e]; exact Nat.le_refl _
    · by_cases h3 : numV (cutA l) > 65535 ∨ numV (cutB l) > 65535
      · have e : refSpan l = (1, 0) := (if_neg hl).trans (if_pos h3)
        rw [e] at h1; exact absurd h1 (by decide)
      · have e : refSpan l = (numV (cutA l), numV (cutB l)) := (if_neg hl).trans (if_neg h3)
        rw [e]
        show numV (cutB l) ≤ 65535
        omega
theorem refSpan_of {l : List UInt8} {lo hi : Nat} (h : spanOf l = some (lo, hi)) : refSpan l = (lo, hi) := by
  have hh := spanOf_iff.1 h
  unfold refSpan
  split
  · rename_i hl
    rw [hl] at hh
    obtain ⟨rfl, rfl⟩ := spanL_any hh.2.2
    rfl
  · rename_i hl
    have := span_parts (lo := lo) (hi := hi) (by omega) hh.2.1 (by rw [hh.2.2]; exact hl)
    rw [hh.2.2] at this
    rw [this.1, this.2.1, if_neg (by omega)]

/-! ### Rules -/
structure Rl where
  acc : Bool
  pr : Nat
  sa : Nat
  sb : Int
  da : Nat
  db : Int
  sl : Nat
  sh : Nat
  dl : Nat
  dh : Nat
/-- What the types of its parts can hold. -/
structure Rl.In (r : Rl) : Prop where
  pr : r.pr < 256
  sa : r.sa < 4294967296
  da : r.da < 4294967296
  sl : r.sl < 65536
  sh : r.sh < 65536
  dl : r.dl < 65536
  dh : r.dh < 65536
def goodR (r : Rl) : Bool := mayNet r.sa r.sb && mayNet r.da r.db && decide (wordF r.pr ≠ []) && decide (r.sl ≤ r.sh) && decide (r.dl ≤ r.dh)
theorem goodR_iff {r : Rl} : goodR r = true ↔ mayNet r.sa r.sb = true ∧ mayNet r.da r.db = true ∧ wordF r.pr ≠ [] ∧ r.sl ≤ r.sh ∧ r.dl ≤ r.dh := by
  unfold goodR
  simp only [Bool.and_eq_true, decide_eq_true_eq, and_assoc]
/-- A net's text; nothing: it has none. -/
def netL (a : Nat) (n : Int) : List UInt8 := (showNet a n).getD []
def actL (b : Bool) : List UInt8 := if b then acceptL else dropL
def wordsR (r : Rl) : List (List UInt8) := [actL r.acc, wordF r.pr, netL r.sa r.sb, spanL r.sl r.sh, netL r.da r.db, spanL r.dl r.dh]
/-- The rule of a line's words. -/
def ruleOf : List (List UInt8) → Option Rl
  | [w0, w1, w2, w3, w4, w5] =>
    if w0 = acceptL ∨ w0 = dropL then
      match protoOf w1, netOf w2, netOf w4, spanOf w3, spanOf w5 with
      | some p, some s, some d, some a, some b => some ⟨decide (w0 = acceptL), p, s.1, s.2, d.1, d.2, a.1, a.2, b.1, b.2⟩
      | _, _, _, _, _ => none
    else none
  | _ => none
theorem show_may {a : Nat} {n : Int} : (showNet a n).isSome = mayNet a n := by unfold showNet; split <;> simp_all
theorem netL_may {a : Nat} {n : Int} (h : mayNet a n = true) : showNet a n = some (netL a n) := by
  unfold netL
  have : (showNet a n).isSome = true := by rw [show_may, h]
  cases hs : showNet a n with
  | none => rw [hs] at this; cases this
  | some l => rfl
theorem may_bits {a : Nat} {n : Int} (h : mayNet a n = true) : 0 ≤ n ∧ n ≤ 32 := by unfold mayNet at h; rw [decide_eq_true_iff] at h; exact ⟨h.1, h.2.1⟩
theorem netOf_iff {l : List UInt8} {a b : Nat} : netOf l = some (a, b) ↔ a < 4294967296 ∧ mayNet a b = true ∧ netL a b = l := by
  constructor
  · intro h
    have := showNet_netOf h
    refine ⟨this.2.1, by rw [← show_may, this.1]; rfl, by unfold netL; rw [this.1]; rfl⟩
  · rintro ⟨h1, h2, h3⟩
    have := netOf_show h1 (netL_may h2)
    rw [h3] at this
    exact this
theorem word_in {n : Nat} (h : wordF n ≠ []) : n < 256 := by
  unfold wordF at h
  split at h
  · omega
  · split at h
    · omega
    · split at h
      · omega
      · split at h
        · omega
        · exact absurd rfl h
theorem ruleOf_iff {ws : List (List UInt8)} {r : Rl} : ruleOf ws = some r ↔ r.In ∧ goodR r = true ∧ wordsR r = ws := by
  constructor
  · intro h
    unfold ruleOf at h
    split at h
    · rename_i w0 w1 w2 w3 w4 w5
      split at h
      · rename_i hact
        split at h
        · rename_i p s d a b hp hs hd ha hb
          obtain ⟨s1, s2⟩ := s; obtain ⟨d1, d2⟩ := d; obtain ⟨a1, a2⟩ := a; obtain ⟨b1, b2⟩ := b
          have hp := protoOf_iff.1 hp
          have hs := netOf_iff.1 hs
          have hd := netOf_iff.1 hd
          have ha := spanOf_iff.1 ha
          have hb := spanOf_iff.1 hb
          injection h with h
          subst h
          refine ⟨⟨word_in hp.2, hs.1, hd.1, by show a1 < 65536; omega, by show a2 < 65536; omega, by show b1 < 65536; omega, by show b2 < 65536; omega⟩, goodR_iff.2 ⟨hs.2.1, hd.2.1, hp.2, ha.1, hb.1⟩, ?_⟩
          show [actL (decide (w0 = acceptL)), wordF p, netL s1 s2, spanL a1 a2, netL d1 d2, spanL b1 b2] = _
          rw [hp.1, hs.2.2, hd.2.2, ha.2.2, hb.2.2]
          congr 1
          unfold actL
          rcases hact with rfl | rfl
          · simp
          · simp [show dropL ≠ acceptL by decide]
        · cases h
      · cases h
    · cases h
  · rintro ⟨hi, hg, rfl⟩
    obtain ⟨g1, g2, g3, g4, g5⟩ := goodR_iff.1 hg
    obtain ⟨acc, pr, sa, sb, da, db, sl, sh, dl, dh⟩ := r
    simp only at g1 g2 g3 g4 g5
    obtain ⟨sbn, rfl⟩ := Int.eq_ofNat_of_zero_le (may_bits g1).1
    obtain ⟨dbn, rfl⟩ := Int.eq_ofNat_of_zero_le (may_bits g2).1
    have h1 : protoOf (wordF pr) = some pr := protoOf_iff.2 ⟨rfl, g3⟩
    have h2 : netOf (netL sa sbn) = some (sa, sbn) := netOf_iff.2 ⟨hi.sa, g1, rfl⟩
    have h3 : netOf (netL da dbn) = some (da, dbn) := netOf_iff.2 ⟨hi.da, g2, rfl⟩
    have h4 : spanOf (spanL sl sh) = some (sl, sh) := spanOf_iff.2 ⟨g4, by have := hi.sh; simp only at this; omega, rfl⟩
    have h5 : spanOf (spanL dl dh) = some (dl, dh) := spanOf_iff.2 ⟨g5, by have := hi.dh; simp only at this; omega, rfl⟩
    show ruleOf [actL acc, wordF pr, netL sa sbn, spanL sl sh, netL da dbn, spanL dl dh] = _
    unfold ruleOf
    simp only [h1, h2, h3, h4, h5]
    cases acc
    · rw [if_pos (.inr rfl)]; rfl
    · rw [if_pos (.inl rfl)]; rfl

/-! ### The words that a rule is written as -/
def okC (b : UInt8) : Prop := 32 < b.toNat ∧ b.toNat ≤ 126 ∧ b ≠ 35
theorem okC_digit {b : UInt8} (h : digit b) : okC b := ⟨by unfold digit at h; omega, by unfold digit at h; omega, fun e => by subst e; exact absurd h (by unfold digit; decide)⟩
theorem okC_dec (n : Nat) : ∀ b ∈ decDigits n, okC b := fun b hb => okC_digit (dec_digits n b hb)
theorem join_sub {b s : UInt8} : ∀ {ps : List (List UInt8)}, b ∈ Lib.join ps [s] → b = s ∨ ∃ p ∈ ps, b ∈ p
  | [], h => by simp [join_nil] at h
  | [p], h => by rw [join_one] at h; exact .inr ⟨p, by simp, h⟩
  | p :: q :: r, h => by
    have ih := join_sub (b := b) (s := s) (ps := q :: r)
    rw [join_cons] at ih h
    simp only [joinTail, List.map_cons, List.flatten_cons, List.mem_append, List.mem_singleton] at ih h
    rcases h with h | (h | h) | h
    · exact .inr ⟨p, by simp, h⟩
    · exact .inl h
    · rcases ih (.inl h) with h | ⟨x, hx, hb⟩
      · exact .inl h
      · exact .inr ⟨x, List.mem_cons_of_mem _ hx, hb⟩
    · rcases ih (.inr h) with h | ⟨x, hx, hb⟩
      · exact .inl h
      · exact .inr ⟨x, List.mem_cons_of_mem _ hx, hb⟩
theorem okC_show (a : Nat) : ∀ b ∈ showAddr a, okC b := fun b hb => by
  unfold showAddr at hb
  rcases join_sub hb with rfl | ⟨p, hp, h⟩
  · unfold okC; decide
  · simp only [List.mem_cons, List.not_mem_nil, or_false] at hp
    rcases hp with rfl | rfl | rfl | rfl <;> exact okC_dec _ _ h
theorem okW_of {l : List UInt8} (h : l ≠ []) (k : ∀ b ∈ l, okC b) : okW l := ⟨h, k⟩
theorem okC_any : ∀ b ∈ anyL, okC b := by unfold okC; decide
theorem okW_span (lo hi : Nat) : okW (spanL lo hi) := by
  unfold spanL
  split
  · exact okW_of (by decide) okC_any
  · split
    · exact okW_of (dec_ne_nil _) (okC_dec _)
    · refine okW_of (by simp) fun b hb => ?_
      simp only [List.mem_append, List.mem_cons] at hb
      rcases hb with hb | rfl | hb
      · exact okC_dec _ _ hb
      · unfold okC; decide
      · exact okC_dec _ _ hb
theorem okW_net {a : Nat} {n : Int} (h : mayNet a n = true) : okW (netL a n) := by
  unfold netL showNet
  rw [if_pos h]
  simp only [Option.getD_some]
  split
  · exact okW_of (by decide) okC_any
  · refine okW_of (by simp) fun b hb => ?_
    simp only [List.mem_append, List.mem_cons] at hb
    rcases hb with hb | rfl | hb
    · exact okC_show _ _ hb
    · unfold okC; decide
    · exact okC_dec _ _ hb
theorem okW_word {n : Nat} (h : wordF n ≠ []) : okW (wordF n) := by
  refine okW_of h ?_
  unfold wordF
  split
  · exact okC_any
  · split
    · unfold okC; decide
    · split
      · unfold okC; decide
      · split
        · unfold okC; decide
        · intro b hb; cases hb
theorem okW_act (b : Bool) : okW (actL b) := by cases b <;> exact ⟨by decide, by decide⟩
theorem okW_rule {r : Rl} (h : goodR r = true) : ∀ w ∈ wordsR r, okW w := by
  obtain ⟨g1, g2, g3, g4, g5⟩ := goodR_iff.1 h
  intro w hw
  simp only [wordsR, List.mem_cons, List.not_mem_nil, or_false] at hw
  rcases hw with rfl | rfl | rfl | rfl | rfl | rfl
  · exact okW_act _
  · exact okW_word g3
  · exact okW_net g1
  · exact okW_span _ _
  · exact okW_net g2
  · exact okW_span _ _

/-! ### The reference's rule of a line -/
/-- The last protocol of that word. -/
def protoUpTo (l : List UInt8) : Nat → Nat
  | 0 => 0
  | k + 1 => if wordF k = l then k else protoUpTo l k
def refProto (l : List UInt8) : Nat := protoUpTo l 18
theorem refProto_of {l : List UInt8} {p : Nat} (h : protoOf l = some p) : refProto l = p := by
  have hh := protoOf_iff.1 h
  have hp : p = 0 ∨ p = 1 ∨ p = 6 ∨ p = 17 := by
    have := hh.2
    unfold wordF at this
    split at this
    · exact .inl ‹_›
    · split at this
      · exact .inr (.inl ‹_›)
      · split at this
        · exact .inr (.inr (.inl ‹_›))
        · split at this
          · exact .inr (.inr (.inr ‹_›))
          · exact absurd rfl this
  rcases hp with rfl | rfl | rfl | rfl <;> rw [← hh.1] <;> decide
/-- A text's net, or nothing. -/
def netV (l : List UInt8) : Nat × Nat := (netOf l).getD (0, 0)
theorem netV_lt (l : List UInt8) : (netV l).1 < 4294967296 := by
  unfold netV
  cases h : netOf l with
  | none => decide
  | some q => obtain ⟨a, b⟩ := q; exact (netOf_iff.1 h).1
theorem refSpan_lt (l : List UInt8) : (refSpan l).1 < 65536 ∧ (refSpan l).2 < 65536 := by
  by_cases hl : l = anyL
  · have e : refSpan l = (0, 65535) := if_pos hl
    rw [e]; decide
  · by_cases h3 : numV (cutA l) > 65535 ∨ numV (cutB l) > 65535
    · have e : refSpan l = (1, 0) := (if_neg hl).trans (if_pos h3)
      rw [e]; decide
    · have e : refSpan l = (numV (cutA l), numV (cutB l)) := (if_neg hl).trans (if_neg h3)
      rw [e]
      show numV (cutA l) < 65536 ∧ numV (cutB l) < 65536
      omega
def refRule (w0 w1 w2 w3 w4 w5 : List UInt8) : Rl := ⟨decide (w0 = acceptL), refProto w1, (netV w2).1, (netV w2).2, (netV w4).1, (netV w4).2, (refSpan w3).1, (refSpan w3).2, (refSpan w5).1, (refSpan w5).2⟩
theorem refRule_iff {w0 w1 w2 w3 w4 w5 : List UInt8} (hw : ∀ w ∈ [w0, w1, w2, w3, w4, w5], okW w) :
    (goodR (refRule w0 w1 w2 w3 w4 w5) = true ∧ Lib.join (wordsR (refRule w0 w1 w2 w3 w4 w5)) [32] = Lib.join [w0, w1, w2, w3, w4, w5] [32]) ↔ ruleOf [w0, w1, w2, w3, w4, w5] = some (refRule w0 w1 w2 w3 w4 w5) := by
  constructor
  · rintro ⟨h1, h2⟩
    have h3 : wordsR (refRule w0 w1 w2 w3 w4 w5) = [w0, w1, w2, w3, w4, w5] := by
      rw [← fields_join _ (okW_rule h1), h2, fields_join _ hw]
    exact ruleOf_iff.2 ⟨⟨word_in (goodR_iff.1 h1).2.2.1, netV_lt _, netV_lt _, (refSpan_lt _).1, (refSpan_lt _).2, (refSpan_lt _).1, (refSpan_lt _).2⟩, h1, h3⟩
  · intro h
    have := ruleOf_iff.1 h
    exact ⟨this.2.1, by rw [this.2.2]⟩
theorem ruleOf_ref {w0 w1 w2 w3 w4 w5 : List UInt8} {r : Rl} (h : ruleOf [w0, w1, w2, w3, w4, w5] = some r) : refRule w0 w1 w2 w3 w4 w5 = r := by
  unfold ruleOf at h
  simp only at h
  split at h
  · split at h
    · rename_i p s d a b hp hs hd ha hb
      injection h with h
      rw [← h]
      unfold refRule netV
      obtain ⟨a1, a2⟩ := a; obtain ⟨b1, b2⟩ := b
      rw [refProto_of hp, hs, hd, refSpan_of ha, refSpan_of hb]
      rfl
    · cases h
  · cases h

/-! ### Texts of rules -/
def lineB (r : Rl) : List UInt8 := Lib.join (wordsR r) [32] ++ [10]
def printL (rs : List Rl) : List UInt8 := (rs.map lineB).flatten
/-- What Print answers. -/
def printF (rs : List Rl) : List UInt8 × Int := if 64 < rs.length then ([], 14) else if rs.all goodR then (printL rs, 0) else ([], 1)
def linesR : Nat → List Rl → List Ln
  | _, [] => []
  | n, r :: rs => (n, wordsR r) :: linesR (n + 1) rs
def compF : List Rl → List Ln → List Rl × Nat × Int
  | acc, [] => (acc, 0, 0)
  | acc, (n, ws) :: r => if acc.length = 64 then ([], n, 14) else match ruleOf ws with
    | none => ([], n, 3)
    | some x => compF (acc ++ [x]) r
/-- What Compile answers. -/
def compileF (l : List UInt8) : List Rl × Nat × Int := if (textF l).2.2 = 0 then compF [] (textF l).1 else ([], (textF l).2.1, (textF l).2.2)
theorem lines_print : ∀ (rs : List Rl) (n : Nat), (∀ r ∈ rs, goodR r = true) → linesGo n (pieces 10 (printL rs)) = linesR n rs
  | [], n, _ => by
    show linesGo n (pieces 10 []) = []
    show linesGo n [[]] = []
    unfold linesGo
    rw [if_pos wordsOf_nil]; rfl
  | r :: rs, n, h => by
    have hr := h r (by simp)
    have hok := okW_rule hr
    have e : printL (r :: rs) = Lib.join (wordsR r) [32] ++ 10 :: printL rs := by unfold printL lineB; simp
    rw [e, pieces_at _ (join_no hok).1]
    unfold linesGo
    rw [wordsOf_join hok, if_neg (by unfold wordsR; simp), lines_print rs (n + 1) (fun x hx => h x (by simp [hx]))]
    rfl
theorem okB_word {w : List UInt8} (h : okW w) : ∀ b ∈ w, okB b := fun b hb => by
  have := h.2 b hb
  unfold okB badB
  simp
  intro _
  omega
theorem print_good : ∀ (rs : List Rl), (∀ r ∈ rs, goodR r = true) → ∀ b ∈ printL rs, okB b := fun rs h b hb => by
  unfold printL at hb
  obtain ⟨l, hl, hbl⟩ := List.mem_flatten.1 hb
  obtain ⟨r, hr, rfl⟩ := List.mem_map.1 hl
  unfold lineB at hbl
  rw [List.mem_append, List.mem_singleton] at hbl
  rcases hbl with hbl | rfl
  · rcases join_sub hbl with rfl | ⟨w, hw, hbw⟩
    · unfold okB badB; decide
    · exact okB_word (okW_rule (h r hr) w hw) b hbw
  · unfold okB badB; decide
theorem text_print {rs : List Rl} (h : ∀ r ∈ rs, goodR r = true) : textF (printL rs) = if 4096 < (printL rs).length then ([], 0, 2) else (linesR 1 rs, 0, 0) := by
  unfold textF
  rw [firstBad_none.2 (print_good rs h)]
  simp only
  unfold linesOf
  rw [lines_print rs 1 h]
theorem comp_lines : ∀ (rs acc : List Rl) (n : Nat), (∀ r ∈ rs, r.In ∧ goodR r = true) → acc.length + rs.length ≤ 64 → compF acc (linesR n rs) = (acc ++ rs, 0, 0)
  | [], acc, n, _, _ => by unfold linesR compF; rw [List.append_nil]
  | r :: rs, acc, n, h, hl => by
    have hr := h r (by simp)
    unfold linesR compF
    rw [if_neg (by simp at hl; omega), ruleOf_iff.2 ⟨hr.1, hr.2, rfl⟩]
    simp only
    rw [comp_lines rs (acc ++ [r]) (n + 1) (fun x hx => h x (by simp [hx])) (by simp at hl ⊢; omega)]
    simp
theorem print_back {rs : List Rl} {t : List UInt8} (hi : ∀ r ∈ rs, r.In) (h : printF rs = (t, 0)) :
    compileF t = if 4096 < t.length then ([], 0, 2) else (rs, 0, 0) := by
  unfold printF at h
  split at h
  · injection h with _ h; cases h
  · split at h
    · rename_i hl hg
      injection h with h _
      subst h
      rw [List.all_eq_true] at hg
      unfold compileF
      rw [text_print hg]
      split
      · rfl
      · simp only [if_true]
        rw [comp_lines rs [] 1 (fun r hr => ⟨hi r hr, hg r hr⟩) (by simp; omega)]
        rfl
    · injection h with _ h; cases h
theorem comp_out : ∀ (ls : List Ln) (acc rs : List Rl) (n : Nat) (e : Int), compF acc ls = (rs, n, e) → (∀ r ∈ acc, r.In ∧ goodR r = true) → acc.length ≤ 64 →
    (e = 0 → (∀ r ∈ rs, r.In ∧ goodR r = true) ∧ rs.length ≤ 64) ∧ (e ≠ 0 → rs = [])
  | [], acc, rs, n, e, h, ha, hl => by
    unfold compF at h
    cases h
    exact ⟨fun _ => ⟨ha, hl⟩, fun h => absurd rfl h⟩
  | (k, ws) :: r, acc, rs, n, e, h, ha, hl => by
    unfold compF at h
    split at h
    · cases h
      exact ⟨(fun h => by cases h), fun _ => rfl⟩
    · split at h
      · cases h
        exact ⟨(fun h => by cases h), fun _ => rfl⟩
      · rename_i x hx
        have hxx := ruleOf_iff.1 hx
        refine comp_out r _ rs n e h (fun y hy => ?_) (by simp; omega)
        rcases List.mem_append.1 hy with h1 | h1
        · exact ha y h1
        · rw [List.mem_singleton.1 h1]; exact ⟨hxx.1, hxx.2.1⟩
theorem compile_out {l : List UInt8} {rs : List Rl} {n : Nat} {e : Int} (h : compileF l = (rs, n, e)) : (e = 0 → (∀ r ∈ rs, r.In ∧ goodR r = true) ∧ rs.length ≤ 64) ∧ (e ≠ 0 → rs = []) := by
  unfold compileF at h
  split at h
  · exact comp_out _ _ _ _ _ h (fun _ h => by cases h) (by simp)
  · cases h
    rename_i h0
    exact ⟨fun h => absurd h h0, fun _ => rfl⟩
/-- What is compiled is printed, and compiled as the same. -/
theorem compile_print {l : List UInt8} {rs : List Rl} {n : Nat} (h : compileF l = (rs, n, 0)) : printF rs = (printL rs, 0) := by
  obtain ⟨h1, h2⟩ := (compile_out h).1 rfl
  unfold printF
  rw [if_neg (by omega), if_pos (List.all_eq_true.2 fun r hr => (h1 r hr).2)]
end Go.Proofs.YtfiddoibnjildaaGreatDoor
