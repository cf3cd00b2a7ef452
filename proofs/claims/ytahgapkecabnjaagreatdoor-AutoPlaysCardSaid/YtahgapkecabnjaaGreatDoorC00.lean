/- Plain law of package addr: numerals, pieces between dots, addresses, nets. No program in sight. -/
import Derived.Lib.AtoiAll
import Derived.Lib.ItoaNum
import Derived.Lib.Split
import Derived.Lib.Join
import Derived.Lib.IndexMore
import Derived.Lib.CountLaws
import Derived.Test.YtahgapkecabnjaaGreatDoorProg
import Derived.WalkKit
import Derived.KernelRfl
import Derived.OwnWalk
import Derived.Outline
import Derived.Deep.Light
import Derived.Below
import Derived.LoopTactic
import Derived.Lib.Hide
import Derived.Deep.LoopGhost
import Derived.Lib.ConvBytes
import Derived.Laws.IdiomStrings
import Derived.Deep.QuietTactic
import Derived.Deep.MidRow
import Derived.RegionTactic
namespace Go.Proofs.YtahgapkecabnjaaGreatDoor
set_option linter.unusedSimpArgs false
set_option linter.unusedVariables false
open Go.Lib

/-- What digits spell. -/
def valFrom (a : Nat) (l : List UInt8) : Nat := l.foldl (fun a c => a * 10 + (c.toNat - 48)) a
def valOf (l : List UInt8) : Nat := valFrom 0 l
theorem valFrom_snoc (a : Nat) (l : List UInt8) (c : UInt8) : valFrom a (l ++ [c]) = valFrom a l * 10 + (c.toNat - 48) := by simp [valFrom]
theorem valFrom_cons (a : Nat) (l : List UInt8) (c : UInt8) : valFrom a (c :: l) = valFrom (a * 10 + (c.toNat - 48)) l := by unfold valFrom; rw [List.foldl_cons]
theorem valFrom_ge : ∀ (l : List UInt8) (a : Nat), a ≤ valFrom a l
  | [], a => Nat.le_refl _
  | c :: r, a => by have := valFrom_ge r (a * 10 + (c.toNat - 48)); rw [valFrom_cons]; omega
def digit (c : UInt8) : Prop := 48 ≤ c.toNat ∧ c.toNat ≤ 57
theorem ofNat_digit {k : Nat} (h : k < 10) : (UInt8.ofNat (48 + k)).toNat = 48 + k := by
  rw [UInt8.toNat_ofNat']; omega
theorem dec_digits (n : Nat) : ∀ c ∈ decDigits n, digit c := by
  induction n using Nat.strongRecOn with
  | _ n ih =>
    intro c hc
    by_cases h : n < 10
    · rw [decDigits, dif_pos h, List.mem_singleton] at hc
      subst hc
      unfold digit; rw [ofNat_digit h]; omega
    · rw [decDigits, dif_neg h, List.mem_append, List.mem_singleton] at hc
      rcases hc with hc | rfl
      · exact ih (n / 10) (by omega) c hc
      · unfold digit; rw [ofNat_digit (by omega)]; omega
theorem valOf_dec (n : Nat) : valOf (decDigits n) = n := by
  induction n using Nat.strongRecOn with
  | _ n ih =>
    by_cases h : n < 10
    · rw [decDigits, dif_pos h]
      simp only [valOf, valFrom, List.foldl_cons, List.foldl_nil]
      rw [ofNat_digit h]; omega
    · rw [decDigits, dif_neg h, valOf, valFrom_snoc]
      have := ih (n / 10) (by omega)
      rw [valOf] at this
      rw [this, ofNat_digit (by omega)]; omega
theorem dec_ne_nil (n : Nat) : decDigits n ≠ [] := by
  intro h
  have := decDigits_length n
  have h2 := nDigits_pos n
  rw [h] at this
  simp at this; omega
theorem dec_inj {m n : Nat} (h : decDigits m = decDigits n) : m = n := by rw [← valOf_dec m, h, valOf_dec]

theorem parse_dec : ∀ (l : List UInt8) (a : Nat), (∀ c ∈ l, digit c) → valFrom a l < 18446744073709551616 → parseUint10 a l = .ok (valFrom a l)
  | [], a, _, _ => rfl
  | c :: r, a, hd, hv => by
    obtain ⟨h1, h2⟩ := hd c (by simp)
    have hge := valFrom_ge r (a * 10 + (c.toNat - 48))
    rw [valFrom_cons] at hv ⊢
    rw [parseUint10, if_pos ⟨h1, h2⟩, if_neg (by omega), if_neg (by omega)]
    exact parse_dec r _ (fun c hc => hd c (by simp [hc])) hv

theorem atoi_dec (n : Nat) (h : n < 9223372036854775808) : atoiAll (decDigits n) = .ok (n : Int) := by
  have hd := dec_digits n
  have hv := valOf_dec n
  have hne := dec_ne_nil n
  cases e : decDigits n with
  | nil => exact absurd e hne
  | cons c r =>
    rw [e] at hd hv
    obtain ⟨h1, h2⟩ := hd c (by simp)
    have hp : parseMag (c :: r) = .ok n := by
      unfold parseMag
      rw [if_neg (by simp), parse_dec _ 0 hd (by rw [← valOf, hv]; omega), ← valOf, hv]
    unfold atoiAll
    simp only
    rw [if_neg (by omega), hp]
    simp only
    rw [if_neg (by omega), if_neg (by omega), if_neg (by omega)]

/-- Is a text the numeral of a number of at most so much? -/
def isNum (l : List UInt8) (most : Nat) : Bool := decide (decDigits (valOf l) = l ∧ valOf l ≤ most)
theorem isNum_iff {l : List UInt8} {most : Nat} : isNum l most = true ↔ ∃ n, n ≤ most ∧ l = decDigits n := by
  unfold isNum
  rw [decide_eq_true_iff]
  constructor
  · rintro ⟨h1, h2⟩; exact ⟨_, h2, h1.symm⟩
  · rintro ⟨n, h1, rfl⟩; rw [valOf_dec]; exact ⟨rfl, h1⟩
theorem isNum_atoi {l : List UInt8} {most : Nat} (hm : most < 9223372036854775808) (h : isNum l most = true) : atoiAll l = .ok (valOf l : Int) ∧ valOf l ≤ most ∧ decDigits (valOf l) = l := by
  unfold isNum at h
  rw [decide_eq_true_iff] at h
  refine ⟨?_, h.2, h.1⟩
  have := atoi_dec (valOf l) (by omega)
  rwa [h.1] at this
theorem isNum_of_ok {l : List UInt8} {most : Nat} {v : Int} (hm : most < 9223372036854775808) (h : atoiAll l = .ok v) : isNum l most = decide (0 ≤ v ∧ v ≤ most ∧ itoa v = l) := by
  rw [Bool.eq_iff_iff, decide_eq_true_iff]
  constructor
  · intro hn
    obtain ⟨h1, h2, h3⟩ := isNum_atoi hm hn
    rw [h] at h1
    injection h1 with h1
    subst h1
    exact ⟨by omega, by omega, by rw [itoa, if_neg (by omega), Int.toNat_natCast]; exact h3⟩
  · rintro ⟨h1, h2, h3⟩
    rw [itoa, if_neg (by omega)] at h3
    exact isNum_iff.2 ⟨v.toNat, by omega, h3.symm⟩
theorem isNum_of_bad {l : List UInt8} {most : Nat} (hm : most < 9223372036854775808) (h : ∀ v, atoiAll l ≠ .ok v) : isNum l most = false := by
  rw [Bool.eq_false_iff]
  intro hn
  exact h _ (isNum_atoi hm hn).1

/-! ### Pieces -/
/-- A text cut at each byte c. -/
def pieces (c : UInt8) : List UInt8 → List (List UInt8)
  | [] => [[]]
  | x :: r => if x = c then [] :: pieces c r else match pieces c r with | [] => [[x]] | p :: q => (x :: p) :: q
theorem pieces_ne (c : UInt8) : ∀ l, pieces c l ≠ []
  | [] => by simp [pieces]
  | x :: r => by unfold pieces; split; simp; split <;> simp
theorem pieces_none {c : UInt8} : ∀ {l : List UInt8}, c ∉ l → pieces c l = [l]
  | [], _ => rfl
  | x :: r, h => by
    simp only [List.mem_cons, not_or] at h
    rw [pieces, if_neg (fun e => h.1 e.symm), pieces_none h.2]
theorem pieces_at {c : UInt8} : ∀ {p : List UInt8} (r : List UInt8), c ∉ p → pieces c (p ++ c :: r) = p :: pieces c r
  | [], r, _ => by simp [pieces]
  | x :: p, r, h => by
    simp only [List.mem_cons, not_or] at h
    rw [List.cons_append, pieces, if_neg (fun e => h.1 e.symm), pieces_at r h.2]
theorem pieces_clean {c : UInt8} : ∀ {l : List UInt8}, ∀ p ∈ pieces c l, c ∉ p
  | [], p, hp => by simp [pieces] at hp; subst hp; simp
  | x :: r, p, hp => by
    rw [pieces] at hp
    split at hp
    · rw [List.mem_cons] at hp
      rcases hp with rfl | hp
      · simp
      · exact pieces_clean p hp
    · rename_i hx
      split at hp
      · simp at hp; subst hp; simp; exact fun e => hx e.symm
      · rename_i p0 q he
        rw [List.mem_cons] at hp
        rcases hp with rfl | hp
        · have := pieces_clean (l := r) p0 (by rw [he]; simp)
          simp only [List.mem_cons, not_or]
          exact ⟨fun e => hx e.symm, this⟩
        · exact pieces_clean (l := r) p (by rw [he]; simp [hp])
theorem join_pieces (c : UInt8) : ∀ l : List UInt8, Lib.join (pieces c l) [c] = l
  | [] => by simp [pieces, join_one]
  | x :: r => by
    have ih := join_pieces c r
    have hne := pieces_ne c r
    rw [pieces]
    cases e : pieces c r with
    | nil => exact absurd e hne
    | cons p q =>
      rw [e, join_cons] at ih
      split
      · rename_i hx
        subst hx
        rw [join_cons]
        simp only [joinTail, List.map_cons, List.flatten_cons, List.nil_append]
        rw [← ih]
        simp [joinTail]
      · simp only
        rw [join_cons, List.cons_append, ih]
theorem pieces_join (c : UInt8) : ∀ (p : List UInt8) (r : List (List UInt8)), c ∉ p → (∀ q ∈ r, c ∉ q) → pieces c (Lib.join (p :: r) [c]) = p :: r
  | p, [], hp, _ => by rw [join_one, pieces_none hp]
  | p, q :: r, hp, hr => by
    have ih := pieces_join c q r (hr q (by simp)) (fun x hx => hr x (by simp [hx]))
    rw [join_cons] at ih ⊢
    simp only [joinTail, List.map_cons, List.flatten_cons] at ih ⊢
    rw [List.append_assoc, List.singleton_append, pieces_at _ hp]
    rw [ih]

theorem index_one_cons {c x : UInt8} {r : List UInt8} (h : x ≠ c) : index (x :: r) [c] = if index r [c] == -1 then -1 else index r [c] + 1 := by
  rw [index]
  have : [c].isPrefixOf (x :: r) = false := by simp [List.isPrefixOf]; exact fun e => h e.symm
  rw [this]; rfl
theorem index_one_hit {c : UInt8} {r : List UInt8} : index (c :: r) [c] = 0 := by
  rw [index]
  simp [List.isPrefixOf]
theorem index_one_none {c : UInt8} : ∀ {l : List UInt8}, c ∉ l → index l [c] = -1
  | [], _ => rfl
  | x :: r, h => by
    simp only [List.mem_cons, not_or] at h
    rw [index_one_cons (fun e => h.1 e.symm), index_one_none h.2]; rfl
theorem index_one_at {c : UInt8} : ∀ {p : List UInt8} (r : List UInt8), c ∉ p → index (p ++ c :: r) [c] = p.length
  | [], r, _ => index_one_hit
  | x :: p, r, h => by
    simp only [List.mem_cons, not_or] at h
    rw [List.cons_append, index_one_cons (fun e => h.1 e.symm), index_one_at r h.2]
    have : ((p.length : Int) == -1) = false := by rw [beq_eq_false_iff_ne]; omega
    rw [this]; simp
/-- Every text has no c, or is parted at its first one. -/
theorem first_of (c : UInt8) : ∀ l : List UInt8, c ∉ l ∨ ∃ p r, l = p ++ c :: r ∧ c ∉ p
  | [] => .inl (by simp)
  | x :: l => by
    by_cases h : x = c
    · exact .inr ⟨[], l, by simp [h], by simp⟩
    · rcases first_of c l with h' | ⟨p, r, rfl, hp⟩
      · exact .inl (by simp only [List.mem_cons, not_or]; exact ⟨fun e => h e.symm, h'⟩)
      · exact .inr ⟨x :: p, r, rfl, by simp only [List.mem_cons, not_or]; exact ⟨fun e => h e.symm, hp⟩⟩
theorem splitK_pieces (c : UInt8) : ∀ (n : Nat) (l : List UInt8), l.length ≤ n → ∀ k, count l [c] ≤ k → splitK [c] 0 k l = pieces c l
  | n, l, hl, k, hk => by
    rcases first_of c l with h | ⟨p, r, rfl, hp⟩
    · have hi := index_one_none h
      cases k with
      | zero => rw [splitK, pieces_none h]
      | succ k => rw [splitK, hi, if_pos (by rfl), pieces_none h]
    · have hi := index_one_at r hp
      have hc := count_hit (s := p ++ c :: r) (sub := [c]) (by simp) hi
      simp only [List.length_singleton] at hc
      rw [show (p ++ c :: r).drop (p.length + 1) = r by simp [← List.drop_drop]] at hc
      cases k with
      | zero => omega
      | succ k =>
        cases n with
        | zero => simp at hl
        | succ n =>
          have hne : ¬ ((p.length : Int) == -1) = true := by rw [beq_iff_eq]; omega
          rw [splitK, hi, if_neg hne, pieces_at _ hp]
          simp only [Int.toNat_natCast, Nat.add_zero, List.length_singleton]
          rw [show (p ++ c :: r).drop (p.length + 1) = r by simp [← List.drop_drop], splitK_pieces c n r (by simp at hl; omega) k (by omega)]
          simp
theorem split_pieces (l : List UInt8) (c : UInt8) : Lib.split l [c] = pieces c l := splitK_pieces c l.length l (Nat.le_refl _) _ (Nat.le_refl _)
theorem cut_none {l : List UInt8} {c : UInt8} (h : c ∉ l) : Lib.cut l [c] = (l, [], false) := by
  unfold Lib.cut; rw [index_one_none h, if_neg (by omega)]
theorem cut_at {p r : List UInt8} {c : UInt8} (h : c ∉ p) : Lib.cut (p ++ c :: r) [c] = (p, r, true) := by
  unfold Lib.cut
  rw [index_one_at r h, if_pos (by omega)]
  simp [← List.drop_drop]

/-! ### Addresses -/
/-- A text's address, read piece by piece: so much is read, so many pieces. -/
def addrGo (a many : Nat) : List (List UInt8) → Option Nat
  | [] => if many = 4 then some a else none
  | p :: r => if isNum p 255 = true then addrGo ((a * 256 + valOf p) % 4294967296) (many + 1) r else none
def addrOf (l : List UInt8) : Option Nat := addrGo 0 0 (pieces 46 l)
theorem addrGo_many : ∀ (ps : List (List UInt8)) (a m b : Nat), addrGo a m ps = some b → m + ps.length = 4
  | [], a, m, b, h => by
    rw [addrGo] at h
    split at h
    · simpa
    · cases h
  | p :: r, a, m, b, h => by
    rw [addrGo] at h
    split at h
    · have := addrGo_many r _ _ _ h; simp; omega
    · cases h
theorem addrGo_short {ps : List (List UInt8)} {a m : Nat} (h : m + ps.length ≠ 4) : addrGo a m ps = none := by
  cases e : addrGo a m ps with
  | none => rfl
  | some b => exact absurd (addrGo_many _ _ _ _ e) h
def byteAt (a k : Nat) : Nat := a / 256 ^ k % 256
def showAddr (a : Nat) : List UInt8 := Lib.join [decDigits (byteAt a 3), decDigits (byteAt a 2), decDigits (byteAt a 1), decDigits (byteAt a 0)] [46]
theorem dec_no {n : Nat} {c : UInt8} (h : ¬ digit c) : c ∉ decDigits n := fun hc => h (dec_digits n c hc)
theorem dot_no {n : Nat} : (46 : UInt8) ∉ decDigits n := dec_no (by unfold digit; decide)
theorem isNum_dec {n most : Nat} (h : n ≤ most) : isNum (decDigits n) most = true := isNum_iff.2 ⟨n, h, rfl⟩
theorem addrOf_show (a : Nat) (h : a < 4294967296) : addrOf (showAddr a) = some a := by
  unfold addrOf showAddr
  rw [pieces_join 46 _ _ dot_no (by intro q hq; simp at hq; rcases hq with rfl | rfl | rfl <;> exact dot_no)]
  have e : ∀ k, isNum (decDigits (byteAt a k)) 255 = true := fun k => isNum_dec (by unfold byteAt; omega)
  simp only [addrGo, e, if_true, valOf_dec]
  unfold byteAt
  congr 1
  omega
theorem addrOf_lt {l : List UInt8} {a : Nat} (h : addrOf l = some a) : a < 4294967296 ∧ showAddr a = l := by
  unfold addrOf at h
  have hj := join_pieces 46 l
  have hm := addrGo_many _ _ _ _ h
  match e : pieces 46 l, hm with
  | [p0, p1, p2, p3], _ =>
    rw [e] at h hj
    simp only [addrGo] at h
    split at h
    · rename_i h0
      split at h
      · rename_i h1
        split at h
        · rename_i h2
          split at h
          · rename_i h3
            obtain ⟨n0, b0, rfl⟩ := isNum_iff.1 h0
            obtain ⟨n1, b1, rfl⟩ := isNum_iff.1 h1
            obtain ⟨n2, b2, rfl⟩ := isNum_iff.1 h2
            obtain ⟨n3, b3, rfl⟩ := isNum_iff.1 h3
            simp only [valOf_dec, if_true, Option.some.injEq] at h
            refine ⟨by omega, ?_⟩
            rw [← hj]
            unfold showAddr byteAt
            rw [show a / 256 ^ 3 % 256 = n0 by omega, show a / 256 ^ 2 % 256 = n1 by omega, show a / 256 ^ 1 % 256 = n2 by omega, show a / 256 ^ 0 % 256 = n3 by omega]
          · cases h
        · cases h
      · cases h
    · cases h

/-! ### Nets -/
/-- May a net be? -/
def mayNet (a : Nat) (n : Int) : Bool := decide (0 ≤ n ∧ n ≤ 32 ∧ a % 2 ^ (32 - n).toNat = 0)
def hasNet (a : Nat) (n : Int) (b : Nat) : Bool := mayNet a n && decide (b / 2 ^ (32 - n).toNat = a / 2 ^ (32 - n).toNat)
def anyL : List UInt8 := [97, 110, 121]
/-- A net's text. -/
def showNet (a : Nat) (n : Int) : Option (List UInt8) := if mayNet a n then some (if n = 0 then anyL else showAddr a ++ 47 :: decDigits n.toNat) else none
/-- A text's net: its address, its bits. -/
def netOf (l : List UInt8) : Option (Nat × Nat) :=
  if l = anyL then some (0, 0)
  else match addrOf (Lib.cut l [47]).1 with
    | none => none
    | some a => if isNum (Lib.cut l [47]).2.1 32 = true ∧ valOf (Lib.cut l [47]).2.1 ≠ 0 ∧ mayNet a (valOf (Lib.cut l [47]).2.1) = true then some (a, valOf (Lib.cut l [47]).2.1) else none
theorem mem_join {c : UInt8} {s : UInt8} : ∀ {ps : List (List UInt8)}, (∀ p ∈ ps, c ∉ p) → c ≠ s → c ∉ Lib.join ps [s]
  | [], _, _ => by simp [join_nil]
  | [p], h, _ => by rw [join_one]; exact h p (by simp)
  | p :: q :: r, h, hs => by
    have ih := mem_join (c := c) (s := s) (ps := q :: r) (fun x hx => h x (by simp [hx])) hs
    rw [join_cons] at ih ⊢
    simp only [joinTail, List.map_cons, List.flatten_cons] at ih ⊢
    simp only [List.mem_append, List.mem_singleton, not_or] at ih ⊢
    exact ⟨h p (by simp), ⟨hs, ih.1⟩, ih.2⟩
theorem slash_show (a : Nat) : (47 : UInt8) ∉ showAddr a := by
  unfold showAddr
  refine mem_join ?_ (by decide)
  intro p hp
  simp at hp
  have : ¬ digit 47 := by unfold digit; decide
  rcases hp with rfl | rfl | rfl | rfl <;> exact dec_no this
theorem netOf_show {a : Nat} {n : Int} {l : List UInt8} (ha : a < 4294967296) (h : showNet a n = some l) : netOf l = some (a, n.toNat) := by
  unfold showNet at h
  split at h
  · rename_i hm
    injection h with h
    subst h
    have hm' := hm
    unfold mayNet at hm'
    rw [decide_eq_true_iff] at hm'
    split
    · rename_i h0
      subst h0
      rw [netOf, if_pos rfl]
      have : a = 0 := by have := hm'.2.2; simp at this; omega
      rw [this]; rfl
    · rename_i h0
      have hne : showAddr a ++ 47 :: decDigits n.toNat ≠ anyL := by
        intro e
        have : (47 : UInt8) ∈ anyL := by rw [← e]; simp
        revert this; decide
      rw [netOf, if_neg hne, cut_at (slash_show a)]
      simp only
      rw [addrOf_show a ha]
      simp only
      rw [valOf_dec, if_pos ⟨isNum_dec (by omega), by omega, by rw [Int.toNat_of_nonneg hm'.1]; exact hm⟩]
  · cases h
theorem showNet_netOf {l : List UInt8} {a b : Nat} (h : netOf l = some (a, b)) : showNet a b = some l ∧ a < 4294967296 ∧ b ≤ 32 := by
  unfold netOf at h
  split at h
  · rename_i hl
    injection h with h
    injection h with h1 h2
    subst h1 h2 hl
    exact ⟨by decide, by omega, by omega⟩
  · split at h
    · cases h
    · rename_i a' ha
      split at h
      · rename_i hn
        injection h with h
        injection h with h1 h2
        subst h1 h2
        obtain ⟨h3, h4⟩ := addrOf_lt ha
        rcases first_of 47 l with hs | ⟨p, r, rfl, hp⟩
        · rw [cut_none hs] at hn
          obtain ⟨n, _, e⟩ := isNum_iff.1 hn.1
          exact absurd e.symm (dec_ne_nil n)
        · rw [cut_at hp] at hn h4 ⊢
          simp only at hn h4 ⊢
          obtain ⟨n, hn1, rfl⟩ := isNum_iff.1 hn.1
          rw [valOf_dec] at hn ⊢
          refine ⟨?_, h3, hn1⟩
          unfold showNet
          rw [if_pos hn.2.2, if_neg (by omega), h4]
          simp
      · cases h
theorem half_law (a b : Nat) (n : Nat) (hn : n ≤ 31) (ha : a < 4294967296) (hb : b < 4294967296) (h : mayNet a n = true) :
    mayNet a (n + 1 : Nat) = true ∧ mayNet (a + 2 ^ (31 - n)) (n + 1 : Nat) = true ∧ a + 2 ^ (31 - n) < 4294967296 ∧
    hasNet a n b = (hasNet a (n + 1 : Nat) b || hasNet (a + 2 ^ (31 - n)) (n + 1 : Nat) b) ∧ (hasNet a (n + 1 : Nat) b && hasNet (a + 2 ^ (31 - n)) (n + 1 : Nat) b) = false := by
  unfold mayNet at h
  rw [decide_eq_true_iff] at h
  have hd : a % 2 ^ (32 - n) = 0 := by have := h.2.2; rwa [show (32 - (n : Int)).toNat = 32 - n by omega] at this
  have e1 : 32 - n = (31 - n) + 1 := by omega
  rw [e1, Nat.pow_succ] at hd
  have hp : 1 ≤ 2 ^ (31 - n) := Nat.one_le_two_pow
  have hle : 2 ^ (31 - n) * 2 ^ n = 2147483648 := by rw [← Nat.pow_add, show 31 - n + n = 31 by omega]
  generalize hq : 2 ^ (31 - n) = q at *
  have m1 : mayNet a (n + 1 : Nat) = true := by
    unfold mayNet
    rw [decide_eq_true_iff, show (32 - ((n + 1 : Nat) : Int)).toNat = 31 - n by omega, hq]
    refine ⟨by omega, by omega, ?_⟩
    obtain ⟨k, hk⟩ := Nat.dvd_of_mod_eq_zero hd
    rw [hk, Nat.mul_assoc, Nat.mul_mod_right]
  obtain ⟨k, rfl⟩ := Nat.dvd_of_mod_eq_zero hd
  have hk : k < 2 ^ n := by
    by_cases hk : k < 2 ^ n
    · exact hk
    · exfalso
      have : q * 2 * 2 ^ n ≤ q * 2 * k := Nat.mul_le_mul_left _ (by omega)
      have e : q * 2 * 2 ^ n = 4294967296 := by rw [Nat.mul_assoc, Nat.mul_comm 2, ← Nat.mul_assoc, hle]
      omega
  have m2 : mayNet (q * 2 * k + q) (n + 1 : Nat) = true := by
    unfold mayNet
    rw [decide_eq_true_iff, show (32 - ((n + 1 : Nat) : Int)).toNat = 31 - n by omega, hq]
    refine ⟨by omega, by omega, ?_⟩
    rw [show q * 2 * k + q = q * (2 * k + 1) by rw [Nat.mul_add, Nat.mul_one, Nat.mul_assoc]]; exact Nat.mul_mod_right _ _
  have d0 : q * 2 * k / (q * 2) = k := Nat.mul_div_cancel_left _ (by omega)
  have d1 : q * 2 * k / q = 2 * k := by rw [Nat.mul_assoc]; exact Nat.mul_div_cancel_left _ (by omega)
  have d2 : (q * 2 * k + q) / q = 2 * k + 1 := by rw [show q * 2 * k + q = q * (2 * k + 1) by rw [Nat.mul_add, Nat.mul_one, Nat.mul_assoc]]; exact Nat.mul_div_cancel_left _ (by omega)
  have d3 : b / (q * 2) = b / q / 2 := by rw [Nat.div_div_eq_div_mul]
  have h0 : mayNet (q * 2 * k) n = true := by unfold mayNet; rw [decide_eq_true_iff]; exact h
  refine ⟨m1, m2, ?_, ?_, ?_⟩
  · have : q * 2 * (k + 1) ≤ q * 2 * 2 ^ n := Nat.mul_le_mul_left _ (by omega)
    have e : q * 2 * 2 ^ n = 4294967296 := by rw [Nat.mul_assoc, Nat.mul_comm 2, ← Nat.mul_assoc, hle]
    rw [Nat.mul_add, Nat.mul_one] at this
    omega
  · unfold hasNet
    rw [h0, m1, m2]
    simp only [Bool.true_and]
    rw [show (32 - (n : Int)).toNat = 32 - n by omega, show (32 - ((n + 1 : Nat) : Int)).toNat = 31 - n by omega, e1, Nat.pow_succ, hq, d0, d1, d2, d3]
    rw [Bool.eq_iff_iff]
    simp only [decide_eq_true_iff, Bool.or_eq_true]
    omega
  · unfold hasNet
    rw [m1, m2]
    simp only [Bool.true_and]
    rw [show (32 - ((n + 1 : Nat) : Int)).toNat = 31 - n by omega, hq, d1, d2]
    rw [Bool.eq_false_iff]
    simp only [ne_eq, Bool.and_eq_true, decide_eq_true_iff]
    omega
end Go.Proofs.YtahgapkecabnjaaGreatDoor
/- Walks of the reference of layer 3: Num. -/
namespace Go.Proofs.YtahgapkecabnjaaGreatDoor
set_option linter.unusedSimpArgs false
set_option linter.unusedVariables false
open Go Go.RowKit

theorem dec_len (n : Nat) (h : n ≤ 9223372036854775807) : (Lib.decDigits n).length ≤ 19 := by
  rw [Lib.decDigits_length]
  by_cases e : Lib.nDigits n ≤ 19
  · exact e
  · exfalso
    have h2 : ∀ k u : Nat, k < Lib.nDigits u → 10 ^ k ≤ u ∨ k = 0 := by
      intro k
      induction k with
      | zero => intro u _; exact .inr rfl
      | succ k ih =>
        intro u hu
        left
        by_cases h10 : u < 10
        · rw [Lib.nDigits_small h10] at hu; omega
        · rw [Lib.nDigits_big h10] at hu
          rcases ih (u / 10) (by omega) with h | rfl
          · rw [Nat.pow_succ]; omega
          · simp; omega
    rcases h2 19 n (by omega) with h3 | h3
    · have : (10 : Nat) ^ 19 = 10000000000000000000 := by decide
      omega
    · omega

/-- One byte as a string. -/
theorem conv_one (wr : World) (v : Int) (h0 : 0 ≤ v) (h1 : v ≤ 255) :
    (convert 189 9 (.slice (some ⟨wr.heap.size, 0, none⟩) 1 1)).run Tryz.prog (wr.alloc (.cells #[.int .u8 v] 5)) = .ok (.string ⟨#[UInt8.ofNat v.toNat]⟩) (wr.alloc (.cells #[.int .u8 v] 5)) := by
  have := run_convert_bytes_back (P := Tryz.prog) (wr.alloc (.cells #[.int .u8 v] 5)) 189 9 5 ⟨wr.heap.size, 0, none⟩ 1 [UInt8.ofNat v.toNat] Tryz.underlying189 Tryz.underlying5 Tryz.underlying9 (fun j hj => by
    have : j = 0 := by simpa using hj
    subst this
    simp [Addr.add]
    omega)
  simpa using this

/-- A walk's end with one result. -/
theorem retB {v u : Value} {w w' : World} (h : v = u) (hb : Below w.heap.size w w') : Ending.returned v = Ending.returned u ∧ Below w.heap.size w w' := ⟨by rw [h], hb⟩

theorem str_cat {a b c : List UInt8} (h : a ++ b = c) : (⟨a.toArray⟩ : ByteArray) ++ ⟨b.toArray⟩ = ⟨c.toArray⟩ := by
  subst h; apply ByteArray.ext; simp

/-- What the reference's Number answers. -/
def numF (l : List UInt8) : Int := if l.length ≤ 9 ∧ Lib.decDigits (valOf l) = l then valOf l else -1

theorem strEq {a : ByteArray} {l : List UInt8} : a = ⟨l.toArray⟩ ↔ a.data.toList = l := by
  constructor
  · rintro rfl; rfl
  · rintro rfl; rfl

theorem take_val (s : ByteArray) (k : Nat) (h : k < s.size) : valOf (s.data.toList.take (k + 1)) = valOf (s.data.toList.take k) * 10 + (s[k].toNat - 48) := by
  have : s.data.toList.take (k + 1) = s.data.toList.take k ++ [s[k]] := by rw [List.take_succ_eq_append_getElem (by simpa using h)]; rfl
  rw [this, valOf, valFrom_snoc, valOf]

theorem valFrom_lt : ∀ (l : List UInt8) (a : Nat), (∀ c ∈ l, digit c) → valFrom a l < (a + 1) * 10 ^ l.length
  | [], a, _ => by simp [valFrom]
  | c :: r, a, h => by
    have h2 := h c (by simp)
    unfold digit at h2
    have h1 := valFrom_lt r (a * 10 + (c.toNat - 48)) (fun x hx => h x (by simp [hx]))
    rw [valFrom_cons, List.length_cons, Nat.pow_succ, Nat.mul_comm (10 ^ r.length) 10, ← Nat.mul_assoc]
    exact Nat.lt_of_lt_of_le h1 (Nat.mul_le_mul_right (10 ^ r.length) (show a * 10 + (c.toNat - 48) + 1 ≤ (a + 1) * 10 by omega))
theorem val_lt (l : List UInt8) (h : ∀ c ∈ l, digit c) : valOf l < 10 ^ l.length := by
  have := valFrom_lt l 0 h
  simpa [valOf] using this
theorem numF_bad {l : List UInt8} {c : UInt8} (hc : c ∈ l) (h : ¬ digit c) : numF l = -1 := by
  unfold numF
  rw [if_neg]
  rintro ⟨_, e⟩
  exact h (dec_digits (valOf l) c (by rw [e]; exact hc))
theorem dec_len_le : ∀ (k n : Nat), n < 10 ^ k → 1 ≤ k → (Lib.decDigits n).length ≤ k := by
  intro k
  induction k with
  | zero => intro n _ h; omega
  | succ k ih =>
    intro n hn _
    rw [Lib.decDigits_length]
    by_cases h : n < 10
    · rw [Lib.nDigits_small h]; omega
    · rw [Lib.nDigits_big h]
      by_cases hk : k = 0
      · subst hk; omega
      · have := ih (n / 10) (by rw [Nat.pow_succ] at hn; omega) (by omega)
        rw [Lib.decDigits_length] at this; omega
/-- What is left to ask behind the loop. -/
theorem numF_end {l : List UInt8} {k : Nat} (hk : k ≤ l.length) (h : k = l.length ∨ k = 9) (h9 : k ≤ 9) (hd : ∀ c ∈ l.take k, digit c) :
    numF l = if Lib.decDigits (valOf (l.take k)) = l then (valOf (l.take k) : Int) else -1 := by
  by_cases he : k = l.length
  · subst he
    rw [List.take_length]
    unfold numF
    by_cases e : Lib.decDigits (valOf l) = l
    · rw [if_pos ⟨h9, e⟩, if_pos e]
    · rw [if_neg (fun x => e x.2), if_neg e]
  · have h9' : k = 9 := by omega
    subst h9'
    unfold numF
    rw [if_neg (by omega), if_neg]
    intro e
    have h1 := val_lt _ hd
    have h2 : (l.take 9).length = 9 := by rw [List.length_take]; omega
    rw [h2] at h1
    have h3 := dec_len_le 9 _ h1 (by omega)
    rw [e] at h3
    omega
theorem num_yes {s : ByteArray} {m : Nat} (h : numF s.data.toList = if Lib.decDigits m = s.data.toList then (m : Int) else -1) (hb : (!Lib.decDigits m == s.toList) = false) : Value.int .i64 m = Value.int .i64 (numF s.data.toList) := by
  rw [h, if_pos]
  rw [ByteArray.toList_eq] at hb
  simpa using hb
theorem num_no {s : ByteArray} {m : Nat} (h : numF s.data.toList = if Lib.decDigits m = s.data.toList then (m : Int) else -1) (hb : (!Lib.decDigits m == s.toList) = true) : Value.int .i64 (-1) = Value.int .i64 (numF s.data.toList) := by
  rw [h, if_neg]
  rw [ByteArray.toList_eq] at hb
  simpa using hb
theorem mem_take_at (s : ByteArray) (k : Nat) (h : k < s.size) : s[k] ∈ s.data.toList := by
  show s.data[k] ∈ s.data.toList
  simp
theorem digits_take (s : ByteArray) (k : Nat) (h : k < s.size) (hd : ∀ c ∈ s.data.toList.take k, digit c) (h2 : digit s[k]) : ∀ c ∈ s.data.toList.take (k + 1), digit c := by
  have : s.data.toList.take (k + 1) = s.data.toList.take k ++ [s[k]] := by rw [List.take_succ_eq_append_getElem (by simpa using h)]; rfl
  rw [this]
  intro c hc
  rw [List.mem_append, List.mem_singleton] at hc
  rcases hc with hc | rfl
  · exact hd c hc
  · exact h2

end Go.Proofs.YtahgapkecabnjaaGreatDoor
/- The walk of the reference's Parse of layer 3. -/
namespace Go.Proofs.YtahgapkecabnjaaGreatDoor
set_option linter.unusedSimpArgs false
set_option linter.unusedVariables false
open Go Go.RowKit

theorem isNum_numF {p : List UInt8} : (isNum p 255 = true ∧ numF p = valOf p ∧ valOf p ≤ 255) ∨ (isNum p 255 = false ∧ (numF p < 0 ∨ 255 < numF p)) := by
  cases h : isNum p 255 with
  | true =>
    obtain ⟨n, h1, rfl⟩ := isNum_iff.1 h
    refine .inl ⟨rfl, ?_, by rw [valOf_dec]; exact h1⟩
    unfold numF
    rw [if_pos]
    have := dec_len_le 3 n (by omega) (by omega)
    exact ⟨by omega, by rw [valOf_dec]⟩
  | false =>
    refine .inr ⟨rfl, ?_⟩
    unfold numF
    split
    · rename_i hc
      right
      have h2 : ¬ (valOf p ≤ 255) := fun h3 => by
        have := (isNum_iff (l := p) (most := 255)).2 ⟨_, h3, hc.2.symm⟩
        rw [h] at this; cases this
      omega
    · left; omega
def pairA (o : Option Nat) : Int × Int := match o with | some a => ((a : Int), 0) | none => (0, 3)

/-- The pieces that are still to be read. -/
def Left3 (l : List UInt8) (a many fr i : Nat) (ps : List (List UInt8)) : Prop :=
  addrOf l = addrGo a many ps ∧ ((i ≤ l.length ∧ fr ≤ i ∧ ps = pieces 46 (l.drop fr) ∧ (46 : UInt8) ∉ (l.drop fr).take (i - fr)) ∨ (i = l.length + 1 ∧ ps = []))
theorem Left3.start (l : List UInt8) : Left3 l 0 0 0 0 (pieces 46 l) := ⟨rfl, .inl ⟨Nat.zero_le _, Nat.le_refl _, by simp, by simp⟩⟩
theorem Left3.skip {s : ByteArray} {a many fr i : Nat} {ps : List (List UInt8)} (h : Left3 s.data.toList a many fr i ps) (hi : i < s.size) (hc : s[i] ≠ 46) : Left3 s.data.toList a many fr (i + 1) ps := by
  obtain ⟨h1, h2⟩ := h
  refine ⟨h1, ?_⟩
  rcases h2 with ⟨h3, h4, h5, h6⟩ | ⟨h3, _⟩
  · left
    refine ⟨by simp; omega, by omega, h5, ?_⟩
    rw [show i + 1 - fr = (i - fr) + 1 by omega, List.take_add_one]
    have : (s.data.toList.drop fr)[i - fr]? = some s[i] := by
      rw [List.getElem?_drop, show fr + (i - fr) = i by omega]
      simp [hi]; rfl
    rw [this]
    simp only [Option.toList_some, List.mem_append, List.mem_singleton, not_or]
    exact ⟨h6, fun e => hc e.symm⟩
  · simp at h3; omega
/-- A piece ends. -/
theorem Left3.piece {s : ByteArray} {a many fr i : Nat} {ps : List (List UInt8)} (h : Left3 s.data.toList a many fr i ps) (hi : i ≤ s.size) (hc : ∀ h : i < s.size, s[i] = 46) :
    fr ≤ i ∧ ∃ qs, ps = (s.extract fr i).data.toList :: qs ∧
      (isNum (s.extract fr i).data.toList 255 = true → Left3 s.data.toList ((a * 256 + valOf (s.extract fr i).data.toList) % 4294967296) (many + 1) (i + 1) (i + 1) qs) ∧
      (isNum (s.extract fr i).data.toList 255 = false → addrOf s.data.toList = none) := by
  obtain ⟨h1, h2⟩ := h
  rcases h2 with ⟨h3, h4, h5, h6⟩ | ⟨h3, _⟩
  · have hx : (s.extract fr i).data.toList = (s.data.toList.drop fr).take (i - fr) := by rw [Lib.extract_data]
    refine ⟨h4, ?_⟩
    rw [hx]
    by_cases hlt : i < s.size
    · have e : s.data.toList.drop fr = (s.data.toList.drop fr).take (i - fr) ++ 46 :: s.data.toList.drop (i + 1) := by
        have h7 : (s.data.toList.drop fr).drop (i - fr) = 46 :: s.data.toList.drop (i + 1) := by
          rw [List.drop_drop, show fr + (i - fr) = i by omega]
          have h8 : s.data.toList[i]'(by simpa using hlt) = 46 := by
            have := hc hlt
            rw [← this]; simp; rfl
          rw [← h8]
          exact List.drop_eq_getElem_cons (by simpa using hlt)
        rw [← h7, List.take_append_drop]
      have hp : ps = (s.data.toList.drop fr).take (i - fr) :: pieces 46 (s.data.toList.drop (i + 1)) := by
        rw [h5]
        conv => lhs; rw [e]
        exact pieces_at _ h6
      refine ⟨_, hp, fun hn => ⟨?_, .inl ⟨by simp; omega, Nat.le_refl _, rfl, by simp⟩⟩, fun hn => ?_⟩
      · rw [h1, hp, addrGo, if_pos hn]
      · rw [h1, hp, addrGo, if_neg (by simp [hn])]
    · have he : i = s.size := by omega
      have ht : (s.data.toList.drop fr).take (i - fr) = s.data.toList.drop fr := List.take_of_length_le (by simp; omega)
      have hp : ps = (s.data.toList.drop fr).take (i - fr) :: [] := by
        rw [h5]
        rw [ht] at h6 ⊢
        exact pieces_none h6
      refine ⟨_, hp, fun hn => ⟨?_, .inr ⟨by simp; omega, rfl⟩⟩, fun hn => ?_⟩
      · rw [h1, hp]; simp only [addrGo]; rw [if_pos hn]
      · rw [h1, hp]; simp only [addrGo]; rw [if_neg (by simp [hn])]
  · simp at h3; omega
theorem Left3.last {s : ByteArray} {a many fr i : Nat} {ps : List (List UInt8)} (h : Left3 s.data.toList a many fr i ps) (hi : s.size < i) : addrOf s.data.toList = if many = 4 then some a else none := by
  obtain ⟨h1, h2⟩ := h
  rcases h2 with ⟨h3, _⟩ | ⟨_, rfl⟩
  · simp at h3; omega
  · rw [h1, addrGo]

def PairPost3 (q : Int × Int) (w : World) (e : Ending) (w' : World) : Prop := e = .returned (.tuple #[.int .u32 q.1, .int .i64 q.2]) ∧ Below w.heap.size w w'
theorem pair3 {q : Int × Int} {a b : Int} {w w' : World} (h : q = (a, b)) (hb : Below w.heap.size w w') : PairPost3 q w (.returned (.tuple #[.int .u32 a, .int .i64 b])) w' := by
  subst h; exact ⟨rfl, hb⟩

end Go.Proofs.YtahgapkecabnjaaGreatDoor
/- Regions that draw their order, whose operations read old memory and whose calls may make new memory: one walk in the order of the text, over the class of the worlds in which nothing old has changed. -/
namespace Go.Proofs.YtahgapkecabnjaaGreatDoor
set_option linter.unusedSimpArgs false
set_option linter.unusedVariables false
open Go Go.RowKit

theorem below_then {w w1 w2 : World} (h : Below w.heap.size w w1) (k : Below w1.heap.size w1 w2) : Below w.heap.size w w2 := h.trans (k.mono h.size)
/-- Nothing that was there in w has changed. -/
def Since (w w' : World) : Prop := Below w.heap.size w w'
theorem Since.refl (w : World) : Since w w := Below.refl _ _
theorem Since.step {w w1 w2 : World} (h : Since w w1) (k : Below w1.heap.size w1 w2) : Since w w2 := h.trans (k.mono h.size)
theorem Since.cell {w w1 : World} (h : Since w w1) {a : Addr} {v : Value} (hc : w.cell? a = some v) : w1.cell? a = some v := (Below.cell h (World.block_lt_of_cell? w a hc)).trans hc
theorem Since.range {w w1 : World} (h : Since w w1) {b o : Nat} {cs : List Value} (hc : w.rangeAt b o cs) : w1.rangeAt b o cs := fun j v hv => h.cell (hc j v hv)

section
variable {P : Program} {ops : Array Oper} {C : World → Prop} {Q : Act → Prop} {o : Oper} {a : Act} {rest : List Oper}

theorem wpQ_val {u : Value} (hw : Region.wanted o (yielded ops a.tmps) = true) (h : ∀ w, C w → (execOp a.eval o).run P w = .ok (.value u) w)
    (hk : wpQuiet P ops C Q rest (a.put o.dst u)) : wpQuiet P ops C Q (o :: rest) a := by
  unfold wpQuiet
  rw [if_pos hw]
  exact ⟨u, fun w hc => by unfold Oper.quietAt; rw [h w hc]; exact ⟨rfl, rfl⟩, hk⟩
theorem wpQ_off (hw : Region.wanted o (yielded ops a.tmps) = false) (hk : wpQuiet P ops C Q rest (a.put o.dst undef)) : wpQuiet P ops C Q (o :: rest) a := by
  unfold wpQuiet
  rw [if_neg (by rw [hw]; exact Bool.false_ne_true)]
  exact hk
theorem wpQ_call {f : FuncId} {args : Array Value} {v : Value} (hw : Region.wanted o (yielded ops a.tmps) = true) (h : ∀ w, C w → (execOp a.eval o).run P w = .ok (.enter f args) w)
    (hc : ∀ w, C w → Calls P f args w fun e w' => e = .returned v ∧ C w') (hk : wpQuiet P ops C Q rest (a.put o.dst v)) : wpQuiet P ops C Q (o :: rest) a := by
  unfold wpQuiet
  rw [if_pos hw]
  exact ⟨v, fun w hc' => by unfold Oper.quietAt; rw [h w hc']; exact ⟨rfl, hc w hc'⟩, hk⟩
theorem wpQ_load_mid (hw : Region.wanted o (yielded ops a.tmps) = true) (ty : TypeId) (x : Operand) (ho : o.op = .load ty x) (b off : Nat) (hx : a.eval x = .pointer (some ⟨b, off, none⟩)) (cs : List Value) (d : TypeDesc)
    (hc : ∀ w, C w → w.rangeAt b off cs) (hu : P.underlying ty = some d) (hd : d.isRow = true) (hi : (P.info? ty).map (·.size) = some cs.length)
    (hk : wpQuiet P ops C Q rest (a.put o.dst (.agg cs.toArray))) : wpQuiet P ops C Q (o :: rest) a := by
  refine wpQ_val hw (fun w hcw => ?_) hk
  unfold execOp
  simp only [ho, hx, Sem.run_bind, run_loadAt_mid w b off ty cs d (hc w hcw) hu hd hi, Result.andThen_ok, Sem.run_pure]
theorem wpQ_done (h : Q a) : wpQuiet P ops C Q [] a := h

/-- The load of a whole array or struct in a plain region, guarded or not. -/
theorem wpList_load_mid_w {P : Program} {ops : Array Oper} {rest : List Oper} {op : Oper} {a : Act} {w : World} {Q : Exit → Act → World → Prop} (hw : Region.wanted op (yielded ops a.tmps) = true) (ty : TypeId) (x : Operand) (ho : op.op = .load ty x)
    (b o : Nat) (hx : a.eval x = .pointer (some ⟨b, o, none⟩)) (cs : List Value) (d : TypeDesc) (hc : w.rangeAt b o cs)
    (hu : P.underlying ty = some d) (hd : d.isRow = true) (hi : (P.info? ty).map (·.size) = some cs.length)
    (h : wpList P ops Q rest (a.put op.dst (.agg cs.toArray)) w) : wpList P ops Q (op :: rest) a w :=
  wpList_step fun K hK => by rw [if_pos hw]; exact wp_load_mid ty x ho b o hx cs d hc hu hd hi (hK _ _ h)

section
variable {P : Program} {ops : Array Oper} {md : Region.Mode} {Q : Exit → Act → World → Prop}
/-- 'wpAny_take' with the slot written out, so that the frame stays small. -/
theorem wpAny_take_d (i : Nat) (d : Option Tmp) (v : Value) {oi : Oper} {fuel : Nat} {listed : Array Bool} {a : Act} {w : World} (hi : ops[i]? = some oi) (hd : oi.dst = d)
    (hs : Region.noSelect ops = true) (hf : Region.free md ops listed i = true) (hr : (Region.ready md ops listed).contains i = true)
    (hQ : ∀ c a w, Q (.panic c) (a.put oi.dst v) w → Q (.panic c) a w) (hw : Region.wanted oi (yielded ops a.tmps) = true) (hy : ∀ w, (execOp a.eval oi).run P w = .ok (.value v) w)
    (h : wpAny P md ops Q fuel (listed.setIfInBounds i true) (a.put d v) w) : wpAny P md ops Q (fuel + 1) listed a w := by
  subst hd
  exact wpAny_take hi hs hf hr hQ (.inl ⟨hw, hy⟩) h
/-- The one operation that may come up next is carried out. -/
theorem wpAny_one (i : Nat) {o : Oper} {fuel : Nat} {listed : Array Bool} {a : Act} {w : World} (hr : Region.ready md ops listed = [i]) (ho : ops[i]? = some o) (hw : Region.wanted o (yielded ops a.tmps) = true)
    (h : o.wp P a w (wpAny P md ops Q fuel (listed.setIfInBounds i true)) Q) : wpAny P md ops Q (fuel + 1) listed a w :=
  wpAny_ready hr (by simp) (AllReady.cons ho (fun K hK => by rw [if_pos hw]; exact Oper.wp_mono hK h) AllReady.nil)
end

/-- Into a region that draws, at the class 'nothing old has changed'. -/
theorem wp_region_since {id : Nat} {Q : Exit → Act → World → Prop} {w : World} {l : List Oper} (w0 : World) (hs : Since w0 w) (hm : P.follows .mixedOrders = true) (hB : Region.lexB .any l.toArray = true)
    (h : wpQuiet P l.toArray (Since w0) (fun a' => ∀ w', Since w0 w' → Q .normal a' w') l a) : (Code.region id l.toArray true).wp P Q a w :=
  wp_region_quiet (C := Since w0) hm hB (show Since w0 { w with drawn := w.drawn + 1 } from Below.trans hs ⟨rfl, rfl, rfl, Nat.le_refl _, fun _ _ => rfl⟩) (by simpa using h)

/-- 'wpQuiet' under a name that does not unfold. -/
structure WQ (P : Program) (ops : Array Oper) (C : World → Prop) (Q : Act → Prop) (rest : List Oper) (a : Act) : Prop where
  mk :: (out : wpQuiet P ops C Q rest a)
theorem WQ.val {u : Value} (hw : Region.wanted o (yielded ops a.tmps) = true) (h : ∀ w, C w → (execOp a.eval o).run P w = .ok (.value u) w) (hk : WQ P ops C Q rest (a.put o.dst u)) : WQ P ops C Q (o :: rest) a := ⟨wpQ_val hw h hk.out⟩
theorem WQ.off (hw : Region.wanted o (yielded ops a.tmps) = false) (hk : WQ P ops C Q rest (a.put o.dst undef)) : WQ P ops C Q (o :: rest) a := ⟨wpQ_off hw hk.out⟩
theorem WQ.call {f : FuncId} {args : Array Value} {v : Value} (hw : Region.wanted o (yielded ops a.tmps) = true) (h : ∀ w, C w → (execOp a.eval o).run P w = .ok (.enter f args) w)
    (hc : ∀ w, C w → Calls P f args w fun e w' => e = .returned v ∧ C w') (hk : WQ P ops C Q rest (a.put o.dst v)) : WQ P ops C Q (o :: rest) a := ⟨wpQ_call hw h hc hk.out⟩
theorem WQ.load (hw : Region.wanted o (yielded ops a.tmps) = true) (ty : TypeId) (x : Operand) (ho : o.op = .load ty x) (b off : Nat) (hx : a.eval x = .pointer (some ⟨b, off, none⟩)) (cs : List Value) (d : TypeDesc)
    (hc : ∀ w, C w → w.rangeAt b off cs) (hu : P.underlying ty = some d) (hd : d.isRow = true) (hi : (P.info? ty).map (·.size) = some cs.length)
    (hk : WQ P ops C Q rest (a.put o.dst (.agg cs.toArray))) : WQ P ops C Q (o :: rest) a := ⟨wpQ_load_mid hw ty x ho b off hx cs d hc hu hd hi hk.out⟩
theorem WQ.done (h : Q a) : WQ P ops C Q [] a := ⟨wpQ_done h⟩
theorem WQ.enter {id : Nat} {Q : Exit → Act → World → Prop} {w : World} {l : List Oper} (w0 : World) (hs : Since w0 w) (hm : P.follows .mixedOrders = true) (hB : Region.lexB .any l.toArray = true)
    (h : WQ P l.toArray (Since w0) (fun a' => ∀ w', Since w0 w' → Q .normal a' w') l a) : (Code.region id l.toArray true).wp P Q a w := wp_region_since w0 hs hm hB h.out
end
end Go.Proofs.YtahgapkecabnjaaGreatDoor
