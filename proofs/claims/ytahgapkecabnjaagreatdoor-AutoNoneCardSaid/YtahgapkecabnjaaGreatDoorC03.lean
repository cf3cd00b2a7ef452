/- Plain law of package addr: numerals, pieces between dots, addresses, nets. No program in sight. -/
import Derived.Lib.AtoiAll
import Derived.Lib.ItoaNum
import Derived.Lib.Split
import Derived.Lib.Join
import Derived.Lib.IndexMore
import Derived.Lib.CountLaws
import Derived.Lib.Fields
namespace Go.Proofs.YtahgapkecabnjaaGreatDoor
set_option linter.unusedSimpArgs false
set_option linter.unusedVariables false
open Go.Lib

/-- What digits spell. -/
def valFrom (a : Nat) (l : List UInt8) : Nat := l.foldl (fun a c => a * 10 + (c.toNat - 48)) a
def valOf (l : List UInt8) : Nat := valFrom 0 l
theorem valFrom_snoc (a : Nat) (l : List UInt8) (c : UInt8) : valFrom a (l ++ [c]) = valFrom a l * 10 + (c.toNat - 48) := by simp [valFrom]
theorem valFrom_cons (a : Nat) (l : List UInt8) (c : UInt8) : valFrom a (c :: l) = valFrom (a * 10 + (c.toNat - 48)) l := by unfold valFrom; rw [List.foldl_cons]
theorem valFrom_ge : ∀ (l : List UInt8) (a : Nat), a ≤ valFrom a l
  | [], a => Nat.le_refl _
  | c :: r, a => by have := valFrom_ge r (a * 10 + (c.toNat - 48)); rw [valFrom_cons]; omega
def digit (c : UInt8) : Prop := 48 ≤ c.toNat ∧ c.toNat ≤ 57
theorem ofNat_digit {k : Nat} (h : k < 10) : (UInt8.ofNat (48 + k)).toNat = 48 + k := by
  rw [UInt8.toNat_ofNat']; omega
theorem dec_digits (n : Nat) : ∀ c ∈ decDigits n, digit c := by
  induction n using Nat.strongRecOn with
  | _ n ih =>
    intro c hc
    by_cases h : n < 10
    · rw [decDigits, dif_pos h, List.mem_singleton] at hc
      subst hc
      unfold digit; rw [ofNat_digit h]; omega
    · rw [decDigits, dif_neg h, List.mem_append, List.mem_singleton] at hc
      rcases hc with hc | rfl
      · exact ih (n / 10) (by omega) c hc
      · unfold digit; rw [ofNat_digit (by omega)]; omega
theorem valOf_dec (n : Nat) : valOf (decDigits n) = n := by
  induction n using Nat.strongRecOn with
  | _ n ih =>
    by_cases h : n < 10
    · rw [decDigits, dif_pos h]
      simp only [valOf, valFrom, List.foldl_cons, List.foldl_nil]
      rw [ofNat_digit h]; omega
    · rw [decDigits, dif_neg h, valOf, valFrom_snoc]
      have := ih (n / 10) (by omega)
      rw [valOf] at this
      rw [this, ofNat_digit (by omega)]; omega
theorem dec_ne_nil (n : Nat) : decDigits n ≠ [] := by
  intro h
  have := decDigits_length n
  have h2 := nDigits_pos n
  rw [h] at this
  simp at this; omega
theorem dec_inj {m n : Nat} (h : decDigits m = decDigits n) : m = n := by rw [← valOf_dec m, h, valOf_dec]

theorem parse_dec : ∀ (l : List UInt8) (a : Nat), (∀ c ∈ l, digit c) → valFrom a l < 18446744073709551616 → parseUint10 a l = .ok (valFrom a l)
  | [], a, _, _ => rfl
  | c :: r, a, hd, hv => by
    obtain ⟨h1, h2⟩ := hd c (by simp)
    have hge := valFrom_ge r (a * 10 + (c.toNat - 48))
    rw [valFrom_cons] at hv ⊢
    rw [parseUint10, if_pos ⟨h1, h2⟩, if_neg (by omega), if_neg (by omega)]
    exact parse_dec r _ (fun c hc => hd c (by simp [hc])) hv

theorem atoi_dec (n : Nat) (h : n < 9223372036854775808) : atoiAll (decDigits n) = .ok (n : Int) := by
  have hd := dec_digits n
  have hv := valOf_dec n
  have hne := dec_ne_nil n
  cases e : decDigits n with
  | nil => exact absurd e hne
  | cons c r =>
    rw [e] at hd hv
    obtain ⟨h1, h2⟩ := hd c (by simp)
    have hp : parseMag (c :: r) = .ok n := by
      unfold parseMag
      rw [if_neg (by simp), parse_dec _ 0 hd (by rw [← valOf, hv]; omega), ← valOf, hv]
    unfold atoiAll
    simp only
    rw [if_neg (by omega), hp]
    simp only
    rw [if_neg (by omega), if_neg (by omega), if_neg (by omega)]

/-- Is a text the numeral of a number of at most so much? -/
def isNum (l : List UInt8) (most : Nat) : Bool := decide (decDigits (valOf l) = l ∧ valOf l ≤ most)
theorem isNum_iff {l : List UInt8} {most : Nat} : isNum l most = true ↔ ∃ n, n ≤ most ∧ l = decDigits n := by
  unfold isNum
  rw [decide_eq_true_iff]
  constructor
  · rintro ⟨h1, h2⟩; exact ⟨_, h2, h1.symm⟩
  · rintro ⟨n, h1, rfl⟩; rw [valOf_dec]; exact ⟨rfl, h1⟩
theorem isNum_atoi {l : List UInt8} {most : Nat} (hm : most < 9223372036854775808) (h : isNum l most = true) : atoiAll l = .ok (valOf l : Int) ∧ valOf l ≤ most ∧ decDigits (valOf l) = l := by
  unfold isNum at h
  rw [decide_eq_true_iff] at h
  refine ⟨?_, h.2, h.1⟩
  have := atoi_dec (valOf l) (by omega)
  rwa [h.1] at this
theorem isNum_of_ok {l : List UInt8} {most : Nat} {v : Int} (hm : most < 9223372036854775808) (h : atoiAll l = .ok v) : isNum l most = decide (0 ≤ v ∧ v ≤ most ∧ itoa v = l) := by
  rw [Bool.eq_iff_iff, decide_eq_true_iff]
  constructor
  · intro hn
    obtain ⟨h1, h2, h3⟩ := isNum_atoi hm hn
    rw [h] at h1
    injection h1 with h1
    subst h1
    exact ⟨by omega, by omega, by rw [itoa, if_neg (by omega), Int.toNat_natCast]; exact h3⟩
  · rintro ⟨h1, h2, h3⟩
    rw [itoa, if_neg (by omega)] at h3
    exact isNum_iff.2 ⟨v.toNat, by omega, h3.symm⟩
theorem isNum_of_bad {l : List UInt8} {most : Nat} (hm : most < 9223372036854775808) (h : ∀ v, atoiAll l ≠ .ok v) : isNum l most = false := by
  rw [Bool.eq_false_iff]
  intro hn
  exact h _ (isNum_atoi hm hn).1

/-! ### Pieces -/
/-- A text cut at each byte c. -/
def pieces (c : UInt8) : List UInt8 → List (List UInt8)
  | [] => [[]]
  | x :: r => if x = c then [] :: pieces c r else match pieces c r with | [] => [[x]] | p :: q => (x :: p) :: q
theorem pieces_ne (c : UInt8) : ∀ l, pieces c l ≠ []
  | [] => by simp [pieces]
  | x :: r => by unfold pieces; split; simp; split <;> simp
theorem pieces_none {c : UInt8} : ∀ {l : List UInt8}, c ∉ l → pieces c l = [l]
  | [], _ => rfl
  | x :: r, h => by
    simp only [List.mem_cons, not_or] at h
    rw [pieces, if_neg (fun e => h.1 e.symm), pieces_none h.2]
theorem pieces_at {c : UInt8} : ∀ {p : List UInt8} (r : List UInt8), c ∉ p → pieces c (p ++ c :: r) = p :: pieces c r
  | [], r, _ => by simp [pieces]
  | x :: p, r, h => by
    simp only [List.mem_cons, not_or] at h
    rw [List.cons_append, pieces, if_neg (fun e => h.1 e.symm), pieces_at r h.2]
theorem pieces_clean {c : UInt8} : ∀ {l : List UInt8}, ∀ p ∈ pieces c l, c ∉ p
  | [], p, hp => by simp [pieces] at hp; subst hp; simp
  | x :: r, p, hp => by
    rw [pieces] at hp
    split at hp
    · rw [List.mem_cons] at hp
      rcases hp with rfl | hp
      · simp
      · exact pieces_clean p hp
    · rename_i hx
      split at hp
      · simp at hp; subst hp; simp; exact fun e => hx e.symm
      · rename_i p0 q he
        rw [List.mem_cons] at hp
        rcases hp with rfl | hp
        · have := pieces_clean (l := r) p0 (by rw [he]; simp)
          simp only [List.mem_cons, not_or]
          exact ⟨fun e => hx e.symm, this⟩
        · exact pieces_clean (l := r) p (by rw [he]; simp [hp])
theorem join_pieces (c : UInt8) : ∀ l : List UInt8, Lib.join (pieces c l) [c] = l
  | [] => by simp [pieces, join_one]
  | x :: r => by
    have ih := join_pieces c r
    have hne := pieces_ne c r
    rw [pieces]
    cases e : pieces c r with
    | nil => exact absurd e hne
    | cons p q =>
      rw [e, join_cons] at ih
      split
      · rename_i hx
        subst hx
        rw [join_cons]
        simp only [joinTail, List.map_cons, List.flatten_cons, List.nil_append]
        rw [← ih]
        simp [joinTail]
      · simp only
        rw [join_cons, List.cons_append, ih]
theorem pieces_join (c : UInt8) : ∀ (p : List UInt8) (r : List (List UInt8)), c ∉ p → (∀ q ∈ r, c ∉ q) → pieces c (Lib.join (p :: r) [c]) = p :: r
  | p, [], hp, _ => by rw [join_one, pieces_none hp]
  | p, q :: r, hp, hr => by
    have ih := pieces_join c q r (hr q (by simp)) (fun x hx => hr x (by simp [hx]))
    rw [join_cons] at ih ⊢
    simp only [joinTail, List.map_cons, List.flatten_cons] at ih ⊢
    rw [List.append_assoc, List.singleton_append, pieces_at _ hp]
    rw [ih]

theorem index_one_cons {c x : UInt8} {r : List UInt8} (h : x ≠ c) : index (x :: r) [c] = if index r [c] == -1 then -1 else index r [c] + 1 := by
  rw [index]
  have : [c].isPrefixOf (x :: r) = false := by simp [List.isPrefixOf]; exact fun e => h e.symm
  rw [this]; rfl
theorem index_one_hit {c : UInt8} {r : List UInt8} : index (c :: r) [c] = 0 := by
  rw [index]
  simp [List.isPrefixOf]
theorem index_one_none {c : UInt8} : ∀ {l : List UInt8}, c ∉ l → index l [c] = -1
  | [], _ => rfl
  | x :: r, h => by
    simp only [List.mem_cons, not_or] at h
    rw [index_one_cons (fun e => h.1 e.symm), index_one_none h.2]; rfl
theorem index_one_at {c : UInt8} : ∀ {p : List UInt8} (r : List UInt8), c ∉ p → index (p ++ c :: r) [c] = p.length
  | [], r, _ => index_one_hit
  | x :: p, r, h => by
    simp only [List.mem_cons, not_or] at h
    rw [List.cons_append, index_one_cons (fun e => h.1 e.symm), index_one_at r h.2]
    have : ((p.length : Int) == -1) = false := by rw [beq_eq_false_iff_ne]; omega
    rw [this]; simp
/-- Every text has no c, or is parted at its first one. -/
theorem first_of (c : UInt8) : ∀ l : List UInt8, c ∉ l ∨ ∃ p r, l = p ++ c :: r ∧ c ∉ p
  | [] => .inl (by simp)
  | x :: l => by
    by_cases h : x = c
    · exact .inr ⟨[], l, by simp [h], by simp⟩
    · rcases first_of c l with h' | ⟨p, r, rfl, hp⟩
      · exact .inl (by simp only [List.mem_cons, not_or]; exact ⟨fun e => h e.symm, h'⟩)
      · exact .inr ⟨x :: p, r, rfl, by simp only [List.mem_cons, not_or]; exact ⟨fun e => h e.symm, hp⟩⟩
theorem splitK_pieces (c : UInt8) : ∀ (n : Nat) (l : List UInt8), l.length ≤ n → ∀ k, count l [c] ≤ k → splitK [c] 0 k l = pieces c l
  | n, l, hl, k, hk => by
    rcases first_of c l with h | ⟨p, r, rfl, hp⟩
    · have hi := index_one_none h
      cases k with
      | zero => rw [splitK, pieces_none h]
      | succ k => rw [splitK, hi, if_pos (by rfl), pieces_none h]
    · have hi := index_one_at r hp
      have hc := count_hit (s := p ++ c :: r) (sub := [c]) (by simp) hi
      simp only [List.length_singleton] at hc
      rw [show (p ++ c :: r).drop (p.length + 1) = r by simp [← List.drop_drop]] at hc
      cases k with
      | zero => omega
      | succ k =>
        cases n with
        | zero => simp at hl
        | succ n =>
          have hne : ¬ ((p.length : Int) == -1) = true := by rw [beq_iff_eq]; omega
          rw [splitK, hi, if_neg hne, pieces_at _ hp]
          simp only [Int.toNat_natCast, Nat.add_zero, List.length_singleton]
          rw [show (p ++ c :: r).drop (p.length + 1) = r by simp [← List.drop_drop], splitK_pieces c n r (by simp at hl; omega) k (by omega)]
          simp
theorem split_pieces (l : List UInt8) (c : UInt8) : Lib.split l [c] = pieces c l := splitK_pieces c l.length l (Nat.le_refl _) _ (Nat.le_refl _)
theorem cut_none {l : List UInt8} {c : UInt8} (h : c ∉ l) : Lib.cut l [c] = (l, [], false) := by
  unfold Lib.cut; rw [index_one_none h, if_neg (by omega)]
theorem cut_at {p r : List UInt8} {c : UInt8} (h : c ∉ p) : Lib.cut (p ++ c :: r) [c] = (p, r, true) := by
  unfold Lib.cut
  rw [index_one_at r h, if_pos (by omega)]
  simp [← List.drop_drop]

/-! ### Addresses -/
/-- A text's address, read piece by piece: so much is read, so many pieces. -/
def addrGo (a many : Nat) : List (List UInt8) → Option Nat
  | [] => if many = 4 then some a else none
  | p :: r => if isNum p 255 = true then addrGo ((a * 256 + valOf p) % 4294967296) (many + 1) r else none
def addrOf (l : List UInt8) : Option Nat := addrGo 0 0 (pieces 46 l)
theorem addrGo_many : ∀ (ps : List (List UInt8)) (a m b : Nat), addrGo a m ps = some b → m + ps.length = 4
  | [], a, m, b, h => by
    rw [addrGo] at h
    split at h
    · simpa
    · cases h
  | p :: r, a, m, b, h => by
    rw [addrGo] at h
    split at h
    · have := addrGo_many r _ _ _ h; simp; omega
    · cases h
theorem addrGo_short {ps : List (List UInt8)} {a m : Nat} (h : m + ps.length ≠ 4) : addrGo a m ps = none := by
  cases e : addrGo a m ps with
  | none => rfl
  | some b => exact absurd (addrGo_many _ _ _ _ e) h
def byteAt (a k : Nat) : Nat := a / 256 ^ k % 256
def showAddr (a : Nat) : List UInt8 := Lib.join [decDigits (byteAt a 3), decDigits (byteAt a 2), decDigits (byteAt a 1), decDigits (byteAt a 0)] [46]
theorem dec_no {n : Nat} {c : UInt8} (h : ¬ digit c) : c ∉ decDigits n := fun hc => h (dec_digits n c hc)
theorem dot_no {n : Nat} : (46 : UInt8) ∉ decDigits n := dec_no (by unfold digit; decide)
theorem isNum_dec {n most : Nat} (h : n ≤ most) : isNum (decDigits n) most = true := isNum_iff.2 ⟨n, h, rfl⟩
theorem addrOf_show (a : Nat) (h : a < 4294967296) : addrOf (showAddr a) = some a := by
  unfold addrOf showAddr
  rw [pieces_join 46 _ _ dot_no (by intro q hq; simp at hq; rcases hq with rfl | rfl | rfl <;> exact dot_no)]
  have e : ∀ k, isNum (decDigits (byteAt a k)) 255 = true := fun k => isNum_dec (by unfold byteAt; omega)
  simp only [addrGo, e, if_true, valOf_dec]
  unfold byteAt
  congr 1
  omega
theorem addrOf_lt {l : List UInt8} {a : Nat} (h : addrOf l = some a) : a < 4294967296 ∧ showAddr a = l := by
  unfold addrOf at h
  have hj := join_pieces 46 l
  have hm := addrGo_many _ _ _ _ h
  match e : pieces 46 l, hm with
  | [p0, p1, p2, p3], _ =>
    rw [e] at h hj
    simp only [addrGo] at h
    split at h
    · rename_i h0
      split at h
      · rename_i h1
        split at h
        · rename_i h2
          split at h
          · rename_i h3
            obtain ⟨n0, b0, rfl⟩ := isNum_iff.1 h0
            obtain ⟨n1, b1, rfl⟩ := isNum_iff.1 h1
            obtain ⟨n2, b2, rfl⟩ := isNum_iff.1 h2
            obtain ⟨n3, b3, rfl⟩ := isNum_iff.1 h3
            simp only [valOf_dec, if_true, Option.some.injEq] at h
            refine ⟨by omega, ?_⟩
            rw [← hj]
            unfold showAddr byteAt
            rw [show a / 256 ^ 3 % 256 = n0 by omega, show a / 256 ^ 2 % 256 = n1 by omega, show a / 256 ^ 1 % 256 = n2 by omega, show a / 256 ^ 0 % 256 = n3 by omega]
          · cases h
        · cases h
      · cases h
    · cases h

/-! ### Nets -/
/-- May a net be? -/
def mayNet (a : Nat) (n : Int) : Bool := decide (0 ≤ n ∧ n ≤ 32 ∧ a % 2 ^ (32 - n).toNat = 0)
def hasNet (a : Nat) (n : Int) (b : Nat) : Bool := mayNet a n && decide (b / 2 ^ (32 - n).toNat = a / 2 ^ (32 - n).toNat)
def anyL : List UInt8 := [97, 110, 121]
/-- A net's text. -/
def showNet (a : Nat) (n : Int) : Option (List UInt8) := if mayNet a n then some (if n = 0 then anyL else showAddr a ++ 47 :: decDigits n.toNat) else none
/-- A text's net: its address, its bits. -/
def netOf (l : List UInt8) : Option (Nat × Nat) :=
  if l = anyL then some (0, 0)
  else match addrOf (Lib.cut l [47]).1 with
    | none => none
    | some a => if isNum (Lib.cut l [47]).2.1 32 = true ∧ valOf (Lib.cut l [47]).2.1 ≠ 0 ∧ mayNet a (valOf (Lib.cut l [47]).2.1) = true then some (a, valOf (Lib.cut l [47]).2.1) else none
theorem mem_join {c : UInt8} {s : UInt8} : ∀ {ps : List (List UInt8)}, (∀ p ∈ ps, c ∉ p) → c ≠ s → c ∉ Lib.join ps [s]
  | [], _, _ => by simp [join_nil]
  | [p], h, _ => by rw [join_one]; exact h p (by simp)
  | p :: q :: r, h, hs => by
    have ih := mem_join (c := c) (s := s) (ps := q :: r) (fun x hx => h x (by simp [hx])) hs
    rw [join_cons] at ih ⊢
    simp only [joinTail, List.map_cons, List.flatten_cons] at ih ⊢
    simp only [List.mem_append, List.mem_singleton, not_or] at ih ⊢
    exact ⟨h p (by simp), ⟨hs, ih.1⟩, ih.2⟩
theorem slash_show (a : Nat) : (47 : UInt8) ∉ showAddr a := by
  unfold showAddr
  refine mem_join ?_ (by decide)
  intro p hp
  simp at hp
  have : ¬ digit 47 := by unfold digit; decide
  rcases hp with rfl | rfl | rfl | rfl <;> exact dec_no this
theorem netOf_show {a : Nat} {n : Int} {l : List UInt8} (ha : a < 4294967296) (h : showNet a n = some l) : netOf l = some (a, n.toNat) := by
  unfold showNet at h
  split at h
  · rename_i hm
    injection h with h
    subst h
    have hm' := hm
    unfold mayNet at hm'
    rw [decide_eq_true_iff] at hm'
    split
    · rename_i h0
      subst h0
      rw [netOf, if_pos rfl]
      have : a = 0 := by have := hm'.2.2; simp at this; omega
      rw [this]; rfl
    · rename_i h0
      have hne : showAddr a ++ 47 :: decDigits n.toNat ≠ anyL := by
        intro e
        have : (47 : UInt8) ∈ anyL := by rw [← e]; simp
        revert this; decide
      rw [netOf, if_neg hne, cut_at (slash_show a)]
      simp only
      rw [addrOf_show a ha]
      simp only
      rw [valOf_dec, if_pos ⟨isNum_dec (by omega), by omega, by rw [Int.toNat_of_nonneg hm'.1]; exact hm⟩]
  · cases h
theorem showNet_netOf {l : List UInt8} {a b : Nat} (h : netOf l = some (a, b)) : showNet a b = some l ∧ a < 4294967296 ∧ b ≤ 32 := by
  unfold netOf at h
  split at h
  · rename_i hl
    injection h with h
    injection h with h1 h2
    subst h1 h2 hl
    exact ⟨by decide, by omega, by omega⟩
  · split at h
    · cases h
    · rename_i a' ha
      split at h
      · rename_i hn
        injection h with h
        injection h with h1 h2
        subst h1 h2
        obtain ⟨h3, h4⟩ := addrOf_lt ha
        rcases first_of 47 l with hs | ⟨p, r, rfl, hp⟩
        · rw [cut_none hs] at hn
          obtain ⟨n, _, e⟩ := isNum_iff.1 hn.1
          exact absurd e.symm (dec_ne_nil n)
        · rw [cut_at hp] at hn h4 ⊢
          simp only at hn h4 ⊢
          obtain ⟨n, hn1, rfl⟩ := isNum_iff.1 hn.1
          rw [valOf_dec] at hn ⊢
          refine ⟨?_, h3, hn1⟩
          unfold showNet
          rw [if_pos hn.2.2, if_neg (by omega), h4]
          simp
      · cases h
theorem half_law (a b : Nat) (n : Nat) (hn : n ≤ 31) (ha : a < 4294967296) (hb : b < 4294967296) (h : mayNet a n = true) :
    mayNet a (n + 1 : Nat) = true ∧ mayNet (a + 2 ^ (31 - n)) (n + 1 : Nat) = true ∧ a + 2 ^ (31 - n) < 4294967296 ∧
    hasNet a n b = (hasNet a (n + 1 : Nat) b || hasNet (a + 2 ^ (31 - n)) (n + 1 : Nat) b) ∧ (hasNet a (n + 1 : Nat) b && hasNet (a + 2 ^ (31 - n)) (n + 1 : Nat) b) = false := by
  unfold mayNet at h
  rw [decide_eq_true_iff] at h
  have hd : a % 2 ^ (32 - n) = 0 := by have := h.2.2; rwa [show (32 - (n : Int)).toNat = 32 - n by omega] at this
  have e1 : 32 - n = (31 - n) + 1 := by omega
  rw [e1, Nat.pow_succ] at hd
  have hp : 1 ≤ 2 ^ (31 - n) := Nat.one_le_two_pow
  have hle : 2 ^ (31 - n) * 2 ^ n = 2147483648 := by rw [← Nat.pow_add, show 31 - n + n = 31 by omega]
  generalize hq : 2 ^ (31 - n) = q at *
  have m1 : mayNet a (n + 1 : Nat) = true := by
    unfold mayNet
    rw [decide_eq_true_iff, show (32 - ((n + 1 : Nat) : Int)).toNat = 31 - n by omega, hq]
    refine ⟨by omega, by omega, ?_⟩
    obtain ⟨k, hk⟩ := Nat.dvd_of_mod_eq_zero hd
    rw [hk, Nat.mul_assoc, Nat.mul_mod_right]
  obtain ⟨k, rfl⟩ := Nat.dvd_of_mod_eq_zero hd
  have hk : k < 2 ^ n := by
    by_cases hk : k < 2 ^ n
    · exact hk
    · exfalso
      have : q * 2 * 2 ^ n ≤ q * 2 * k := Nat.mul_le_mul_left _ (by omega)
      have e : q * 2 * 2 ^ n = 4294967296 := by rw [Nat.mul_assoc, Nat.mul_comm 2, ← Nat.mul_assoc, hle]
      omega
  have m2 : mayNet (q * 2 * k + q) (n + 1 : Nat) = true := by
    unfold mayNet
    rw [decide_eq_true_iff, show (32 - ((n + 1 : Nat) : Int)).toNat = 31 - n by omega, hq]
    refine ⟨by omega, by omega, ?_⟩
    rw [show q * 2 * k + q = q * (2 * k + 1) by rw [Nat.mul_add, Nat.mul_one, Nat.mul_assoc]]; exact Nat.mul_mod_right _ _
  have d0 : q * 2 * k / (q * 2) = k := Nat.mul_div_cancel_left _ (by omega)
  have d1 : q * 2 * k / q = 2 * k := by rw [Nat.mul_assoc]; exact Nat.mul_div_cancel_left _ (by omega)
  have d2 : (q * 2 * k + q) / q = 2 * k + 1 := by rw [show q * 2 * k + q = q * (2 * k + 1) by rw [Nat.mul_add, Nat.mul_one, Nat.mul_assoc]]; exact Nat.mul_div_cancel_left _ (by omega)
  have d3 : b / (q * 2) = b / q / 2 := by rw [Nat.div_div_eq_div_mul]
  have h0 : mayNet (q * 2 * k) n = true := by unfold mayNet; rw [decide_eq_true_iff]; exact h
  refine ⟨m1, m2, ?_, ?_, ?_⟩
  · have : q * 2 * (k + 1) ≤ q * 2 * 2 ^ n := Nat.mul_le_mul_left _ (by omega)
    have e : q * 2 * 2 ^ n = 4294967296 := by rw [Nat.mul_assoc, Nat.mul_comm 2, ← Nat.mul_assoc, hle]
    rw [Nat.mul_add, Nat.mul_one] at this
    omega
  · unfold hasNet
    rw [h0, m1, m2]
    simp only [Bool.true_and]
    rw [show (32 - (n : Int)).toNat = 32 - n by omega, show (32 - ((n + 1 : Nat) : Int)).toNat = 31 - n by omega, e1, Nat.pow_succ, hq, d0, d1, d2, d3]
    rw [Bool.eq_iff_iff]
    simp only [decide_eq_true_iff, Bool.or_eq_true]
    omega
  · unfold hasNet
    rw [m1, m2]
    simp only [Bool.true_and]
    rw [show (32 - ((n + 1 : Nat) : Int)).toNat = 31 - n by omega, hq, d1, d2]
    rw [Bool.eq_false_iff]
    simp only [ne_eq, Bool.and_eq_true, decide_eq_true_iff]
    omega
end Go.Proofs.YtahgapkecabnjaaGreatDoor
/- Plain law of package text: lines and their words. No program in sight. -/
namespace Go.Proofs.YtahgapkecabnjaaGreatDoor
set_option linter.unusedSimpArgs false
set_option linter.unusedVariables false
open Go.Lib

/-- May a byte not stand in a text? -/
def badB (b : UInt8) : Bool := b != 10 && (decide (b.toNat < 32) || decide (126 < b.toNat))
def firstBad : List UInt8 → Option Nat
  | [] => none
  | b :: r => if badB b then some 0 else (firstBad r).map (· + 1)
theorem firstBad_none {l : List UInt8} : firstBad l = none ↔ ∀ b ∈ l, badB b = false := by
  induction l with
  | nil => simp [firstBad]
  | cons b r ih =>
    rw [firstBad]
    cases h : badB b
    · simp [h, ih]
    · simp [h]
theorem firstBad_some {l : List UInt8} {i : Nat} (h : firstBad l = some i) : ∃ b, l[i]? = some b ∧ badB b = true ∧ ∀ b ∈ l.take i, badB b = false := by
  induction l generalizing i with
  | nil => simp [firstBad] at h
  | cons b r ih =>
    rw [firstBad] at h
    cases hb : badB b
    · rw [hb] at h
      simp only [Bool.false_eq_true, if_false, Option.map_eq_some_iff] at h
      obtain ⟨j, hj, rfl⟩ := h
      obtain ⟨c, h1, h2, h3⟩ := ih hj
      refine ⟨c, by simpa using h1, h2, ?_⟩
      intro x hx
      simp only [List.take_succ_cons, List.mem_cons] at hx
      rcases hx with rfl | hx
      · exact hb
      · exact h3 x hx
    · rw [hb] at h
      simp only [if_true, Option.some.injEq] at h
      subst h
      exact ⟨b, by simp, hb, by simp⟩

abbrev Ln := Nat × List (List UInt8)
def wordsOf (p : List UInt8) : List (List UInt8) := fields (Lib.cut p [35]).1
def linesGo (n : Nat) : List (List UInt8) → List Ln
  | [] => []
  | p :: r => if wordsOf p = [] then linesGo (n + 1) r else (n, wordsOf p) :: linesGo (n + 1) r
def linesOf (l : List UInt8) : List Ln := linesGo 1 (pieces 10 l)
/-- What Lines answers: the lines, which line is wrong, the error. -/
def textF (l : List UInt8) : List Ln × Nat × Int :=
  if 4096 < l.length then ([], 0, 2) else match firstBad l with
    | some i => ([], 1 + countByte (l.take i) 10, 3)
    | none => (linesOf l, 0, 0)

/-! ### The reference's machine -/
def endW (words : List (List UInt8)) (cur : List UInt8) : List (List UInt8) := if cur = [] then words else words ++ [cur]
/-- A line's words, byte by byte: the words so far, the word that is read, whether a # stood there. -/
def wordsGo : List (List UInt8) → List UInt8 → Bool → List UInt8 → List (List UInt8)
  | words, cur, _, [] => endW words cur
  | words, cur, off, b :: r =>
    if b = 32 then wordsGo (endW words cur) [] off r
    else if b = 35 then wordsGo (endW words cur) [] true r
    else if off then wordsGo words cur off r
    else wordsGo words (cur ++ [b]) off r
def put (n : Nat) (ws : List (List UInt8)) (r : List Ln) : List Ln := if ws = [] then r else (n, ws) :: r
/-- A text's lines, byte by byte. -/
def mach : Nat → List (List UInt8) → List UInt8 → Bool → List UInt8 → List Ln
  | n, words, cur, _, [] => put n (endW words cur) []
  | n, words, cur, off, b :: r =>
    if b = 10 then put n (endW words cur) (mach (n + 1) [] [] false r)
    else if b = 32 then mach n (endW words cur) [] off r
    else if b = 35 then mach n (endW words cur) [] true r
    else if off then mach n words cur off r
    else mach n words (cur ++ [b]) off r
theorem mach_line (n : Nat) : ∀ (p : List UInt8) (words : List (List UInt8)) (cur : List UInt8) (off : Bool) (r : List UInt8), (10 : UInt8) ∉ p →
    mach n words cur off (p ++ 10 :: r) = put n (wordsGo words cur off p) (mach (n + 1) [] [] false r) ∧ mach n words cur off p = put n (wordsGo words cur off p) []
  | [], words, cur, off, r, _ => by simp [mach, wordsGo]
  | b :: p, words, cur, off, r, h => by
    simp only [List.mem_cons, not_or] at h
    have hb : ¬ b = 10 := fun e => h.1 e.symm
    simp only [List.cons_append, mach, wordsGo, if_neg hb]
    by_cases h1 : b = 32
    · simp only [if_pos h1]; exact mach_line n p _ _ _ _ h.2
    · by_cases h2 : b = 35
      · simp only [if_neg h1, if_pos h2]; exact mach_line n p _ _ _ _ h.2
      · cases off
        · simp only [if_neg h1, if_neg h2, Bool.false_eq_true, if_false]; exact mach_line n p _ _ _ _ h.2
        · simp only [if_neg h1, if_neg h2, if_true]; exact mach_line n p _ _ _ _ h.2
/-- Behind a # nothing more comes. -/
theorem wordsGo_off : ∀ (p : List UInt8) (words : List (List UInt8)), wordsGo words [] true p = words
  | [], words => by simp [wordsGo, endW]
  | b :: p, words => by
    simp only [wordsGo]
    have e : endW words [] = words := by simp [endW]
    rw [e]
    split
    · exact wordsGo_off p words
    · split
      · exact wordsGo_off p words
      · simp only [if_true]; exact wordsGo_off p words
theorem endW_append (a b : List (List UInt8)) (cur : List UInt8) : endW (a ++ b) cur = a ++ endW b cur := by unfold endW; split <;> simp
theorem wordsGo_append : ∀ (p : List UInt8) (a b : List (List UInt8)) (cur : List UInt8) (off : Bool), wordsGo (a ++ b) cur off p = a ++ wordsGo b cur off p
  | [], a, b, cur, off => endW_append a b cur
  | c :: p, a, b, cur, off => by
    simp only [wordsGo, endW_append]
    split
    · exact wordsGo_append p _ _ _ _
    · split
      · exact wordsGo_append p _ _ _ _
      · split
        · exact wordsGo_append p _ _ _ _
        · exact wordsGo_append p _ _ _ _
def okB (b : UInt8) : Prop := badB b = false
theorem sp_ok {b : UInt8} (h : okB b) (h10 : b ≠ 10) : isSp b = (b == 32) := by
  unfold okB badB at h
  have h1 : (b != 10) = true := by simpa using h10
  rw [h1] at h
  simp only [Bool.true_and, Bool.or_eq_false_iff, decide_eq_false_iff_not, Nat.not_lt] at h
  unfold isSp
  have n9 : (b == 9) = false := by rw [beq_eq_false_iff_ne]; rintro rfl; exact absurd h.1 (by decide)
  have n10 : (b == 10) = false := by simpa using h10
  have n11 : (b == 11) = false := by rw [beq_eq_false_iff_ne]; rintro rfl; exact absurd h.1 (by decide)
  have n12 : (b == 12) = false := by rw [beq_eq_false_iff_ne]; rintro rfl; exact absurd h.1 (by decide)
  have n13 : (b == 13) = false := by rw [beq_eq_false_iff_ne]; rintro rfl; exact absurd h.1 (by decide)
  rw [n9, n10, n11, n12, n13]; rfl
theorem wordsGo_fields : ∀ (p : List UInt8) (cur : List UInt8), (∀ b ∈ p, okB b ∧ b ≠ 10 ∧ b ≠ 35) → wordsGo [] cur false p = fieldsGo cur p
  | [], cur, _ => by cases cur <;> simp [wordsGo, endW, fieldsGo]
  | b :: p, cur, h => by
    obtain ⟨h1, h2, h3⟩ := h b (by simp)
    have hp : ∀ x ∈ p, okB x ∧ x ≠ 10 ∧ x ≠ 35 := fun x hx => h x (List.mem_cons_of_mem _ hx)
    simp only [wordsGo, fieldsGo, if_neg h3, Bool.false_eq_true, if_false]
    rw [sp_ok h1 h2]
    by_cases h32 : b = 32
    · subst h32
      simp only [if_true, beq_self_eq_true]
      cases cur with
      | nil => simp only [endW, if_true, List.isEmpty_nil]; exact wordsGo_fields p [] hp
      | cons c r =>
        have e : endW [] (c :: r) = [c :: r] ++ [] := by simp [endW]
        rw [e, wordsGo_append, wordsGo_fields p [] hp]
        simp
    · have e : (b == 32) = false := by simpa using h32
      rw [if_neg h32, e]
      simp only [Bool.false_eq_true, if_false]
      exact wordsGo_fields p _ hp
theorem wordsGo_part : ∀ (p r : List UInt8) (words : List (List UInt8)) (cur : List UInt8), (35 : UInt8) ∉ p → wordsGo words cur false (p ++ 35 :: r) = wordsGo words cur false p
  | [], r, words, cur, _ => by
    simp only [List.nil_append, wordsGo]
    rw [if_neg (by decide), if_pos trivial]
    exact wordsGo_off r _
  | b :: p, r, words, cur, h => by
    simp only [List.mem_cons, not_or] at h
    have hb : ¬ b = 35 := fun e => h.1 e.symm
    simp only [List.cons_append, wordsGo, if_neg hb, Bool.false_eq_true, if_false]
    split
    · exact wordsGo_part p r _ _ h.2
    · exact wordsGo_part p r _ _ h.2
theorem wordsGo_words {p : List UInt8} (h : ∀ b ∈ p, okB b) (h10 : (10 : UInt8) ∉ p) : wordsGo [] [] false p = wordsOf p := by
  unfold wordsOf
  rcases first_of 35 p with hc | ⟨q, r, rfl, hq⟩
  · rw [cut_none hc]
    exact wordsGo_fields p [] fun b hb => ⟨h b hb, fun e => h10 (by rw [← e]; exact hb), fun e => hc (by rw [← e]; exact hb)⟩
  · rw [cut_at hq, wordsGo_part q r _ _ hq]
    exact wordsGo_fields q [] fun b hb => ⟨h b (by simp [hb]), fun e => h10 (by rw [← e]; simp [hb]), fun e => hq (by rw [← e]; exact hb)⟩
theorem mach_lines : ∀ (k : Nat) (l : List UInt8) (n : Nat), l.length ≤ k → (∀ b ∈ l, okB b) → mach n [] [] false l = linesGo n (pieces 10 l)
  | k, l, n, hk, h => by
    rcases first_of 10 l with hc | ⟨p, r, rfl, hp⟩
    · rw [(mach_line n l [] [] false [] hc).2, pieces_none hc, wordsGo_words h hc]
      simp [linesGo, put]
    · rw [(mach_line n p [] [] false r hp).1, pieces_at _ hp, wordsGo_words (fun b hb => h b (by simp [hb])) hp]
      cases k with
      | zero => simp at hk
      | succ k =>
        rw [mach_lines k r (n + 1) (by simp at hk; omega) (fun b hb => h b (by simp [hb]))]
        simp [linesGo, put]

/-! ### Words and their lines -/
def okW (w : List UInt8) : Prop := w ≠ [] ∧ ∀ b ∈ w, 32 < b.toNat ∧ b.toNat ≤ 126 ∧ b ≠ 35
theorem okB_range {b : UInt8} (h : okB b) (h10 : b ≠ 10) : 32 ≤ b.toNat ∧ b.toNat ≤ 126 := by
  unfold okB badB at h
  have h1 : (b != 10) = true := by simpa using h10
  rw [h1] at h
  simp only [Bool.true_and, Bool.or_eq_false_iff, decide_eq_false_iff_not, Nat.not_lt] at h
  exact h
theorem fieldsGo_ok : ∀ (p cur : List UInt8), (∀ b ∈ p, okB b ∧ b ≠ 10 ∧ b ≠ 35) → (∀ b ∈ cur, 32 < b.toNat ∧ b.toNat ≤ 126 ∧ b ≠ 35) → ∀ w ∈ fieldsGo cur p, okW w
  | [], cur, _, hc, w, hw => by
    cases cur with
    | nil => simp [fieldsGo] at hw
    | cons c r => simp [fieldsGo] at hw; subst hw; exact ⟨by simp, hc⟩
  | b :: p, cur, h, hc, w, hw => by
    obtain ⟨h1, h2, h3⟩ := h b (by simp)
    have hp : ∀ x ∈ p, okB x ∧ x ≠ 10 ∧ x ≠ 35 := fun x hx => h x (List.mem_cons_of_mem _ hx)
    simp only [fieldsGo] at hw
    rw [sp_ok h1 h2] at hw
    by_cases h32 : b = 32
    · subst h32
      simp only [beq_self_eq_true, if_true] at hw
      cases cur with
      | nil => simp only [List.isEmpty_nil, if_true] at hw; exact fieldsGo_ok p [] hp (by simp) w hw
      | cons c r =>
        simp only [List.isEmpty_cons, Bool.false_eq_true, if_false, List.mem_cons] at hw
        rcases hw with rfl | hw
        · exact ⟨by simp, hc⟩
        · exact fieldsGo_ok p [] hp (by simp) w hw
    · have e : (b == 32) = false := by simpa using h32
      rw [e] at hw
      simp only [Bool.false_eq_true, if_false] at hw
      refine fieldsGo_ok p (cur ++ [b]) hp ?_ w hw
      intro x hx
      rw [List.mem_append, List.mem_singleton] at hx
      rcases hx with hx | rfl
      · exact hc x hx
      · have := okB_range h1 h2
        refine ⟨?_, this.2, h3⟩
        have hne : x.toNat ≠ 32 := fun e => h32 (UInt8.toNat_inj.1 (by rw [e]; rfl))
        omega
theorem cut_mem {p : List UInt8} {c b : UInt8} (h : b ∈ (Lib.cut p [c]).1) : b ∈ p ∧ b ≠ c := by
  rcases first_of c p with hc | ⟨q, r, rfl, hq⟩
  · rw [cut_none hc] at h; exact ⟨h, fun e => hc (by rw [← e]; exact h)⟩
  · rw [cut_at hq] at h; exact ⟨by simp [h], fun e => hq (by rw [← e]; exact h)⟩
theorem wordsOf_ok {p : List UInt8} (h : ∀ b ∈ p, okB b) (h10 : (10 : UInt8) ∉ p) : ∀ w ∈ wordsOf p, okW w := by
  unfold wordsOf fields
  exact fieldsGo_ok _ [] (fun b hb => ⟨h b (cut_mem hb).1, fun e => h10 (by rw [← e]; exact (cut_mem hb).1), (cut_mem hb).2⟩) (by simp)
theorem fieldsGo_word : ∀ (w cur r : List UInt8), okW w → fieldsGo cur (w ++ r) = fieldsGo (cur ++ w) r
  | [], cur, r, h => absurd rfl h.1
  | [b], cur, r, h => by
    have hb := h.2 b (by simp)
    have : isSp b = false := by
      have hh : okB b := by unfold okB badB; simp; omega
      rw [sp_ok hh (by rintro rfl; exact absurd hb.1 (by decide))]
      rw [beq_eq_false_iff_ne]; rintro rfl; exact absurd hb.1 (by decide)
    simp [fieldsGo, this]
  | b :: c :: w, cur, r, h => by
    have hb := h.2 b (by simp)
    have : isSp b = false := by
      have hh : okB b := by unfold okB badB; simp; omega
      rw [sp_ok hh (by rintro rfl; exact absurd hb.1 (by decide))]
      rw [beq_eq_false_iff_ne]; rintro rfl; exact absurd hb.1 (by decide)
    have ih := fieldsGo_word (c :: w) (cur ++ [b]) r ⟨by simp, fun x hx => h.2 x (by simp at hx ⊢; exact .inr hx)⟩
    rw [List.cons_append, fieldsGo, this]
    simp only [Bool.false_eq_true, if_false]
    rw [ih]; simp
theorem fields_join : ∀ (ws : List (List UInt8)), (∀ w ∈ ws, okW w) → fields (Lib.join ws [32]) = ws
  | [], _ => by simp [fields, fieldsGo, join_nil]
  | [w], h => by
    have hw := h w (by simp)
    rw [join_one]
    have := fieldsGo_word w [] [] hw
    rw [List.append_nil] at this
    unfold fields; rw [this]
    cases w with
    | nil => exact absurd rfl hw.1
    | cons => simp [fieldsGo]
  | w :: v :: r, h => by
    have hw := h w (by simp)
    have ih := fields_join (v :: r) (fun x hx => h x (by simp at hx ⊢; exact .inr hx))
    rw [join_cons] at ih ⊢
    simp only [joinTail, List.map_cons, List.flatten_cons] at ih ⊢
    unfold fields at ih ⊢
    rw [fieldsGo_word w [] _ hw]
    have h32 : isSp 32 = true := by decide
    rw [List.append_assoc, List.singleton_append, List.nil_append, fieldsGo, h32]
    simp only [if_true]
    cases w with
    | nil => exact absurd rfl hw.1
    | cons c t => simp only [List.isEmpty_cons, Bool.false_eq_true, if_false]; rw [ih]

/-- The lines put together again. -/
def rej (at' : Nat) : List Ln → List UInt8
  | [] => []
  | (n, ws) :: r => List.replicate (n - at') 10 ++ (Lib.join ws [32] ++ rej n r)
/-- Lines as Lines answers them, from line n on. -/
def Rising : Nat → List Ln → Prop
  | _, [] => True
  | n, (m, ws) :: r => n ≤ m ∧ ws ≠ [] ∧ (∀ w ∈ ws, okW w) ∧ Rising (m + 1) r
theorem linesGo_rising : ∀ (ps : List (List UInt8)) (n : Nat), (∀ p ∈ ps, (∀ b ∈ p, okB b) ∧ (10 : UInt8) ∉ p) → Rising n (linesGo n ps) ∧ ∀ k, k ≤ n → Rising k (linesGo n ps)
  | [], n, _ => by simp [linesGo, Rising]
  | p :: r, n, h => by
    have ih := linesGo_rising r (n + 1) (fun q hq => h q (by simp [hq]))
    rw [linesGo]
    split
    · exact ⟨ih.2 n (by omega), fun k hk => ih.2 k (by omega)⟩
    · rename_i hne
      have hok := wordsOf_ok (h p (by simp)).1 (h p (by simp)).2
      exact ⟨⟨Nat.le_refl _, hne, hok, ih.1⟩, fun k hk => ⟨hk, hne, hok, ih.1⟩⟩
theorem join_no {ws : List (List UInt8)} (h : ∀ w ∈ ws, okW w) : (10 : UInt8) ∉ Lib.join ws [32] ∧ (35 : UInt8) ∉ Lib.join ws [32] := by
  constructor
  · exact mem_join (fun w hw hc => by have := ((h w hw).2 10 hc).1; revert this; decide) (by decide)
  · exact mem_join (fun w hw hc => ((h w hw).2 35 hc).2.2 rfl) (by decide)
theorem wordsOf_join {ws : List (List UInt8)} (h : ∀ w ∈ ws, okW w) : wordsOf (Lib.join ws [32]) = ws := by
  unfold wordsOf
  rw [cut_none (join_no h).2, fields_join ws h]
theorem wordsOf_nil : wordsOf [] = [] := by unfold wordsOf; rw [cut_none (by simp)]; rfl
theorem pieces_tens : ∀ (k : Nat) (r : List UInt8) (n : Nat), linesGo n (pieces 10 (List.replicate k 10 ++ r)) = linesGo (n + k) (pieces 10 r)
  | 0, r, n => by simp
  | k + 1, r, n => by
    rw [List.replicate_succ, List.cons_append, pieces, if_pos rfl, linesGo, if_pos wordsOf_nil, pieces_tens k r (n + 1), show n + 1 + k = n + (k + 1) by omega]
/-- What stands behind a line begins with a new line, or is nothing. -/
theorem rej_head {n : Nat} : ∀ {r : List Ln}, Rising (n + 1) r → rej n r = [] ∧ r = [] ∨ ∃ t, rej n r = 10 :: t ∧ t = rej (n + 1) r
  | [], _ => .inl ⟨rfl, rfl⟩
  | (m, ws) :: r, h => by
    right
    have hm := h.1
    refine ⟨_, ?_, rfl⟩
    rw [rej, rej, show m - n = (m - (n + 1)) + 1 by omega, List.replicate_succ, List.cons_append]
theorem rej_lines : ∀ (ls : List Ln) (n : Nat), Rising n ls → linesGo n (pieces 10 (rej n ls)) = ls
  | [], n, _ => by simp [rej, pieces, linesGo, wordsOf_nil]
  | (m, ws) :: r, n, h => by
    obtain ⟨h1, h2, h3, h4⟩ := h
    have ih := rej_lines r (m + 1) h4
    rw [rej, pieces_tens, show n + (m - n) = m by omega]
    rcases rej_head h4 with ⟨e1, e2⟩ | ⟨t, e1, e2⟩
    · rw [e1, e2, List.append_nil, pieces_none (join_no h3).1, linesGo, wordsOf_join h3, if_neg h2]; rfl
    · rw [e1, pieces_at _ (join_no h3).1, linesGo, wordsOf_join h3, if_neg h2, e2, ih]
/-- How long the lines of a text are, put together again: no longer than the text. -/
theorem fieldsGo_len : ∀ (p cur : List UInt8), (Lib.join (fieldsGo cur p) [32]).length ≤ cur.length + p.length
  | [], cur => by cases cur <;> simp [fieldsGo, join_nil, join_one]
  | b :: p, cur => by
    simp only [fieldsGo]
    split
    · have ih := fieldsGo_len p []
      cases cur with
      | nil => simp only [List.isEmpty_nil, if_true]; simp at ih ⊢; omega
      | cons c r =>
        simp only [List.isEmpty_cons, Bool.false_eq_true, if_false]
        cases hf : fieldsGo [] p with
        | nil => rw [join_one]; simp
        | cons x y =>
          rw [hf] at ih
          rw [join_cons] at ih ⊢
          simp only [joinTail, List.map_cons, List.flatten_cons, List.length_append, List.length_cons, List.length_nil] at ih ⊢
          omega
    · have ih := fieldsGo_len p (cur ++ [b])
      simp at ih ⊢; omega
theorem wordsOf_len (p : List UInt8) : (Lib.join (wordsOf p) [32]).length ≤ p.length := by
  unfold wordsOf fields
  have h := fieldsGo_len (Lib.cut p [35]).1 []
  have : (Lib.cut p [35]).1.length ≤ p.length := by
    rcases first_of 35 p with hc | ⟨q, r, rfl, hq⟩
    · rw [cut_none hc]
      exact Nat.le_refl _
    · rw [cut_at hq]; simp
  simp at h; omega
def sumLen (ps : List (List UInt8)) : Nat := (ps.map (fun p => p.length + 1)).sum
theorem rej_len : ∀ (ps : List (List UInt8)) (n k : Nat), k ≤ n → (rej k (linesGo n ps)).length + 1 ≤ sumLen ps + (n - k) + 1 ∧ (ps ≠ [] → (rej k (linesGo n ps)).length + 1 ≤ sumLen ps + (n - k))
  | [], n, k, hk => by simp [linesGo, rej, sumLen]
  | p :: r, n, k, hk => by
    have hw := wordsOf_len p
    rw [linesGo]
    have e : sumLen (p :: r) = p.length + 1 + sumLen r := by simp [sumLen]
    split
    · obtain ⟨h1, h2⟩ := rej_len r (n + 1) k (by omega)
      cases r with
      | nil => simp [linesGo, rej, sumLen]; omega
      | cons q t =>
        have := h2 (by simp)
        rw [e]
        constructor
        · omega
        · intro _; omega
    · obtain ⟨h1, h2⟩ := rej_len r (n + 1) n (by omega)
      rw [e, rej]
      simp only [List.length_append, List.length_replicate]
      cases r with
      | nil =>
        simp only [linesGo, rej, List.length_nil, sumLen, List.map_nil, List.sum_nil]
        constructor
        · omega
        · intro _; omega
      | cons q t =>
        have := h2 (by simp)
        constructor
        · omega
        · intro _; omega
theorem sumLen_pieces (c : UInt8) : ∀ l : List UInt8, sumLen (pieces c l) = l.length + 1
  | [] => by simp [pieces, sumLen]
  | x :: r => by
    have ih := sumLen_pieces c r
    have hne := pieces_ne c r
    rw [pieces]
    split
    · simp [sumLen] at ih ⊢; omega
    · cases e : pieces c r with
      | nil => exact absurd e hne
      | cons p q => rw [e] at ih; simp [sumLen] at ih ⊢; omega
theorem again_len (l : List UInt8) : (rej 1 (linesOf l)).length ≤ l.length := by
  have := (rej_len (pieces 10 l) 1 1 (Nat.le_refl _)).2 (pieces_ne 10 l)
  rw [sumLen_pieces] at this
  unfold linesOf; omega
theorem rej_good : ∀ (ls : List Ln) (n : Nat), Rising n ls → ∀ b ∈ rej n ls, okB b
  | [], n, _, b, hb => by simp [rej] at hb
  | (m, ws) :: r, n, h, b, hb => by
    obtain ⟨h1, h2, h3, h4⟩ := h
    rw [rej, List.mem_append, List.mem_append] at hb
    rcases hb with hb | hb | hb
    · rw [List.mem_replicate] at hb; rw [hb.2]; rfl
    · have : ∀ (ws : List (List UInt8)), (∀ w ∈ ws, okW w) → b ∈ Lib.join ws [32] → okB b := by
        intro ws
        induction ws with
        | nil => intro _ hb; simp [join_nil] at hb
        | cons w t ih =>
          intro hw hb
          rw [join_cons, List.mem_append] at hb
          rcases hb with hb | hb
          · have := (hw w (by simp)).2 b hb
            unfold okB badB; simp; omega
          · simp only [joinTail, List.mem_flatten, List.mem_map] at hb
            obtain ⟨q, ⟨v, hv, rfl⟩, hb⟩ := hb
            rw [List.mem_append, List.mem_singleton] at hb
            rcases hb with rfl | hb
            · rfl
            · have := (hw v (by simp [hv])).2 b hb
              unfold okB badB; simp; omega
      exact this ws h3 hb
    · rcases rej_head h4 with ⟨e1, e2⟩ | ⟨t, e1, e2⟩
      · rw [e1] at hb; simp at hb
      · rw [e1, List.mem_cons] at hb
        rcases hb with rfl | hb
        · rfl
        · rw [e2] at hb; exact rej_good r (m + 1) h4 b hb
theorem lines_rising {l : List UInt8} (h : firstBad l = none) : Rising 1 (linesOf l) := by
  rw [firstBad_none] at h
  refine (linesGo_rising _ 1 fun p hp => ⟨fun b hb => ?_, pieces_clean p hp⟩).1
  have : ∀ (l : List UInt8) (p : List UInt8), p ∈ pieces 10 l → ∀ b ∈ p, b ∈ l := by
    intro l
    induction l with
    | nil => intro p hp b hb; simp [pieces] at hp; subst hp; simp at hb
    | cons x r ih =>
      intro p hp b hb
      rw [pieces] at hp
      split at hp
      · rw [List.mem_cons] at hp
        rcases hp with rfl | hp
        · simp at hb
        · simp [ih p hp b hb]
      · split at hp
        · simp at hp; subst hp; simp at hb; simp [hb]
        · rename_i q t he
          rw [List.mem_cons] at hp
          rcases hp with rfl | hp
          · rw [List.mem_cons] at hb
            rcases hb with rfl | hb
            · simp
            · simp [ih q (by rw [he]; simp) b hb]
          · simp [ih p (by rw [he]; simp [hp]) b hb]
  exact h b (this l p hp b hb)
/-- Put together again, the lines are the same. -/
theorem again_law {l : List UInt8} (hl : l.length ≤ 4096) (h : firstBad l = none) : textF (rej 1 (linesOf l)) = (linesOf l, 0, 0) ∧ (rej 1 (linesOf l)).length ≤ l.length := by
  have hr := lines_rising h
  have hlen := again_len l
  refine ⟨?_, hlen⟩
  unfold textF
  rw [if_neg (by omega), firstBad_none.2 (rej_good _ _ hr)]
  simp only
  rw [linesOf, rej_lines _ 1 hr]
end Go.Proofs.YtahgapkecabnjaaGreatDoor
