/- Plain law of package race: what comes ahead of what, and clocks that tell it. No program in sight. -/
import Derived.Lib.Join
namespace Go.Proofs.Ytccbiolgdamnpaa
set_option linter.unusedSimpArgs false
set_option linter.unusedVariables false

/-- An access: its thread, its kind, its place. -/
structure Ac where
  th : Int
  kd : Int
  pl : Int
def ac (L : List Ac) (i : Nat) : Ac := L.getD i ⟨0, 0, 0⟩
/-- Does one come right ahead of a later one? -/
def rt (x y : Ac) : Bool := x.th == y.th || (x.pl == y.pl && ((x.kd == 2 && y.kd == 1) || (x.kd == 4 && (y.kd == 4 || y.kd == 3))))
theorem rt_iff {x y : Ac} : rt x y = true ↔ x.th = y.th ∨ (x.pl = y.pl ∧ ((x.kd = 2 ∧ y.kd = 1) ∨ (x.kd = 4 ∧ (y.kd = 4 ∨ y.kd = 3)))) := by
  unfold rt
  simp only [Bool.or_eq_true, Bool.and_eq_true, beq_iff_eq]
/-- Does one come ahead of another one? -/
inductive HB (L : List Ac) (a : Nat) : Nat → Prop
  | refl : HB L a a
  | step {m n : Nat} (h : HB L a m) (hl : m < n) (hr : rt (ac L m) (ac L n) = true) : HB L a n
theorem HB.le {L : List Ac} {a b : Nat} (h : HB L a b) : a ≤ b := by
  induction h with
  | refl => exact Nat.le_refl _
  | step _ hl _ ih => omega
theorem HB.trans {L : List Ac} {a b c : Nat} (h : HB L a b) (k : HB L b c) : HB L a c := by
  induction k with
  | refl => exact h
  | step _ hl hr ih => exact .step ih hl hr
theorem HB.last {L : List Ac} {a n : Nat} (h : HB L a n) (hn : a < n) : ∃ m, a ≤ m ∧ m < n ∧ HB L a m ∧ rt (ac L m) (ac L n) = true := by
  cases h with
  | refl => omega
  | step h hl hr => exact ⟨_, h.le, hl, h, hr⟩
theorem HB.one {L : List Ac} {a b : Nat} (hl : a < b) (hr : rt (ac L a) (ac L b) = true) : HB L a b := .step .refl hl hr
theorem HB.first {L : List Ac} {a b : Nat} (h : HB L a b) (hn : a < b) : ∃ m, a < m ∧ m ≤ b ∧ rt (ac L a) (ac L m) = true ∧ HB L m b := by
  induction h with
  | refl => omega
  | step h hl hr ih =>
    rename_i m n
    by_cases hm : a < m
    · obtain ⟨x, h1, h2, h3, h4⟩ := ih hm
      exact ⟨x, h1, by omega, h3, .step h4 hl hr⟩
    · have : a = m := by have := h.le; omega
      subst this
      exact ⟨n, hl, Nat.le_refl _, hr, .refl⟩
theorem HB.iff_last {L : List Ac} {a n : Nat} (hn : a < n) : HB L a n ↔ ∃ m, m < n ∧ HB L a m ∧ rt (ac L m) (ac L n) = true :=
  ⟨fun h => let ⟨m, _, h2, h3, h4⟩ := h.last hn; ⟨m, h2, h3, h4⟩, fun ⟨m, h2, h3, h4⟩ => .step h3 h2 h4⟩
theorem HB.iff_first {L : List Ac} {a b : Nat} (hn : a < b) : HB L a b ↔ ∃ m, a < m ∧ m ≤ b ∧ rt (ac L a) (ac L m) = true ∧ HB L m b :=
  ⟨fun h => h.first hn, fun ⟨m, h1, h2, h3, h4⟩ => (HB.one h1 h3).trans h4⟩
noncomputable def hbB (L : List Ac) (a b : Nat) : Bool := @decide (HB L a b) (Classical.propDecidable _)
theorem hbB_iff {L : List Ac} {a b : Nat} : hbB L a b = true ↔ HB L a b := by unfold hbB; exact @decide_eq_true_iff _ (Classical.propDecidable _)
theorem hbB_false {L : List Ac} {a b : Nat} : hbB L a b = false ↔ ¬ HB L a b := by rw [← hbB_iff, Bool.not_eq_true]

theorem le_maxN {a b c : Nat} : a ≤ max b c ↔ a ≤ b ∨ a ≤ c := by omega
/-! ### Clocks -/
def tid (L : List Ac) (i : Nat) : Nat := (ac L i).th.toNat
def cnt (L : List Ac) (t : Nat) : Nat → Nat
  | 0 => 0
  | n + 1 => cnt L t n + (if tid L n = t then 1 else 0)
def stamp (L : List Ac) (i : Nat) : Nat := cnt L (tid L i) i + 1
theorem cnt_mono (L : List Ac) (t : Nat) : ∀ {m n : Nat}, m ≤ n → cnt L t m ≤ cnt L t n := by
  intro m n h
  induction h with
  | refl => exact Nat.le_refl _
  | step _ ih => exact Nat.le_trans ih (by rw [cnt]; omega)
theorem stamp_le {L : List Ac} {i n : Nat} (h : i < n) : stamp L i ≤ cnt L (tid L i) n := by
  have := cnt_mono L (tid L i) (show i + 1 ≤ n from h)
  rw [cnt, if_pos rfl] at this
  exact this
theorem stamp_lt {L : List Ac} {i j : Nat} (h : i < j) (ht : tid L i = tid L j) : stamp L i < stamp L j := by
  have := stamp_le (L := L) h
  unfold stamp at this ⊢
  rw [← ht]; omega

structure VS where
  V : Nat → Nat → Nat
  Lk : Int → Nat → Nat
  Wd : Int → Nat → Nat
  Rd : Int → Nat → Option Nat
  Wr : Int → Nat → Option Nat
def VS.init : VS := ⟨fun _ _ => 0, fun _ _ => 0, fun _ _ => 0, fun _ _ => none, fun _ _ => none⟩
/-- What the thread of an access has heard of behind it. -/
def hearsV (S : VS) (x : Ac) (u : Nat) : Nat :=
  let c := if u = x.th.toNat then S.V x.th.toNat u + 1 else S.V x.th.toNat u
  if x.kd = 1 then max c (S.Lk x.pl u) else if x.kd = 3 ∨ x.kd = 4 then max c (S.Wd x.pl u) else c
def VS.step (S : VS) (x : Ac) : VS where
  V := fun t => if t = x.th.toNat then hearsV S x else S.V t
  Lk := fun p u => if x.kd = 2 ∧ p = x.pl then max (S.Lk p u) (hearsV S x u) else S.Lk p u
  Wd := fun p u => if x.kd = 4 ∧ p = x.pl then hearsV S x u else S.Wd p u
  Rd := fun p u => if x.kd = 5 ∧ p = x.pl ∧ u = x.th.toNat then some (hearsV S x u) else S.Rd p u
  Wr := fun p u => if x.kd = 6 ∧ p = x.pl ∧ u = x.th.toNat then some (hearsV S x u) else S.Wr p u
/-- Has a thread touched a place that the access's thread has not heard of? -/
def Late (S : VS) (x : Ac) (m : Nat → Option Nat) : Prop := ∃ u c, u ≠ x.th.toNat ∧ m u = some c ∧ hearsV S x u < c
/-- Does an access race? -/
def Races (S : VS) (x : Ac) : Prop := (x.kd = 5 ∧ Late S x ((S.step x).Wr x.pl)) ∨ (x.kd = 6 ∧ (Late S x ((S.step x).Wr x.pl) ∨ Late S x ((S.step x).Rd x.pl)))
def runV (L : List Ac) : Nat → VS
  | 0 => .init
  | n + 1 => (runV L n).step (ac L n)

/-- The last touch of a kind. -/
def LastOf (L : List Ac) (n : Nat) (k : Int) (m : Int → Nat → Option Nat) : Prop :=
  ∀ p u, (m p u = none → ∀ i, i < n → tid L i = u → (ac L i).kd = k → (ac L i).pl = p → False) ∧
    (∀ c, m p u = some c → ∃ i, i < n ∧ tid L i = u ∧ (ac L i).kd = k ∧ (ac L i).pl = p ∧ c = stamp L i ∧ ∀ j, i < j → j < n → tid L j = u → (ac L j).kd = k → (ac L j).pl = p → False)
structure Inv (L : List Ac) (n : Nat) (S : VS) : Prop where
  v : ∀ t i, i < n → (stamp L i ≤ S.V t (tid L i) ↔ ∃ j, j < n ∧ tid L j = t ∧ HB L i j)
  vle : ∀ t u, S.V t u ≤ cnt L u n
  self : ∀ t, S.V t t = cnt L t n
  l : ∀ p i, i < n → (stamp L i ≤ S.Lk p (tid L i) ↔ ∃ j, j < n ∧ (ac L j).kd = 2 ∧ (ac L j).pl = p ∧ HB L i j)
  lle : ∀ p u, S.Lk p u ≤ cnt L u n
  w : ∀ p i, i < n → (stamp L i ≤ S.Wd p (tid L i) ↔ ∃ j, j < n ∧ (ac L j).kd = 4 ∧ (ac L j).pl = p ∧ HB L i j)
  wle : ∀ p u, S.Wd p u ≤ cnt L u n
  rd : LastOf L n 5 S.Rd
  wr : LastOf L n 6 S.Wr
theorem Inv.init (L : List Ac) : Inv L 0 .init :=
  ⟨fun _ _ h => by omega, fun _ _ => Nat.zero_le _, fun _ => rfl, fun _ _ h => by omega, fun _ _ => Nat.zero_le _, fun _ _ h => by omega, fun _ _ => Nat.zero_le _,
    fun p u => ⟨fun _ i h => by omega, fun c h => by cases h⟩, fun p u => ⟨fun _ i h => by omega, fun c h => by cases h⟩⟩

def Known (L : List Ac) : Prop := ∀ i, i < L.length → 0 ≤ (ac L i).th ∧ (ac L i).th < 64
theorem tid_th {L : List Ac} (hk : Known L) {i j : Nat} (hi : i < L.length) (hj : j < L.length) : tid L i = tid L j ↔ (ac L i).th = (ac L j).th := by
  have := hk i hi; have := hk j hj
  unfold tid; omega
/-- What an access has heard of is what comes ahead of it. -/
theorem hears_iff {L : List Ac} {n : Nat} {S : VS} (I : Inv L n S) (hk : Known L) (hn : n < L.length) {i : Nat} (hi : i < n) : stamp L i ≤ hearsV S (ac L n) (tid L i) ↔ HB L i n := by
  have hc : stamp L i ≤ (if tid L i = tid L n then S.V (tid L n) (tid L i) + 1 else S.V (tid L n) (tid L i)) ↔ ∃ j, j < n ∧ tid L j = tid L n ∧ HB L i j := by
    rw [← I.v (tid L n) i hi]
    split
    · rename_i h
      have h1 := stamp_le (L := L) hi
      have h2 := I.self (tid L n)
      rw [h] at h1 ⊢
      omega
    · exact Iff.rfl
  have hrt : ∀ m, m < n → (rt (ac L m) (ac L n) = true ↔ tid L m = tid L n ∨ ((ac L m).pl = (ac L n).pl ∧ (((ac L m).kd = 2 ∧ (ac L n).kd = 1) ∨ ((ac L m).kd = 4 ∧ ((ac L n).kd = 4 ∨ (ac L n).kd = 3))))) := fun m hm => by
    rw [rt_iff, tid_th hk (by omega) hn]
  have hbi : HB L i n ↔ (∃ j, j < n ∧ tid L j = tid L n ∧ HB L i j) ∨ ((ac L n).kd = 1 ∧ ∃ j, j < n ∧ (ac L j).kd = 2 ∧ (ac L j).pl = (ac L n).pl ∧ HB L i j) ∨ (((ac L n).kd = 3 ∨ (ac L n).kd = 4) ∧ ∃ j, j < n ∧ (ac L j).kd = 4 ∧ (ac L j).pl = (ac L n).pl ∧ HB L i j) := by
    rw [HB.iff_last hi]
    constructor
    · rintro ⟨m, hm, h1, h2⟩
      rcases (hrt m hm).1 h2 with h | ⟨hp, ⟨h3, h4⟩ | ⟨h3, h4 | h4⟩⟩
      · exact .inl ⟨m, hm, h, h1⟩
      · exact .inr (.inl ⟨h4, m, hm, h3, hp, h1⟩)
      · exact .inr (.inr ⟨.inr h4, m, hm, h3, hp, h1⟩)
      · exact .inr (.inr ⟨.inl h4, m, hm, h3, hp, h1⟩)
    · rintro (⟨m, hm, h, h1⟩ | ⟨h4, m, hm, h3, hp, h1⟩ | ⟨h4 | h4, m, hm, h3, hp, h1⟩)
      · exact ⟨m, hm, h1, (hrt m hm).2 (.inl h)⟩
      · exact ⟨m, hm, h1, (hrt m hm).2 (.inr ⟨hp, .inl ⟨h3, h4⟩⟩)⟩
      · exact ⟨m, hm, h1, (hrt m hm).2 (.inr ⟨hp, .inr ⟨h3, .inr h4⟩⟩)⟩
      · exact ⟨m, hm, h1, (hrt m hm).2 (.inr ⟨hp, .inr ⟨h3, .inl h4⟩⟩)⟩
  have hl := I.l (ac L n).pl i hi
  have hw := I.w (ac L n).pl i hi
  rw [hbi, ← hc, ← hl, ← hw]
  unfold hearsV
  simp only
  show stamp L i ≤ (if (ac L n).kd = 1 then max (if tid L i = tid L n then S.V (tid L n) (tid L i) + 1 else S.V (tid L n) (tid L i)) _ else if _ then max (if tid L i = tid L n then S.V (tid L n) (tid L i) + 1 else S.V (tid L n) (tid L i)) _ else (if tid L i = tid L n then S.V (tid L n) (tid L i) + 1 else S.V (tid L n) (tid L i))) ↔ _
  generalize (if tid L i = tid L n then S.V (tid L n) (tid L i) + 1 else S.V (tid L n) (tid L i)) = c
  by_cases h1 : (ac L n).kd = 1
  · rw [if_pos h1]
    constructor
    · intro h
      rcases le_maxN.1 h with h | h
      · exact .inl h
      · exact .inr (.inl ⟨h1, h⟩)
    · rintro (h | ⟨_, h⟩ | ⟨h | h, _⟩)
      · exact le_maxN.2 (.inl h)
      · exact le_maxN.2 (.inr h)
      · omega
      · omega
  · rw [if_neg h1]
    by_cases h3 : (ac L n).kd = 3 ∨ (ac L n).kd = 4
    · rw [if_pos h3]
      constructor
      · intro h
        rcases le_maxN.1 h with h | h
        · exact .inl h
        · exact .inr (.inr ⟨h3, h⟩)
      · rintro (h | ⟨h, _⟩ | ⟨_, h⟩)
        · exact le_maxN.2 (.inl h)
        · exact absurd h h1
        · exact le_maxN.2 (.inr h)
    · rw [if_neg h3]
      constructor
      · exact .inl
      · rintro (h | ⟨h, _⟩ | ⟨h, _⟩)
        · exact h
        · exact absurd h h1
        · exact absurd h h3
theorem hears_le {L : List Ac} {n : Nat} {S : VS} (I : Inv L n S) (u : Nat) : hearsV S (ac L n) u ≤ cnt L u (n + 1) := by
  have h1 := I.vle (tid L n) u
  have h2 := I.lle (ac L n).pl u
  have h3 := I.wle (ac L n).pl u
  have h4 := cnt_mono L u (Nat.le_succ n)
  have e : cnt L u (n + 1) = cnt L u n + (if tid L n = u then 1 else 0) := rfl
  have hc : (if u = (ac L n).th.toNat then S.V (ac L n).th.toNat u + 1 else S.V (ac L n).th.toNat u) ≤ cnt L u (n + 1) := by
    split
    · rename_i h
      rw [e, if_pos (show tid L n = u from h.symm)]
      exact Nat.add_le_add_right h1 1
    · exact Nat.le_trans h1 h4
  unfold hearsV
  simp only
  split
  · exact Nat.max_le.2 ⟨hc, Nat.le_trans h2 h4⟩
  · split
    · exact Nat.max_le.2 ⟨hc, Nat.le_trans h3 h4⟩
    · exact hc
theorem hears_self {L : List Ac} {n : Nat} {S : VS} (I : Inv L n S) : hearsV S (ac L n) (tid L n) = cnt L (tid L n) (n + 1) := by
  refine Nat.le_antisymm (hears_le I _) ?_
  have e : cnt L (tid L n) (n + 1) = S.V (tid L n) (tid L n) + 1 := by rw [I.self]; show _ + (if _ then _ else _) = _; rw [if_pos rfl]
  rw [e]
  unfold hearsV
  simp only
  have hc : S.V (tid L n) (tid L n) + 1 ≤ (if tid L n = (ac L n).th.toNat then S.V (ac L n).th.toNat (tid L n) + 1 else S.V (ac L n).th.toNat (tid L n)) := by
    rw [if_pos (show tid L n = (ac L n).th.toNat from rfl)]; exact Nat.le_refl _
  split
  · exact Nat.le_trans hc (Nat.le_max_left _ _)
  · split
    · exact Nat.le_trans hc (Nat.le_max_left _ _)
    · exact hc
/-- What an access's thread has heard of, the access among it. -/
theorem hears_iff' {L : List Ac} {n : Nat} {S : VS} (I : Inv L n S) (hk : Known L) (hn : n < L.length) {i : Nat} (hi : i ≤ n) : stamp L i ≤ hearsV S (ac L n) (tid L i) ↔ HB L i n := by
  rcases Nat.lt_or_eq_of_le hi with h | rfl
  · exact hears_iff I hk hn h
  · rw [hears_self I]
    exact ⟨fun _ => .refl, fun _ => stamp_le (Nat.lt_succ_self _)⟩
theorem too_late {L : List Ac} {n u : Nat} {c : Nat} (h : c ≤ cnt L (tid L n) n) : ¬ stamp L n ≤ c := by unfold stamp; omega
theorem LastOf.step {L : List Ac} {n : Nat} {S : VS} (I : Inv L n S) {k : Int} {m : Int → Nat → Option Nat} (h : LastOf L n k m) :
    LastOf L (n + 1) k (fun p u => if (ac L n).kd = k ∧ p = (ac L n).pl ∧ u = (ac L n).th.toNat then some (hearsV S (ac L n) u) else m p u) := by
  intro p u
  by_cases hc : (ac L n).kd = k ∧ p = (ac L n).pl ∧ u = (ac L n).th.toNat
  · refine ⟨fun e => absurd ((if_pos hc).symm.trans e) (by simp), fun c e => ?_⟩
    have e2 : some (hearsV S (ac L n) u) = some c := (if_pos hc).symm.trans e
    clear e
    obtain ⟨h1, h2, h3⟩ := hc
    subst h2 h3
    cases e2
    refine ⟨n, Nat.lt_succ_self _, rfl, h1, rfl, ?_, fun j h1 h2 => by omega⟩
    show hearsV S (ac L n) (tid L n) = _
    rw [hears_self I]
    show _ + (if _ then _ else _) = _
    rw [if_pos rfl]; rfl
  · simp only [if_neg hc]
    have hno : tid L n = u → (ac L n).kd = k → (ac L n).pl = p → False := fun h1 h2 h3 => hc ⟨h2, h3.symm, h1.symm⟩
    refine ⟨fun e i hi h1 h2 h3 => ?_, fun c e => ?_⟩
    · rcases Nat.lt_or_eq_of_le (Nat.le_of_lt_succ hi) with hlt | rfl
      · exact (h p u).1 e i hlt h1 h2 h3
      · exact hno h1 h2 h3
    · obtain ⟨i, hi, h1, h2, h3, h4, h5⟩ := (h p u).2 c e
      refine ⟨i, by omega, h1, h2, h3, h4, fun j hj hj2 g1 g2 g3 => ?_⟩
      rcases Nat.lt_or_eq_of_le (Nat.le_of_lt_succ hj2) with h | rfl
      · exact h5 j hj h g1 g2 g3
      · exact hno g1 g2 g3
theorem Inv.step {L : List Ac} {n : Nat} {S : VS} (I : Inv L n S) (hk : Known L) (hn : n < L.length) : Inv L (n + 1) (S.step (ac L n)) := by
  have hx : (ac L n).th.toNat = tid L n := rfl
  refine ⟨fun t i hi => ?_, fun t u => ?_, fun t => ?_, fun p i hi => ?_, fun p u => ?_, fun p i hi => ?_, fun p u => ?_, I.rd.step I, I.wr.step I⟩
  · show stamp L i ≤ (if t = tid L n then hearsV S (ac L n) else S.V t) (tid L i) ↔ _
    by_cases ht : t = tid L n
    · subst ht
      rw [if_pos rfl, hears_iff' I hk hn (Nat.le_of_lt_succ hi)]
      constructor
      · exact fun h => ⟨n, Nat.lt_succ_self _, rfl, h⟩
      · rintro ⟨j, hj, h1, h2⟩
        rcases Nat.lt_or_eq_of_le (Nat.le_of_lt_succ hj) with h | rfl
        · exact h2.trans (HB.one h (rt_iff.2 (.inl ((tid_th hk (by omega) hn).1 h1))))
        · exact h2
    · rw [if_neg ht]
      rcases Nat.lt_or_eq_of_le (Nat.le_of_lt_succ hi) with h | rfl
      · rw [I.v t i h]
        constructor
        · rintro ⟨j, hj, h1, h2⟩; exact ⟨j, by omega, h1, h2⟩
        · rintro ⟨j, hj, h1, h2⟩
          rcases Nat.lt_or_eq_of_le (Nat.le_of_lt_succ hj) with h | rfl
          · exact ⟨j, h, h1, h2⟩
          · exact absurd h1.symm ht
      · constructor
        · intro h; exact absurd h (too_late (u := 0) (I.vle t _))
        · rintro ⟨j, hj, h1, h2⟩
          have := h2.le
          obtain rfl : i = j := by omega
          exact absurd h1.symm ht
  · show (if t = tid L n then hearsV S (ac L n) else S.V t) u ≤ _
    split
    · exact hears_le I u
    · exact Nat.le_trans (I.vle t u) (cnt_mono L u (Nat.le_succ n))
  · show (if t = tid L n then hearsV S (ac L n) else S.V t) t = _
    by_cases ht : t = tid L n
    · subst ht
      rw [if_pos rfl, hears_self I]
    · rw [if_neg ht, I.self t]
      show _ = _ + (if _ then _ else _)
      rw [if_neg (fun h => ht h.symm)]; rfl
  · show stamp L i ≤ (if (ac L n).kd = 2 ∧ p = (ac L n).pl then max (S.Lk p (tid L i)) (hearsV S (ac L n) (tid L i)) else S.Lk p (tid L i)) ↔ _
    by_cases hc : (ac L n).kd = 2 ∧ p = (ac L n).pl
    · rw [if_pos hc, le_maxN, hears_iff' I hk hn (Nat.le_of_lt_succ hi)]
      constructor
      · rintro (h | h)
        · rcases Nat.lt_or_eq_of_le (Nat.le_of_lt_succ hi) with h' | rfl
          · obtain ⟨j, hj, h1⟩ := (I.l p i h').1 h
            exact ⟨j, by omega, h1⟩
          · exact absurd h (too_late (u := 0) (I.lle p _))
        · exact ⟨n, Nat.lt_succ_self _, hc.1, hc.2.symm, h⟩
      · rintro ⟨j, hj, h1, h2, h3⟩
        rcases Nat.lt_or_eq_of_le (Nat.le_of_lt_succ hj) with h | rfl
        · have := h3.le
          exact .inl ((I.l p i (by omega)).2 ⟨j, h, h1, h2, h3⟩)
        · exact .inr h3
    · rw [if_neg hc]
      rcases Nat.lt_or_eq_of_le (Nat.le_of_lt_succ hi) with h | rfl
      · rw [I.l p i h]
        constructor
        · rintro ⟨j, hj, h1⟩; exact ⟨j, by omega, h1⟩
        · rintro ⟨j, hj, h1, h2, h3⟩
          rcases Nat.lt_or_eq_of_le (Nat.le_of_lt_succ hj) with h | rfl
          · exact ⟨j, h, h1, h2, h3⟩
          · exact absurd ⟨h1, h2.symm⟩ hc
      · constructor
        · intro h; exact absurd h (too_late (u := 0) (I.lle p _))
        · rintro ⟨j, hj, h1, h2, h3⟩
          have := h3.le
          obtain rfl : i = j := by omega
          exact absurd ⟨h1, h2.symm⟩ hc
  · show (if (ac L n).kd = 2 ∧ p = (ac L n).pl then max (S.Lk p u) (hearsV S (ac L n) u) else S.Lk p u) ≤ _
    have h1 := Nat.le_trans (I.lle p u) (cnt_mono L u (Nat.le_succ n))
    split
    · exact Nat.max_le.2 ⟨h1, hears_le I u⟩
    · exact h1
  · show stamp L i ≤ (if (ac L n).kd = 4 ∧ p = (ac L n).pl then hearsV S (ac L n) (tid L i) else S.Wd p (tid L i)) ↔ _
    by_cases hc : (ac L n).kd = 4 ∧ p = (ac L n).pl
    · rw [if_pos hc, hears_iff' I hk hn (Nat.le_of_lt_succ hi)]
      constructor
      · exact fun h => ⟨n, Nat.lt_succ_self _, hc.1, hc.2.symm, h⟩
      · rintro ⟨j, hj, h1, h2, h3⟩
        rcases Nat.lt_or_eq_of_le (Nat.le_of_lt_succ hj) with h | rfl
        · exact h3.trans (HB.one h (rt_iff.2 (.inr ⟨by rw [h2]; exact hc.2, .inr ⟨h1, .inl hc.1⟩⟩)))
        · exact h3
    · rw [if_neg hc]
      rcases Nat.lt_or_eq_of_le (Nat.le_of_lt_succ hi) with h | rfl
      · rw [I.w p i h]
        constructor
        · rintro ⟨j, hj, h1⟩; exact ⟨j, by omega, h1⟩
        · rintro ⟨j, hj, h1, h2, h3⟩
          rcases Nat.lt_or_eq_of_le (Nat.le_of_lt_succ hj) with h | rfl
          · exact ⟨j, h, h1, h2, h3⟩
          · exact absurd ⟨h1, h2.symm⟩ hc
      · constructor
        · intro h; exact absurd h (too_late (u := 0) (I.wle p _))
        · rintro ⟨j, hj, h1, h2, h3⟩
          have := h3.le
          obtain rfl : i = j := by omega
          exact absurd ⟨h1, h2.symm⟩ hc
  · show (if (ac L n).kd = 4 ∧ p = (ac L n).pl then hearsV S (ac L n) u else S.Wd p u) ≤ _
    split
    · exact hears_le I u
    · exact Nat.le_trans (I.wle p u) (cnt_mono L u (Nat.le_succ n))
theorem inv_run {L : List Ac} (hk : Known L) : ∀ n, n ≤ L.length → Inv L n (runV L n)
  | 0, _ => Inv.init L
  | n + 1, h => (inv_run hk n (by omega)).step hk h
theorem late_iff {L : List Ac} {n : Nat} {S : VS} (I : Inv L n S) (hk : Known L) (hn : n < L.length) {k : Int} {m : Int → Nat → Option Nat} (h : LastOf L n k m) :
    Late S (ac L n) (fun u => if (ac L n).kd = k ∧ (ac L n).pl = (ac L n).pl ∧ u = (ac L n).th.toNat then some (hearsV S (ac L n) u) else m (ac L n).pl u) ↔ ∃ i, i < n ∧ (ac L i).kd = k ∧ (ac L i).pl = (ac L n).pl ∧ ¬ HB L i n := by
  constructor
  · rintro ⟨u, c, hu, hm, hlt⟩
    have hm := (if_neg (fun h => hu h.2.2)).symm.trans hm
    obtain ⟨i, hi, h1, h2, h3, h4, _⟩ := (h _ u).2 c hm
    refine ⟨i, hi, h2, h3, fun hb => ?_⟩
    have := (hears_iff I hk hn hi).2 hb
    rw [h1] at this; omega
  · rintro ⟨i, hi, h1, h2, h3⟩
    have hne : tid L i ≠ tid L n := fun e => h3 (HB.one hi (rt_iff.2 (.inl ((tid_th hk (by omega) hn).1 e))))
    cases hm : m (ac L n).pl (tid L i) with
    | none => exact ((h _ _).1 hm i hi rfl h1 h2).elim
    | some c =>
      obtain ⟨j, hj, g1, g2, g3, g4, g5⟩ := (h _ _).2 c hm
      refine ⟨tid L i, c, hne, (if_neg (fun h => hne h.2.2)).trans hm, ?_⟩
      have hij : i ≤ j := by
        rcases Nat.lt_or_ge j i with hlt | hge
        · exact (g5 i hlt hi rfl h1 h2).elim
        · exact hge
      have hnb : ¬ HB L j n := fun hb => by
        rcases Nat.lt_or_eq_of_le hij with hlt | rfl
        · exact h3 ((HB.one hlt (rt_iff.2 (.inl ((tid_th hk (by omega) (by omega)).1 g1.symm)))).trans hb)
        · exact h3 hb
      have := (not_congr (hears_iff I hk hn hj)).2 hnb
      rw [g1] at this; omega
def plainK (k : Int) : Prop := k = 5 ∨ k = 6
/-- Two accesses that may not stand without an order, and do. -/
def RaceAt (L : List Ac) (n : Nat) : Prop := plainK (ac L n).kd ∧ ∃ i, i < n ∧ plainK (ac L i).kd ∧ (ac L i).pl = (ac L n).pl ∧ ((ac L i).kd = 6 ∨ (ac L n).kd = 6) ∧ ¬ HB L i n
/-- The clocks tell the races. -/
theorem races_iff {L : List Ac} (hk : Known L) {n : Nat} (hn : n < L.length) : Races (runV L n) (ac L n) ↔ RaceAt L n := by
  have I := inv_run hk n (by omega)
  have hw := late_iff I hk hn I.wr
  have hr := late_iff I hk hn I.rd
  unfold Races RaceAt plainK
  have e1 : ((runV L n).step (ac L n)).Wr (ac L n).pl = fun u => if (ac L n).kd = 6 ∧ (ac L n).pl = (ac L n).pl ∧ u = (ac L n).th.toNat then some (hearsV (runV L n) (ac L n) u) else (runV L n).Wr (ac L n).pl u := rfl
  have e2 : ((runV L n).step (ac L n)).Rd (ac L n).pl = fun u => if (ac L n).kd = 5 ∧ (ac L n).pl = (ac L n).pl ∧ u = (ac L n).th.toNat then some (hearsV (runV L n) (ac L n) u) else (runV L n).Rd (ac L n).pl u := rfl
  rw [e1, e2, hw, hr]
  constructor
  · rintro (⟨h5, i, hi, h1, h2, h3⟩ | ⟨h6, ⟨i, hi, h1, h2, h3⟩ | ⟨i, hi, h1, h2, h3⟩⟩)
    · exact ⟨.inl h5, i, hi, .inr h1, h2, .inl h1, h3⟩
    · exact ⟨.inr h6, i, hi, .inr h1, h2, .inr h6, h3⟩
    · exact ⟨.inr h6, i, hi, .inl h1, h2, .inr h6, h3⟩
  · rintro ⟨hn5 | hn6, i, hi, h1, h2, h3, h4⟩
    · rcases h3 with h3 | h3
      · exact .inl ⟨hn5, i, hi, h3, h2, h4⟩
      · omega
    · rcases h1 with h1 | h1
      · exact .inr ⟨hn6, .inr ⟨i, hi, h1, h2, h4⟩⟩
      · exact .inr ⟨hn6, .inl ⟨i, hi, h1, h2, h4⟩⟩

/-! ### What Find answers -/
/-- n is what Find answers, and its error. -/
def FindIs (L : List Ac) (n e : Int) : Prop :=
  (¬ Known L ∧ n = 0 ∧ e = 14) ∨ (Known L ∧ ((∃ k : Nat, k < L.length ∧ RaceAt L k ∧ (∀ i, i < k → ¬ RaceAt L i) ∧ n = k ∧ e = 17) ∨ ((∀ i, i < L.length → ¬ RaceAt L i) ∧ n = -1 ∧ e = 0)))
theorem FindIs.same {L : List Ac} {n e m f : Int} (h : FindIs L n e) (k : FindIs L m f) : n = m ∧ e = f := by
  rcases h with ⟨h0, rfl, rfl⟩ | ⟨h0, h⟩
  · rcases k with ⟨_, rfl, rfl⟩ | ⟨k0, _⟩
    · exact ⟨rfl, rfl⟩
    · exact absurd k0 h0
  · rcases k with ⟨k0, _⟩ | ⟨_, k⟩
    · exact absurd h0 k0
    · rcases h with ⟨a, ha, h1, h2, rfl, rfl⟩ | ⟨h1, rfl, rfl⟩
      · rcases k with ⟨b, hb, k1, k2, rfl, rfl⟩ | ⟨k1, rfl, rfl⟩
        · rcases Nat.lt_trichotomy a b with hlt | rfl | hlt
          · exact absurd h1 (k2 a hlt)
          · exact ⟨rfl, rfl⟩
          · exact absurd k1 (h2 b hlt)
        · exact absurd h1 (k1 a ha)
      · rcases k with ⟨b, hb, k1, k2, rfl, rfl⟩ | ⟨k1, rfl, rfl⟩
        · exact absurd k1 (h1 b hb)
        · exact ⟨rfl, rfl⟩
/-- What Before answers. -/
def BeforeIs (L : List Ac) (a b : Int) (r : Bool) : Prop := r = true ↔ 0 ≤ a ∧ a < b ∧ b < L.length ∧ HB L a.toNat b.toNat
theorem BeforeIs.same {L : List Ac} {a b : Int} {r q : Bool} (h : BeforeIs L a b r) (k : BeforeIs L a b q) : r = q := by
  rw [Bool.eq_iff_iff]; exact h.trans k.symm

/-! ### The laws -/
theorem alone_one {L : List Ac} (h : ∀ i, i < L.length → (ac L i).th = 7) : FindIs L (-1) 0 := by
  refine .inr ⟨fun i hi => by have := h i hi; omega, .inr ⟨fun n hn ⟨_, i, hi, _, _, _, hb⟩ => hb (HB.one hi (rt_iff.2 (.inl (by rw [h i (by omega), h n hn])))), rfl, rfl⟩⟩
theorem alone_reads {L : List Ac} (hk : Known L) (h : ∀ i, i < L.length → (ac L i).kd ≠ 6) : FindIs L (-1) 0 := by
  refine .inr ⟨hk, .inr ⟨fun n hn ⟨_, i, hi, _, _, h6, _⟩ => ?_, rfl, rfl⟩⟩
  rcases h6 with h6 | h6
  · exact h i (by omega) h6
  · exact h n hn h6
/-- Three by three: a lock, an access, an unlock, of one thread, all at one mutex. -/
def Held (p : Int) (L : List Ac) : Prop :=
  ∀ i, i < L.length → (i % 3 = 0 → (ac L i).kd = 1 ∧ (ac L i).pl = p) ∧ (i % 3 = 2 → (ac L i).kd = 2 ∧ (ac L i).pl = p) ∧ (ac L i).th = (ac L (i - i % 3)).th
theorem alone_held {p : Int} {L : List Ac} (hk : Known L) (h3 : L.length % 3 = 0) (h : Held p L) : FindIs L (-1) 0 := by
  refine .inr ⟨hk, .inr ⟨fun n hn ⟨hp, i, hi, hq, _, _, hb⟩ => hb ?_, rfl, rfl⟩⟩
  have hmid : ∀ j, j < L.length → plainK (ac L j).kd → j % 3 = 1 := fun j hj hpk => by
    obtain ⟨h0, h2, _⟩ := h j hj
    rcases (by omega : j % 3 = 0 ∨ j % 3 = 1 ∨ j % 3 = 2) with e | e | e
    · have := (h0 e).1; unfold plainK at hpk; omega
    · exact e
    · have := (h2 e).1; unfold plainK at hpk; omega
  have hi3 := hmid i (by omega) hq
  have hn3 := hmid n hn hp
  have a1 : HB L i (i + 1) := HB.one (by omega) (rt_iff.2 (.inl (by rw [(h i (by omega)).2.2, (h (i + 1) (by omega)).2.2, show i + 1 - (i + 1) % 3 = i - i % 3 by omega])))
  have a2 : HB L (i + 1) (n - 1) := HB.one (by omega) (rt_iff.2 (.inr ⟨by rw [((h (i + 1) (by omega)).2.1 (by omega)).2, ((h (n - 1) (by omega)).1 (by omega)).2], .inl ⟨((h (i + 1) (by omega)).2.1 (by omega)).1, ((h (n - 1) (by omega)).1 (by omega)).1⟩⟩))
  have a3 : HB L (n - 1) n := HB.one (by omega) (rt_iff.2 (.inl (by rw [(h (n - 1) (by omega)).2.2, (h n hn).2.2, show n - 1 - (n - 1) % 3 = n - n % 3 by omega])))
  exact (a1.trans a2).trans a3
end Go.Proofs.Ytccbiolgdamnpaa
