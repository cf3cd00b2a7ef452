/- Words and lines in memory; the walks of slices.Clip, text.bad. -/
import Derived.Test.YtfiddoibnjildaaGreatDoorTextA
import Derived.Test.YtfiddoibnjildaaGreatDoorAddrF
namespace Go.Proofs.YtfiddoibnjildaaGreatDoor
set_option linter.unusedSimpArgs false
set_option linter.unusedVariables false
open Go Go.RowKit

/-- Words in memory, in a block of P. -/
def WordsIn (P : Nat → Prop) (w : World) (v : Value) (ws : List (List UInt8)) : Prop :=
  ∃ a c, v = .slice a ws.length c ∧ ws.length ≤ c ∧ ∀ j x, ws[j]? = some x → ∃ b o, a = some ⟨b, o, none⟩ ∧ P b ∧ w.cell? ⟨b, o + j, none⟩ = some (str x)
theorem WordsIn.mono {P Q : Nat → Prop} {w w' : World} {v : Value} {ws : List (List UInt8)} (h : WordsIn P w v ws) (hP : ∀ b, b < w.heap.size → P b → Q b ∧ ∀ o x, w.cell? ⟨b, o, none⟩ = some x → w'.cell? ⟨b, o, none⟩ = some x) : WordsIn Q w' v ws := by
  obtain ⟨a, c, h1, h2, h3⟩ := h
  refine ⟨a, c, h1, h2, fun j x hj => ?_⟩
  obtain ⟨b, o, e, hb, hc⟩ := h3 j x hj
  obtain ⟨q1, q2⟩ := hP b (World.block_lt_of_cell? w ⟨b, o + j, none⟩ hc) hb
  exact ⟨b, o, e, q1, q2 _ _ hc⟩
abbrev Words (w : World) (v : Value) (ws : List (List UInt8)) : Prop := WordsIn (fun _ => True) w v ws
theorem Words.below {w w' : World} {v : Value} {ws : List (List UInt8)} (h : Words w v ws) (hb : Below w.heap.size w w') : Words w' v ws :=
  h.mono fun b hl _ => ⟨trivial, fun o x hx => (hb.cell (p := ⟨b, o, none⟩) hl).trans hx⟩

/-- Lines in memory. -/
def Lines (w : World) (v : Value) (ls : List Ln) : Prop :=
  ∃ a c, v = .slice a ls.length c ∧ ls.length ≤ c ∧ ∀ i l, ls[i]? = some l → ∃ b o wv, a = some ⟨b, o, none⟩ ∧ w.cell? ⟨b, o + 2 * i, none⟩ = some (.int .i64 l.1) ∧ w.cell? ⟨b, o + 2 * i + 1, none⟩ = some wv ∧ Words w wv l.2
theorem Lines.below {w w' : World} {v : Value} {ls : List Ln} (h : Lines w v ls) (hb : Below w.heap.size w w') : Lines w' v ls := by
  obtain ⟨a, c, h1, h2, h3⟩ := h
  refine ⟨a, c, h1, h2, fun i l hi => ?_⟩
  obtain ⟨b, o, wv, e, k1, k2, k3⟩ := h3 i l hi
  exact ⟨b, o, wv, e, (hb.cell (p := ⟨b, _, none⟩) (World.block_lt_of_cell? w _ k1)).trans k1, (hb.cell (p := ⟨b, _, none⟩) (World.block_lt_of_cell? w _ k2)).trans k2, k3.below hb⟩

/-! ### Lines that are being put together -/
def flat : List Ln → List Value → List Value
  | l :: ls, c :: cs => .int .i64 l.1 :: c :: flat ls cs
  | _, _ => []
theorem flat_append : ∀ (ls : List Ln) (cs : List Value) (l : Ln) (c : Value), ls.length = cs.length → flat (ls ++ [l]) (cs ++ [c]) = flat ls cs ++ [.int .i64 l.1, c]
  | [], [], l, c, _ => rfl
  | a :: ls, b :: cs, l, c, h => by simp only [List.cons_append, flat]; rw [flat_append ls cs l c (by simpa using h)]
  | [], _ :: _, _, _, h => by simp at h
  | _ :: _, [], _, _, h => by simp at h
theorem flat_get : ∀ (ls : List Ln) (cs : List Value) (i : Nat) (l : Ln), ls.length = cs.length → ls[i]? = some l → ∃ c, cs[i]? = some c ∧ (flat ls cs)[2 * i]? = some (.int .i64 l.1) ∧ (flat ls cs)[2 * i + 1]? = some c
  | [], [], i, l, _, hi => by simp at hi
  | a :: ls, b :: cs, 0, l, h, hi => by simp at hi; subst hi; exact ⟨b, rfl, rfl, rfl⟩
  | a :: ls, b :: cs, i + 1, l, h, hi => by
    obtain ⟨c, h1, h2, h3⟩ := flat_get ls cs i l (by simpa using h) (by simpa using hi)
    refine ⟨c, by simpa using h1, ?_, ?_⟩
    · rw [show 2 * (i + 1) = (2 * i) + 1 + 1 by omega]; simpa [flat] using h2
    · rw [show 2 * (i + 1) + 1 = (2 * i + 1) + 1 + 1 by omega]; simpa [flat] using h3
  | [], _ :: _, _, _, h, _ => by simp at h
  | _ :: _, [], _, _, h, _ => by simp at h

/-- A slice of lines of the call's own, whose words lie in blocks of P that are not its own. -/
def Build (P : Nat → Prop) (w : World) (base : Nat) (v : Value) (ls : List Ln) : Prop :=
  ∃ cs : List Value, ls.length = cs.length ∧ w.ownsRow base 36 2 v ls.length (flat ls cs) ∧ ∀ (i : Nat) (l : Ln) (c : Value), ls[i]? = some l → cs[i]? = some c → WordsIn (fun b => P b ∧ v.ownBlock ≠ some b) w c l.2
theorem Build.nil (P : Nat → Prop) (w : World) (base : Nat) : Build P w base (.slice none 0 0) [] := ⟨[], rfl, ⟨rfl, .inl ⟨rfl, rfl⟩⟩, fun i l c hi => by simp at hi⟩
theorem owns_lt {w : World} {base : Nat} {e : TypeId} {size n : Nat} {v : Value} {xs : List Value} (h : w.ownsRow base e size v n xs) : ∀ b, v.ownBlock = some b → b < w.heap.size := by
  rcases h.2 with ⟨rfl, _⟩ | ⟨g, cap, cur, rfl, h2, h3, _⟩
  · intro b hb; cases hb
  · intro b hb; cases hb; exact (Array.getElem?_eq_some_iff.1 h3).1
/-- Nothing of it changes. -/
theorem Build.keep {P Q : Nat → Prop} {w w' : World} {base : Nat} {v : Value} {ls : List Ln} {row : Option Nat} (h : Build P w base v ls) (hg : w.grownBy w' row) (hv : v.ownBlock = none ∨ v.ownBlock ≠ row) (hP : ∀ b, b < w.heap.size → P b → Q b ∧ some b ≠ row) : Build Q w' base v ls := by
  obtain ⟨cs, h1, h2, h3⟩ := h
  refine ⟨cs, h1, h2.kept hg hv, fun i l c hi hc => ?_⟩
  exact (h3 i l c hi hc).mono fun b hl hb => ⟨⟨(hP b hl hb.1).1, hb.2⟩, fun o x hx => hg.cell (a := ⟨b, o, none⟩) hx (hP b hl hb.1).2⟩
theorem Build.below {P : Nat → Prop} {w w' : World} {base : Nat} {v : Value} {ls : List Ln} (h : Build P w base v ls) (hb : Below w.heap.size w w') : Build P w' base v ls := by
  obtain ⟨cs, h1, h2, h3⟩ := h
  exact ⟨cs, h1, owns_below h2 hb, fun i l c hi hc => (h3 i l c hi hc).mono fun b hl hp => ⟨hp, fun o x hx => (hb.cell (p := ⟨b, o, none⟩) hl).trans hx⟩⟩
theorem Build.form {P : Nat → Prop} {w : World} {base : Nat} {v : Value} {ls : List Ln} (h : Build P w base v ls) : ∃ cs : List Value, ls.length = cs.length ∧ w.ownsRow base 36 2 v ls.length (flat ls cs) ∧
    ∀ v' w', w.grownBy w' v.ownBlock → ∀ n ws wv, (v'.ownBlock = v.ownBlock ∨ v'.ownBlock = some w.heap.size) → w'.ownsRow base 36 2 v' (ls.length + 1) (flat ls cs ++ [.int .i64 (n : Nat), wv]) → WordsIn (fun b => v.ownBlock ≠ some b) w wv ws → Build (fun b => P b ∨ ∃ a l c, wv = .slice (some a) l c ∧ a.block = b) w' base v' (ls ++ [(n, ws)]) := by
  obtain ⟨cs, h1, h2, h3⟩ := h
  refine ⟨cs, h1, h2, fun v' w' hg n ws wv hloc hown hw => ⟨cs ++ [wv], by simp [h1], ?_, fun i l c hi hc => ?_⟩⟩
  · rw [flat_append ls cs (n, ws) wv h1, List.length_append, List.length_singleton]; exact hown
  · have hne : ∀ b, b < w.heap.size → v.ownBlock ≠ some b → v'.ownBlock ≠ some b := fun b hl hb e => by
      rcases hloc with h | h
      · rw [h] at e; exact hb e
      · rw [h] at e; injection e with e; omega
    by_cases hlt : i < ls.length
    · rw [List.getElem?_append_left hlt] at hi
      rw [List.getElem?_append_left (by omega)] at hc
      exact (h3 i l c hi hc).mono fun b hl hb => ⟨⟨.inl hb.1, hne b hl hb.2⟩, fun o x hx => hg.cell (a := ⟨b, o, none⟩) hx (fun e => hb.2 e.symm)⟩
    · have hi2 : i = ls.length := by
        have := (List.getElem?_eq_some_iff.1 hi).1
        simp at this; omega
      subst hi2
      rw [List.getElem?_append_right (Nat.le_refl _), Nat.sub_self] at hi
      rw [h1, List.getElem?_append_right (Nat.le_refl _), Nat.sub_self] at hc
      simp only [List.getElem?_cons_zero, Option.some.injEq] at hi hc
      subst hi hc
      obtain ⟨a, c, e1, e2, e3⟩ := hw
      refine ⟨a, c, e1, e2, fun j x hj => ?_⟩
      obtain ⟨b, o, ea, hb, hcell⟩ := e3 j x hj
      have hl := World.block_lt_of_cell? w ⟨b, o + j, none⟩ hcell
      exact ⟨b, o, ea, ⟨.inr ⟨_, _, _, by rw [e1, ea], rfl⟩, hne b hl hb⟩, hg.cell (a := ⟨b, o + j, none⟩) hcell (fun e => hb e.symm)⟩
theorem Build.weaken {P Q : Nat → Prop} {w : World} {base : Nat} {v : Value} {ls : List Ln} (h : Build P w base v ls) (hP : ∀ b, b < w.heap.size → P b → Q b) : Build Q w base v ls := by
  obtain ⟨cs, h1, h2, h3⟩ := h
  exact ⟨cs, h1, h2, fun i l c hi hc => (h3 i l c hi hc).mono fun b hl hb => ⟨⟨hP b hl hb.1, hb.2⟩, fun o x hx => hx⟩⟩
theorem Build.lines {P : Nat → Prop} {w : World} {base : Nat} {v : Value} {ls : List Ln} (h : Build P w base v ls) : ∃ a c, v = .slice a ls.length c ∧ ls.length ≤ c ∧ Lines w v ls ∧ Lines w (.slice a ls.length ls.length) ls := by
  obtain ⟨cs, h1, h2, h3⟩ := h
  obtain ⟨a, c, rfl, hcells⟩ := row_form (Row_of_owns h2)
  have hl := owns_cap h2
  have hk : ∀ i l, ls[i]? = some l → ∃ b o wv, a = some ⟨b, o, none⟩ ∧ w.cell? ⟨b, o + 2 * i, none⟩ = some (.int .i64 l.1) ∧ w.cell? ⟨b, o + 2 * i + 1, none⟩ = some wv ∧ Words w wv l.2 := fun i l hi => by
    obtain ⟨cv, hc, k1, k2⟩ := flat_get ls cs i l h1 hi
    obtain ⟨g, e1, e2, _⟩ := hcells _ _ k1
    obtain ⟨g', e3, e4, _⟩ := hcells _ _ k2
    subst e1; cases e3
    exact ⟨g, 0, cv, rfl, by rw [Nat.zero_add]; exact e2, by rw [Nat.zero_add]; exact e4, (h3 i l cv hi hc).mono fun b _ _ => ⟨trivial, fun o x hx => hx⟩⟩
  exact ⟨a, c, rfl, hl, ⟨a, c, rfl, hl, hk⟩, ⟨a, ls.length, rfl, Nat.le_refl _, hk⟩⟩

set_option maxHeartbeats 400000 in
theorem clipS_any (a : Option Addr) (n c : Nat) (w : World) (h : n ≤ c) (hc : n ≤ 4096) :
    Calls Tryz.prog 24 #[.slice a n c] w fun e w' => e = .returned (.slice a n n) ∧ w' = w := by
  go_enter Tryz.func24, Tryz.ntmps24
  go_wp2_with fail
  go_ret
  exact ⟨rfl, rfl⟩
set_option maxHeartbeats 400000 in
theorem clipL_any (a : Option Addr) (n c : Nat) (w : World) (h : n ≤ c) (hc : n ≤ 8192) :
    Calls Tryz.prog 25 #[.slice a n c] w fun e w' => e = .returned (.slice a n n) ∧ w' = w := by
  go_enter Tryz.func25, Tryz.ntmps25
  go_wp2_with fail
  go_ret
  exact ⟨rfl, rfl⟩

def badZ (r : Int) : Bool := (r != 10) && (decide (r < 32) || decide (126 < r))
set_option maxHeartbeats 400000 in
theorem bad_any (r : Int) (w : World) :
    Calls Tryz.prog 19 #[.int .i32 r] w fun e w' => e = .returned (.bool (badZ r)) ∧ w' = w := by
  cases h0 : (r != 10) with
  | false =>
    have hv : Hid (badZ r = false) := Lib.hid (by unfold badZ; rw [h0]; rfl)
    go_enter Tryz.func19, Tryz.ntmps19
    go_wp2_with fail
    go_ret
    exact ⟨by rw [hv.out]; rfl, rfl⟩
  | true =>
    by_cases h1 : r < 32
    · have d1 : decide (r < 32) = true := by simpa using h1
      have hv : Hid (badZ r = true) := Lib.hid (by unfold badZ; rw [h0, d1]; rfl)
      go_enter Tryz.func19, Tryz.ntmps19
      go_wp2_with fail
      go_ret
      exact ⟨by rw [hv.out]; rfl, rfl⟩
    · have d1 : decide (r < 32) = false := by simpa using h1
      by_cases h2 : 126 < r
      · have d2 : decide (126 < r) = true := by simpa using h2
        have hv : Hid (badZ r = true) := Lib.hid (by unfold badZ; rw [h0, d1, d2]; rfl)
        go_enter Tryz.func19, Tryz.ntmps19
        go_wp2_with fail
        go_ret
        exact ⟨by rw [hv.out]; rfl, rfl⟩
      · have d2 : decide (126 < r) = false := by simpa using h2
        have hv : Hid (badZ r = false) := Lib.hid (by unfold badZ; rw [h0, d1, d2]; rfl)
        go_enter Tryz.func19, Tryz.ntmps19
        go_wp2_with fail
        go_ret
        exact ⟨by rw [hv.out]; rfl, rfl⟩
theorem get_at (s : ByteArray) (i : Nat) (h : i < s.size) : s.get! (i + 0) = s[i] := by
  show s.data[i]! = s.data[i]
  rw [getElem!_pos s.data i h]
theorem decode_lo (s : ByteArray) (i : Nat) (h : i < s.size) (hb : s[i].toNat < 128) : Utf8.decode s i = (s[i].toNat, 1) := by
  unfold Utf8.decode
  simp only [get_at s i h]
  rw [if_pos hb]
theorem decode_hi (s : ByteArray) (i : Nat) (h : i < s.size) (hb : ¬ s[i].toNat < 128) : 128 ≤ (Utf8.decode s i).1 := by
  unfold Utf8.decode
  simp only [get_at s i h]
  rw [if_neg hb]
  have he : 128 ≤ Utf8.runeError := by decide
  split
  · split
    · rename_i hc; exact hc
    · exact he
  · split
    · split
      · rename_i hc
        simp only [Bool.and_eq_true, decide_eq_true_iff] at hc
        show 128 ≤ _
        have := hc.1
        omega
      · exact he
    · split
      · split
        · rename_i hc
          simp only [Bool.and_eq_true, decide_eq_true_iff] at hc
          show 128 ≤ _
          have := hc.1
          omega
        · exact he
      · exact he
theorem badZ_byte {b : UInt8} (h : b.toNat < 128) : badZ (b.toNat : Nat) = badB b := by
  unfold badZ badB
  have e : (((b.toNat : Nat) : Int) != 10) = (b != 10) := by
    rw [Bool.eq_iff_iff, bne_iff_ne, bne_iff_ne]
    constructor
    · intro h e; subst e; exact h rfl
    · intro h e; exact h (UInt8.toNat_inj.1 (by have : (10 : UInt8).toNat = 10 := rfl; omega))
  have e1 : decide (((b.toNat : Nat) : Int) < 32) = decide (b.toNat < 32) := by rw [Bool.eq_iff_iff, decide_eq_true_iff, decide_eq_true_iff]; omega
  have e2 : decide (126 < ((b.toNat : Nat) : Int)) = decide (126 < b.toNat) := by rw [Bool.eq_iff_iff, decide_eq_true_iff, decide_eq_true_iff]; omega
  rw [e, e1, e2]
theorem badZ_high {n : Nat} (h : 128 ≤ n) : badZ (n : Int) = true := by
  unfold badZ
  have e : ((n : Int) != 10) = true := by rw [bne_iff_ne]; omega
  rw [e, decide_eq_true (by omega : (126 : Int) < n)]; simp
theorem badB_high {b : UInt8} (h : 128 ≤ b.toNat) : badB b = true := by
  unfold badB
  have e : (b != 10) = true := by rw [bne_iff_ne]; rintro rfl; exact absurd h (by decide)
  rw [e, decide_eq_true (by omega : 126 < b.toNat)]; simp
theorem idx_from (s : ByteArray) : ∀ (f pos : Nat), s.size ≤ pos + f → Lib.idxFuncFrom (fun r => badZ r) true s f pos = match firstBad (s.data.toList.drop pos) with | some i => ((pos + i : Nat) : Int) | none => -1
  | 0, pos, h => by
    rw [List.drop_of_length_le (by simp; omega)]; rfl
  | f + 1, pos, h => by
    rw [Lib.idxFuncFrom]
    by_cases hlt : pos < s.size
    · rw [if_pos hlt]
      have hd : s.data.toList.drop pos = s[pos] :: s.data.toList.drop (pos + 1) := by
        rw [List.drop_eq_getElem_cons (by simpa using hlt)]; simp; rfl
      rw [hd, firstBad]
      by_cases h128 : s[pos].toNat < 128
      · rw [decode_lo s pos hlt h128]
        simp only
        rw [badZ_byte h128]
        cases hb : badB s[pos]
        · simp only [Bool.false_eq_true, if_false]
          rw [idx_from s f (pos + 1) (by omega)]
          cases firstBad (s.data.toList.drop (pos + 1)) with
          | none => rfl
          | some j => simp only [Option.map_some]; congr 1; omega
        · simp
      · have := decode_hi s pos hlt h128
        rw [if_pos (badZ_high this), badB_high (by omega)]
        simp
    · rw [if_neg hlt, List.drop_of_length_le (by simp; omega)]; rfl
/-- The first byte that may not stand, by runes. -/
theorem idx_bad (s : ByteArray) : Lib.idxFunc (fun r => badZ r) true s = match firstBad s.data.toList with | some i => (i : Int) | none => -1 := by
  unfold Lib.idxFunc
  rw [idx_from s s.size 0 (by omega), List.drop_zero]
  cases firstBad s.data.toList <;> simp
theorem index_bad (s : ByteArray) (w : World) :
    Calls Tryz.prog 18 #[.string s, .func (.func 19) #[] #[]] w fun e w' => e = .returned (.int .i64 (match firstBad s.data.toList with | some i => (i : Int) | none => -1)) ∧ Below w.heap.size w w' := by
  rw [← idx_bad]
  exact Tryz.strings_IndexFunc 19 #[] (fun args w => by kernel_rfl) (fun r => badZ r) s w (fun W x _ => (bad_any x W).mono fun e w' ⟨he, hw⟩ => ⟨he, 0, hw⟩)
end Go.Proofs.YtfiddoibnjildaaGreatDoor
