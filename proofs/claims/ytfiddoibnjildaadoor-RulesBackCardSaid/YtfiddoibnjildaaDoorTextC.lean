/- The walk of the reference's Lines of layer 11. Printed by gen_textc.py. -/
import Derived.Test.YtfiddoibnjildaaDoorTextB
namespace Go.Proofs.YtfiddoibnjildaaDoor
set_option linter.unusedSimpArgs false
set_option linter.unusedVariables false
open Go Go.RowKit

theorem firstBad_app : ∀ (p r : List UInt8) (b : UInt8), (∀ x ∈ p, badB x = false) → badB b = true → firstBad (p ++ b :: r) = some p.length
  | [], r, b, _, hb => by simp [firstBad, hb]
  | x :: p, r, b, h, hb => by
    rw [List.cons_append, firstBad, h x (by simp), firstBad_app p r b (fun y hy => h y (by simp [hy])) hb]
    simp
theorem drop_at {s : ByteArray} {i : Nat} (h : i < s.size) : s.data.toList.drop i = s[i] :: s.data.toList.drop (i + 1) := by
  rw [List.drop_eq_getElem_cons (by simpa using h)]; simp; rfl
theorem firstBad_at {s : ByteArray} {k : Nat} (hk : k < s.size) (h : ∀ b ∈ s.data.toList.take k, badB b = false) (hb : badB s[k] = true) : firstBad s.data.toList = some k := by
  have hd : s.data.toList = s.data.toList.take k ++ s[k] :: s.data.toList.drop (k + 1) := by rw [← drop_at hk, List.take_append_drop]
  have hl : (s.data.toList.take k).length = k := by rw [List.length_take]; simp; omega
  rw [hd, firstBad_app _ _ _ h hb, hl]
theorem take_ok {s : ByteArray} {k : Nat} (hk : k < s.size) (h : ∀ b ∈ s.data.toList.take k, badB b = false) (hb : badB s[k] = false) : ∀ b ∈ s.data.toList.take (k + 1), badB b = false := by
  have : s.data.toList.take (k + 1) = s.data.toList.take k ++ [s[k]] := by rw [List.take_succ_eq_append_getElem (by simpa using hk)]; rfl
  rw [this]
  intro c hc
  rw [List.mem_append, List.mem_singleton] at hc
  rcases hc with hc | rfl
  · exact h c hc
  · exact hb
theorem count_snoc {s : ByteArray} {k : Nat} (hk : k < s.size) : Lib.countByte (s.data.toList.take (k + 1)) 10 = Lib.countByte (s.data.toList.take k) 10 + (if s[k] = 10 then 1 else 0) := by
  have : s.data.toList.take (k + 1) = s.data.toList.take k ++ [s[k]] := by rw [List.take_succ_eq_append_getElem (by simpa using hk)]; rfl
  rw [this]
  unfold Lib.countByte
  rw [List.count_append, List.count_singleton]
  simp

/-- How far the reference's second loop is. -/
structure RS (s : ByteArray) (i nn : Nat) (words : List (List UInt8)) (cur : List UInt8) (off : Bool) (done : List Ln) (fr : Int) : Prop where
  le : i ≤ s.size
  out : linesOf s.data.toList = done ++ mach nn words cur off (s.data.toList.drop i)
  cur : (fr = -1 ∧ cur = []) ∨ (off = false ∧ cur ≠ [] ∧ ∃ f : Nat, fr = f ∧ f < i ∧ cur = (s.extract f i).data.toList)
theorem RS.start {s : ByteArray} (h : firstBad s.data.toList = none) : RS s 0 1 [] [] false [] (-1) :=
  ⟨Nat.zero_le _, by rw [List.drop_zero, mach_lines _ _ 1 (Nat.le_refl _) (fun b hb => firstBad_none.1 h b hb)]; rfl, .inl ⟨rfl, rfl⟩⟩
theorem RS.last {s : ByteArray} {nn : Nat} {words : List (List UInt8)} {cur : List UInt8} {off : Bool} {done : List Ln} {fr : Int} (h : RS s s.size nn words cur off done fr) : linesOf s.data.toList = done ++ put nn (endW words cur) [] := by
  rw [h.out, List.drop_of_length_le (by simp)]; rfl
theorem RS.nl {s : ByteArray} {i nn : Nat} {words : List (List UInt8)} {cur : List UInt8} {off : Bool} {done : List Ln} {fr : Int} (h : RS s i nn words cur off done fr) (hi : i < s.size) (hb : s[i] = 10) : RS s (i + 1) (nn + 1) [] [] false (done ++ put nn (endW words cur) []) (-1) := by
  refine ⟨hi, ?_, .inl ⟨rfl, rfl⟩⟩
  rw [h.out, drop_at hi, hb]
  simp only [mach, if_true]
  unfold put
  split <;> simp
theorem RS.blank {s : ByteArray} {i nn : Nat} {words : List (List UInt8)} {cur : List UInt8} {off : Bool} {done : List Ln} {fr : Int} (h : RS s i nn words cur off done fr) (hi : i < s.size) (hb : s[i] = 32) : RS s (i + 1) nn (endW words cur) [] off done (-1) := by
  refine ⟨hi, ?_, .inl ⟨rfl, rfl⟩⟩
  rw [h.out, drop_at hi, hb]
  simp only [mach]
  rw [if_neg (by decide), if_pos trivial]
theorem RS.hash {s : ByteArray} {i nn : Nat} {words : List (List UInt8)} {cur : List UInt8} {off : Bool} {done : List Ln} {fr : Int} (h : RS s i nn words cur off done fr) (hi : i < s.size) (hb : s[i] = 35) : RS s (i + 1) nn (endW words cur) [] true done (-1) := by
  refine ⟨hi, ?_, .inl ⟨rfl, rfl⟩⟩
  rw [h.out, drop_at hi, hb]
  simp only [mach]
  rw [if_neg (by decide), if_neg (by decide), if_pos trivial]
theorem RS.skip {s : ByteArray} {i nn : Nat} {words : List (List UInt8)} {done : List Ln} {fr : Int} (h : RS s i nn words [] true done fr) (hi : i < s.size) (h1 : s[i] ≠ 10) (h2 : s[i] ≠ 32) (h3 : s[i] ≠ 35) : RS s (i + 1) nn words [] true done fr := by
  refine ⟨hi, ?_, ?_⟩
  · rw [h.out, drop_at hi]
    simp only [mach]
    rw [if_neg h1, if_neg h2, if_neg h3]; rfl
  · rcases h.cur with h | ⟨_, h, _⟩
    · exact .inl h
    · exact absurd rfl h
theorem extract_snoc {s : ByteArray} {f i : Nat} (hf : f ≤ i) (hi : i < s.size) : (s.extract f (i + 1)).data.toList = (s.extract f i).data.toList ++ [s[i]] := by
  rw [Lib.extract_data, Lib.extract_data, show i + 1 - f = (i - f) + 1 by omega, List.take_add_one, List.getElem?_drop, show f + (i - f) = i by omega]
  have : s.data.toList[i]? = some s[i] := by rw [List.getElem?_eq_getElem (by simpa using hi)]; simp; rfl
  rw [this]; rfl
theorem RS.first {s : ByteArray} {i nn : Nat} {words : List (List UInt8)} {done : List Ln} {fr : Int} (h : RS s i nn words [] false done fr) (hi : i < s.size) (h1 : s[i] ≠ 10) (h2 : s[i] ≠ 32) (h3 : s[i] ≠ 35) : RS s (i + 1) nn words [s[i]] false done i := by
  refine ⟨hi, ?_, .inr ⟨rfl, by simp, i, rfl, by omega, ?_⟩⟩
  · rw [h.out, drop_at hi]
    simp only [mach]
    rw [if_neg h1, if_neg h2, if_neg h3]; rfl
  · rw [extract_snoc (Nat.le_refl _) hi, Lib.extract_data]; simp
theorem RS.more {s : ByteArray} {i nn : Nat} {words : List (List UInt8)} {cur : List UInt8} {done : List Ln} {f : Nat} (h : RS s i nn words cur false done f) (hc : cur ≠ []) (hi : i < s.size) (h1 : s[i] ≠ 10) (h2 : s[i] ≠ 32) (h3 : s[i] ≠ 35) : RS s (i + 1) nn words (cur ++ [s[i]]) false done f := by
  refine ⟨hi, ?_, ?_⟩
  · rw [h.out, drop_at hi]
    simp only [mach]
    rw [if_neg h1, if_neg h2, if_neg h3]; rfl
  · rcases h.cur with ⟨_, h⟩ | ⟨_, _, f', e, hf, hcur⟩
    · exact absurd h hc
    · have e' : f = f' := by omega
      subst e'
      exact .inr ⟨rfl, by simp, f, rfl, by omega, by rw [extract_snoc (by omega) hi, ← hcur]⟩

theorem word_step {w1 w2 : World} {base : Nat} {v7 v8 v8' : Value} {done : List Ln} (hbd : Build (fun b => v8.ownBlock ≠ some b) w1 base v7 done) (hsep : ∀ b, v8.ownBlock = some b → v7.ownBlock ≠ some b)
    (hg : w1.grownBy w2 v8.ownBlock) (hloc : v8'.ownBlock = v8.ownBlock ∨ v8'.ownBlock = some w1.heap.size) : Build (fun b => v8'.ownBlock ≠ some b) w2 base v7 done ∧ (∀ b, v8'.ownBlock = some b → v7.ownBlock ≠ some b) := by
  obtain ⟨cs, _, ho, _⟩ := id hbd
  have hlt := owns_lt ho
  constructor
  · refine hbd.keep hg ?_ fun b hb hp => ⟨?_, fun e => hp e.symm⟩
    · cases h7 : v7.ownBlock with
      | none => exact .inl rfl
      | some b => exact .inr (fun e => hsep b e.symm (by rw [h7]))
    · rcases hloc with h | h
      · rw [h]; exact hp
      · rw [h]; intro e; injection e with e; omega
  · intro b hb e
    rcases hloc with h | h
    · rw [h] at hb; exact hsep b hb e
    · rw [h] at hb; injection hb with hb; have := hlt b e; omega
theorem words_of_owns {P : Nat → Prop} {w : World} {base : Nat} {v : Value} {ws : List (List UInt8)} (h : w.ownsRow base 9 1 v ws.length (ws.map str)) (hP : ∀ b, v.ownBlock = some b → P b) : WordsIn P w v ws := by
  obtain ⟨a, c, rfl, hc⟩ := row_form (Row_of_owns h)
  refine ⟨a, c, rfl, owns_cap h, fun j x hj => ?_⟩
  obtain ⟨g, rfl, hcell, _⟩ := hc j (str x) (by rw [List.getElem?_map, hj]; rfl)
  exact ⟨g, 0, rfl, hP g rfl, by rw [Nat.zero_add]; exact hcell⟩
theorem ownBlock_fresh {n b : Nat} (h : (Value.slice (some ⟨n, 0, none⟩) 0 0).ownBlock = some b) : b = n := by cases h; rfl
/-- A line is put behind the others, and new words begin. -/
theorem line_step {w1 w2 : World} {base : Nat} {v7' : Value} {done : List Ln} (hbd : Build (fun _ => True) w1 base v7' done) (T : TypeId) (h2 : w2 = w1.alloc (.cells #[] T)) :
    Build (fun b => (Value.slice (some ⟨w1.heap.size, 0, none⟩) 0 0).ownBlock ≠ some b) w2 base v7' done ∧ (∀ b, (Value.slice (some ⟨w1.heap.size, 0, none⟩) 0 0).ownBlock = some b → v7'.ownBlock ≠ some b) := by
  subst h2
  obtain ⟨cs, _, ho, _⟩ := id hbd
  have hlt := owns_lt ho
  refine ⟨?_, fun b hb e => by have h1 := hlt _ e; have h2 := ownBlock_fresh hb; omega⟩
  have h3 := hbd.weaken (Q := fun b => b < w1.heap.size) fun b hb _ => hb
  exact (h3.below ((Below.refl _ _).alloc (Nat.le_refl _) _)).weaken fun b _ hb e => by have := ownBlock_fresh e; omega
theorem owns_fresh (w : World) (base : Nat) (e : TypeId) (size : Nat) (hb : base ≤ w.heap.size) : (w.alloc (.cells #[] e)).ownsRow base e size (.slice (some ⟨w.heap.size, 0, none⟩) 0 0) 0 [] :=
  ⟨by simp, .inr ⟨w.heap.size, 0, #[], rfl, hb, by unfold World.alloc; simp, Nat.le_refl _, Nat.zero_le _, by simp, by simp⟩⟩
theorem build_fresh (P : Nat → Prop) (w : World) (base : Nat) (hb : base ≤ w.heap.size) : Build P (w.alloc (.cells #[] 63)) base (.slice (some ⟨w.heap.size, 0, none⟩) 0 0) [] :=
  ⟨[], rfl, owns_fresh w base _ 2 hb, fun i l c hi => by simp at hi⟩
theorem byte_ne {b : UInt8} {k : Nat} {c : UInt8} (h : b ≠ c) (hk : c.toNat = k := by rfl) : ((b.toNat : Int) == (k : Int)) = false := by
  rw [beq_eq_false_iff_ne]; intro e; exact h (UInt8.toNat_inj.1 (by omega))

end Go.Proofs.YtfiddoibnjildaaDoor
