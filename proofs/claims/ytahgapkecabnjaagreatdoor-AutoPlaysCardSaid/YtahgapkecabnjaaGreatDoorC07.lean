/- The walks of addr's Parse and Net. -/
import Derived.Test.YtahgapkecabnjaaGreatDoorC06
import Derived.Maps.AppendAt
import Derived.Test.YtahgapkecabnjaaGreatDoorC03
import Derived.Test.YtahgapkecabnjaaGreatDoorC04
import Derived.Maps.RangeRun
import Derived.LoopN
import Derived.Laws.IdiomRangeMap
namespace Go.Proofs.YtahgapkecabnjaaGreatDoor
set_option linter.unusedSimpArgs false
set_option linter.unusedVariables false
open Go Go.RowKit

theorem pieces_count (c : UInt8) : ∀ (n : Nat) (l : List UInt8), l.length ≤ n → (pieces c l).length = Lib.count l [c] + 1
  | n, l, hl => by
    rcases first_of c l with h | ⟨p, r, rfl, hp⟩
    · rw [Lib.count_miss (index_one_none h), pieces_none h]; rfl
    · have hi := index_one_at r hp
      have hc := Lib.count_hit (s := p ++ c :: r) (sub := [c]) (by simp) hi
      simp only [List.length_singleton] at hc
      rw [show (p ++ c :: r).drop (p.length + 1) = r by simp [← List.drop_drop]] at hc
      cases n with
      | zero => simp at hl
      | succ n =>
        have ih := pieces_count c n r (by simp at hl; omega)
        rw [pieces_at _ hp, hc, List.length_cons, ih]; omega
theorem pieces_len (c : UInt8) : ∀ (l : List UInt8), ∀ q ∈ pieces c l, q.length ≤ l.length
  | [], q, hq => by simp [pieces] at hq; subst hq; simp
  | x :: r, q, hq => by
    rw [pieces] at hq
    split at hq
    · rw [List.mem_cons] at hq
      rcases hq with rfl | hq
      · simp
      · have := pieces_len c r q hq; simp; omega
    · split at hq
      · simp at hq; subst hq; simp
      · rename_i p0 t he
        rw [List.mem_cons] at hq
        rcases hq with rfl | hq
        · have := pieces_len c r p0 (by rw [he]; simp); simp; omega
        · have := pieces_len c r q (by rw [he]; simp [hq]); simp; omega
theorem below_drewN (w : World) (n : Nat) : Below w.heap.size w (w.drewN n) := ⟨rfl, rfl, rfl, Nat.le_refl _, fun _ _ => rfl⟩
theorem bor_low (a v : Nat) (ha : a < 4294967296) (hv : v < 256) : bits .or .u32 ((a : Int) * 256 % 4294967296) (v : Int) = (((a * 256 + v) % 4294967296 : Nat) : Int) := by
  have e1 : ((a : Int) * 256 % 4294967296) = ((a * 256 % 4294967296 : Nat) : Int) := by omega
  rw [e1, u32_or_nat _ _ (by omega) (by omega)]
  congr 1
  have e2 : a * 256 % 4294967296 = 2 ^ 8 * (a * 256 % 4294967296 / 256) := by omega
  rw [e2, ← Nat.two_pow_add_eq_or_of_lt (by omega : v < 2 ^ 8)]
  omega

theorem atoiV_num {l : List UInt8} {most : Nat} (hm : most < 9223372036854775808) (h : isNum l most = true) : atoiV l = valOf l := by
  unfold atoiV; rw [(isNum_atoi hm h).1]

theorem cut_len (l : List UInt8) (c : UInt8) : (Lib.cut l [c]).1.length ≤ l.length ∧ (Lib.cut l [c]).2.1.length ≤ l.length := by
  rcases first_of c l with h | ⟨p, r, rfl, hp⟩
  · rw [cut_none h]; simp
  · rw [cut_at hp]; simp; omega

end Go.Proofs.YtahgapkecabnjaaGreatDoor
/- The walk of text.Lines. -/
namespace Go.Proofs.YtahgapkecabnjaaGreatDoor
set_option linter.unusedSimpArgs false
set_option linter.unusedVariables false
open Go Go.RowKit

/-- The tables that Lines reads. -/
structure TabsT (w : World) : Prop where
  tabs : Tabs w
  sp : Lib.TabIs Tryz.prog w "strings.asciiSpace" .u8 Lib.asciiSpaceTab
theorem TabsT.below {w w' : World} (h : TabsT w) (hb : Below w.heap.size w w') : TabsT w' := ⟨h.tabs.below hb, var_keep h.sp hb⟩

def LinesPost (q : List Ln × Nat × Int) (w : World) (e : Ending) (w' : World) : Prop := ∃ v, e = .returned (.tuple #[v, .int .i64 q.2.1, .int .i64 q.2.2]) ∧ Lines w' v q.1 ∧ Below w.heap.size w w'
theorem lines_end {q : List Ln × Nat × Int} {w w' : World} {v : Value} {a b : Int} (h1 : (q.2.1 : Int) = a) (h2 : q.2.2 = b) (hl : Lines w' v q.1) (hb : Below w.heap.size w w') : LinesPost q w (.returned (.tuple #[v, .int .i64 a, .int .i64 b])) w' := by
  subst h1 h2; exact ⟨v, rfl, hl, hb⟩
theorem lines_nil (w : World) : Lines w (.slice none 0 0) [] := ⟨none, 0, rfl, Nat.le_refl _, fun i l hi => by simp at hi⟩

theorem linesGo_snoc : ∀ (ps : List (List UInt8)) (n : Nat) (p : List UInt8), linesGo n (ps ++ [p]) = linesGo n ps ++ (if wordsOf p = [] then [] else [(n + ps.length, wordsOf p)])
  | [], n, p => by simp [linesGo]
  | q :: r, n, p => by
    rw [List.cons_append, linesGo, linesGo, linesGo_snoc r (n + 1) p]
    split <;> simp [show n + 1 + r.length = n + (r.length + 1) by omega]
theorem linesGo_len : ∀ (ps : List (List UInt8)) (n : Nat), (linesGo n ps).length ≤ ps.length
  | [], n => by simp [linesGo]
  | q :: r, n => by
    have := linesGo_len r (n + 1)
    rw [linesGo]; split <;> simp <;> omega
theorem wordsOf_count {p : List UInt8} (h : ∀ b ∈ p, okB b) (h10 : (10 : UInt8) ∉ p) : (wordsOf p).length ≤ p.length := by
  have h1 := wordsOf_len p
  have h2 := wordsOf_ok h h10
  have : ∀ ws : List (List UInt8), (∀ w ∈ ws, okW w) → ws.length ≤ (Lib.join ws [32]).length := by
    intro ws
    induction ws with
    | nil => intro _; simp
    | cons w r ih =>
      intro hw
      have hw1 := (hw w (by simp)).1
      have hl : 1 ≤ w.length := by cases w with | nil => exact absurd rfl hw1 | cons => simp
      have := ih (fun x hx => hw x (by simp [hx]))
      rw [Lib.join_cons]
      cases r with
      | nil => simp [Lib.joinTail]; omega
      | cons v t =>
        rw [Lib.join_cons] at this
        simp [Lib.joinTail] at this ⊢
        omega
  have := this _ h2
  omega
theorem pieces_ok {l : List UInt8} (h : firstBad l = none) : ∀ p ∈ pieces 10 l, (∀ b ∈ p, okB b) ∧ (10 : UInt8) ∉ p := by
  intro p hp
  refine ⟨fun b hb => firstBad_none.1 h b ?_, pieces_clean p hp⟩
  have : ∀ (l : List UInt8) (p : List UInt8), p ∈ pieces 10 l → ∀ b ∈ p, b ∈ l := by
    intro l
    induction l with
    | nil => intro p hp b hb; simp [pieces] at hp; subst hp; simp at hb
    | cons x r ih =>
      intro p hp b hb
      rw [pieces] at hp
      split at hp
      · rw [List.mem_cons] at hp
        rcases hp with rfl | hp
        · simp at hb
        · simp [ih p hp b hb]
      · split at hp
        · simp at hp; subst hp; simp at hb; simp [hb]
        · rename_i q t he
          rw [List.mem_cons] at hp
          rcases hp with rfl | hp
          · rw [List.mem_cons] at hb
            rcases hb with rfl | hb
            · simp
            · simp [ih q (by rw [he]; simp) b hb]
          · simp [ih p (by rw [he]; simp [hp]) b hb]
  exact this l p hp b hb

end Go.Proofs.YtahgapkecabnjaaGreatDoor
/- The walk of the reference's Lines of layer 11. Printed by gen_textc.py. -/
namespace Go.Proofs.YtahgapkecabnjaaGreatDoor
set_option linter.unusedSimpArgs false
set_option linter.unusedVariables false
open Go Go.RowKit

theorem firstBad_app : ∀ (p r : List UInt8) (b : UInt8), (∀ x ∈ p, badB x = false) → badB b = true → firstBad (p ++ b :: r) = some p.length
  | [], r, b, _, hb => by simp [firstBad, hb]
  | x :: p, r, b, h, hb => by
    rw [List.cons_append, firstBad, h x (by simp), firstBad_app p r b (fun y hy => h y (by simp [hy])) hb]
    simp
theorem drop_at {s : ByteArray} {i : Nat} (h : i < s.size) : s.data.toList.drop i = s[i] :: s.data.toList.drop (i + 1) := by
  rw [List.drop_eq_getElem_cons (by simpa using h)]; simp; rfl
theorem firstBad_at {s : ByteArray} {k : Nat} (hk : k < s.size) (h : ∀ b ∈ s.data.toList.take k, badB b = false) (hb : badB s[k] = true) : firstBad s.data.toList = some k := by
  have hd : s.data.toList = s.data.toList.take k ++ s[k] :: s.data.toList.drop (k + 1) := by rw [← drop_at hk, List.take_append_drop]
  have hl : (s.data.toList.take k).length = k := by rw [List.length_take]; simp; omega
  rw [hd, firstBad_app _ _ _ h hb, hl]
theorem take_ok {s : ByteArray} {k : Nat} (hk : k < s.size) (h : ∀ b ∈ s.data.toList.take k, badB b = false) (hb : badB s[k] = false) : ∀ b ∈ s.data.toList.take (k + 1), badB b = false := by
  have : s.data.toList.take (k + 1) = s.data.toList.take k ++ [s[k]] := by rw [List.take_succ_eq_append_getElem (by simpa using hk)]; rfl
  rw [this]
  intro c hc
  rw [List.mem_append, List.mem_singleton] at hc
  rcases hc with hc | rfl
  · exact h c hc
  · exact hb
theorem count_snoc {s : ByteArray} {k : Nat} (hk : k < s.size) : Lib.countByte (s.data.toList.take (k + 1)) 10 = Lib.countByte (s.data.toList.take k) 10 + (if s[k] = 10 then 1 else 0) := by
  have : s.data.toList.take (k + 1) = s.data.toList.take k ++ [s[k]] := by rw [List.take_succ_eq_append_getElem (by simpa using hk)]; rfl
  rw [this]
  unfold Lib.countByte
  rw [List.count_append, List.count_singleton]
  simp

/-- How far the reference's second loop is. -/
structure RS (s : ByteArray) (i nn : Nat) (words : List (List UInt8)) (cur : List UInt8) (off : Bool) (done : List Ln) (fr : Int) : Prop where
  le : i ≤ s.size
  out : linesOf s.data.toList = done ++ mach nn words cur off (s.data.toList.drop i)
  cur : (fr = -1 ∧ cur = []) ∨ (off = false ∧ cur ≠ [] ∧ ∃ f : Nat, fr = f ∧ f < i ∧ cur = (s.extract f i).data.toList)
theorem RS.start {s : ByteArray} (h : firstBad s.data.toList = none) : RS s 0 1 [] [] false [] (-1) :=
  ⟨Nat.zero_le _, by rw [List.drop_zero, mach_lines _ _ 1 (Nat.le_refl _) (fun b hb => firstBad_none.1 h b hb)]; rfl, .inl ⟨rfl, rfl⟩⟩
theorem RS.last {s : ByteArray} {nn : Nat} {words : List (List UInt8)} {cur : List UInt8} {off : Bool} {done : List Ln} {fr : Int} (h : RS s s.size nn words cur off done fr) : linesOf s.data.toList = done ++ put nn (endW words cur) [] := by
  rw [h.out, List.drop_of_length_le (by simp)]; rfl
theorem RS.nl {s : ByteArray} {i nn : Nat} {words : List (List UInt8)} {cur : List UInt8} {off : Bool} {done : List Ln} {fr : Int} (h : RS s i nn words cur off done fr) (hi : i < s.size) (hb : s[i] = 10) : RS s (i + 1) (nn + 1) [] [] false (done ++ put nn (endW words cur) []) (-1) := by
  refine ⟨hi, ?_, .inl ⟨rfl, rfl⟩⟩
  rw [h.out, drop_at hi, hb]
  simp only [mach, if_true]
  unfold put
  split <;> simp
theorem RS.blank {s : ByteArray} {i nn : Nat} {words : List (List UInt8)} {cur : List UInt8} {off : Bool} {done : List Ln} {fr : Int} (h : RS s i nn words cur off done fr) (hi : i < s.size) (hb : s[i] = 32) : RS s (i + 1) nn (endW words cur) [] off done (-1) := by
  refine ⟨hi, ?_, .inl ⟨rfl, rfl⟩⟩
  rw [h.out, drop_at hi, hb]
  simp only [mach]
  rw [if_neg (by decide), if_pos trivial]
theorem RS.hash {s : ByteArray} {i nn : Nat} {words : List (List UInt8)} {cur : List UInt8} {off : Bool} {done : List Ln} {fr : Int} (h : RS s i nn words cur off done fr) (hi : i < s.size) (hb : s[i] = 35) : RS s (i + 1) nn (endW words cur) [] true done (-1) := by
  refine ⟨hi, ?_, .inl ⟨rfl, rfl⟩⟩
  rw [h.out, drop_at hi, hb]
  simp only [mach]
  rw [if_neg (by decide), if_neg (by decide), if_pos trivial]
theorem RS.skip {s : ByteArray} {i nn : Nat} {words : List (List UInt8)} {done : List Ln} {fr : Int} (h : RS s i nn words [] true done fr) (hi : i < s.size) (h1 : s[i] ≠ 10) (h2 : s[i] ≠ 32) (h3 : s[i] ≠ 35) : RS s (i + 1) nn words [] true done fr := by
  refine ⟨hi, ?_, ?_⟩
  · rw [h.out, drop_at hi]
    simp only [mach]
    rw [if_neg h1, if_neg h2, if_neg h3]; rfl
  · rcases h.cur with h | ⟨_, h, _⟩
    · exact .inl h
    · exact absurd rfl h
theorem extract_snoc {s : ByteArray} {f i : Nat} (hf : f ≤ i) (hi : i < s.size) : (s.extract f (i + 1)).data.toList = (s.extract f i).data.toList ++ [s[i]] := by
  rw [Lib.extract_data, Lib.extract_data, show i + 1 - f = (i - f) + 1 by omega, List.take_add_one, List.getElem?_drop, show f + (i - f) = i by omega]
  have : s.data.toList[i]? = some s[i] := by rw [List.getElem?_eq_getElem (by simpa using hi)]; simp; rfl
  rw [this]; rfl
theorem RS.first {s : ByteArray} {i nn : Nat} {words : List (List UInt8)} {done : List Ln} {fr : Int} (h : RS s i nn words [] false done fr) (hi : i < s.size) (h1 : s[i] ≠ 10) (h2 : s[i] ≠ 32) (h3 : s[i] ≠ 35) : RS s (i + 1) nn words [s[i]] false done i := by
  refine ⟨hi, ?_, .inr ⟨rfl, by simp, i, rfl, by omega, ?_⟩⟩
  · rw [h.out, drop_at hi]
    simp only [mach]
    rw [if_neg h1, if_neg h2, if_neg h3]; rfl
  · rw [extract_snoc (Nat.le_refl _) hi, Lib.extract_data]; simp
theorem RS.more {s : ByteArray} {i nn : Nat} {words : List (List UInt8)} {cur : List UInt8} {done : List Ln} {f : Nat} (h : RS s i nn words cur false done f) (hc : cur ≠ []) (hi : i < s.size) (h1 : s[i] ≠ 10) (h2 : s[i] ≠ 32) (h3 : s[i] ≠ 35) : RS s (i + 1) nn words (cur ++ [s[i]]) false done f := by
  refine ⟨hi, ?_, ?_⟩
  · rw [h.out, drop_at hi]
    simp only [mach]
    rw [if_neg h1, if_neg h2, if_neg h3]; rfl
  · rcases h.cur with ⟨_, h⟩ | ⟨_, _, f', e, hf, hcur⟩
    · exact absurd h hc
    · have e' : f = f' := by omega
      subst e'
      exact .inr ⟨rfl, by simp, f, rfl, by omega, by rw [extract_snoc (by omega) hi, ← hcur]⟩

theorem words_of_owns {P : Nat → Prop} {w : World} {base : Nat} {v : Value} {ws : List (List UInt8)} (h : w.ownsRow base 9 1 v ws.length (ws.map str)) (hP : ∀ b, v.ownBlock = some b → P b) : WordsIn P w v ws := by
  obtain ⟨a, c, rfl, hc⟩ := row_form (Row_of_owns h)
  refine ⟨a, c, rfl, owns_cap h, fun j x hj => ?_⟩
  obtain ⟨g, rfl, hcell, _⟩ := hc j (str x) (by rw [List.getElem?_map, hj]; rfl)
  exact ⟨g, 0, rfl, hP g rfl, by rw [Nat.zero_add]; exact hcell⟩
theorem ownBlock_fresh {n b : Nat} (h : (Value.slice (some ⟨n, 0, none⟩) 0 0).ownBlock = some b) : b = n := by cases h; rfl
theorem owns_fresh (w : World) (base : Nat) (e : TypeId) (size : Nat) (hb : base ≤ w.heap.size) : (w.alloc (.cells #[] e)).ownsRow base e size (.slice (some ⟨w.heap.size, 0, none⟩) 0 0) 0 [] :=
  ⟨by simp, .inr ⟨w.heap.size, 0, #[], rfl, hb, by unfold World.alloc; simp, Nat.le_refl _, Nat.zero_le _, by simp, by simp⟩⟩
theorem byte_ne {b : UInt8} {k : Nat} {c : UInt8} (h : b ≠ c) (hk : c.toNat = k := by rfl) : ((b.toNat : Int) == (k : Int)) = false := by
  rw [beq_eq_false_iff_ne]; intro e; exact h (UInt8.toNat_inj.1 (by omega))

end Go.Proofs.YtahgapkecabnjaaGreatDoor
/- The walk of the reference's Same of layer 11, where both are the same lines. Printed by gen_textd.py. -/
namespace Go.Proofs.YtahgapkecabnjaaGreatDoor
set_option linter.unusedSimpArgs false
set_option linter.unusedVariables false
open Go Go.RowKit

theorem Lines.at {w : World} {v : Value} {ls : List Ln} (h : Lines w v ls) : ∃ a c, v = .slice a ls.length c ∧ ∀ (i : Nat) (hi : i < ls.length), ∃ b o a' c', a = some ⟨b, o, none⟩ ∧ w.cell? ⟨b, o + i * 2, none⟩ = some (.int .i64 ls[i].1) ∧
    w.cell? ⟨b, o + i * 2 + 1, none⟩ = some (.slice a' ls[i].2.length c') ∧ ∀ (j : Nat) (hj : j < ls[i].2.length), ∃ b' o', a' = some ⟨b', o', none⟩ ∧ w.cell? ⟨b', o' + j, none⟩ = some (str ls[i].2[j]) := by
  obtain ⟨a, c, rfl, hc, h3⟩ := h
  refine ⟨a, c, rfl, fun i hi => ?_⟩
  obtain ⟨b, o, wv, rfl, k1, k2, a', c', rfl, _, k3⟩ := h3 i _ (List.getElem?_eq_getElem hi)
  refine ⟨b, o, a', c', rfl, by rw [Nat.mul_comm]; exact k1, by rw [Nat.mul_comm]; exact k2, fun j hj => ?_⟩
  obtain ⟨b', o', rfl, _, k⟩ := k3 j _ (List.getElem?_eq_getElem hj)
  exact ⟨b', o', rfl, k⟩
end Go.Proofs.YtahgapkecabnjaaGreatDoor
/- The fixed fact of the laws of text. -/
namespace Go.Proofs.YtahgapkecabnjaaGreatDoor
set_option linter.unusedSimpArgs false
set_option linter.unusedVariables false
open Go Go.RowKit

theorem linesGo_mem : ∀ (ps : List (List UInt8)) (n : Nat) (l : Ln), l ∈ linesGo n ps → l.1 < n + ps.length ∧ ∃ p ∈ ps, l.2 = wordsOf p
  | [], n, l, h => by simp [linesGo] at h
  | q :: r, n, l, h => by
    rw [linesGo] at h
    split at h
    · obtain ⟨h1, p, hp, h2⟩ := linesGo_mem r (n + 1) l h
      exact ⟨by simp; omega, p, by simp [hp], h2⟩
    · rw [List.mem_cons] at h
      rcases h with rfl | h
      · exact ⟨by simp, q, by simp, rfl⟩
      · obtain ⟨h1, p, hp, h2⟩ := linesGo_mem r (n + 1) l h
        exact ⟨by simp; omega, p, by simp [hp], h2⟩
theorem join_word : ∀ (ws : List (List UInt8)) (w : List UInt8), w ∈ ws → w.length ≤ (Lib.join ws [32]).length
  | [], w, h => by simp at h
  | v :: r, w, h => by
    rw [Lib.join_cons]
    rw [List.mem_cons] at h
    rcases h with rfl | h
    · simp
    · have := join_word r w h
      cases r with
      | nil => simp at h
      | cons u t =>
        rw [Lib.join_cons] at this
        simp [Lib.joinTail] at this ⊢
        omega
theorem lines_bound {l : List UInt8} (hl : l.length ≤ 4096) (h : firstBad l = none) : (linesOf l).length ≤ 4097 ∧ ∀ x ∈ linesOf l, x.1 ≤ 4098 ∧ x.2.length ≤ 4096 ∧ ∀ w ∈ x.2, w.length ≤ 4096 := by
  have hcnt : (pieces 10 l).length ≤ 4097 := by
    have h1 := sumLen_pieces 10 l
    have : ∀ ps : List (List UInt8), ps.length ≤ sumLen ps := by
      intro ps; induction ps with
      | nil => simp [sumLen]
      | cons p r ih => simp [sumLen] at ih ⊢; omega
    have := this (pieces 10 l)
    omega
  refine ⟨Nat.le_trans (linesGo_len _ 1) hcnt, fun x hx => ?_⟩
  obtain ⟨h1, p, hp, h2⟩ := linesGo_mem _ 1 x hx
  have hpl := pieces_len 10 l p hp
  have hok := pieces_ok h p hp
  have hwl := wordsOf_len p
  refine ⟨by omega, by rw [h2]; exact Nat.le_trans (wordsOf_count hok.1 hok.2) (by omega), fun w hw => ?_⟩
  rw [h2] at hw
  have := join_word _ w hw
  omega
theorem textF_size {l : List UInt8} {ls : List Ln} {a : Nat} {c : Int} (h : textF l = (ls, a, c)) : ls.length ≤ 8192 ∧ ∀ x ∈ ls, x.2.length ≤ 8192 := by
  unfold textF at h
  split at h
  · cases h; simp
  · rename_i hl
    cases hb : firstBad l with
    | some i => rw [hb] at h; cases h; simp
    | none =>
      rw [hb] at h; cases h
      have := lines_bound (by omega) hb
      exact ⟨by omega, fun x hx => by have := (this.2 x hx).2.1; omega⟩
def awL : List Ln := [(1, [[97], [98]]), (3, [[100]])]
theorem aw1 : textF [97, 32, 98, 32, 35, 32, 99, 10, 10, 32, 100] = (awL, 0, 0) := by decide
theorem aw2 : textF [97, 10, 98, 9, 99] = ([], 2, 3) := by decide
theorem d7 : Lib.decDigits 7 = [55] := by simp [Lib.decDigits]
theorem d70 : Lib.decDigits 70 = [55, 48] := by simp [Lib.decDigits]
theorem aw3b : isNum [55, 48] big62 = true := isNum_iff.2 ⟨70, by decide, d70.symm⟩
theorem aw3 : numT [55, 48] = 70 := by
  unfold numT; rw [aw3b, if_pos rfl, ← d70, valOf_dec]; rfl
theorem aw4b : isNum [48, 55] big62 = false := by
  rw [← Bool.not_eq_true]
  intro h
  unfold isNum at h
  rw [decide_eq_true_iff] at h
  have h2 := h.1
  rw [show valOf [48, 55] = 7 from by decide, d7] at h2
  revert h2; decide
theorem aw4 : numT [48, 55] = 0 := by
  unfold numT; rw [aw4b, if_neg (by decide)]

end Go.Proofs.YtahgapkecabnjaaGreatDoor
/- The walks of the words of protocols, of spans' texts, of ports. Printed by gen_rulea.py. -/
namespace Go.Proofs.YtahgapkecabnjaaGreatDoor
set_option linter.unusedSimpArgs false
set_option linter.unusedVariables false
open Go Go.RowKit

theorem word_ne {n k : Nat} (h : n ≠ k) : ((n : Int) == (k : Int)) = false := beq_eq_false_iff_ne.2 (by omega)
set_option maxHeartbeats 2000000 in
set_option maxRecDepth 100000 in
theorem refWord_any (n : Nat) (w : World) (hn : n < 256) :
    Calls Tryz.prog 114 #[.int .u8 n] w fun e w' => e = .returned (str (wordF n)) ∧ w' = w := by
  have HV : Hid (wordF n = if n = 0 then anyL else if n = 1 then icmpL else if n = 6 then tcpL else if n = 17 then udpL else []) := Lib.hid rfl
  by_cases h0 : n = 0
  · subst h0
    go_enter Tryz.func114, Tryz.ntmps114
    go_wp2_with fail
    go_ret
    exact ⟨rfl, rfl⟩
  have e0 := word_ne h0
  by_cases h1 : n = 1
  · subst h1
    go_enter Tryz.func114, Tryz.ntmps114
    go_wp2_with fail
    go_ret
    exact ⟨rfl, rfl⟩
  have e1 := word_ne h1
  by_cases h6 : n = 6
  · subst h6
    go_enter Tryz.func114, Tryz.ntmps114
    go_wp2_with fail
    go_ret
    exact ⟨rfl, rfl⟩
  have e6 := word_ne h6
  by_cases h17 : n = 17
  · subst h17
    go_enter Tryz.func114, Tryz.ntmps114
    go_wp2_with fail
    go_ret
    exact ⟨rfl, rfl⟩
  have e17 := word_ne h17
  have HV2 : Hid (wordF n = []) := Lib.hid (by rw [HV.out, if_neg h0, if_neg h1, if_neg h6, if_neg h17])
  simp only [Int.natCast_zero] at e0
  go_enter Tryz.func114, Tryz.ntmps114
  go_wp2_with fail
  go_ret
  exact ⟨by (rw [HV2.out]) <;> rfl, rfl⟩

theorem span_len {lo : Nat} (h : lo < 65536) : (Lib.decDigits lo).length ≤ 5 := dec_len_le 5 lo (by omega) (by omega)
theorem span_cells (w : World) (lo hi : Nat) : (w.alloc (.cells #[.int .u16 lo, .int .u16 hi] 77)).cell? ⟨w.heap.size, 0, none⟩ = some (.int .u16 lo) ∧ (w.alloc (.cells #[.int .u16 lo, .int .u16 hi] 77)).cell? ⟨w.heap.size, 1, none⟩ = some (.int .u16 hi) := ⟨by simp, by simp⟩
theorem itoa_val (n : Nat) (i : Int) (w : World) (hi : i = n) (h1 : n ≤ 9223372036854775807) (hT : Tabs w) :
    Calls Tryz.prog 118 #[.int .i64 i] w fun e w' => e = .returned (str (Lib.decDigits n)) ∧ Below w.heap.size w w' := by
  subst hi
  exact itoa_nat n w (by omega) hT
theorem numT_numV (l : List UInt8) : numT l = (numV l : Nat) ∧ isNum l big62 = isNum l big62' := by
  refine ⟨?_, rfl⟩
  unfold numT numV
  have : isNum l big62 = isNum l big62' := rfl
  rw [this]
  split <;> rfl
theorem numV_lt (l : List UInt8) : numV l ≤ 4611686018427387904 := by
  unfold numV
  split
  · rename_i h
    obtain ⟨n, h1, h2⟩ := isNum_iff.1 h
    rw [h2, valOf_dec]; exact h1
  · omega
end Go.Proofs.YtahgapkecabnjaaGreatDoor
/- The walks of protos (a map's literal) and proto (a range over it). -/
namespace Go.Proofs.YtahgapkecabnjaaGreatDoor
set_option linter.unusedSimpArgs false
set_option linter.unusedVariables false
open Go Go.RowKit Go.Maps Go.MapKept
open Go.ChangeMaps (setBlock)

theorem str_inj {a b : List UInt8} (h : str a = str b) : a = b := by injection h with h; injection h with h; simpa using h
/-- What the map holds. -/
noncomputable def protoM : Value → Option Value := upd (upd (upd (upd (fun _ => none) (str anyL) (some (.int .u8 0))) (str icmpL) (some (.int .u8 1))) (str tcpL) (some (.int .u8 6))) (str udpL) (some (.int .u8 17))
theorem protoM_str (l : List UInt8) : protoM (str l) = (protoOf l).map (fun n => Value.int .u8 (n : Nat)) := by
  unfold protoM protoOf
  have ne : ∀ {a b : List UInt8}, a ≠ b → str a ≠ str b := fun h e => h (str_inj e)
  by_cases h1 : l = udpL
  · subst h1; rw [upd_same]; rfl
  · rw [upd_other _ _ (ne h1)]
    by_cases h2 : l = tcpL
    · subst h2; rw [upd_same]; rfl
    · rw [upd_other _ _ (ne h2)]
      by_cases h3 : l = icmpL
      · subst h3; rw [upd_same]; rfl
      · rw [upd_other _ _ (ne h3)]
        by_cases h4 : l = anyL
        · subst h4; rw [upd_same]; rfl
        · rw [upd_other _ _ (ne h4)]; simp [h1, h2, h3, h4]
theorem protoM_has {v x : Value} (h : protoM v = some x) : ∃ l n, v = str l ∧ x = .int .u8 (n : Nat) ∧ protoOf l = some n := by
  have key : ∃ l, v = str l := by
    refine Classical.byContradiction fun hn => ?_
    have hne : ∀ l, v ≠ str l := fun l e => hn ⟨l, e⟩
    unfold protoM at h
    rw [upd_other _ _ (hne _), upd_other _ _ (hne _), upd_other _ _ (hne _), upd_other _ _ (hne _)] at h
    cases h
  obtain ⟨l, rfl⟩ := key
  rw [protoM_str] at h
  cases hp : protoOf l with
  | none => rw [hp] at h; cases h
  | some n => rw [hp] at h; exact ⟨l, n, rfl, (Option.some.inj h).symm, hp⟩
def ProtosPost (w : World) (e : Ending) (w' : World) : Prop := ∃ b, e = .returned (.map (some b)) ∧ IsMap w' Tryz.prog 9 b protoM ∧ w.heap.size ≤ b ∧ Below w.heap.size w w'
theorem keyOf_string_mk (s : ByteArray) (hs : s.size ≤ maxLen) : keyOf Tryz.prog 9 (.string s) = some (.string s.data.toList) := by simp [keyOf, Tryz.underlying9, mapKey, hs]
theorem protos_next {w : World} {b : Nat} {f : Value → Option Value} (h : IsMap w Tryz.prog 9 b f) (s : ByteArray) (hs : s.size ≤ maxLen) (x : Value) :
    ∃ o, (Instr.mapUpdate 163 (.map (some b)) (.string s) x).run Tryz.prog w = .ok () (setBlock w b o) ∧ IsMap (setBlock w b o) Tryz.prog 9 b (upd f (.string s) (some x)) :=
  h.update (string_keyed Tryz.underlying9) Tryz.underlying163 (keyOf_string_mk s hs) x
set_option maxHeartbeats 2000000 in
set_option maxRecDepth 100000 in
theorem protos_any (w : World) : Calls Tryz.prog 119 #[] w (ProtosPost w) := by
  have hmm := @run_makeMap Tryz.prog
  have m0 := IsMap.made w Tryz.prog 9
  obtain ⟨o1, r1, m1⟩ := protos_next m0 ⟨#[97, 110, 121]⟩ (by decide) (.int .u8 0)
  obtain ⟨o2, r2, m2⟩ := protos_next m1 ⟨#[105, 99, 109, 112]⟩ (by decide) (.int .u8 1)
  obtain ⟨o3, r3, m3⟩ := protos_next m2 ⟨#[116, 99, 112]⟩ (by decide) (.int .u8 6)
  obtain ⟨o4, r4, m4⟩ := protos_next m3 ⟨#[117, 100, 112]⟩ (by decide) (.int .u8 17)
  have M4 := Lib.hid m4
  clear m0 m1 m2 m3 m4
  go_enter Tryz.func119, Tryz.ntmps119
  go_wp2_with fail
  have hb : Below w.heap.size w (setBlock (setBlock (setBlock (setBlock (w.alloc (.map #[] 0)) w.heap.size o1) w.heap.size o2) w.heap.size o3) w.heap.size o4) :=
    (((((Below.refl _ w).alloc (Nat.le_refl _) (.map #[] 0)).trans ((OnlyB.set _ w.heap.size o1).below (Nat.le_refl _))).trans ((OnlyB.set _ w.heap.size o2).below (Nat.le_refl _))).trans ((OnlyB.set _ w.heap.size o3).below (Nat.le_refl _))).trans ((OnlyB.set _ w.heap.size o4).below (Nat.le_refl _))
  have HB := Lib.hid hb
  clear hb r1 r2 r3 r4
  go_ret
  exact ⟨_, rfl, M4.out, Nat.le_refl _, HB.out⟩

/-! ### A range over a map that stands still -/
/-- The iterator of block r over the map of block bi; of what has come nothing meets Q. -/
structure IterQ (es : Array MapEntry) (bi clock r : Nat) (Q : MapEntry → Prop) (w1 wr : World) : Prop where
  below : ∀ i, i < r → wr.heap[i]? = w1.heap[i]?
  size : r < wr.heap.size
  os : wr.os = w1.os
  tape : wr.tape = w1.tape
  output : wr.output = w1.output
  it : ∃ seen c0, wr.heap[r]? = some (.mapIter (some bi) clock seen c0) ∧ clock ≤ c0 ∧ ∀ e ∈ es.toList, seen.contains e.born = true → ¬ Q e
theorem IterQ.world {es : Array MapEntry} {bi clock r : Nat} {Q : MapEntry → Prop} {w w1 wr : World} (h : IterQ es bi clock r Q w1 wr) (hb : Below w.heap.size w w1) (hr : w.heap.size ≤ r) : Below w.heap.size w wr :=
  ⟨h.os.trans hb.os, h.tape.trans hb.tape, h.output.trans hb.output, by have := h.size; omega, fun i hi => (h.below i (by omega)).trans (hb.block i hi)⟩
theorem IterQ.next {es : Array MapEntry} {bi clock r : Nat} {Q : MapEntry → Prop} {w1 wr w2 : World} (h : IterQ es bi clock r Q w1 wr) (hw : w2 = wr ∨ w2 = wr.drew) {seen : Array Nat} (hs : ∀ e ∈ es.toList, seen.contains e.born = true → ¬ Q e) {e : MapEntry} (he : e ∈ es.toList)
    (hnd : (es.toList.map (·.born)).Nodup) (hl : ¬ Q e) : IterQ es bi clock r Q w1 (setBlock w2 r (.mapIter (some bi) clock (seen.push e.born) clock)) := by
  have hh : w2.heap = wr.heap := by rcases hw with rfl | rfl <;> rfl
  refine ⟨fun i hi => ?_, by simp [setBlock, hh]; exact h.size, ?_, ?_, ?_, seen.push e.born, clock, ?_, Nat.le_refl _, fun e' he' hc => ?_⟩
  · rw [set_heap_other (by omega), hh]; exact h.below i hi
  · rcases hw with rfl | rfl <;> exact h.os
  · rcases hw with rfl | rfl <;> exact h.tape
  · rcases hw with rfl | rfl <;> exact h.output
  · exact set_heap_same (by rw [hh]; exact h.size)
  · by_cases hb : e'.born = e.born
    · have : e' = e := born_inj hnd he' he hb
      subst this; exact hl
    · refine hs e' he' ?_
      simp only [Array.contains_push, Bool.or_eq_true, beq_iff_eq] at hc
      rcases hc with hc | hc
      · exact hc
      · exact absurd hc hb
/-- How many entries the iterator of block r has still to hand out. -/
def leftCnt (es : Array MapEntry) (r : Nat) (w : World) : Nat := match w.heap[r]? with
  | some (.mapIter _ _ seen _) => (leftOf es seen).size
  | _ => 0
theorem leftCnt_push {es : Array MapEntry} {r bi clock c1 : Nat} {w : World} {seen : Array Nat} (h : w.heap[r]? = some (.mapIter (some bi) clock seen c1)) : leftCnt es r w = (leftOf es seen).size := by unfold leftCnt; rw [h]
theorem wordF_nil {n : Nat} (h : ∀ l, protoOf l ≠ some n) : wordF n = [] := Classical.byContradiction fun hn => h (wordF n) (protoOf_iff.2 ⟨rfl, hn⟩)
set_option maxHeartbeats 4000000 in
set_option maxRecDepth 100000 in
theorem proto_any (n : Nat) (w : World) (hn : n < 256) :
    Calls Tryz.prog 95 #[.int .u8 n] w fun e w' => e = .returned (str (wordF n)) ∧ Below w.heap.size w w' := by
  go_enter Tryz.func95, Tryz.ntmps95
  go_wp2_with fail
  refine (protos_any w).mono ?_
  rintro e w1 ⟨bi, rfl, hmap, hle, hb1⟩
  obtain ⟨es, clock, hes, hM⟩ := hmap
  have hbi : bi < w1.heap.size := (Array.getElem?_eq_some_iff.1 hes).1
  have hr := run_range_map (P := Tryz.prog) w1 163 _ _ bi es clock Tryz.underlying163 hes
  go_wp2_with fail
  have hstart : IterQ es bi clock w1.heap.size (fun e => e.val = .int .u8 n) w1 (w1.alloc (.mapIter (some bi) clock #[] clock)) :=
    ⟨fun i hi => Below.heap_alloc _ _ _ hi, by simp, rfl, rfl, rfl, #[], clock, (MapKept.heap_alloc w1 _).1, Nat.le_refl _, fun e _ h => by simp at h⟩
  have HST := Lib.hid hstart
  have HB1 := Lib.hid hb1
  have HM := Lib.hid hM
  have HSZ := Lib.hid hb1.size
  clear hstart hb1 hM hr
  go_loopw [7] (fun _ wr => Hid (IterQ es bi clock w1.heap.size (fun e => e.val = .int .u8 n) w1 wr)) (fun _ wr => leftCnt es w1.heap.size wr)
  case atStart => exact HST
  case round =>
    obtain ⟨seen, c0, hit, hc0, hseen⟩ := hrel.out.it
    have hbm : wr.heap[bi]? = some (.map es clock) := (hrel.out.below bi hbi).trans hes
    rcases run_next_at (P := Tryz.prog) wr 0 w1.heap.size bi clock c0 seen es clock hit hbm HM.out.stamped.1 hc0 with ⟨hz, hn⟩ | ⟨e, he, w2, hw2, hn⟩
    · have hnil : Hid (wordF n = []) := Lib.hid (wordF_nil fun l hl => by
        have hp : protoM (str l) = some (.int .u8 n) := by rw [protoM_str, hl]; rfl
        obtain ⟨e, he, hek, hev⟩ := HM.out.only _ _ hp
        refine absurd hev (hseen e he ?_)
        rw [← Bool.not_eq_false]
        intro hns
        have hmem : e ∈ leftOf es seen := by unfold leftOf; rw [Array.mem_filter]; exact ⟨by simpa using he, by rw [hns]; rfl⟩
        rw [Array.eq_empty_of_size_eq_zero hz] at hmem
        simp at hmem)
      have HBE := Lib.hid (hrel.out.world HB1.out HSZ.out)
      clear hseen hit
      go_wp2_with fail
      go_ret
      exact ⟨by (rw [hnil.out]) <;> rfl, HBE.out⟩
    · obtain ⟨hee, hns⟩ := mem_left he
      obtain ⟨l, m, hkey, hval, hpm⟩ := protoM_has (HM.out.has e hee)
      have hnx : ¬ (e.val = .int .u8 n) → Hid (IterQ es bi clock w1.heap.size (fun e => e.val = .int .u8 n) w1 (setBlock w2 w1.heap.size (.mapIter (some bi) clock (seen.push e.born) clock))) := fun hl => Lib.hid (hrel.out.next hw2 hseen hee HM.out.stamped.2.1 hl)
      have hh : w2.heap = wr.heap := by rcases hw2 with rfl | rfl <;> rfl
      have hw3 : ∀ i, i < w1.heap.size → (setBlock w2 w1.heap.size (.mapIter (some bi) clock (seen.push e.born) clock)).heap[i]? = w1.heap[i]? := fun i hi => (set_heap_other (by omega)).trans (by rw [hh]; exact hrel.out.below i hi)
      have hit3 : (setBlock w2 w1.heap.size (.mapIter (some bi) clock (seen.push e.born) clock)).heap[w1.heap.size]? = some (.mapIter (some bi) clock (seen.push e.born) clock) := set_heap_same (by rw [hh]; exact hrel.out.size)
      have hen := run_entry_at (P := Tryz.prog) _ _ bi clock seen es clock e hit3 ((hw3 bi hbi).trans hes) hee HM.out.stamped.2.1
      have hsh : Hid ((leftOf es (seen.push e.born)).size < leftCnt es w1.heap.size wr) := Lib.hid (by rw [leftCnt_push hit]; exact left_shrinks es seen e he)
      have hct : Hid (leftCnt es w1.heap.size (setBlock w2 w1.heap.size (.mapIter (some bi) clock (seen.push e.born) clock)) = (leftOf es (seen.push e.born)).size) := Lib.hid (leftCnt_push hit3)
      have hbel : Hid (Below w.heap.size w (setBlock w2 w1.heap.size (.mapIter (some bi) clock (seen.push e.born) clock))) := Lib.hid (by
        have h1 := hrel.out.world HB1.out HSZ.out
        have h2 : Below w.heap.size w w2 := by
          rcases hw2 with rfl | rfl
          · exact h1
          · exact h1.drew
        exact ⟨h2.os, h2.tape, h2.output, by simpa [setBlock] using h2.size, fun i hi => (set_heap_other (by have := HSZ.out; omega)).trans (h2.block i hi)⟩)
      rw [hkey, hval] at hn hen
      have HHV := Lib.hid hval
      clear hw3 hit3 hit hseen hc0 hbm hrel hh hw2 he hns hee hkey hval HST
      generalize hW3 : setBlock w2 w1.heap.size (.mapIter (some bi) clock (seen.push e.born) clock) = w3 at *
      clear hW3
      by_cases hmn : m = n
      · subst hmn
        have hwf : Hid (wordF m = l) := Lib.hid (protoOf_iff.1 hpm).1
        clear hnx hpm
        go_wp2_with fail
        go_ret
        exact ⟨by (rw [hwf.out]) <;> rfl, hbel.out⟩
      · have hq : ((m : Int) == (n : Int)) = false := beq_eq_false_iff_ne.2 (by omega)
        have HN := hnx (fun h => by rw [HHV.out] at h; injection h with _ h; omega)
        clear hnx hpm
        go_wp2_with fail
        go_roundw
        case rel => exact HN
        case measure => rw [hct.out]; exact hsh.out
end Go.Proofs.YtahgapkecabnjaaGreatDoor
/- The walk of rules.span. Printed by gen_rulec.py. -/
namespace Go.Proofs.YtahgapkecabnjaaGreatDoor
set_option linter.unusedSimpArgs false
set_option linter.unusedVariables false
open Go Go.RowKit

theorem WH.off {P : Program} {Q : Exit → Act → World → Prop} {ops : Array Oper} {S : World → Prop} (i : Nat) (d : Option Tmp) {oi : Oper} {fuel : Nat} {listed : Array Bool} {a : Act} {w : World} (hi : ops[i]? = some oi) (hd : oi.dst = d) (hs : Region.noSelect ops = true)
    (hf : Region.free .any ops listed i = true) (hr : (Region.ready .any ops listed).contains i = true) (hQ : ∀ c a w, Q (.panic c) (a.put oi.dst undef) w → Q (.panic c) a w) (hw : Region.wanted oi (yielded ops a.tmps) = false) (hS : S w)
    (h : WH P ops Q S fuel (listed.setIfInBounds i true) (a.put d undef) w) : WH P ops Q S (fuel + 1) listed a w := by
  subst hd
  exact ⟨wpAnyH_take hi hs hf hr hQ (.inr ⟨hw, rfl⟩) hS h.out⟩
/-- What span answers: the low end, the high end, whether there is one. -/
def spanP (l : List UInt8) : Nat × Nat × Bool :=
  if l = anyL then (0, 65535, true)
  else (numV (cutA l) % 65536, numV (cutB l) % 65536, portB (cutA l) && portB (cutB l) && decide (spanL (numV (cutA l) % 65536) (numV (cutB l) % 65536) = l) && decide (numV (cutA l) % 65536 ≤ numV (cutB l) % 65536))
theorem spanP_of (l : List UInt8) : spanOf l = if (spanP l).2.2 = true then some ((spanP l).1, (spanP l).2.1) else none := by
  unfold spanOf spanP
  by_cases hl : l = anyL
  · rw [if_pos hl, if_pos hl, if_pos rfl]
  · rw [if_neg hl, if_neg hl]
    simp only
    have e : ∀ x : List UInt8, portB x = true → numV x % 65536 = numV x := fun x hx => by
      unfold portB at hx; simp at hx; omega
    by_cases ha : portB (cutA l) = true
    · by_cases hb : portB (cutB l) = true
      · rw [e _ ha, e _ hb, ha, hb]
        simp
      · have : portB (cutB l) = false := by simpa using hb
        simp [this]
    · have : portB (cutA l) = false := by simpa using ha
      simp [this]
def SpanPost (q : Nat × Nat × Bool) (w : World) (e : Ending) (w' : World) : Prop := e = .returned (.tuple #[.agg #[.int .u16 q.1, .int .u16 q.2.1], .bool q.2.2]) ∧ Below w.heap.size w w'
/-- Two cells of a block that nobody has frozen. -/
def Own2 (w : World) (b : Nat) (x y : Value) : Prop := w.cell? ⟨b, 0, none⟩ = some x ∧ w.cell? ⟨b, 1, none⟩ = some y ∧ w.frozen? ⟨b, 0, none⟩ = false ∧ w.frozen? ⟨b, 1, none⟩ = false
theorem Own2.new (w : World) (x y : Value) (T : TypeId) : Own2 (w.alloc (.cells #[x, y] T)) w.heap.size x y := ⟨by simp, by simp, by simp, by simp⟩
theorem Own2.below {w w' : World} {b : Nat} {x y : Value} (h : Own2 w b x y) (k : Below w.heap.size w w') : Own2 w' b x y := by
  have hlt : b < w.heap.size := World.block_lt_of_cell? w _ h.1
  have e := k.block b hlt
  have hf : ∀ i, w'.frozen? ⟨b, i, none⟩ = w.frozen? ⟨b, i, none⟩ := fun i => by unfold World.frozen?; rw [e]
  exact ⟨(World.cell?_of_block (w := w) e).trans h.1, (World.cell?_of_block (w := w) e).trans h.2.1, (hf 0).trans h.2.2.1, (hf 1).trans h.2.2.2⟩
end Go.Proofs.YtahgapkecabnjaaGreatDoor
/- The fixed fact of the laws of addr, and the walks of the laws. -/
namespace Go.Proofs.YtahgapkecabnjaaGreatDoor
set_option linter.unusedSimpArgs false
set_option linter.unusedVariables false
open Go Go.RowKit

theorem d0 : Lib.decDigits 0 = [48] := by simp [Lib.decDigits]
theorem d1 : Lib.decDigits 1 = [49] := by simp [Lib.decDigits]
theorem d2 : Lib.decDigits 2 = [50] := by simp [Lib.decDigits]
theorem d3 : Lib.decDigits 3 = [51] := by simp [Lib.decDigits]
theorem d8 : Lib.decDigits 8 = [56] := by simp [Lib.decDigits]
theorem d10 : Lib.decDigits 10 = [49, 48] := by simp [Lib.decDigits]
theorem showA1 : showAddr 167838211 = [49, 48, 46, 49, 46, 50, 46, 51] := by
  simp only [showAddr, byteAt]; simp only [Nat.reducePow, Nat.reduceDiv, Nat.reduceMod, d10, d1, d2, d3]; rfl
theorem showA2 : showAddr 167772160 = [49, 48, 46, 48, 46, 48, 46, 48] := by
  simp only [showAddr, byteAt]; simp only [Nat.reducePow, Nat.reduceDiv, Nat.reduceMod, d10, d0]; rfl
theorem showA3 : showAddr 167837696 = [49, 48, 46, 49, 46, 48, 46, 48] := by
  simp only [showAddr, byteAt]; simp only [Nat.reducePow, Nat.reduceDiv, Nat.reduceMod, d10, d1, d0]; rfl
theorem awP : pairA (addrOf [49, 48, 46, 49, 46, 50, 46, 51]) = (167838211, 0) := by rw [← showA1, addrOf_show _ (by decide)]; rfl
theorem awS : showNet 167772160 8 = some [49, 48, 46, 48, 46, 48, 46, 48, 47, 56] := by
  unfold showNet
  rw [if_pos (by decide), if_neg (by decide), showA2, show (8 : Int).toNat = 8 from rfl, d8]; rfl
theorem awN : netF [49, 48, 46, 48, 46, 48, 46, 48, 47, 56] = (167772160, 8, 0) := by
  unfold netF; rw [netOf_show (by decide) awS]; rfl
theorem awM : netF [49, 48, 46, 49, 46, 48, 46, 48, 47, 56] = (0, 0, 3) := by
  unfold netF netOf
  rw [if_neg (by decide), show ([49, 48, 46, 49, 46, 48, 46, 48, 47, 56] : List UInt8) = [49, 48, 46, 49, 46, 48, 46, 48] ++ 47 :: [56] from rfl, cut_at (by decide)]
  simp only
  rw [← showA3, addrOf_show _ (by decide)]
  simp only
  rw [if_neg]
  rintro ⟨-, -, h⟩
  rw [← d8, valOf_dec] at h
  revert h; decide
theorem awF : showF 167772160 8 = ([49, 48, 46, 48, 46, 48, 46, 48, 47, 56], 0) := by unfold showF; rw [awS]
theorem awH1 : hasNet 167772160 8 167838211 = true := by decide
theorem awH2 : hasNet 167772160 8 184549376 = false := by decide

theorem has_val (a : Nat) (n : Int) (b : Nat) (i j : Int) (r : Bool) (w : World) (hi : i = a) (hj : j = b) (ha : a < 4294967296) (hb : b < 4294967296) (hr : hasNet a n b = r) :
    Calls Tryz.prog 132 #[.agg #[.int .u32 i, .int .i64 n], .int .u32 j] w fun e w' => e = .returned (.bool r) ∧ Below w.heap.size w w' := by
  subst hi hj hr; exact has_any a n b w ha hb
theorem show_val (a : Nat) (n i : Int) (l : List UInt8) (c : Int) (w : World) (hi : i = a) (ha : a < 4294967296) (hT : Tabs w) (h : showF a n = (l, c)) :
    Calls Tryz.prog 94 #[.agg #[.int .u32 i, .int .i64 n]] w fun e w' => e = .returned (.tuple #[str l, .int .i64 c]) ∧ Below w.heap.size w w' := by
  subst hi
  exact (show_any a n w ha hT).mono fun e w' hp => by unfold StrPost at hp; rw [h] at hp; exact hp
theorem print_val (a : Nat) (i : Int) (l : List UInt8) (w : World) (hi : i = a) (ha : a < 4294967296) (hT : Tabs w) (h : showAddr a = l) :
    Calls Tryz.prog 117 #[.int .u32 i] w fun e w' => e = .returned (str l) ∧ Below w.heap.size w w' := by
  subst hi h; exact print_any a w ha hT

def shortS (s : ByteArray) : ByteArray := if 60 < s.size then s.extract 0 60 else s
theorem short_size (s : ByteArray) : (shortS s).size ≤ 60 := by
  unfold shortS
  split
  · simp; omega
  · omega
end Go.Proofs.YtahgapkecabnjaaGreatDoor
/- The walks of rules.Good and of the reference's Good. Printed by gen_rulee.py. -/
namespace Go.Proofs.YtahgapkecabnjaaGreatDoor
set_option linter.unusedSimpArgs false
set_option linter.unusedVariables false
open Go Go.RowKit

/-- A rule as a value. -/
abbrev ruleW (r : Rl) : Value := .agg #[.bool r.acc, .int .u8 (r.pr : Nat), .int .u32 (r.sa : Nat), .int .i64 r.sb, .int .u32 (r.da : Nat), .int .i64 r.db, .int .u16 (r.sl : Nat), .int .u16 (r.sh : Nat), .int .u16 (r.dl : Nat), .int .u16 (r.dh : Nat)]
/-- A rule in a block of its own. -/
abbrev ruleBox (w : World) (acc : Bool) (pr sa : Nat) (sb : Int) (da : Nat) (db : Int) (sl sh dl dh : Nat) : World := w.alloc (.cells #[.bool acc, .int .u8 pr, .int .u32 sa, .int .i64 sb, .int .u32 da, .int .i64 db, .int .u16 sl, .int .u16 sh, .int .u16 dl, .int .u16 dh] 79)
structure BoxAt (w : World) (b : Nat) (acc : Bool) (pr sa : Nat) (sb : Int) (da : Nat) (db : Int) (sl sh dl dh : Nat) : Prop where
  c0 : w.cell? ⟨b, 0, none⟩ = some (.bool acc)
  c1 : w.cell? ⟨b, 1, none⟩ = some (.int .u8 pr)
  c2 : w.cell? ⟨b, 2, none⟩ = some (.int .u32 sa)
  c3 : w.cell? ⟨b, 3, none⟩ = some (.int .i64 sb)
  c4 : w.cell? ⟨b, 4, none⟩ = some (.int .u32 da)
  c5 : w.cell? ⟨b, 5, none⟩ = some (.int .i64 db)
  c6 : w.cell? ⟨b, 6, none⟩ = some (.int .u16 sl)
  c7 : w.cell? ⟨b, 7, none⟩ = some (.int .u16 sh)
  c8 : w.cell? ⟨b, 8, none⟩ = some (.int .u16 dl)
  c9 : w.cell? ⟨b, 9, none⟩ = some (.int .u16 dh)
theorem BoxAt.new (w : World) (acc : Bool) (pr sa : Nat) (sb : Int) (da : Nat) (db : Int) (sl sh dl dh : Nat) : BoxAt (ruleBox w acc pr sa sb da db sl sh dl dh) w.heap.size acc pr sa sb da db sl sh dl dh := by
  constructor <;> simp [ruleBox]
theorem BoxAt.below {w w' : World} {b : Nat} {acc : Bool} {pr sa : Nat} {sb : Int} {da : Nat} {db : Int} {sl sh dl dh : Nat} (h : BoxAt w b acc pr sa sb da db sl sh dl dh) (k : Below w.heap.size w w') : BoxAt w' b acc pr sa sb da db sl sh dl dh := by
  have f : ∀ {i v}, w.cell? ⟨b, i, none⟩ = some v → w'.cell? ⟨b, i, none⟩ = some v := fun hc => (k.cell (p := ⟨b, _, none⟩) (World.block_lt_of_cell? w _ hc)).trans hc
  exact ⟨f h.c0, f h.c1, f h.c2, f h.c3, f h.c4, f h.c5, f h.c6, f h.c7, f h.c8, f h.c9⟩
theorem show_err (a : Nat) (n : Int) : (showF a n).2 = if mayNet a n = true then 0 else 1 := by
  unfold showF
  have := show_may (a := a) (n := n)
  cases h : showNet a n with
  | none => rw [h] at this; rw [← this]; rfl
  | some l => rw [h] at this; rw [← this]; rfl
theorem word_beq (n : Nat) : decide (wordF n ≠ []) = !(wordF n).isEmpty := by
  cases wordF n <;> simp

set_option maxHeartbeats 4000000 in
set_option maxRecDepth 100000 in
theorem good_any (r : Rl) (w : World) (hr : r.In) (hT : Tabs w) :
    Calls Tryz.prog 64 #[ruleW r] w fun e w' => e = .returned (.bool (goodR r)) ∧ Below w.heap.size w w' := by
  have HG : Hid (goodR r = (mayNet r.sa r.sb && mayNet r.da r.db && decide (wordF r.pr ≠ []) && decide (r.sl ≤ r.sh) && decide (r.dl ≤ r.dh))) := Lib.hid rfl
  have H1 := Lib.hid (fun W (h : Tabs W) => show_any r.sa r.sb W hr.sa h)
  have H2 := Lib.hid (fun W (h : Tabs W) => show_any r.da r.db W hr.da h)
  have H3 := Lib.hid (fun W => proto_any r.pr W hr.pr)
  have e1 := show_err r.sa r.sb
  have e2 := show_err r.da r.db
  have hwb := word_beq r.pr
  obtain ⟨acc, pr, sa, sb, da, db, sl, sh, dl, dh⟩ := r
  simp only at e1 e2 hwb HG H1 H2 H3
  generalize goodR ⟨acc, pr, sa, sb, da, db, sl, sh, dl, dh⟩ = res at *
  generalize showF sa sb = q1 at *
  generalize showF da db = q2 at *
  obtain ⟨t1, z1⟩ := q1
  obtain ⟨t2, z2⟩ := q2
  simp only at e1 e2
  have E1 := Lib.hid e1
  have E2 := Lib.hid e2
  have HWB := Lib.hid hwb
  clear e1 e2 hwb
  have B0 : Below w.heap.size w (ruleBox w acc pr sa sb da db sl sh dl dh) := (Below.refl _ _).alloc (Nat.le_refl _) _
  have X0 := BoxAt.new w acc pr sa sb da db sl sh dl dh
  have HT0 := Lib.hid (hT.below B0)
  have HB0 := Lib.hid B0
  have HX0 := Lib.hid X0
  clear hT B0 hr
  obtain ⟨c0, c1, c2, c3, c4, c5, c6, c7, c8, c9⟩ := X0
  go_enter Tryz.func64, Tryz.ntmps64
  go_wp2_with fail
  clear c0 c1 c2 c3 c4 c5 c6 c7 c8 c9
  refine (H1.out _ HT0.out).mono ?_
  rintro e w1 ⟨rfl, h1⟩
  have HT1 := Lib.hid (HT0.out.below h1)
  have HB1 := Lib.hid (below_then HB0.out h1)
  have HX1 := Lib.hid (HX0.out.below h1)
  obtain ⟨c0, c1, c2, c3, c4, c5, c6, c7, c8, c9⟩ := HX1.out
  clear h1 HT0 HB0 HX0
  go_wp2_with fail
  clear c0 c1 c2 c3 c4 c5 c6 c7 c8 c9
  refine (H2.out _ HT1.out).mono ?_
  rintro e w2 ⟨rfl, h2⟩
  have HB2 := Lib.hid (below_then HB1.out h2)
  have HX2 := Lib.hid (HX1.out.below h2)
  obtain ⟨c0, c1, c2, c3, c4, c5, c6, c7, c8, c9⟩ := HX2.out
  clear h2 HT1 HB1 HX1 H1 H2
  have e1 := E1.out
  have e2 := E2.out
  have hwb := HWB.out
  clear E1 E2 HWB
  cases hm1 : mayNet sa sb with
  | false =>
    rw [hm1] at e1 HG
    simp only [Bool.false_eq_true, if_false] at e1
    subst e1
    have HR : Hid (res = false) := Lib.hid (by rw [HG.out]; simp)
    clear e2 hwb HG hm1
    go_wp2_with fail
    go_ret
    exact ⟨by (rw [HR.out]) <;> rfl, HB2.out⟩
  | true =>
    rw [hm1] at e1 HG
    simp only [if_true] at e1
    subst e1
    cases hm2 : mayNet da db with
    | false =>
      rw [hm2] at e2 HG
      simp only [Bool.false_eq_true, if_false] at e2
      subst e2
      have HR : Hid (res = false) := Lib.hid (by rw [HG.out]; simp)
      clear hwb HG hm1 hm2
      go_wp2_with fail
      go_ret
      exact ⟨by (rw [HR.out]) <;> rfl, HB2.out⟩
    | true =>
      rw [hm2] at e2 HG
      simp only [if_true] at e2
      subst e2
      have HR : Hid (res = (!(wordF pr).isEmpty && decide (sl ≤ sh) && decide (dl ≤ dh))) := Lib.hid (by rw [HG.out, hwb]; rfl)
      clear hwb HG hm1 hm2
      generalize wordF pr = wd at *
      go_wp2_with fail
      clear c0 c1 c2 c3 c4 c5 c6 c7 c8 c9
      refine (H3.out _).mono ?_
      rintro e w3 ⟨rfl, h3⟩
      have HB3 := Lib.hid (below_then HB2.out h3)
      have HX3 := Lib.hid (HX2.out.below h3)
      obtain ⟨c0, c1, c2, c3, c4, c5, c6, c7, c8, c9⟩ := HX3.out
      clear h3 HB2 HX2 HX3
      cases hw : wd.isEmpty with
      | true =>
        rw [hw] at HR
        go_wp2_with fail
        go_ret
        exact ⟨by (rw [HR.out]) <;> rfl, HB3.out⟩
      | false =>
        rw [hw] at HR
        by_cases hs : sl ≤ sh
        · have es : decide ((sl : Int) ≤ (sh : Int)) = true := decide_eq_true (by omega)
          have HR2 : Hid (res = decide (dl ≤ dh)) := Lib.hid (by rw [HR.out, decide_eq_true hs]; rfl)
          go_wp2_with fail
          go_ret
          exact ⟨by (rw [HR2.out]) <;> rfl, HB3.out⟩
        · have es : decide ((sl : Int) ≤ (sh : Int)) = false := decide_eq_false (by omega)
          have HR2 : Hid (res = false) := Lib.hid (by rw [HR.out, decide_eq_false hs]; rfl)
          go_wp2_with fail
          go_ret
          exact ⟨by (rw [HR2.out]) <;> rfl, HB3.out⟩
set_option maxHeartbeats 4000000 in
set_option maxRecDepth 100000 in
theorem refGood_any (r : Rl) (w : World) (hr : r.In) :
    Calls Tryz.prog 92 #[ruleW r] w fun e w' => e = .returned (.bool (goodR r)) ∧ Below w.heap.size w w' := by
  have HG : Hid (goodR r = (mayNet r.sa r.sb && mayNet r.da r.db && decide (wordF r.pr ≠ []) && decide (r.sl ≤ r.sh) && decide (r.dl ≤ r.dh))) := Lib.hid rfl
  have H1 := Lib.hid (fun W => refMay_val r.sa r.sb (mayNet r.sa r.sb) W hr.sa rfl)
  have H2 := Lib.hid (fun W => refMay_val r.da r.db (mayNet r.da r.db) W hr.da rfl)
  have H3 := Lib.hid (fun W => refWord_any r.pr W hr.pr)
  have HWB := Lib.hid (word_beq r.pr)
  obtain ⟨acc, pr, sa, sb, da, db, sl, sh, dl, dh⟩ := r
  simp only at HG H1 H2 H3 HWB
  generalize goodR ⟨acc, pr, sa, sb, da, db, sl, sh, dl, dh⟩ = res at *
  generalize mayNet sa sb = m1 at *
  generalize mayNet da db = m2 at *
  have HR : Hid (res = (m1 && m2 && !(wordF pr).isEmpty && decide (sl ≤ sh) && decide (dl ≤ dh))) := Lib.hid (by rw [HG.out, HWB.out])
  generalize wordF pr = wd at *
  clear HG HWB hr
  have B0 : Below w.heap.size w (ruleBox w acc pr sa sb da db sl sh dl dh) := (Below.refl _ _).alloc (Nat.le_refl _) _
  have X0 := BoxAt.new w acc pr sa sb da db sl sh dl dh
  have HB0 := Lib.hid B0
  have HX0 := Lib.hid X0
  clear B0
  obtain ⟨c0, c1, c2, c3, c4, c5, c6, c7, c8, c9⟩ := X0
  go_enter Tryz.func92, Tryz.ntmps92
  go_wp2_with fail
  refine (H3.out _).mono ?_
  rintro e w1 ⟨rfl, hw⟩
  rw [hw]
  clear hw w1
  cases hwd : wd.isEmpty with
  | true =>
    have HR2 : Hid (res = false) := Lib.hid (by rw [HR.out, hwd]; simp)
    go_wp2_with fail
    go_ret
    exact ⟨by (rw [HR2.out]) <;> rfl, HB0.out⟩
  | false =>
    have HR2 : Hid (res = (m1 && m2 && decide (sl ≤ sh) && decide (dl ≤ dh))) := Lib.hid (by rw [HR.out, hwd]; simp)
    clear HR
    go_wp2_with fail
    clear c0 c1 c2 c3 c4 c5 c6 c7 c8 c9
    refine (H1.out _).mono ?_
    rintro e w2 ⟨rfl, h2⟩
    have HB2 := Lib.hid (below_then HB0.out h2)
    have HX2 := Lib.hid (HX0.out.below h2)
    obtain ⟨c0, c1, c2, c3, c4, c5, c6, c7, c8, c9⟩ := HX2.out
    clear h2 HB0 HX0
    cases m1 with
    | false =>
      have HR3 : Hid (res = false) := Lib.hid (by rw [HR2.out]; simp)
      go_wp2_with fail
      go_ret
      exact ⟨by (rw [HR3.out]) <;> rfl, HB2.out⟩
    | true =>
      go_wp2_with fail
      clear c0 c1 c2 c3 c4 c5 c6 c7 c8 c9
      refine (H2.out _).mono ?_
      rintro e w3 ⟨rfl, h3⟩
      have HB3 := Lib.hid (below_then HB2.out h3)
      have HX3 := Lib.hid (HX2.out.below h3)
      obtain ⟨c0, c1, c2, c3, c4, c5, c6, c7, c8, c9⟩ := HX3.out
      clear h3 HB2 HX2
      cases m2 with
      | false =>
        have HR3 : Hid (res = false) := Lib.hid (by rw [HR2.out]; simp)
        go_wp2_with fail
        go_ret
        exact ⟨by (rw [HR3.out]) <;> rfl, HB3.out⟩
      | true =>
        by_cases hs : sl ≤ sh
        · have es : decide ((sl : Int) ≤ (sh : Int)) = true := decide_eq_true (by omega)
          have HR3 : Hid (res = decide (dl ≤ dh)) := Lib.hid (by rw [HR2.out, decide_eq_true hs]; rfl)
          go_wp2_with fail
          go_ret
          exact ⟨by (rw [HR3.out]) <;> rfl, HB3.out⟩
        · have es : decide ((sl : Int) ≤ (sh : Int)) = false := decide_eq_false (by omega)
          have HR3 : Hid (res = false) := Lib.hid (by rw [HR2.out, decide_eq_false hs]; rfl)
          go_wp2_with fail
          go_ret
          exact ⟨by (rw [HR3.out]) <;> rfl, HB3.out⟩
end Go.Proofs.YtahgapkecabnjaaGreatDoor
