/- The walk of the reference's Parse of layer 3. -/
import Derived.Test.YtfiddoibnjildaaDoorAddrA
namespace Go.Proofs.YtfiddoibnjildaaDoor
set_option linter.unusedSimpArgs false
set_option linter.unusedVariables false
open Go Go.RowKit

theorem isNum_numF {p : List UInt8} : (isNum p 255 = true ∧ numF p = valOf p ∧ valOf p ≤ 255) ∨ (isNum p 255 = false ∧ (numF p < 0 ∨ 255 < numF p)) := by
  cases h : isNum p 255 with
  | true =>
    obtain ⟨n, h1, rfl⟩ := isNum_iff.1 h
    refine .inl ⟨rfl, ?_, by rw [valOf_dec]; exact h1⟩
    unfold numF
    rw [if_pos]
    have := dec_len_le 3 n (by omega) (by omega)
    exact ⟨by omega, by rw [valOf_dec]⟩
  | false =>
    refine .inr ⟨rfl, ?_⟩
    unfold numF
    split
    · rename_i hc
      right
      have h2 : ¬ (valOf p ≤ 255) := fun h3 => by
        have := (isNum_iff (l := p) (most := 255)).2 ⟨_, h3, hc.2.symm⟩
        rw [h] at this; cases this
      omega
    · left; omega
def pairA (o : Option Nat) : Int × Int := match o with | some a => ((a : Int), 0) | none => (0, 3)

/-- The pieces that are still to be read. -/
def Left3 (l : List UInt8) (a many fr i : Nat) (ps : List (List UInt8)) : Prop :=
  addrOf l = addrGo a many ps ∧ ((i ≤ l.length ∧ fr ≤ i ∧ ps = pieces 46 (l.drop fr) ∧ (46 : UInt8) ∉ (l.drop fr).take (i - fr)) ∨ (i = l.length + 1 ∧ ps = []))
theorem Left3.start (l : List UInt8) : Left3 l 0 0 0 0 (pieces 46 l) := ⟨rfl, .inl ⟨Nat.zero_le _, Nat.le_refl _, by simp, by simp⟩⟩
theorem Left3.skip {s : ByteArray} {a many fr i : Nat} {ps : List (List UInt8)} (h : Left3 s.data.toList a many fr i ps) (hi : i < s.size) (hc : s[i] ≠ 46) : Left3 s.data.toList a many fr (i + 1) ps := by
  obtain ⟨h1, h2⟩ := h
  refine ⟨h1, ?_⟩
  rcases h2 with ⟨h3, h4, h5, h6⟩ | ⟨h3, _⟩
  · left
    refine ⟨by simp; omega, by omega, h5, ?_⟩
    rw [show i + 1 - fr = (i - fr) + 1 by omega, List.take_add_one]
    have : (s.data.toList.drop fr)[i - fr]? = some s[i] := by
      rw [List.getElem?_drop, show fr + (i - fr) = i by omega]
      simp [hi]; rfl
    rw [this]
    simp only [Option.toList_some, List.mem_append, List.mem_singleton, not_or]
    exact ⟨h6, fun e => hc e.symm⟩
  · simp at h3; omega
/-- A piece ends. -/
theorem Left3.piece {s : ByteArray} {a many fr i : Nat} {ps : List (List UInt8)} (h : Left3 s.data.toList a many fr i ps) (hi : i ≤ s.size) (hc : ∀ h : i < s.size, s[i] = 46) :
    fr ≤ i ∧ ∃ qs, ps = (s.extract fr i).data.toList :: qs ∧
      (isNum (s.extract fr i).data.toList 255 = true → Left3 s.data.toList ((a * 256 + valOf (s.extract fr i).data.toList) % 4294967296) (many + 1) (i + 1) (i + 1) qs) ∧
      (isNum (s.extract fr i).data.toList 255 = false → addrOf s.data.toList = none) := by
  obtain ⟨h1, h2⟩ := h
  rcases h2 with ⟨h3, h4, h5, h6⟩ | ⟨h3, _⟩
  · have hx : (s.extract fr i).data.toList = (s.data.toList.drop fr).take (i - fr) := by rw [Lib.extract_data]
    refine ⟨h4, ?_⟩
    rw [hx]
    by_cases hlt : i < s.size
    · have e : s.data.toList.drop fr = (s.data.toList.drop fr).take (i - fr) ++ 46 :: s.data.toList.drop (i + 1) := by
        have h7 : (s.data.toList.drop fr).drop (i - fr) = 46 :: s.data.toList.drop (i + 1) := by
          rw [List.drop_drop, show fr + (i - fr) = i by omega]
          have h8 : s.data.toList[i]'(by simpa using hlt) = 46 := by
            have := hc hlt
            rw [← this]; simp; rfl
          rw [← h8]
          exact List.drop_eq_getElem_cons (by simpa using hlt)
        rw [← h7, List.take_append_drop]
      have hp : ps = (s.data.toList.drop fr).take (i - fr) :: pieces 46 (s.data.toList.drop (i + 1)) := by
        rw [h5]
        conv => lhs; rw [e]
        exact pieces_at _ h6
      refine ⟨_, hp, fun hn => ⟨?_, .inl ⟨by simp; omega, Nat.le_refl _, rfl, by simp⟩⟩, fun hn => ?_⟩
      · rw [h1, hp, addrGo, if_pos hn]
      · rw [h1, hp, addrGo, if_neg (by simp [hn])]
    · have he : i = s.size := by omega
      have ht : (s.data.toList.drop fr).take (i - fr) = s.data.toList.drop fr := List.take_of_length_le (by simp; omega)
      have hp : ps = (s.data.toList.drop fr).take (i - fr) :: [] := by
        rw [h5]
        rw [ht] at h6 ⊢
        exact pieces_none h6
      refine ⟨_, hp, fun hn => ⟨?_, .inr ⟨by simp; omega, rfl⟩⟩, fun hn => ?_⟩
      · rw [h1, hp]; simp only [addrGo]; rw [if_pos hn]
      · rw [h1, hp]; simp only [addrGo]; rw [if_neg (by simp [hn])]
  · simp at h3; omega
theorem Left3.last {s : ByteArray} {a many fr i : Nat} {ps : List (List UInt8)} (h : Left3 s.data.toList a many fr i ps) (hi : s.size < i) : addrOf s.data.toList = if many = 4 then some a else none := by
  obtain ⟨h1, h2⟩ := h
  rcases h2 with ⟨h3, _⟩ | ⟨_, rfl⟩
  · simp at h3; omega
  · rw [h1, addrGo]

def PairPost3 (q : Int × Int) (w : World) (e : Ending) (w' : World) : Prop := e = .returned (.tuple #[.int .u32 q.1, .int .i64 q.2]) ∧ Below w.heap.size w w'
theorem pair3 {q : Int × Int} {a b : Int} {w w' : World} (h : q = (a, b)) (hb : Below w.heap.size w w') : PairPost3 q w (.returned (.tuple #[.int .u32 a, .int .i64 b])) w' := by
  subst h; exact ⟨rfl, hb⟩

end Go.Proofs.YtfiddoibnjildaaDoor
