/- The walk of the reference's Parse of layer 3. -/
import Derived.Test.YtfiddoibnjildaaGreatDoorAddrA
namespace Go.Proofs.YtfiddoibnjildaaGreatDoor
set_option linter.unusedSimpArgs false
set_option linter.unusedVariables false
open Go Go.RowKit

theorem isNum_numF {p : List UInt8} : (isNum p 255 = true ∧ numF p = valOf p ∧ valOf p ≤ 255) ∨ (isNum p 255 = false ∧ (numF p < 0 ∨ 255 < numF p)) := by
  cases h : isNum p 255 with
  | true =>
    obtain ⟨n, h1, rfl⟩ := isNum_iff.1 h
    refine .inl ⟨rfl, ?_, by rw [valOf_dec]; exact h1⟩
    unfold numF
    rw [if_pos]
    have := dec_len_le 3 n (by omega) (by omega)
    exact ⟨by omega, by rw [valOf_dec]⟩
  | false =>
    refine .inr ⟨rfl, ?_⟩
    unfold numF
    split
    · rename_i hc
      right
      have h2 : ¬ (valOf p ≤ 255) := fun h3 => by
        have := (isNum_iff (l := p) (most := 255)).2 ⟨_, h3, hc.2.symm⟩
        rw [h] at this; cases this
      omega
    · left; omega
def pairA (o : Option Nat) : Int × Int := match o with | some a => ((a : Int), 0) | none => (0, 3)

/-- The pieces that are still to be read. -/
def Left3 (l : List UInt8) (a many fr i : Nat) (ps : List (List UInt8)) : Prop :=
  addrOf l = addrGo a many ps ∧ ((i ≤ l.length ∧ fr ≤ i ∧ ps = pieces 46 (l.drop fr) ∧ (46 : UInt8) ∉ (l.drop fr).take (i - fr)) ∨ (i = l.length + 1 ∧ ps = []))
theorem Left3.start (l : List UInt8) : Left3 l 0 0 0 0 (pieces 46 l) := ⟨rfl, .inl ⟨Nat.zero_le _, Nat.le_refl _, by simp, by simp⟩⟩
theorem Left3.skip {s : ByteArray} {a many fr i : Nat} {ps : List (List UInt8)} (h : Left3 s.data.toList a many fr i ps) (hi : i < s.size) (hc : s[i] ≠ 46) : Left3 s.data.toList a many fr (i + 1) ps := by
  obtain ⟨h1, h2⟩ := h
  refine ⟨h1, ?_⟩
  rcases h2 with ⟨h3, h4, h5, h6⟩ | ⟨h3, _⟩
  · left
    refine ⟨by simp; omega, by omega, h5, ?_⟩
    rw [show i + 1 - fr = (i - fr) + 1 by omega, List.take_add_one]
    have : (s.data.toList.drop fr)[i - fr]? = some s[i] := by
      rw [List.getElem?_drop, show fr + (i - fr) = i by omega]
      simp [hi]; rfl
    rw [this]
    simp only [Option.toList_some, List.mem_append, List.mem_singleton, not_or]
    exact ⟨h6, fun e => hc e.symm⟩
  · simp at h3; omega
/-- A piece ends. -/
theorem Left3.piece {s : ByteArray} {a many fr i : Nat} {ps : List (List UInt8)} (h : Left3 s.data.toList a many fr i ps) (hi : i ≤ s.size) (hc : ∀ h : i < s.size, s[i] = 46) :
    fr ≤ i ∧ ∃ qs, ps = (s.extract fr i).data.toList :: qs ∧
      (isNum (s.extract fr i).data.toList 255 = true → Left3 s.data.toList ((a * 256 + valOf (s.extract fr i).data.toList) % 4294967296) (many + 1) (i + 1) (i + 1) qs) ∧
      (isNum (s.extract fr i).data.toList 255 = false → addrOf s.data.toList = none) := by
  obtain ⟨h1, h2⟩ := h
  rcases h2 with ⟨h3, h4, h5, h6⟩ | ⟨h3, _⟩
  · have hx : (s.extract fr i).data.toList = (s.data.toList.drop fr).take (i - fr) := by rw [Lib.extract_data]
    refine ⟨h4, ?_⟩
    rw [hx]
    by_cases hlt : i < s.size
    · have e : s.data.toList.drop fr = (s.data.toList.drop fr).take (i - fr) ++ 46 :: s.data.toList.drop (i + 1) := by
        have h7 : (s.data.toList.drop fr).drop (i - fr) = 46 :: s.data.toList.drop (i + 1) := by
          rw [List.drop_drop, show fr + (i - fr) = i by omega]
          have h8 : s.data.toList[i]'(by simpa using hlt) = 46 := by
            have := hc hlt
            rw [← this]; simp; rfl
          rw [← h8]
          exact List.drop_eq_getElem_cons (by simpa using hlt)
        rw [← h7, List.take_append_drop]
      have hp : ps = (s.data.toList.drop fr).take (i - fr) :: pieces 46 (s.data.toList.drop (i + 1)) := by
        rw [h5]
        conv => lhs; rw [e]
        exact pieces_at _ h6
      refine ⟨_, hp, fun hn => ⟨?_, .inl ⟨by simp; omega, Nat.le_refl _, rfl, by simp⟩⟩, fun hn => ?_⟩
      · rw [h1, hp, addrGo, if_pos hn]
      · rw [h1, hp, addrGo, if_neg (by simp [hn])]
    · have he : i = s.size := by omega
      have ht : (s.data.toList.drop fr).take (i - fr) = s.data.toList.drop fr := List.take_of_length_le (by simp; omega)
      have hp : ps = (s.data.toList.drop fr).take (i - fr) :: [] := by
        rw [h5]
        rw [ht] at h6 ⊢
        exact pieces_none h6
      refine ⟨_, hp, fun hn => ⟨?_, .inr ⟨by simp; omega, rfl⟩⟩, fun hn => ?_⟩
      · rw [h1, hp]; simp only [addrGo]; rw [if_pos hn]
      · rw [h1, hp]; simp only [addrGo]; rw [if_neg (by simp [hn])]
  · simp at h3; omega
theorem Left3.last {s : ByteArray} {a many fr i : Nat} {ps : List (List UInt8)} (h : Left3 s.data.toList a many fr i ps) (hi : s.size < i) : addrOf s.data.toList = if many = 4 then some a else none := by
  obtain ⟨h1, h2⟩ := h
  rcases h2 with ⟨h3, _⟩ | ⟨_, rfl⟩
  · simp at h3; omega
  · rw [h1, addrGo]

def PairPost3 (q : Int × Int) (w : World) (e : Ending) (w' : World) : Prop := e = .returned (.tuple #[.int .u32 q.1, .int .i64 q.2]) ∧ Below w.heap.size w w'
theorem pair3 {q : Int × Int} {a b : Int} {w w' : World} (h : q = (a, b)) (hb : Below w.heap.size w w') : PairPost3 q w (.returned (.tuple #[.int .u32 a, .int .i64 b])) w' := by
  subst h; exact ⟨rfl, hb⟩

set_option maxHeartbeats 1000000 in
set_option maxRecDepth 100000 in
theorem refParse_any (s : ByteArray) (w : World) (hs : s.size ≤ 140737488351232) :
    Calls Tryz.prog 30 #[.string s] w (PairPost3 (pairA (addrOf s.data.toList)) w) := by
  go_enter Tryz.func30, Tryz.ntmps30
  go_wp2_with fail
  go_loopw [4, 5, 6, 7] (fun v f m n wr => ∃ (a fr many i : Nat) (ps : List (List UInt8)), v = .int .u32 a ∧ f = .int .i64 fr ∧ m = .int .i64 many ∧ n = .int .i64 i ∧ many ≤ i ∧ i ≤ s.size + 1 ∧ Hid (a < 4294967296) ∧ Hid (Left3 s.data.toList a many fr i ps) ∧ Below w.heap.size w wr) (fun _ _ _ n _ => s.size + 1 - (intOf n).toNat)
  case atStart => exact ⟨0, 0, 0, 0, _, rfl, rfl, rfl, rfl, Nat.le_refl _, Nat.zero_le _, Lib.hid (by omega), Lib.hid (Left3.start _), Below.refl _ _⟩
  case round =>
    obtain ⟨a, fr, many, i, ps, rfl, rfl, rfl, rfl, hm, hi, ha, hl, hb⟩ := hrel
    by_cases hle : i ≤ s.size
    · by_cases hc : ∃ h : i < s.size, s[i] ≠ 46
      · obtain ⟨hlt, hne⟩ := hc
        have HL := Lib.hid (hl.out.skip hlt hne)
        have hne' : ((s[i].toNat : Int) != 46) = true := by
          rw [bne_iff_ne]; intro e; exact hne (UInt8.toNat_inj.1 (by have : (46 : UInt8).toNat = 46 := rfl; omega))
        clear hne
        go_wp2_with fail
        go_roundw
        case rel => exact ⟨a, fr, many, i + 1, _, rfl, rfl, rfl, by go_num, by omega, by omega, ha, HL, hb⟩
        case measure => simp [intOf]; omega
      · obtain ⟨hfr, qs, hps, hyes, hno⟩ := hl.out.piece hle (fun h => by
          by_cases e : s[i] = 46
          · exact e
          · exact absurd ⟨h, e⟩ hc)
        have hfr' : (fr : Int) ≤ i := by omega
        have hsz : (s.extract fr i).size ≤ 140737488351232 := by simp; omega
        have hnum := fun W => number_any (s.extract fr i) W hsz
        have HNM := Lib.hid hnum
        have HH := Lib.hid hps
        have HY := Lib.hid hyes
        have HO := Lib.hid hno
        clear hnum hps hyes hno
        have hdot : i = s.size ∨ ∃ h : i < s.size, s[i] = 46 := by
          by_cases e : i = s.size
          · exact .inl e
          · refine .inr ⟨by omega, ?_⟩
            by_cases e2 : s[i]'(by omega) = 46
            · exact e2
            · exact absurd ⟨by omega, e2⟩ hc
        clear hc
        rcases hdot with he | ⟨hlt, he⟩
        · subst he
          rcases isNum_numF (p := (s.extract fr s.size).data.toList) with ⟨g1, g2, g3⟩ | ⟨g1, g2⟩
          · generalize hv : valOf (s.extract fr s.size).data.toList = v at *
            have G1 := Lib.hid g1
            have G2 := Lib.hid g2
            have HV := Lib.hid hv
            clear g1 g2 hv
            go_wp2_with (go_at_call 31; refine (HNM.out _).mono ?_; rw [G2.out]; rintro e w1 ⟨rfl, hb1⟩)
            go_roundw
            case rel => exact ⟨(a * 256 + v) % 4294967296, s.size + 1, many + 1, s.size + 1, qs, by congr 1; omega, by go_num, by go_num, by go_num, by omega, by omega, Lib.hid (by omega), Lib.hid (HY.out G1.out), hb.trans (hb1.mono hb.size)⟩
            case measure => simp [intOf]
          · generalize hv : numF (s.extract fr s.size).data.toList = v at *
            have G1 := Lib.hid g1
            have HV := Lib.hid hv
            clear g1 hv
            rcases g2 with g2 | g2
            all_goals
              go_wp2_with (go_at_call 31; refine (HNM.out _).mono ?_; rintro e w1 ⟨rfl, hb1⟩)
              go_ret2
              exact pair3 (by rw [HO.out G1.out]; rfl) (hb.trans (hb1.mono hb.size))
        · have hne : ((s[i].toNat : Int) != 46) = false := by rw [he]; rfl
          clear he
          rcases isNum_numF (p := (s.extract fr i).data.toList) with ⟨g1, g2, g3⟩ | ⟨g1, g2⟩
          · generalize hv : valOf (s.extract fr i).data.toList = v at *
            have G1 := Lib.hid g1
            have G2 := Lib.hid g2
            have HV := Lib.hid hv
            clear g1 g2 hv
            go_wp2_with (go_at_call 31; refine (HNM.out _).mono ?_; rw [G2.out]; rintro e w1 ⟨rfl, hb1⟩)
            go_roundw
            case rel => exact ⟨(a * 256 + v) % 4294967296, i + 1, many + 1, i + 1, qs, by congr 1; omega, by go_num, by go_num, by go_num, by omega, by omega, Lib.hid (by omega), Lib.hid (HY.out G1.out), hb.trans (hb1.mono hb.size)⟩
            case measure => simp [intOf]; omega
          · generalize hv : numF (s.extract fr i).data.toList = v at *
            have G1 := Lib.hid g1
            have HV := Lib.hid hv
            clear g1 hv
            rcases g2 with g2 | g2
            all_goals
              go_wp2_with (go_at_call 31; refine (HNM.out _).mono ?_; rintro e w1 ⟨rfl, hb1⟩)
              go_ret2
              exact pair3 (by rw [HO.out G1.out]; rfl) (hb.trans (hb1.mono hb.size))
    · have HE := Lib.hid (hl.out.last (by omega))
      obtain rfl : i = s.size + 1 := by omega
      by_cases h4 : many = 4
      · subst h4
        go_wp2_with fail
        go_ret2
        exact pair3 (by rw [HE.out]; rfl) hb
      · have h4' : ((many : Int) != 4) = true := by rw [bne_iff_ne]; omega
        go_wp2_with fail
        go_ret2
        exact pair3 (by rw [HE.out, if_neg h4]; rfl) hb
end Go.Proofs.YtfiddoibnjildaaGreatDoor
