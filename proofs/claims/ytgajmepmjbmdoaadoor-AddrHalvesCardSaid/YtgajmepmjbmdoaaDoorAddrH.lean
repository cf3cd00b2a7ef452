/- The fixed fact of the laws of addr, and the walks of the laws. -/
import Derived.Test.YtgajmepmjbmdoaaDoorAddrG
namespace Go.Proofs.YtgajmepmjbmdoaaDoor
set_option linter.unusedSimpArgs false
set_option linter.unusedVariables false
open Go Go.RowKit

theorem d0 : Lib.decDigits 0 = [48] := by simp [Lib.decDigits]
theorem d1 : Lib.decDigits 1 = [49] := by simp [Lib.decDigits]
theorem d2 : Lib.decDigits 2 = [50] := by simp [Lib.decDigits]
theorem d3 : Lib.decDigits 3 = [51] := by simp [Lib.decDigits]
theorem d8 : Lib.decDigits 8 = [56] := by simp [Lib.decDigits]
theorem d10 : Lib.decDigits 10 = [49, 48] := by simp [Lib.decDigits]
theorem showA1 : showAddr 167838211 = [49, 48, 46, 49, 46, 50, 46, 51] := by
  simp only [showAddr, byteAt]; simp only [Nat.reducePow, Nat.reduceDiv, Nat.reduceMod, d10, d1, d2, d3]; rfl
theorem showA2 : showAddr 167772160 = [49, 48, 46, 48, 46, 48, 46, 48] := by
  simp only [showAddr, byteAt]; simp only [Nat.reducePow, Nat.reduceDiv, Nat.reduceMod, d10, d0]; rfl
theorem showA3 : showAddr 167837696 = [49, 48, 46, 49, 46, 48, 46, 48] := by
  simp only [showAddr, byteAt]; simp only [Nat.reducePow, Nat.reduceDiv, Nat.reduceMod, d10, d1, d0]; rfl
theorem awP : pairA (addrOf [49, 48, 46, 49, 46, 50, 46, 51]) = (167838211, 0) := by rw [← showA1, addrOf_show _ (by decide)]; rfl
theorem awS : showNet 167772160 8 = some [49, 48, 46, 48, 46, 48, 46, 48, 47, 56] := by
  unfold showNet
  rw [if_pos (by decide), if_neg (by decide), showA2, show (8 : Int).toNat = 8 from rfl, d8]; rfl
theorem awN : netF [49, 48, 46, 48, 46, 48, 46, 48, 47, 56] = (167772160, 8, 0) := by
  unfold netF; rw [netOf_show (by decide) awS]; rfl
theorem awM : netF [49, 48, 46, 49, 46, 48, 46, 48, 47, 56] = (0, 0, 3) := by
  unfold netF netOf
  rw [if_neg (by decide), show ([49, 48, 46, 49, 46, 48, 46, 48, 47, 56] : List UInt8) = [49, 48, 46, 49, 46, 48, 46, 48] ++ 47 :: [56] from rfl, cut_at (by decide)]
  simp only
  rw [← showA3, addrOf_show _ (by decide)]
  simp only
  rw [if_neg]
  rintro ⟨-, -, h⟩
  rw [← d8, valOf_dec] at h
  revert h; decide
theorem awF : showF 167772160 8 = ([49, 48, 46, 48, 46, 48, 46, 48, 47, 56], 0) := by unfold showF; rw [awS]
theorem awH1 : hasNet 167772160 8 167838211 = true := by decide
theorem awH2 : hasNet 167772160 8 184549376 = false := by decide

theorem has_val (a : Nat) (n : Int) (b : Nat) (i j : Int) (r : Bool) (w : World) (hi : i = a) (hj : j = b) (ha : a < 4294967296) (hb : b < 4294967296) (hr : hasNet a n b = r) :
    Calls Tryd.prog 20 #[.agg #[.int .u32 i, .int .i64 n], .int .u32 j] w fun e w' => e = .returned (.bool r) ∧ Below w.heap.size w w' := by
  subst hi hj hr; exact has_any a n b w ha hb
theorem net_val (s : ByteArray) (a b : Nat) (c : Int) (w : World) (hs : s.size ≤ 65536) (hT : Tabs w) (h : netF s.data.toList = (a, b, c)) :
    Calls Tryd.prog 13 #[.string s] w fun e w' => e = .returned (.tuple #[.agg #[.int .u32 a, .int .i64 b], .int .i64 c]) ∧ Below w.heap.size w w' :=
  (net_any s w hs hT).mono fun e w' hp => by unfold NetPost at hp; rw [h] at hp; exact hp
theorem parse_val (s : ByteArray) (a c : Int) (w : World) (hs : s.size ≤ 65536) (hT : Tabs w) (h : pairA (addrOf s.data.toList) = (a, c)) :
    Calls Tryd.prog 10 #[.string s] w fun e w' => e = .returned (.tuple #[.int .u32 a, .int .i64 c]) ∧ Below w.heap.size w w' :=
  (parse_any s w hs hT).mono fun e w' hp => by unfold PairPost3 at hp; rw [h] at hp; exact hp
theorem show_val (a : Nat) (n i : Int) (l : List UInt8) (c : Int) (w : World) (hi : i = a) (ha : a < 4294967296) (hT : Tabs w) (h : showF a n = (l, c)) :
    Calls Tryd.prog 16 #[.agg #[.int .u32 i, .int .i64 n]] w fun e w' => e = .returned (.tuple #[str l, .int .i64 c]) ∧ Below w.heap.size w w' := by
  subst hi
  exact (show_any a n w ha hT).mono fun e w' hp => by unfold StrPost at hp; rw [h] at hp; exact hp
theorem print_val (a : Nat) (i : Int) (l : List UInt8) (w : World) (hi : i = a) (ha : a < 4294967296) (hT : Tabs w) (h : showAddr a = l) :
    Calls Tryd.prog 18 #[.int .u32 i] w fun e w' => e = .returned (str l) ∧ Below w.heap.size w w' := by
  subst hi h; exact print_any a w ha hT

set_option maxHeartbeats 2000000 in
set_option maxRecDepth 100000 in
theorem awake03_any (w : World) (hT : Tabs w) :
    Calls Tryd.prog 15 #[] w fun e w' => e = .returned (.bool true) ∧ Below w.heap.size w w' := by
  have HT := Lib.hid hT
  clear hT
  go_enter Tryd.func15, Tryd.ntmps15
  go_wp2_with fail
  refine (parse_val _ 167838211 0 _ (by decide) HT.out awP).mono ?_
  rintro e w1 ⟨rfl, h1⟩
  have HT1 := Lib.hid (HT.out.below h1)
  have HB1 := Lib.hid h1
  clear h1
  go_wp2_with fail
  refine (net_val _ 167772160 8 0 _ (by decide) HT1.out awN).mono ?_
  rintro e w2 ⟨rfl, h2⟩
  have HT2 := Lib.hid ((HT1.out.below h2).below ((Below.refl _ _).alloc (Nat.le_refl _) (.cells #[.int .u32 167772160, .int .i64 8] 30)))
  have HB2 := Lib.hid ((below_then HB1.out h2).alloc (by have := (below_then HB1.out h2).size; omega) (.cells #[.int .u32 167772160, .int .i64 8] 30))
  have N2 := NetOwn.new w2 167772160 8 30
  clear h2
  go_wp2_with fail
  refine (net_val _ 0 0 3 _ (by decide) HT2.out awM).mono ?_
  rintro e w3 ⟨rfl, h3⟩
  have HT3 := Lib.hid ((HT2.out.below h3).below ((Below.refl _ _).alloc (Nat.le_refl _) (.cells #[.int .u32 0, .int .i64 0] 30)))
  have HB3 := Lib.hid ((below_then HB2.out h3).alloc (by have := (below_then HB2.out h3).size; omega) (.cells #[.int .u32 0, .int .i64 0] 30))
  have N3 := (N2.below h3).box (.cells #[.int .u32 0, .int .i64 0] 30)
  obtain ⟨k0, k1, k2, k3⟩ := N3
  have hlt : w2.heap.size < w3.heap.size := by have := h3.size; simp at this; omega
  clear h3 N2
  go_wp2_with fail
  refine (show_val 167772160 8 _ _ _ _ (by rfl) (by decide) HT3.out awF).mono ?_
  rintro e w4 ⟨rfl, h4⟩
  have HT4 := Lib.hid (HT3.out.below h4)
  have HB4 := Lib.hid (below_then HB3.out h4)
  have N4 := NetOwn.below ⟨k0, k1, k2, k3⟩ h4
  obtain ⟨l0, l1, _, _⟩ := id N4
  clear h4 k0 k1 k2 k3
  go_wp2_with fail
  refine (has_val 167772160 8 167838211 _ _ true _ (by rfl) (by rfl) (by decide) (by decide) awH1).mono ?_
  rintro e w5 ⟨rfl, h5⟩
  have HT5 := Lib.hid (HT4.out.below h5)
  have HB5 := Lib.hid (below_then HB4.out h5)
  have N5 := N4.below h5
  obtain ⟨m0, m1, _, _⟩ := id N5
  clear h5 l0 l1 N4
  go_wp2_with fail
  refine (has_val 167772160 8 184549376 _ _ false _ (by rfl) (by rfl) (by decide) (by decide) awH2).mono ?_
  rintro e w6 ⟨rfl, h6⟩
  have HT6 := Lib.hid (HT5.out.below h6)
  have HB6 := Lib.hid (below_then HB5.out h6)
  clear h6 m0 m1 N5
  go_wp2_with fail
  refine (print_val 167838211 _ _ _ (by rfl) (by decide) HT6.out showA1).mono ?_
  rintro e w7 ⟨rfl, h7⟩
  have HB7 := Lib.hid (below_then HB6.out h7)
  clear h7
  go_wp2_with fail
  go_ret
  exact ⟨by first | rfl | (simp; done), HB7.out⟩

def shortS (s : ByteArray) : ByteArray := if 60 < s.size then s.extract 0 60 else s
theorem short_size (s : ByteArray) : (shortS s).size ≤ 60 := by
  unfold shortS
  split
  · simp; omega
  · omega
set_option maxHeartbeats 2000000 in
theorem short_any (s : ByteArray) (w : World) (hs : s.size ≤ 140737488351232) :
    Calls Tryd.prog 11 #[.string s] w fun e w' => e = .returned (.string (shortS s)) ∧ w' = w := by
  by_cases h : 60 < s.size
  · have hv : Hid (shortS s = s.extract 0 60) := Lib.hid (by unfold shortS; rw [if_pos h])
    go_enter Tryd.func11, Tryd.ntmps11
    go_wp2_with fail
    go_ret
    exact ⟨by rw [hv.out]; rfl, rfl⟩
  · have hv : Hid (shortS s = s) := Lib.hid (by unfold shortS; rw [if_neg h])
    go_enter Tryd.func11, Tryd.ntmps11
    go_wp2_with fail
    go_ret
    exact ⟨by rw [hv.out]; rfl, rfl⟩
end Go.Proofs.YtgajmepmjbmdoaaDoor
