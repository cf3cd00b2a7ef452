/- The fixed fact of the laws of addr, and the walks of the laws. -/
import Derived.Test.YtfiddoibnjildaaGreatDoorAddrG
namespace Go.Proofs.YtfiddoibnjildaaGreatDoor
set_option linter.unusedSimpArgs false
set_option linter.unusedVariables false
open Go Go.RowKit

theorem d0 : Lib.decDigits 0 = [48] := by simp [Lib.decDigits]
theorem d1 : Lib.decDigits 1 = [49] := by simp [Lib.decDigits]
theorem d2 : Lib.decDigits 2 = [50] := by simp [Lib.decDigits]
theorem d3 : Lib.decDigits 3 = [51] := by simp [Lib.decDigits]
theorem d8 : Lib.decDigits 8 = [56] := by simp [Lib.decDigits]
theorem d10 : Lib.decDigits 10 = [49, 48] := by simp [Lib.decDigits]
theorem showA1 : showAddr 167838211 = [49, 48, 46, 49, 46, 50, 46, 51] := by
  simp only [showAddr, byteAt]; simp only [Nat.reducePow, Nat.reduceDiv, Nat.reduceMod, d10, d1, d2, d3]; rfl
theorem showA2 : showAddr 167772160 = [49, 48, 46, 48, 46, 48, 46, 48] := by
  simp only [showAddr, byteAt]; simp only [Nat.reducePow, Nat.reduceDiv, Nat.reduceMod, d10, d0]; rfl
theorem showA3 : showAddr 167837696 = [49, 48, 46, 49, 46, 48, 46, 48] := by
  simp only [showAddr, byteAt]; simp only [Nat.reducePow, Nat.reduceDiv, Nat.reduceMod, d10, d1, d0]; rfl
theorem awP : pairA (addrOf [49, 48, 46, 49, 46, 50, 46, 51]) = (167838211, 0) := by rw [← showA1, addrOf_show _ (by decide)]; rfl
theorem awS : showNet 167772160 8 = some [49, 48, 46, 48, 46, 48, 46, 48, 47, 56] := by
  unfold showNet
  rw [if_pos (by decide), if_neg (by decide), showA2, show (8 : Int).toNat = 8 from rfl, d8]; rfl
theorem awN : netF [49, 48, 46, 48, 46, 48, 46, 48, 47, 56] = (167772160, 8, 0) := by
  unfold netF; rw [netOf_show (by decide) awS]; rfl
theorem awM : netF [49, 48, 46, 49, 46, 48, 46, 48, 47, 56] = (0, 0, 3) := by
  unfold netF netOf
  rw [if_neg (by decide), show ([49, 48, 46, 49, 46, 48, 46, 48, 47, 56] : List UInt8) = [49, 48, 46, 49, 46, 48, 46, 48] ++ 47 :: [56] from rfl, cut_at (by decide)]
  simp only
  rw [← showA3, addrOf_show _ (by decide)]
  simp only
  rw [if_neg]
  rintro ⟨-, -, h⟩
  rw [← d8, valOf_dec] at h
  revert h; decide
theorem awF : showF 167772160 8 = ([49, 48, 46, 48, 46, 48, 46, 48, 47, 56], 0) := by unfold showF; rw [awS]
theorem awH1 : hasNet 167772160 8 167838211 = true := by decide
theorem awH2 : hasNet 167772160 8 184549376 = false := by decide

theorem net_val (s : ByteArray) (a b : Nat) (c : Int) (w : World) (hs : s.size ≤ 65536) (hT : Tabs w) (h : netF s.data.toList = (a, b, c)) :
    Calls Tryz.prog 27 #[.string s] w fun e w' => e = .returned (.tuple #[.agg #[.int .u32 a, .int .i64 b], .int .i64 c]) ∧ Below w.heap.size w w' :=
  (net_any s w hs hT).mono fun e w' hp => by unfold NetPost at hp; rw [h] at hp; exact hp
theorem parse_val (s : ByteArray) (a c : Int) (w : World) (hs : s.size ≤ 65536) (hT : Tabs w) (h : pairA (addrOf s.data.toList) = (a, c)) :
    Calls Tryz.prog 49 #[.string s] w fun e w' => e = .returned (.tuple #[.int .u32 a, .int .i64 c]) ∧ Below w.heap.size w w' :=
  (parse_any s w hs hT).mono fun e w' hp => by unfold PairPost3 at hp; rw [h] at hp; exact hp
theorem show_val (a : Nat) (n i : Int) (l : List UInt8) (c : Int) (w : World) (hi : i = a) (ha : a < 4294967296) (hT : Tabs w) (h : showF a n = (l, c)) :
    Calls Tryz.prog 39 #[.agg #[.int .u32 i, .int .i64 n]] w fun e w' => e = .returned (.tuple #[str l, .int .i64 c]) ∧ Below w.heap.size w w' := by
  subst hi
  exact (show_any a n w ha hT).mono fun e w' hp => by unfold StrPost at hp; rw [h] at hp; exact hp
theorem print_val (a : Nat) (i : Int) (l : List UInt8) (w : World) (hi : i = a) (ha : a < 4294967296) (hT : Tabs w) (h : showAddr a = l) :
    Calls Tryz.prog 58 #[.int .u32 i] w fun e w' => e = .returned (str l) ∧ Below w.heap.size w w' := by
  subst hi h; exact print_any a w ha hT

def shortS (s : ByteArray) : ByteArray := if 60 < s.size then s.extract 0 60 else s
theorem short_size (s : ByteArray) : (shortS s).size ≤ 60 := by
  unfold shortS
  split
  · simp; omega
  · omega
end Go.Proofs.YtfiddoibnjildaaGreatDoor
