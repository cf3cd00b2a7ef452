/- The walk of the law AddrReads. -/
import Derived.Test.YtgajmepmjbmdoaaDoorAddrH
namespace Go.Proofs.YtgajmepmjbmdoaaDoor
set_option linter.unusedSimpArgs false
set_option linter.unusedVariables false
open Go Go.RowKit

theorem refParse_val (s : ByteArray) (a c : Int) (w : World) (hs : s.size ≤ 65536) (h : pairA (addrOf s.data.toList) = (a, c)) :
    Calls Tryd.prog 12 #[.string s] w fun e w' => e = .returned (.tuple #[.int .u32 a, .int .i64 c]) ∧ Below w.heap.size w w' :=
  (refParse_any s w (by omega)).mono fun e w' hp => by unfold PairPost3 at hp; rw [h] at hp; exact hp
theorem refNet_val (s : ByteArray) (a b : Nat) (c : Int) (w : World) (hs : s.size ≤ 65536) (h : netF s.data.toList = (a, b, c)) :
    Calls Tryd.prog 14 #[.string s] w fun e w' => e = .returned (.tuple #[.agg #[.int .u32 a, .int .i64 b], .int .i64 c]) ∧ Below w.heap.size w w' :=
  (refNet_any s w (by omega)).mono fun e w' hp => by unfold NetPost at hp; rw [h] at hp; exact hp

set_option maxHeartbeats 4000000 in
set_option maxRecDepth 100000 in
theorem addrReads_walk (s : ByteArray) (w : World) (hs : s.size ≤ 140737488351232) (hT : Tabs w) :
    Calls Tryd.prog 3 #[.string s] w fun e w' => e = .returned (.bool true) ∧ Below w.heap.size w w' := by
  have HS := Lib.hid hs
  have HT := Lib.hid hT
  have h60 : (shortS s).size ≤ 65536 := by have := short_size s; omega
  obtain ⟨⟨a, c⟩, hp⟩ : ∃ q, pairA (addrOf (shortS s).data.toList) = q := ⟨_, rfl⟩
  obtain ⟨⟨x, y, z⟩, hn⟩ : ∃ q, netF (shortS s).data.toList = q := ⟨_, rfl⟩
  have HSH := Lib.hid (fun v => short_any s v hs)
  have HP := Lib.hid (fun v (hT : Tabs v) => parse_val (shortS s) a c v h60 hT hp)
  have HRP := Lib.hid (fun v => refParse_val (shortS s) a c v h60 hp)
  have HN := Lib.hid (fun v (hT : Tabs v) => net_val (shortS s) x y z v h60 hT hn)
  have HRN := Lib.hid (fun v => refNet_val (shortS s) x y z v h60 hn)
  generalize shortS s = t at *
  clear hs hT h60 hp hn
  go_enter Tryd.func3, Tryd.ntmps3
  go_wp2_with fail
  refine (HSH.out _).mono ?_
  rintro e w0 ⟨rfl, rfl⟩
  go_wp2_with fail
  refine (HP.out _ HT.out).mono ?_
  rintro e w1 ⟨rfl, h1⟩
  have HT1 := Lib.hid (HT.out.below h1)
  have HB1 := Lib.hid h1
  clear h1
  go_wp2_with fail
  refine (HSH.out _).mono ?_
  rintro e w0 ⟨rfl, rfl⟩
  go_wp2_with fail
  refine (HRP.out _).mono ?_
  rintro e w2 ⟨rfl, h2⟩
  have HT2 := Lib.hid (HT1.out.below h2)
  have HB2 := Lib.hid (below_then HB1.out h2)
  clear h2
  go_wp2_with fail
  refine (HSH.out _).mono ?_
  rintro e w0 ⟨rfl, rfl⟩
  go_wp2_with fail
  refine (HN.out _ HT2.out).mono ?_
  rintro e w3 ⟨rfl, h3⟩
  have HB3 := Lib.hid ((below_then HB2.out h3).alloc (below_then HB2.out h3).size (.cells #[.int .u32 x, .int .i64 y] 30))
  have HT3 := Lib.hid ((HT2.out.below h3).below ((Below.refl _ _).alloc (Nat.le_refl _) (.cells #[.int .u32 x, .int .i64 y] 30)))
  have N3 := NetOwn.new w3 x y 30
  clear h3
  go_wp2_with fail
  refine (HSH.out _).mono ?_
  rintro e w0 ⟨rfl, rfl⟩
  go_wp2_with fail
  refine (HRN.out _).mono ?_
  rintro e w4 ⟨rfl, h4⟩
  have HB4 := Lib.hid ((below_then HB3.out h4).alloc (below_then HB3.out h4).size (.cells #[.int .u32 x, .int .i64 y] 30))
  have HT4 := Lib.hid ((HT3.out.below h4).below ((Below.refl _ _).alloc (Nat.le_refl _) (.cells #[.int .u32 x, .int .i64 y] 30)))
  have N4 := (N3.below h4).box (.cells #[.int .u32 x, .int .i64 y] 30)
  have M4 := NetOwn.new w4 x y 30
  have hlt : w3.heap.size < w4.heap.size := by have := h4.size; simp at this; omega
  have HA := Lib.hid (awake03_any _ HT4.out)
  clear h4 N3
  go_wp2_with fail
  refine HA.out.mono ?_
  rintro e w5 ⟨rfl, h5⟩
  obtain ⟨n0, n1, _, _⟩ := N4.below h5
  obtain ⟨m0, m1, _, _⟩ := M4.below h5
  have HB5 := Lib.hid (below_then HB4.out h5)
  clear h5
  go_wp2_with fail
  go_ret
  exact ⟨by first | rfl | (simp; done), HB5.out⟩
end Go.Proofs.YtgajmepmjbmdoaaDoor
