/- The walk of the law AddrBack. -/
import Derived.Test.YtgajmepmjbmdoaaDoorAddrI
namespace Go.Proofs.YtgajmepmjbmdoaaDoor
set_option linter.unusedSimpArgs false
set_option linter.unusedVariables false
open Go Go.RowKit

theorem showF_len (a : Nat) (n : Int) : (showF a n).1.length ≤ 60 := by
  unfold showF showNet
  by_cases hm : mayNet a n = true
  · rw [if_pos hm]
    simp only
    split
    · decide
    · have := show_len a
      have h3 := dec_len_le 2 n.toNat (by have := (may_range hm).2; omega) (by omega)
      simp; omega
  · rw [if_neg hm]; simp

/-- What the last part of AddrBack asks. -/
def LastOk (s : ByteArray) : Prop := ∃ x y z l c, netF s.data.toList = (x, y, z) ∧ x < 4294967296 ∧ showF x y = (l, c) ∧ ((z != 0) = true ∨ (z != 0) = false ∧ (c == 0) = true ∧ (l == s.toList) = true)
theorem last_ok (s : ByteArray) : LastOk s := by
  unfold LastOk
  cases h : netOf s.data.toList with
  | none => exact ⟨0, 0, 3, (showF 0 0).1, (showF 0 0).2, by unfold netF; rw [h], by omega, rfl, .inl rfl⟩
  | some q =>
    obtain ⟨x, y⟩ := q
    have := showNet_netOf h
    refine ⟨x, y, 0, s.data.toList, 0, by unfold netF; rw [h], this.2.1, by unfold showF; rw [this.1], .inr ⟨rfl, rfl, ?_⟩⟩
    rw [ByteArray.toList_eq]; simp

set_option maxHeartbeats 4000000 in
set_option maxRecDepth 100000 in
theorem addrBack_walk (a : Nat) (b : Nat) (n : Int) (s : ByteArray) (w : World) (ha : a < 4294967296) (hb : b < 4294967296) (hn : (Lit.int .i64 n).wf = true) (hs : s.size ≤ 140737488351232) (hT : Tabs w) :
    Calls Tryd.prog 5 #[.int .u32 a, .agg #[.int .u32 b, .int .i64 n], .string s] w fun e w' => e = .returned (.bool true) ∧ Below w.heap.size w w' := by
  have HN := Lib.hid hn
  have HT0 := Lib.hid (hT.below ((Below.refl _ _).alloc (Nat.le_refl _) (.cells #[.int .u32 b, .int .i64 n] 30)))
  have HB0 := Lib.hid ((Below.refl w.heap.size w).alloc (Nat.le_refl _) (.cells #[.int .u32 b, .int .i64 n] 30))
  have N0 := NetOwn.new w b n 30
  have HA := Lib.hid (fun v (hT : Tabs v) => awake03_any v hT)
  have h60 := short_size s
  have HSH := Lib.hid (fun v => short_any s v hs)
  obtain ⟨x, y, z, l, c, l1, l2, l3, l4⟩ := last_ok (shortS s)
  have HNL := Lib.hid (fun v (hT : Tabs v) => net_val (shortS s) x y z v (by omega) hT l1)
  have HSL := Lib.hid (fun v (hT : Tabs v) => show_val x y x l c v rfl l2 hT l3)
  have HL4 := Lib.hid l4
  clear l1 l2 l3 l4
  have hpl := show_len a
  have hps := addrOf_show a ha
  have HP := Lib.hid (fun v (hT : Tabs v) => print_val a a (showAddr a) v rfl ha hT rfl)
  have HPP := Lib.hid (fun v (hT : Tabs v) => parse_val ⟨(showAddr a).toArray⟩ a 0 v (by show (showAddr a).toArray.size ≤ _; simp; omega) hT (by show pairA (addrOf (showAddr a)) = _; rw [hps]; rfl))
  generalize showAddr a = pa at *
  have haa : ((a : Int) != (a : Int)) = false := by simp
  obtain ⟨t, cn, hsf⟩ : ∃ t cn, showF b n = (t, cn) := ⟨_, _, rfl⟩
  have hsl := showF_len b n
  rw [hsf] at hsl
  have HS := Lib.hid (fun v (hT : Tabs v) => show_val b n b t cn v rfl hb hT hsf)
  have hsn : ((cn == 0) = false) ∨ ((cn == 0) = true ∧ netF t = (b, n.toNat, 0) ∧ 0 ≤ n) := by
    unfold showF at hsf
    cases hq : showNet b n with
    | none => rw [hq] at hsf; injection hsf with e1 e2; subst e2; exact .inl rfl
    | some t' =>
      rw [hq] at hsf; injection hsf with e1 e2; subst e1 e2
      refine .inr ⟨rfl, by unfold netF; rw [netOf_show hb hq], ?_⟩
      unfold showNet at hq
      split at hq
      · exact (may_range ‹_›).1
      · cases hq
  obtain ⟨⟨pc, pe⟩, hpp⟩ : ∃ q, pairA (addrOf (shortS s).data.toList) = q := ⟨_, rfl⟩
  have HPS := Lib.hid (fun v (hT : Tabs v) => parse_val (shortS s) pc pe v (by omega) hT hpp)
  have hpe : ((pe == 0) = false) ∨ ((pe == 0) = true ∧ ∃ m : Nat, pc = m ∧ m < 4294967296 ∧ showAddr m = (shortS s).data.toList) := by
    cases hq : addrOf (shortS s).data.toList with
    | none => rw [hq] at hpp; injection hpp with e1 e2; subst e2; exact .inl rfl
    | some m =>
      rw [hq] at hpp; injection hpp with e1 e2; subst e1 e2
      exact .inr ⟨rfl, m, rfl, (addrOf_lt hq).1, (addrOf_lt hq).2⟩
  have HPE := Lib.hid hpe
  have HSN := Lib.hid hsn
  have H60 := Lib.hid h60
  generalize shortS s = r at *
  clear hT hn hs hpl hps hsf hsn hpp hpe h60
  go_enter Tryd.func5, Tryd.ntmps5
  go_wp2_with fail
  refine (HP.out _ HT0.out).mono ?_
  rintro e w1 ⟨rfl, h1⟩
  have HT1 := Lib.hid (HT0.out.below h1)
  have HB1 := Lib.hid (below_then HB0.out h1)
  have N1 := N0.below h1
  clear h1 N0
  go_wp2_with fail
  refine (HPP.out _ HT1.out).mono ?_
  rintro e w2 ⟨rfl, h2⟩
  have HT2 := Lib.hid (HT1.out.below h2)
  have HB2 := Lib.hid (below_then HB1.out h2)
  have N2 := N1.below h2
  obtain ⟨n0, n1, _, _⟩ := id N2
  clear h2 N1
  go_wp2_with fail
  refine (HS.out _ HT2.out).mono ?_
  rintro e w3 ⟨rfl, h3⟩
  have HT3 := Lib.hid (HT2.out.below h3)
  have HB3 := Lib.hid (below_then HB2.out h3)
  have N3 := N2.below h3
  clear h3 N2 n0 n1
  rcases HSN.out with hsn | ⟨hsn, hnt, hn0⟩
  · go_wp2_with fail
    refine (HSH.out _).mono ?_
    rintro e w0 ⟨rfl, rfl⟩
    go_wp2_with fail
    refine (HPS.out _ HT3.out).mono ?_
    rintro e w5 ⟨rfl, h5⟩
    have HT5 := Lib.hid (HT3.out.below h5)
    have HB5 := Lib.hid (below_then HB3.out h5)
    clear h5
    rcases HPE.out with hpe | ⟨hpe, m, em, hm1, hm2⟩
    · go_wp2_with fail
      refine (HSH.out _).mono ?_
      rintro e w0 ⟨rfl, rfl⟩
      go_wp2_with fail
      refine (HNL.out _ HT5.out).mono ?_
      rintro e w7 ⟨rfl, h7⟩
      have HT7 := Lib.hid ((HT5.out.below h7).below ((Below.refl _ _).alloc (Nat.le_refl _) (.cells #[.int .u32 x, .int .i64 y] 30)))
      have HB7 := Lib.hid ((below_then HB5.out h7).alloc (below_then HB5.out h7).size (.cells #[.int .u32 x, .int .i64 y] 30))
      clear h7
      go_wp2_with fail
      refine (HSL.out _ HT7.out).mono ?_
      rintro e w8 ⟨rfl, h8⟩
      have HT8 := Lib.hid (HT7.out.below h8)
      have HB8 := Lib.hid (below_then HB7.out h8)
      clear h8
      go_wp2_with fail
      refine (HA.out _ HT8.out).mono ?_
      rintro e w9 ⟨rfl, h9⟩
      have HB9 := Lib.hid (below_then HB8.out h9)
      clear h9
      rcases HL4.out with q1 | ⟨q1, q2, q3⟩
      · go_wp2_with fail
        go_ret
        exact ⟨by first | rfl | (simp; done), HB9.out⟩
      · go_wp2_with fail
        refine (HSH.out _).mono ?_
        rintro e w0 ⟨rfl, rfl⟩
        go_wp2_with fail
        go_ret
        exact ⟨by first | rfl | (simp; done), HB9.out⟩
    · have HPM := Lib.hid (fun v (hT : Tabs v) => print_val m pc (showAddr m) v em hm1 hT rfl)
      have hsq : ((!showAddr m == r.toList) = false) := by rw [hm2, ByteArray.toList_eq]; simp
      generalize showAddr m = sm at *
      clear hm1 hm2 em
      go_wp2_with fail
      refine (HPM.out _ HT5.out).mono ?_
      rintro e w6 ⟨rfl, h6⟩
      have HT6 := Lib.hid (HT5.out.below h6)
      have HB6 := Lib.hid (below_then HB5.out h6)
      clear h6
      go_wp2_with fail
      refine (HSH.out _).mono ?_
      rintro e w0 ⟨rfl, rfl⟩
      go_wp2_with fail
      refine (HSH.out _).mono ?_
      rintro e w0 ⟨rfl, rfl⟩
      go_wp2_with fail
      refine (HNL.out _ HT6.out).mono ?_
      rintro e w7 ⟨rfl, h7⟩
      have HT7 := Lib.hid ((HT6.out.below h7).below ((Below.refl _ _).alloc (Nat.le_refl _) (.cells #[.int .u32 x, .int .i64 y] 30)))
      have HB7 := Lib.hid ((below_then HB6.out h7).alloc (below_then HB6.out h7).size (.cells #[.int .u32 x, .int .i64 y] 30))
      clear h7
      go_wp2_with fail
      refine (HSL.out _ HT7.out).mono ?_
      rintro e w8 ⟨rfl, h8⟩
      have HT8 := Lib.hid (HT7.out.below h8)
      have HB8 := Lib.hid (below_then HB7.out h8)
      clear h8
      go_wp2_with fail
      refine (HA.out _ HT8.out).mono ?_
      rintro e w9 ⟨rfl, h9⟩
      have HB9 := Lib.hid (below_then HB8.out h9)
      clear h9
      rcases HL4.out with q1 | ⟨q1, q2, q3⟩
      · go_wp2_with fail
        go_ret
        exact ⟨by first | rfl | (simp; done), HB9.out⟩
      · go_wp2_with fail
        refine (HSH.out _).mono ?_
        rintro e w0 ⟨rfl, rfl⟩
        go_wp2_with fail
        go_ret
        exact ⟨by first | rfl | (simp; done), HB9.out⟩
  · have hnt2 : ∀ v, Tabs v → Calls Tryd.prog 13 #[.string ⟨t.toArray⟩] v fun e w' => e = .returned (.tuple #[.agg #[.int .u32 b, .int .i64 n], .int .i64 0]) ∧ Below v.heap.size v w' := fun v hT => by
      have := net_val ⟨t.toArray⟩ b n.toNat 0 v (by show t.toArray.size ≤ _; simp at hsl ⊢; omega) hT hnt
      rwa [Int.toNat_of_nonneg hn0] at this
    have HNT := Lib.hid hnt2
    clear hnt hnt2
    go_wp2_with fail
    refine (HNT.out _ HT3.out).mono ?_
    rintro e w4 ⟨rfl, h4⟩
    have hlt3 : w.heap.size < w3.heap.size := World.block_lt_of_cell? w3 ⟨w.heap.size, 0, none⟩ N3.1
    have hlt4 : w.heap.size < w4.heap.size := by have := h4.size; omega
    obtain ⟨p0, p1, _, _⟩ := (N3.below h4).box (.cells #[.int .u32 b, .int .i64 n] 30)
    have HT4 := Lib.hid ((HT3.out.below h4).below ((Below.refl _ _).alloc (Nat.le_refl _) (.cells #[.int .u32 b, .int .i64 n] 30)))
    have HB4 := Lib.hid ((below_then HB3.out h4).alloc (below_then HB3.out h4).size (.cells #[.int .u32 b, .int .i64 n] 30))
    clear h4
    go_wp2_with fail
    refine (HSH.out _).mono ?_
    rintro e w0 ⟨rfl, rfl⟩
    go_wp2_with fail
    refine (HPS.out _ HT4.out).mono ?_
    rintro e w5 ⟨rfl, h5⟩
    have HT5 := Lib.hid (HT4.out.below h5)
    have HB5 := Lib.hid (below_then HB4.out h5)
    clear h5
    rcases HPE.out with hpe | ⟨hpe, m, em, hm1, hm2⟩
    · go_wp2_with fail
      refine (HSH.out _).mono ?_
      rintro e w0 ⟨rfl, rfl⟩
      go_wp2_with fail
      refine (HNL.out _ HT5.out).mono ?_
      rintro e w7 ⟨rfl, h7⟩
      have HT7 := Lib.hid ((HT5.out.below h7).below ((Below.refl _ _).alloc (Nat.le_refl _) (.cells #[.int .u32 x, .int .i64 y] 30)))
      have HB7 := Lib.hid ((below_then HB5.out h7).alloc (below_then HB5.out h7).size (.cells #[.int .u32 x, .int .i64 y] 30))
      clear h7
      go_wp2_with fail
      refine (HSL.out _ HT7.out).mono ?_
      rintro e w8 ⟨rfl, h8⟩
      have HT8 := Lib.hid (HT7.out.below h8)
      have HB8 := Lib.hid (below_then HB7.out h8)
      clear h8
      go_wp2_with fail
      refine (HA.out _ HT8.out).mono ?_
      rintro e w9 ⟨rfl, h9⟩
      have HB9 := Lib.hid (below_then HB8.out h9)
      clear h9
      rcases HL4.out with q1 | ⟨q1, q2, q3⟩
      · go_wp2_with fail
        go_ret
        exact ⟨by first | rfl | (simp; done), HB9.out⟩
      · go_wp2_with fail
        refine (HSH.out _).mono ?_
        rintro e w0 ⟨rfl, rfl⟩
        go_wp2_with fail
        go_ret
        exact ⟨by first | rfl | (simp; done), HB9.out⟩
    · have HPM := Lib.hid (fun v (hT : Tabs v) => print_val m pc (showAddr m) v em hm1 hT rfl)
      have hsq : ((!showAddr m == r.toList) = false) := by rw [hm2, ByteArray.toList_eq]; simp
      generalize showAddr m = sm at *
      clear hm1 hm2 em
      go_wp2_with fail
      refine (HPM.out _ HT5.out).mono ?_
      rintro e w6 ⟨rfl, h6⟩
      have HT6 := Lib.hid (HT5.out.below h6)
      have HB6 := Lib.hid (below_then HB5.out h6)
      clear h6
      go_wp2_with fail
      refine (HSH.out _).mono ?_
      rintro e w0 ⟨rfl, rfl⟩
      go_wp2_with fail
      refine (HSH.out _).mono ?_
      rintro e w0 ⟨rfl, rfl⟩
      go_wp2_with fail
      refine (HNL.out _ HT6.out).mono ?_
      rintro e w7 ⟨rfl, h7⟩
      have HT7 := Lib.hid ((HT6.out.below h7).below ((Below.refl _ _).alloc (Nat.le_refl _) (.cells #[.int .u32 x, .int .i64 y] 30)))
      have HB7 := Lib.hid ((below_then HB6.out h7).alloc (below_then HB6.out h7).size (.cells #[.int .u32 x, .int .i64 y] 30))
      clear h7
      go_wp2_with fail
      refine (HSL.out _ HT7.out).mono ?_
      rintro e w8 ⟨rfl, h8⟩
      have HT8 := Lib.hid (HT7.out.below h8)
      have HB8 := Lib.hid (below_then HB7.out h8)
      clear h8
      go_wp2_with fail
      refine (HA.out _ HT8.out).mono ?_
      rintro e w9 ⟨rfl, h9⟩
      have HB9 := Lib.hid (below_then HB8.out h9)
      clear h9
      rcases HL4.out with q1 | ⟨q1, q2, q3⟩
      · go_wp2_with fail
        go_ret
        exact ⟨by first | rfl | (simp; done), HB9.out⟩
      · go_wp2_with fail
        refine (HSH.out _).mono ?_
        rintro e w0 ⟨rfl, rfl⟩
        go_wp2_with fail
        go_ret
        exact ⟨by first | rfl | (simp; done), HB9.out⟩
end Go.Proofs.YtgajmepmjbmdoaaDoor
