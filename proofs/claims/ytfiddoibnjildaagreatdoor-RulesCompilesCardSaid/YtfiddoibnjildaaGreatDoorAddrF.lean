/- The walks of addr's Print and Show. -/
import Derived.Test.YtfiddoibnjildaaGreatDoorAddrE
import Derived.Test.YtfiddoibnjildaaGreatDoorHeap
namespace Go.Proofs.YtfiddoibnjildaaGreatDoor
set_option linter.unusedSimpArgs false
set_option linter.unusedVariables false
open Go Go.RowKit

theorem owns_below {w w1 : World} {base : Nat} {e : TypeId} {size n : Nat} {v : Value} {xs : List Value} (h : w.ownsRow base e size v n xs) (hb : Below w.heap.size w w1) : w1.ownsRow base e size v n xs := by
  refine ⟨h.1, ?_⟩
  rcases h.2 with h1 | ⟨g, cap, cur, rfl, h2, h3, h4⟩
  · exact .inl h1
  · refine .inr ⟨g, cap, cur, rfl, h2, ?_, h4⟩
    have hl : g < w.heap.size := by
      by_cases hl : g < w.heap.size
      · exact hl
      · rw [Array.getElem?_eq_none (by omega)] at h3; cases h3
    rw [hb.block g hl]; exact h3
theorem owns_block {w : World} {base : Nat} {e : TypeId} {size n : Nat} {v : Value} {xs : List Value} (h : w.ownsRow base e size v n xs) : ∀ b, v.ownBlock = some b → base ≤ b := by
  rcases h.2 with ⟨rfl, _⟩ | ⟨g, cap, cur, rfl, h2, _⟩
  · intro b hb; cases hb
  · intro b hb; cases hb; exact h2

theorem Row_of_owns {w : World} {base : Nat} {e : TypeId} {size n : Nat} {v : Value} {xs : List Value} (h : w.ownsRow base e size v n xs) : Row w e size v n xs := by
  refine ⟨h.1, ?_⟩
  rcases h.2 with h1 | ⟨g, cap, cur, rfl, h2, h3⟩
  · exact .inl h1
  · exact .inr ⟨g, cap, cur, rfl, Nat.zero_le _, h3⟩
theorem owns_cap {w : World} {base : Nat} {e : TypeId} {size n c : Nat} {a : Option Addr} {xs : List Value} (h : w.ownsRow base e size (.slice a n c) n xs) : n ≤ c := by
  rcases h.2 with ⟨h1, h2⟩ | ⟨g, cap, cur, h1, h2, h3, h4, _⟩
  · omega
  · cases h1; exact h4
theorem infoStr : (Tryz.prog.info? 9).map (fun i => (i.zero, i.size, i.bytes)) = some (some (.string ByteArray.empty), 1, 16) := by kernel_rfl

/-- The four parts of an address's text. -/
def parts4 (a : Nat) : List (List UInt8) := [Lib.decDigits (byteAt a 3), Lib.decDigits (byteAt a 2), Lib.decDigits (byteAt a 1), Lib.decDigits (byteAt a 0)]
theorem itoa_byte (n : Int) (m : Nat) (h : n = m) : Lib.itoa n = Lib.decDigits m := by subst h; rw [Lib.itoa, if_neg (by omega), Int.toNat_natCast]

set_option maxHeartbeats 2000000 in
set_option maxRecDepth 100000 in
theorem print_any (a : Nat) (w : World) (ha : a < 4294967296) (hT : Tabs w) :
    Calls Tryz.prog 58 #[.int .u32 a] w fun e w' => e = .returned (str (showAddr a)) ∧ Below w.heap.size w w' := by
  obtain ⟨i0, hi, hz0, hz1, hz2⟩ := info_parts infoStr
  have HT := Lib.hid hT
  have HA := Lib.hid ha
  clear hT ha
  go_enter Tryz.func58, Tryz.ntmps58
  go_wp2_with fail
  go_loopw [3, 4] (fun v sh wr => ∃ k : Nat, k ≤ 4 ∧ sh = .int .i64 (24 - 8 * k) ∧ wr.ownsRow w.heap.size 9 1 v k (((parts4 a).take k).map str) ∧ Below w.heap.size w wr) (fun _ sh _ => (intOf sh + 8).toNat)
  case atStart => exact ⟨0, by omega, rfl, ⟨rfl, .inl ⟨rfl, rfl⟩⟩, Below.refl _ _⟩
  case round =>
    obtain ⟨k, hk, rfl, hown, hb⟩ := hrel
    have HO := Lib.hid hown
    have HBB := Lib.hid hb
    clear hown hb
    obtain rfl | rfl | rfl | rfl | rfl : k = 0 ∨ k = 1 ∨ k = 2 ∨ k = 3 ∨ k = 4 := by omega
    · have HI := Lib.hid (fun W (hT : Tabs W) => itoa_any ((a : Int) / 16777216 % 256) W (by omega) (by omega) hT)
      go_wp2_with fail
      refine (HI.out _ (HT.out.below HBB.out)).mono ?_
      rintro e w1 ⟨rfl, h1⟩
      have hown := owns_below HO.out h1
      have HB1 := Lib.hid (HBB.out.trans (h1.mono HBB.out.size))
      have hsz : w.heap.size ≤ w1.heap.size := HB1.out.size
      clear h1
      go_wp2_with (at_builtin; refine wpList_append_own _ rfl _ _ 34 rfl w.heap.size 9 i0 (.string ByteArray.empty) 1 16 Tryz.underlying34 hi hz0 hz1 hz2 rfl (by decide) _ _ _ rfl (owns_below hown ((Below.refl _ _).alloc (Nat.le_refl _) _)) ⟨w1.heap.size, 0, none⟩ 1 1 [str (Lib.itoa ((a : Int) / 16777216 % 256))] rfl rfl (cells_new _ [str (Lib.itoa ((a : Int) / 16777216 % 256))] _) (by intro u hu; simp at hu; subst hu; rfl) (by unfold maxLen; omega) (by omega) (by simp; omega) ?_; intro v' w2 hown2 hgrow2 _)
      have HB2 := Lib.hid (((HB1.out.alloc (by omega) (.cells #[str (Lib.itoa ((a : Int) / 16777216 % 256))] 9))).grown hgrow2 (by simp; omega) (owns_block hown))
      clear hgrow2 hown
      have HO2 := Lib.hid hown2
      clear hown2
      go_wp2_with fail
      go_roundw
      case rel =>
        refine ⟨1, by omega, by first | rfl | go_num, ?_, HB2.out⟩
        have := HO2.out
        rw [itoa_byte _ (byteAt a 3) (by have := HA.out; unfold byteAt; omega)] at this
        exact this
      case measure => simp [intOf]
    · have HI := Lib.hid (fun W (hT : Tabs W) => itoa_any ((a : Int) / 65536 % 256) W (by omega) (by omega) hT)
      go_wp2_with fail
      refine (HI.out _ (HT.out.below HBB.out)).mono ?_
      rintro e w1 ⟨rfl, h1⟩
      have hown := owns_below HO.out h1
      have HB1 := Lib.hid (HBB.out.trans (h1.mono HBB.out.size))
      have hsz : w.heap.size ≤ w1.heap.size := HB1.out.size
      clear h1
      go_wp2_with (at_builtin; refine wpList_append_own _ rfl _ _ 34 rfl w.heap.size 9 i0 (.string ByteArray.empty) 1 16 Tryz.underlying34 hi hz0 hz1 hz2 rfl (by decide) _ _ _ rfl (owns_below hown ((Below.refl _ _).alloc (Nat.le_refl _) _)) ⟨w1.heap.size, 0, none⟩ 1 1 [str (Lib.itoa ((a : Int) / 65536 % 256))] rfl rfl (cells_new _ [str (Lib.itoa ((a : Int) / 65536 % 256))] _) (by intro u hu; simp at hu; subst hu; rfl) (by unfold maxLen; omega) (by omega) (by simp; omega) ?_; intro v' w2 hown2 hgrow2 _)
      have HB2 := Lib.hid (((HB1.out.alloc (by omega) (.cells #[str (Lib.itoa ((a : Int) / 65536 % 256))] 9))).grown hgrow2 (by simp; omega) (owns_block hown))
      clear hgrow2 hown
      have HO2 := Lib.hid hown2
      clear hown2
      go_wp2_with fail
      go_roundw
      case rel =>
        refine ⟨2, by omega, by first | rfl | go_num, ?_, HB2.out⟩
        have := HO2.out
        rw [itoa_byte _ (byteAt a 2) (by have := HA.out; unfold byteAt; omega)] at this
        exact this
      case measure => simp [intOf]
    · have HI := Lib.hid (fun W (hT : Tabs W) => itoa_any ((a : Int) / 256 % 256) W (by omega) (by omega) hT)
      go_wp2_with fail
      refine (HI.out _ (HT.out.below HBB.out)).mono ?_
      rintro e w1 ⟨rfl, h1⟩
      have hown := owns_below HO.out h1
      have HB1 := Lib.hid (HBB.out.trans (h1.mono HBB.out.size))
      have hsz : w.heap.size ≤ w1.heap.size := HB1.out.size
      clear h1
      go_wp2_with (at_builtin; refine wpList_append_own _ rfl _ _ 34 rfl w.heap.size 9 i0 (.string ByteArray.empty) 1 16 Tryz.underlying34 hi hz0 hz1 hz2 rfl (by decide) _ _ _ rfl (owns_below hown ((Below.refl _ _).alloc (Nat.le_refl _) _)) ⟨w1.heap.size, 0, none⟩ 1 1 [str (Lib.itoa ((a : Int) / 256 % 256))] rfl rfl (cells_new _ [str (Lib.itoa ((a : Int) / 256 % 256))] _) (by intro u hu; simp at hu; subst hu; rfl) (by unfold maxLen; omega) (by omega) (by simp; omega) ?_; intro v' w2 hown2 hgrow2 _)
      have HB2 := Lib.hid (((HB1.out.alloc (by omega) (.cells #[str (Lib.itoa ((a : Int) / 256 % 256))] 9))).grown hgrow2 (by simp; omega) (owns_block hown))
      clear hgrow2 hown
      have HO2 := Lib.hid hown2
      clear hown2
      go_wp2_with fail
      go_roundw
      case rel =>
        refine ⟨3, by omega, by first | rfl | go_num, ?_, HB2.out⟩
        have := HO2.out
        rw [itoa_byte _ (byteAt a 1) (by have := HA.out; unfold byteAt; omega)] at this
        exact this
      case measure => simp [intOf]
    · have HI := Lib.hid (fun W (hT : Tabs W) => itoa_any ((a : Int) % 256) W (by omega) (by omega) hT)
      go_wp2_with fail
      refine (HI.out _ (HT.out.below HBB.out)).mono ?_
      rintro e w1 ⟨rfl, h1⟩
      have hown := owns_below HO.out h1
      have HB1 := Lib.hid (HBB.out.trans (h1.mono HBB.out.size))
      have hsz : w.heap.size ≤ w1.heap.size := HB1.out.size
      clear h1
      go_wp2_with (at_builtin; refine wpList_append_own _ rfl _ _ 34 rfl w.heap.size 9 i0 (.string ByteArray.empty) 1 16 Tryz.underlying34 hi hz0 hz1 hz2 rfl (by decide) _ _ _ rfl (owns_below hown ((Below.refl _ _).alloc (Nat.le_refl _) _)) ⟨w1.heap.size, 0, none⟩ 1 1 [str (Lib.itoa ((a : Int) % 256))] rfl rfl (cells_new _ [str (Lib.itoa ((a : Int) % 256))] _) (by intro u hu; simp at hu; subst hu; rfl) (by unfold maxLen; omega) (by omega) (by simp; omega) ?_; intro v' w2 hown2 hgrow2 _)
      have HB2 := Lib.hid (((HB1.out.alloc (by omega) (.cells #[str (Lib.itoa ((a : Int) % 256))] 9))).grown hgrow2 (by simp; omega) (owns_block hown))
      clear hgrow2 hown
      have HO2 := Lib.hid hown2
      clear hown2
      go_wp2_with fail
      go_roundw
      case rel =>
        refine ⟨4, by omega, by first | rfl | go_num, ?_, HB2.out⟩
        have := HO2.out
        rw [itoa_byte _ (byteAt a 0) (by have := HA.out; unfold byteAt; omega)] at this
        exact this
      case measure => simp [intOf]
    · obtain ⟨v0, c0, rfl, hcells⟩ := row_form (Row_of_owns HO.out)
      obtain ⟨g, rfl, _⟩ := hcells 0 _ rfl
      have hj : ∀ (j : Nat) x, ((parts4 a).map fun l => (⟨l.toArray⟩ : ByteArray))[j]? = some x → wr.cell? ⟨g, 0 + j, none⟩ = some (.string x) := fun j x hx => by
        obtain ⟨g', e1, e2, _⟩ := hcells j (.string x) (by
          rw [show (parts4 a).take 4 = parts4 a from rfl]
          rw [List.getElem?_map] at hx ⊢
          cases hp : (parts4 a)[j]? with
          | none => rw [hp] at hx; simp at hx
          | some l => rw [hp] at hx; simp at hx; subst hx; rfl)
        cases e1
        rw [Nat.zero_add]; exact e2
      have hjl : Lib.join (((parts4 a).map fun l => (⟨l.toArray⟩ : ByteArray)).map (·.data.toList)) [46] = showAddr a := by simp [parts4, showAddr]
      have HJL := Lib.hid hjl
      have hg : g < wr.heap.size := World.block_lt_of_cell? wr ⟨g, 0 + 0, none⟩ (hj 0 _ rfl)
      have HJ := Lib.hid (Tryz.strings_Join g 0 c0 ((parts4 a).map fun l => (⟨l.toArray⟩ : ByteArray)) ⟨#[46]⟩ wr hj hg (by simp [parts4]) (by have := owns_cap HO.out; simpa [parts4] using this) (by have := show_len a; rw [← hjl] at this; exact Nat.le_trans this (by omega)))
      clear hj hcells hjl
      go_wp2_with fail
      refine HJ.out.mono ?_
      rintro e w1 ⟨rfl, h1⟩
      go_wp2_with fail
      go_ret
      exact retB (congrArg (fun l : List UInt8 => Value.string ⟨l.toArray⟩) HJL.out) (HBB.out.trans (h1.mono HBB.out.size))

theorem itoa_nat (n : Nat) (w : World) (h1 : n ≤ 9223372036854775807) (hT : Tabs w) :
    Calls Tryz.prog 59 #[.int .i64 n] w fun e w' => e = .returned (str (Lib.decDigits n)) ∧ Below w.heap.size w w' := by
  rw [← itoa_byte (n : Int) n rfl]; exact itoa_any n w (by omega) (by omega) hT

set_option maxHeartbeats 2000000 in
set_option maxRecDepth 100000 in
theorem show_any (a : Nat) (n : Int) (w : World) (ha : a < 4294967296) (hT : Tabs w) :
    Calls Tryz.prog 39 #[.agg #[.int .u32 a, .int .i64 n]] w (StrPost (showF a n) w) := by
  have B0 : Below w.heap.size w (w.alloc (.cells #[.int .u32 a, .int .i64 n] 39)) := (Below.refl _ _).alloc (Nat.le_refl _) _
  have N0 := NetAt.new w a n 39
  have HT0 := Lib.hid (hT.below B0)
  cases hm : mayNet a n with
  | false =>
    have hv : Hid (showF a n = ([], 1)) := Lib.hid (by unfold showF showNet; rw [hm]; simp)
    have HM := Lib.hid hm
    clear hm
    go_enter Tryz.func39, Tryz.ntmps39
    go_wp2_with fail
    refine (may_val a n false _ ha HM.out).mono ?_
    rintro e w1 ⟨rfl, h1⟩
    generalize w.alloc (.cells #[.int .u32 a, .int .i64 n] 39) = w0 at *
    have HB0 := Lib.hid B0
    clear B0
    go_wp2_with fail
    go_ret2
    exact str_end (by rw [hv.out]) (by rw [hv.out]) (below_then HB0.out h1)
  | true =>
    have hr := may_range hm
    have HM := Lib.hid hm
    by_cases h0 : n = 0
    · have hv : Hid (showF a n = (anyL, 0)) := Lib.hid (by unfold showF showNet; rw [if_pos hm, if_pos h0])
      have e0 : (n == 0) = true := by rw [h0]; rfl
      clear hm h0
      go_enter Tryz.func39, Tryz.ntmps39
      go_wp2_with fail
      refine (may_val a n true _ ha HM.out).mono ?_
      rintro e w1 ⟨rfl, h1⟩
      generalize w.alloc (.cells #[.int .u32 a, .int .i64 n] 39) = w0 at *
      have HB0 := Lib.hid B0
      have HB1 := Lib.hid (below_then B0 h1)
      obtain ⟨c0, c1⟩ := N0.below h1
      clear B0 h1
      go_wp2_with fail
      go_ret2
      exact str_end (by rw [hv.out]; rfl) (by rw [hv.out]) HB1.out
    · have hv : Hid (showF a n = (showAddr a ++ 47 :: Lib.decDigits n.toNat, 0)) := Lib.hid (by unfold showF showNet; rw [if_pos hm, if_neg h0])
      have e0 : (n == 0) = false := beq_eq_false_iff_ne.2 h0
      have ls := show_len a
      have ld := dec_len_le 2 n.toNat (by omega) (by omega)
      have CP := Lib.hid (fun v (hT : Tabs v) => print_any a v ha hT)
      have CN := Lib.hid (fun v (hT : Tabs v) => (by have := itoa_nat n.toNat v (by omega) hT; rwa [Int.toNat_of_nonneg hr.1] at this : Calls Tryz.prog 59 #[.int .i64 n] v fun e w' => e = .returned (str (Lib.decDigits n.toNat)) ∧ Below v.heap.size v w'))
      generalize showAddr a = la at *
      generalize Lib.decDigits n.toNat = ln at *
      clear hm h0
      go_enter Tryz.func39, Tryz.ntmps39
      go_wp2_with fail
      refine (may_val a n true _ ha HM.out).mono ?_
      rintro e w1 ⟨rfl, h1⟩
      generalize w.alloc (.cells #[.int .u32 a, .int .i64 n] 39) = w0 at *
      have HB0 := Lib.hid B0
      have HB1 := Lib.hid (below_then B0 h1)
      have HT1 := Lib.hid (HT0.out.below h1)
      obtain ⟨c0, c1⟩ := N0.below h1
      clear B0 h1
      go_wp2_with fail
      refine WQ.enter w1 (Since.refl _) (by kernel_rfl) (by kernel_rfl) ?_
      refine WQ.val (by rfl) (fun v hv => by have k0 := hv.cell c0; have k1 := hv.cell c1; go_simp; first | done | with_reducible rfl | (rw [if_neg (by omega)])) ?_; simp only [Act.put, List.setIfInBounds_toArray, List.set_cons_zero, List.set_cons_succ]
      refine WQ.val (by rfl) (fun v hv => by have k0 := hv.cell c0; have k1 := hv.cell c1; go_simp; first | done | with_reducible rfl | (rw [if_neg (by omega)])) ?_; simp only [Act.put, List.setIfInBounds_toArray, List.set_cons_zero, List.set_cons_succ]
      refine WQ.call (f := 58) (args := #[.int .u32 a]) (by rfl) (fun v hv => by go_simp) (fun v hv => (CP.out v (HT1.out.below hv)).mono (fun e v' ⟨he, hb⟩ => ⟨he, hv.step hb⟩)) ?_; simp only [Act.put, List.setIfInBounds_toArray, List.set_cons_zero, List.set_cons_succ]
      refine WQ.val (by rfl) (fun v hv => by have k0 := hv.cell c0; have k1 := hv.cell c1; go_simp; first | done | with_reducible rfl | (rw [if_neg (by omega)])) ?_; simp only [Act.put, List.setIfInBounds_toArray, List.set_cons_zero, List.set_cons_succ]
      refine WQ.val (by rfl) (fun v hv => by have k0 := hv.cell c0; have k1 := hv.cell c1; go_simp; first | done | with_reducible rfl | (rw [if_neg (by omega)])) ?_; simp only [Act.put, List.setIfInBounds_toArray, List.set_cons_zero, List.set_cons_succ]
      refine WQ.val (by rfl) (fun v hv => by have k0 := hv.cell c0; have k1 := hv.cell c1; go_simp; first | done | with_reducible rfl | (rw [if_neg (by omega)])) ?_; simp only [Act.put, List.setIfInBounds_toArray, List.set_cons_zero, List.set_cons_succ]
      refine WQ.call (f := 59) (args := #[.int .i64 n]) (by rfl) (fun v hv => by go_simp) (fun v hv => (CN.out v (HT1.out.below hv)).mono (fun e v' ⟨he, hb⟩ => ⟨he, hv.step hb⟩)) ?_; simp only [Act.put, List.setIfInBounds_toArray, List.set_cons_zero, List.set_cons_succ]
      refine WQ.val (by rfl) (fun v hv => by have k0 := hv.cell c0; have k1 := hv.cell c1; go_simp; first | done | with_reducible rfl | (rw [if_neg (by omega)])) ?_; simp only [Act.put, List.setIfInBounds_toArray, List.set_cons_zero, List.set_cons_succ]
      refine WQ.val (by rfl) (fun v hv => by have k0 := hv.cell c0; have k1 := hv.cell c1; go_simp; first | done | with_reducible rfl | (rw [if_neg (by omega)])) ?_; simp only [Act.put, List.setIfInBounds_toArray, List.set_cons_zero, List.set_cons_succ]
      refine WQ.val (by rfl) (fun v hv => by have k0 := hv.cell c0; have k1 := hv.cell c1; go_simp; first | done | with_reducible rfl | (rw [if_neg (by omega)])) ?_; simp only [Act.put, List.setIfInBounds_toArray, List.set_cons_zero, List.set_cons_succ]
      refine WQ.done ?_
      intro w5 hw5
      have HB5 := Lib.hid (below_then HB1.out hw5)
      clear hw5 c0 c1
      go_wp2_with fail
      go_ret2
      exact str_end (by rw [hv.out]; simp) (by rw [hv.out]) HB5.out
end Go.Proofs.YtfiddoibnjildaaGreatDoor
