/- The walk of text.Lines. -/
import Derived.Test.YtfiddoibnjildaaGreatDoorTextM
import Derived.Test.YtfiddoibnjildaaGreatDoorAddrG
import Derived.Maps.AppendAt
namespace Go.Proofs.YtfiddoibnjildaaGreatDoor
set_option linter.unusedSimpArgs false
set_option linter.unusedVariables false
open Go Go.RowKit

/-- The tables that Lines reads. -/
structure TabsT (w : World) : Prop where
  tabs : Tabs w
  sp : Lib.TabIs Tryz.prog w "strings.asciiSpace" .u8 Lib.asciiSpaceTab
theorem TabsT.below {w w' : World} (h : TabsT w) (hb : Below w.heap.size w w') : TabsT w' := ⟨h.tabs.below hb, var_keep h.sp hb⟩

theorem fields_any (s : ByteArray) (w : World) (hs : s.size ≤ 65536) (ha : ∀ b ∈ s.data.toList, b.toNat < 128) (hT : TabsT w) :
    Calls Tryz.prog 23 #[.string s] w fun e w' => e = .returned (.slice (some ⟨w.heap.size, 0, none⟩) (Lib.fields s.data.toList).length (Lib.fields s.data.toList).length) ∧
      w' = w.alloc (.cells ((Lib.fields s.data.toList).map str).toArray 9) :=
  Any.strings_Fields Tryz.lays157 (by kernel_rfl) (by kernel_rfl) s w (by omega) (fun j b hj => ha b (List.mem_of_getElem? hj)) hT.sp

def LinesPost (q : List Ln × Nat × Int) (w : World) (e : Ending) (w' : World) : Prop := ∃ v, e = .returned (.tuple #[v, .int .i64 q.2.1, .int .i64 q.2.2]) ∧ Lines w' v q.1 ∧ Below w.heap.size w w'
theorem lines_end {q : List Ln × Nat × Int} {w w' : World} {v : Value} {a b : Int} (h1 : (q.2.1 : Int) = a) (h2 : q.2.2 = b) (hl : Lines w' v q.1) (hb : Below w.heap.size w w') : LinesPost q w (.returned (.tuple #[v, .int .i64 a, .int .i64 b])) w' := by
  subst h1 h2; exact ⟨v, rfl, hl, hb⟩
theorem lines_nil (w : World) : Lines w (.slice none 0 0) [] := ⟨none, 0, rfl, Nat.le_refl _, fun i l hi => by simp at hi⟩

theorem linesGo_snoc : ∀ (ps : List (List UInt8)) (n : Nat) (p : List UInt8), linesGo n (ps ++ [p]) = linesGo n ps ++ (if wordsOf p = [] then [] else [(n + ps.length, wordsOf p)])
  | [], n, p => by simp [linesGo]
  | q :: r, n, p => by
    rw [List.cons_append, linesGo, linesGo, linesGo_snoc r (n + 1) p]
    split <;> simp [show n + 1 + r.length = n + (r.length + 1) by omega]
theorem linesGo_len : ∀ (ps : List (List UInt8)) (n : Nat), (linesGo n ps).length ≤ ps.length
  | [], n => by simp [linesGo]
  | q :: r, n => by
    have := linesGo_len r (n + 1)
    rw [linesGo]; split <;> simp <;> omega
theorem infoLine : (Tryz.prog.info? 36).map (fun i => (i.zero, i.size, i.bytes)) = some (some (.agg #[.int .i64 0, .slice none 0 0]), 2, 32) := by kernel_rfl
theorem wordsOf_count {p : List UInt8} (h : ∀ b ∈ p, okB b) (h10 : (10 : UInt8) ∉ p) : (wordsOf p).length ≤ p.length := by
  have h1 := wordsOf_len p
  have h2 := wordsOf_ok h h10
  have : ∀ ws : List (List UInt8), (∀ w ∈ ws, okW w) → ws.length ≤ (Lib.join ws [32]).length := by
    intro ws
    induction ws with
    | nil => intro _; simp
    | cons w r ih =>
      intro hw
      have hw1 := (hw w (by simp)).1
      have hl : 1 ≤ w.length := by cases w with | nil => exact absurd rfl hw1 | cons => simp
      have := ih (fun x hx => hw x (by simp [hx]))
      rw [Lib.join_cons]
      cases r with
      | nil => simp [Lib.joinTail]; omega
      | cons v t =>
        rw [Lib.join_cons] at this
        simp [Lib.joinTail] at this ⊢
        omega
  have := this _ h2
  omega
theorem pieces_ok {l : List UInt8} (h : firstBad l = none) : ∀ p ∈ pieces 10 l, (∀ b ∈ p, okB b) ∧ (10 : UInt8) ∉ p := by
  intro p hp
  refine ⟨fun b hb => firstBad_none.1 h b ?_, pieces_clean p hp⟩
  have : ∀ (l : List UInt8) (p : List UInt8), p ∈ pieces 10 l → ∀ b ∈ p, b ∈ l := by
    intro l
    induction l with
    | nil => intro p hp b hb; simp [pieces] at hp; subst hp; simp at hb
    | cons x r ih =>
      intro p hp b hb
      rw [pieces] at hp
      split at hp
      · rw [List.mem_cons] at hp
        rcases hp with rfl | hp
        · simp at hb
        · simp [ih p hp b hb]
      · split at hp
        · simp at hp; subst hp; simp at hb; simp [hb]
        · rename_i q t he
          rw [List.mem_cons] at hp
          rcases hp with rfl | hp
          · rw [List.mem_cons] at hb
            rcases hb with rfl | hb
            · simp
            · simp [ih q (by rw [he]; simp) b hb]
          · simp [ih p (by rw [he]; simp [hp]) b hb]
  exact this l p hp b hb

set_option maxHeartbeats 4000000 in
set_option maxRecDepth 100000 in
theorem lines_any (s : ByteArray) (w : World) (hs : s.size ≤ 140737488351232) (hT : TabsT w) :
    Calls Tryz.prog 8 #[.string s] w (LinesPost (textF s.data.toList) w) := by
  have HT := Lib.hid hT
  clear hT
  by_cases hlong : 4096 < s.size
  · have hv : Hid (textF s.data.toList = ([], 0, 2)) := Lib.hid (by unfold textF; rw [if_pos (by rw [Array.length_toList]; exact hlong)])
    go_enter Tryz.func8, Tryz.ntmps8
    go_wp2_with fail
    go_ret3
    exact lines_end (by rw [hv.out]; rfl) (by rw [hv.out]) (by rw [hv.out]; exact lines_nil _) (Below.refl _ _)
  · have hl' : ¬ 4096 < s.data.toList.length := by rw [Array.length_toList]; exact hlong
    cases hb : firstBad s.data.toList with
    | some i =>
      obtain ⟨b, hi, _⟩ := firstBad_some hb
      have hil : i < s.size := by have := (List.getElem?_eq_some_iff.1 hi).1; simpa using this
      have hv : Hid (textF s.data.toList = ([], 1 + Lib.countByte (s.data.toList.take i) 10, 3)) := Lib.hid (by unfold textF; rw [if_neg hl', hb])
      have HI : Hid (∀ v, Calls Tryz.prog 18 #[.string s, .func (.func 19) #[] #[]] v fun e w' => e = .returned (.int .i64 i) ∧ Below v.heap.size v w') := Lib.hid (fun v => by have := index_bad s v; rw [hb] at this; exact this)
      have HC : Hid (∀ v, Calls Tryz.prog 20 #[.string (s.extract 0 i), .string ⟨#[10]⟩] v fun e w' => e = .returned (.int .i64 (Lib.countByte (s.data.toList.take i) 10)) ∧ w' = v) := Lib.hid (fun v => by
        have := Tryz.strings_Count_one (s.extract 0 i) 10 v
        rwa [Lib.extract_from_zero] at this)
      have hcl : Lib.countByte (s.data.toList.take i) 10 ≤ 4096 := by
        have h1 : (s.data.toList.take i).count 10 ≤ (s.data.toList.take i).length := List.count_le_length
        have h2 : (s.data.toList.take i).length ≤ i := List.length_take_le _ _
        unfold Lib.countByte; omega
      generalize Lib.countByte (s.data.toList.take i) 10 = m at *
      clear hb hi
      go_enter Tryz.func8, Tryz.ntmps8
      go_wp2_with fail
      refine (HI.out _).mono ?_
      rintro e w1 ⟨rfl, h1⟩
      go_wp2_with fail
      refine (HC.out _).mono ?_
      rintro e w2 ⟨rfl, rfl⟩
      go_wp2_with fail
      go_ret3
      exact lines_end (by rw [hv.out]; simp) (by rw [hv.out]) (by rw [hv.out]; exact lines_nil _) h1
    | none =>
      have hv : Hid (textF s.data.toList = (linesOf s.data.toList, 0, 0)) := Lib.hid (by unfold textF; rw [if_neg hl', hb])
      have HI : Hid (∀ v, Calls Tryz.prog 18 #[.string s, .func (.func 19) #[] #[]] v fun e w' => e = .returned (.int .i64 (-1)) ∧ Below v.heap.size v w') := Lib.hid (fun v => by have := index_bad s v; rw [hb] at this; exact this)
      have HSP := Lib.hid (fun v (hT : Tabs v) => split_any s 10 v (by omega) hT)
      have hok := pieces_ok hb
      have hlen : ∀ q ∈ pieces 10 s.data.toList, q.length ≤ 4096 := fun q hq => by
        have := pieces_len 10 s.data.toList q hq
        simp at this; omega
      have hcnt : (pieces 10 s.data.toList).length ≤ 4097 := by
        have h1 := sumLen_pieces 10 s.data.toList
        have : ∀ ps : List (List UInt8), ps.length ≤ sumLen ps := by
          intro ps; induction ps with
          | nil => simp [sumLen]
          | cons p r ih => simp [sumLen] at ih ⊢; omega
        have := this (pieces 10 s.data.toList)
        simp at h1; omega
      have hlo : linesOf s.data.toList = linesGo 1 (pieces 10 s.data.toList) := rfl
      have HV : Hid (textF s.data.toList = (linesGo 1 (pieces 10 s.data.toList), 0, 0)) := Lib.hid (by rw [hv.out, hlo])
      generalize pieces 10 s.data.toList = ps at *
      have HOK := Lib.hid hok
      have HLEN := Lib.hid hlen
      clear hok hlen hb hv hlo
      go_enter Tryz.func8, Tryz.ntmps8
      go_wp2_with fail
      refine (HI.out _).mono ?_
      rintro e w1 ⟨rfl, h1⟩
      have HB1 := Lib.hid h1
      have HT1 := Lib.hid (HT.out.below h1)
      clear h1
      go_wp2_with fail
      refine (HSP.out _ HT1.out.tabs).mono ?_
      rintro e w2 ⟨rfl, hw2⟩
      have hcell : ∀ k q, ps[k]? = some q → (w1.alloc (.cells (ps.map str).toArray 9)).cell? ⟨w1.heap.size, k, none⟩ = some (str q) := fun k q hq => by simp [hq]
      have hB2 : Below w1.heap.size w1 (w1.alloc (.cells (ps.map str).toArray 9)) := (Below.refl _ _).alloc (Nat.le_refl _) _
      generalize w1.alloc (.cells (ps.map str).toArray 9) = w0 at *
      subst hw2
      have HC := Lib.hid hcell
      have HB2 := Lib.hid (below_then HB1.out hB2)
      have HT2 := Lib.hid (HT1.out.below hB2)
      clear hcell hB2
      go_wp2_with fail
      go_loopw [2, 24] (fun v n wr => ∃ k : Nat, k ≤ ps.length ∧ n = .int .i64 k ∧ Hid (Build (fun _ => True) wr w2.heap.size v (linesGo 1 (ps.take k))) ∧ Hid (Below w2.heap.size w2 wr)) (fun _ n _ => ps.length - (intOf n).toNat)
      case atStart => exact ⟨0, Nat.zero_le _, rfl, Lib.hid (Build.nil _ _ _), Lib.hid (Below.refl _ _)⟩
      case round =>
        obtain ⟨k, hk, rfl, hbd, hbb⟩ := hrel
        by_cases hlt : k < ps.length
        · obtain ⟨q, hq⟩ : ∃ q, ps[k]? = some q := ⟨ps[k], List.getElem?_eq_getElem hlt⟩
          have hqm := List.mem_of_getElem? hq
          have hql := HLEN.out q hqm
          obtain ⟨hqo, hq10⟩ := HOK.out q hqm
          have hc : wr.cell? ⟨w1.heap.size, k, none⟩ = some (str q) := (hbb.out.cell (p := ⟨w1.heap.size, k, none⟩) (World.block_lt_of_cell? w2 _ (HC.out k q hq))).trans (HC.out k q hq)
          have htk : ps.take (k + 1) = ps.take k ++ [q] := by rw [List.take_add_one, hq]; rfl
          have hsn : linesGo 1 (ps.take (k + 1)) = linesGo 1 (ps.take k) ++ (if wordsOf q = [] then [] else [(1 + k, wordsOf q)]) := by
            rw [htk, linesGo_snoc, List.length_take, Nat.min_eq_left hk]
          have HSN := Lib.hid hsn
          have HCT := Lib.hid (fun v (hT : Tabs v) => cut_any ⟨q.toArray⟩ 35 v (by show q.toArray.size ≤ _; simp; omega) hT)
          have hcl := (cut_len q 35).1
          have hasc : ∀ b ∈ (Lib.cut q [35]).1, b.toNat < 128 := fun b hb => by
            have h1 := (cut_mem hb).1
            have h2 := okB_range (hqo b h1) (fun e => hq10 (by rw [← e]; exact h1))
            omega
          have hwd : wordsOf q = Lib.fields (Lib.cut q [35]).1 := rfl
          have hwc := wordsOf_count hqo hq10
          have HF := Lib.hid (fun v (hT : TabsT v) => fields_any ⟨(Lib.cut q [35]).1.toArray⟩ v (by show (Lib.cut q [35]).1.toArray.size ≤ _; simp; omega) hasc hT)
          have HTr := Lib.hid (HT2.out.below hbb.out)
          have hll := linesGo_len (ps.take k) 1
          have hlt2 : (ps.take k).length ≤ k := List.length_take_le _ _
          have hfm : ∀ (j : Nat) (x : List UInt8), (wordsOf q)[j]? = some x → True := fun _ _ _ => trivial
          clear hqm hqo hq10 hsn htk hcl hasc hq hfm
          have HWD := Lib.hid hwd
          clear hwd
          go_wp2_with fail
          refine (HCT.out _ HTr.out.tabs).mono ?_
          rintro e w3 ⟨rfl, h3⟩
          have HT3 := Lib.hid (HTr.out.below h3)
          have HBB3 := Lib.hid (below_then hbb.out h3)
          have HBD3 := Lib.hid (hbd.out.below h3)
          clear h3
          go_wp2_with fail
          refine (HF.out _ HT3.out).mono ?_
          rintro e w4 ⟨rfl, hw4⟩
          have hWS : Words w4 (.slice (some ⟨w3.heap.size, 0, none⟩) (wordsOf q).length (wordsOf q).length) (wordsOf q) := by
            subst hw4
            refine ⟨_, _, rfl, Nat.le_refl _, fun j x hj => ⟨w3.heap.size, 0, rfl, trivial, ?_⟩⟩
            rw [Nat.zero_add]
            rw [HWD.out] at hj
            simp [hj]
          have hb4 : Below w3.heap.size w3 w4 := by rw [hw4]; exact (Below.refl _ _).alloc (Nat.le_refl _) _
          have HBB4 := Lib.hid (below_then HBB3.out hb4)
          have HBD4 := Lib.hid (HBD3.out.below hb4)
          have HWS := Lib.hid hWS
          have HOW := Lib.hid (show ∀ b, u2.ownBlock = some b → b < w3.heap.size from fun b hb => by
            obtain ⟨cs, _, ho, _⟩ := HBD3.out
            exact owns_lt ho b hb)
          have hle3 : w2.heap.size ≤ w3.heap.size := HBB3.out.size
          rw [← HWD.out]
          clear hw4 hWS hb4
          generalize hwl : wordsOf q = ws at *
          have HWL := Lib.hid hwl
          clear hwl
          by_cases h0 : ws.length = 0
          · have hws0 : ws = [] := List.eq_nil_of_length_eq_zero h0
            have HS0 : Hid (linesGo 1 (ps.take (k + 1)) = linesGo 1 (ps.take k)) := Lib.hid (by rw [HSN.out, if_pos hws0, List.append_nil])
            have h0' : decide (0 < ws.length) = false := by simp [h0]
            have h0'' : ((ws.length : Int)) = 0 := by omega
            go_wp2_with fail
            go_roundw
            case rel => exact ⟨k + 1, by omega, by go_num, Lib.hid (by rw [HS0.out]; exact HBD4.out), HBB4⟩
            case measure => simp [intOf]; omega
          · have hws0 : ws ≠ [] := fun e => h0 (by rw [e]; rfl)
            have HS1 : Hid (linesGo 1 (ps.take (k + 1)) = linesGo 1 (ps.take k) ++ [(1 + k, ws)]) := Lib.hid (by rw [HSN.out, if_neg hws0])
            have hpos : 0 < (ws.length : Int) := by omega
            have hwsl : ws.length ≤ 4096 := by omega
            have HCL := Lib.hid (fun v => clipS_any (some ⟨w3.heap.size, 0, none⟩) ws.length ws.length v (Nat.le_refl _) hwsl)
            have hb5 : Below w4.heap.size w4 (w4.alloc (.cells #[.int .i64 ((k : Int) + 1), .slice (some ⟨w3.heap.size, 0, none⟩) ws.length ws.length] 36)) := (Below.refl _ _).alloc (Nat.le_refl _) _
            obtain ⟨cs, hcs, hown, hstep⟩ := (HBD4.out.below hb5).form
            obtain ⟨i0, hi, hz0, hz1, hz2⟩ := info_parts infoLine
            have hword : WordsIn (fun b => u2.ownBlock ≠ some b) (w4.alloc (.cells #[.int .i64 ((k : Int) + 1), .slice (some ⟨w3.heap.size, 0, none⟩) ws.length ws.length] 36)) (.slice (some ⟨w3.heap.size, 0, none⟩) ws.length ws.length) ws := by
              obtain ⟨a, c, e1, e2, e3⟩ := HWS.out.below hb5
              refine ⟨a, c, e1, e2, fun j x hj => ?_⟩
              obtain ⟨b, o, ea, _, hcell⟩ := e3 j x hj
              refine ⟨b, o, ea, fun hb => ?_, hcell⟩
              have := HOW.out b hb
              rw [ea] at e1
              injection e1 with e1
              injection e1 with e1
              injection e1 with e1
              omega
            have hle5 : w2.heap.size ≤ (w4.alloc (.cells #[.int .i64 ((k : Int) + 1), .slice (some ⟨w3.heap.size, 0, none⟩) ws.length ws.length] 36)).heap.size := (HBB4.out.trans (hb5.mono HBB4.out.size)).size
            have HBB5 := Lib.hid (HBB4.out.trans (hb5.mono HBB4.out.size))
            have HOWN := Lib.hid hown
            have HST := Lib.hid hstep
            have HWO := Lib.hid hword
            have HHL := Lib.hid hle5
            generalize hlsl : linesGo 1 (ps.take k) = ls at *
            have HLSL := Lib.hid hlsl
            clear hown hstep hlsl h0 hws0 hb5 hword hle5 hcs
            go_wp2_with fail
            refine (HCL.out _).mono ?_
            rintro e w5 ⟨rfl, rfl⟩
            go_wp2_with (at_builtin; refine wpList_append_own_at _ rfl _ _ 31 rfl w2.heap.size 36 i0 (.agg #[.int .i64 0, .slice none 0 0]) 2 32 Tryz.underlying31 hi hz0 hz1 hz2 rfl (by decide) _ ls.length (flat ls cs) rfl HOWN.out ⟨w5.heap.size, 0, none⟩ 1 1 [.int .i64 ((k : Int) + 1), .slice (some ⟨w3.heap.size, 0, none⟩) ws.length ws.length] rfl rfl (cells_new _ [.int .i64 ((k : Int) + 1), .slice (some ⟨w3.heap.size, 0, none⟩) ws.length ws.length] _) (by intro u hu; simp at hu; rcases hu with rfl | rfl <;> rfl) (by unfold maxLen; omega) (by omega) HHL.out ?_; intro v' w6 hown6 hgrow6 _ hloc6)
            have HG6 := Lib.hid hgrow6
            have HO6 := Lib.hid hown6
            have HL6 := Lib.hid hloc6
            clear hgrow6 hown6 hloc6
            go_wp2_with fail
            go_roundw
            case rel =>
              refine ⟨k + 1, by omega, by go_num, Lib.hid ?_, Lib.hid (HBB5.out.grown HG6.out HHL.out fun b hb => ?_)⟩
              · rw [HS1.out, show 1 + k = k + 1 by omega]
                exact (HST.out v' w6 HG6.out (k + 1) ws _ HL6.out HO6.out HWO.out).weaken fun _ _ _ => trivial
              · exact owns_block HOWN.out b hb
            case measure => simp [intOf]; omega
        · obtain rfl : k = ps.length := by omega
          have htk : ps.take ps.length = ps := List.take_length
          have hbd' := hbd.out
          rw [htk] at hbd'
          obtain ⟨a, c, ev, hac, _, hl2⟩ := hbd'.lines
          have hll := linesGo_len ps 1
          have HL2 := Lib.hid hl2
          generalize hlsl : linesGo 1 ps = ls at *
          have HLSL := Lib.hid hlsl
          have HCL := Lib.hid (fun v => clipL_any a ls.length c v hac (by omega))
          subst ev
          clear hbd' hl2 hlsl htk
          go_wp2_with fail
          refine (HCL.out _).mono ?_
          rintro e w5 ⟨rfl, rfl⟩
          go_wp2_with fail
          go_ret3
          exact lines_end (by rw [HV.out]; rfl) (by rw [HV.out]) (by rw [HV.out]; exact HL2.out) (below_then HB2.out hbb.out)
end Go.Proofs.YtfiddoibnjildaaGreatDoor
