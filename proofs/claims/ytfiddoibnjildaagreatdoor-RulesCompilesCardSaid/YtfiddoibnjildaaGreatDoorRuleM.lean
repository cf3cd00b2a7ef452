/- The walk of the reference's ports. -/
import Derived.Test.YtfiddoibnjildaaGreatDoorRuleC
namespace Go.Proofs.YtfiddoibnjildaaGreatDoor
set_option linter.unusedSimpArgs false
set_option linter.unusedVariables false
open Go Go.RowKit

theorem cut_here {l : List UInt8} {k : Nat} (h : (45 : UInt8) ∉ l.take k) (hk : l[k]? = some 45) : cutA l = l.take k ∧ cutB l = l.drop (k + 1) := by
  have hlt : k < l.length := (List.getElem?_eq_some_iff.1 hk).1
  have e : l = l.take k ++ 45 :: l.drop (k + 1) := by
    have h1 := List.take_append_drop k l
    rw [List.drop_eq_getElem_cons hlt] at h1
    rw [List.getElem?_eq_getElem hlt] at hk
    injection hk with hk
    rw [hk] at h1
    exact h1.symm
  have hc := cut_at (r := l.drop (k + 1)) h
  rw [← e] at hc
  exact ⟨by unfold cutA; rw [hc], by unfold cutB; rw [hc]; rfl⟩
theorem cut_nowhere {l : List UInt8} (h : (45 : UInt8) ∉ l) : cutA l = l ∧ cutB l = l := by
  have hc := cut_none h
  exact ⟨by unfold cutA; rw [hc], by unfold cutB cutA; rw [hc]; rfl⟩
theorem take_no {l : List UInt8} {k : Nat} {c : UInt8} (h : (45 : UInt8) ∉ l.take k) (hk : l[k]? = some c) (hc : c ≠ 45) : (45 : UInt8) ∉ l.take (k + 1) := by
  rw [List.take_add_one, hk]
  simp only [Option.toList_some, List.mem_append, List.mem_singleton, not_or]
  exact ⟨h, fun e => hc e.symm⟩
theorem refNum_val {s : ByteArray} {w : World} {n : Nat} (hn : numV s.data.toList = n) (hs : s.size ≤ 140737488351232) :
    Calls Tryz.prog 29 #[.string s] w fun e w' => (∃ b, e = .returned (.tuple #[.int .i64 n, .bool b])) ∧ Below w.heap.size w w' := by
  subst hn
  have h := refNumber_text s w hs
  unfold NumPost at h
  rw [(numT_numV _).1] at h
  exact h.mono fun e w' hh => ⟨⟨_, hh.1⟩, hh.2⟩
theorem ext_size (s : ByteArray) (a b : Nat) : (s.extract a b).size ≤ s.size := by
  have h := congrArg List.length (Lib.extract_data s a b)
  rw [Array.length_toList, List.length_take, List.length_drop, Array.length_toList] at h
  have h1 : (s.extract a b).size = (s.extract a b).data.size := rfl
  have h2 : s.size = s.data.size := rfl
  omega
def PortsPost (q : Nat × Nat) (w : World) (e : Ending) (w' : World) : Prop := e = .returned (.agg #[.int .u16 q.1, .int .u16 q.2]) ∧ Below w.heap.size w w'
set_option maxHeartbeats 8000000 in
set_option maxRecDepth 100000 in
theorem refPorts_any (s : ByteArray) (w : World) (hs : s.size ≤ 65536) :
    Calls Tryz.prog 11 #[.string s] w (PortsPost (refSpan s.data.toList) w) := by
  have B0 : Below w.heap.size w (w.alloc (.cells #[.int .u16 0, .int .u16 0] 42)) := (Below.refl _ _).alloc (Nat.le_refl _) _
  have O0 := Own2.new w (.int .u16 0) (.int .u16 0) 42
  unfold PortsPost
  cases ha : (s.toList == [97, 110, 121]) with
  | true =>
    have hv : Hid (refSpan s.data.toList = (0, 65535)) := Lib.hid (by
      rw [ByteArray.toList_eq, beq_iff_eq] at ha
      unfold refSpan; rw [ha]; rfl)
    have HB2 := Lib.hid ((Below.refl _ w).alloc (Nat.le_refl _) (.cells #[.int .u16 0, .int .u16 65535] 42))
    go_enter Tryz.func11, Tryz.ntmps11
    go_wp2_with fail
    exact bodyPost_ret (v := .agg #[.int .u16 0, .int .u16 65535]) (by simp [results, Tryz.results11, go_sem, *]) rfl ⟨by (rw [hv.out]) <;> rfl, HB2.out⟩
  | false =>
    have hne : s.data.toList ≠ anyL := by
      intro e
      rw [ByteArray.toList_eq, beq_eq_false_iff_ne] at ha
      exact ha e
    have hsp : refSpan s.data.toList = if numV (cutA s.data.toList) > 65535 ∨ numV (cutB s.data.toList) > 65535 then (1, 0) else (numV (cutA s.data.toList), numV (cutB s.data.toList)) := if_neg hne
    have HSP := Lib.hid hsp
    have HB0 := Lib.hid B0
    have HO0 := Lib.hid O0
    clear hne hsp B0 O0
    go_enter Tryz.func11, Tryz.ntmps11
    go_wp2_with fail
    generalize w.alloc (.cells #[.int .u16 0, .int .u16 0] 42) = w0 at *
    go_loop [3] (fun i => ∃ k : Nat, k ≤ s.size ∧ i = .int .i64 k ∧ Hid ((45 : UInt8) ∉ s.data.toList.take k)) (fun i => s.size - (intOf i).toNat)
    case atStart => exact ⟨0, Nat.zero_le _, rfl, Lib.hid (by simp)⟩
    case round =>
      obtain ⟨k, hk, rfl, hno⟩ := hrel
      by_cases hlt : k < s.size
      · have hget : s.data.toList[k]? = some s[k] := by
          have : k < s.data.toList.length := by rw [Array.length_toList]; exact hlt
          rw [List.getElem?_eq_getElem this]; rfl
        by_cases hd : s[k] = 45
        · obtain ⟨hA, hB⟩ := cut_here hno.out (by rw [hget, hd])
          have hd' : (s[k].toNat : Int) = 45 := by rw [hd]; rfl
          have hN1 := fun W => refNum_val (s := s.extract 0 k) (w := W) (n := numV (cutA s.data.toList)) (by rw [Lib.extract_from_zero, hA]) (by have := ext_size s 0 k; omega)
          have hN2 := fun W => refNum_val (s := s.extract (k + 1) s.size) (w := W) (n := numV (cutB s.data.toList)) (by rw [Lib.extract_to_end, hB]) (by have := ext_size s (k + 1) s.size; omega)
          have H1 := Lib.hid hN1
          have H2 := Lib.hid hN2
          clear hN1 hN2 hA hB hget hd hno
          generalize numV (cutA s.data.toList) = a at *
          generalize numV (cutB s.data.toList) = b at *
          have hki : (k : Int) < (s.size : Int) := by omega
          go_wp2_with fail
          refine (H1.out _).mono ?_
          rintro e w1 ⟨⟨q1, rfl⟩, h1⟩
          have HB1 := Lib.hid (below_then HB0.out h1)
          have HO1 := Lib.hid (HO0.out.below h1)
          clear h1
          go_wp2_with fail
          refine (H2.out _).mono ?_
          rintro e w2 ⟨⟨q2, rfl⟩, h2⟩
          have HB2 := Lib.hid (below_then HB1.out h2)
          have HO2 := Lib.hid (HO1.out.below h2)
          clear h2 HO1 HB1 H1 H2 HO0 HB0
          obtain ⟨o0, o1, o2, o3⟩ := HO2.out
          by_cases h1 : 65535 < a
          · have hv : Hid (refSpan s.data.toList = (1, 0)) := Lib.hid (by rw [HSP.out, if_pos (.inl (by omega))])
            have h1' : decide ((65535 : Int) < (a : Int)) = true := decide_eq_true (by omega)
            have HBE := Lib.hid ((HB2.out.setCell (p := ⟨w.heap.size, 0, none⟩) (Nat.le_refl _) (.int .u16 1)).setCell (p := ⟨w.heap.size, 1, none⟩) (Nat.le_refl _) (.int .u16 0))
            clear HSP
            go_wp2_with fail
            all_goals first
              | (exfalso; omega)
              | exact bodyPost_ret (v := .agg #[.int .u16 1, .int .u16 0]) (by simp [results, Tryz.results11, go_sem, *]) rfl ⟨by (rw [hv.out]) <;> rfl, HBE.out⟩
          · have h1' : decide ((65535 : Int) < (a : Int)) = false := decide_eq_false (by omega)
            by_cases h2 : 65535 < b
            · have hv : Hid (refSpan s.data.toList = (1, 0)) := Lib.hid (by rw [HSP.out, if_pos (.inr (by omega))])
              have h2' : decide ((65535 : Int) < (b : Int)) = true := decide_eq_true (by omega)
              have HBE := Lib.hid ((HB2.out.setCell (p := ⟨w.heap.size, 0, none⟩) (Nat.le_refl _) (.int .u16 1)).setCell (p := ⟨w.heap.size, 1, none⟩) (Nat.le_refl _) (.int .u16 0))
              clear HSP
              go_wp2_with fail
              all_goals first
                | (exfalso; omega)
                | exact bodyPost_ret (v := .agg #[.int .u16 1, .int .u16 0]) (by simp [results, Tryz.results11, go_sem, *]) rfl ⟨by (rw [hv.out]) <;> rfl, HBE.out⟩
            · have h2' : decide ((65535 : Int) < (b : Int)) = false := decide_eq_false (by omega)
              have hv : Hid (refSpan s.data.toList = (a, b)) := Lib.hid (by rw [HSP.out, if_neg (by omega)])
              have wa : IntKind.u16.wrap (a : Int) = a := by have : IntKind.u16.wrap (a : Int) = (a : Int) % 65536 := rfl; rw [this]; omega
              have wb : IntKind.u16.wrap (b : Int) = b := by have : IntKind.u16.wrap (b : Int) = (b : Int) % 65536 := rfl; rw [this]; omega
              have ea : (a : Int) % 65536 = a := by omega
              have eb : (b : Int) % 65536 = b := by omega
              have HBE := Lib.hid ((HB2.out.setCell (p := ⟨w.heap.size, 0, none⟩) (Nat.le_refl _) (.int .u16 a)).setCell (p := ⟨w.heap.size, 1, none⟩) (Nat.le_refl _) (.int .u16 b))
              clear HSP
              go_wp2_with fail
              all_goals first
                | (exfalso; omega)
                | exact bodyPost_ret (v := .agg #[.int .u16 a, .int .u16 b]) (by simp [results, Tryz.results11, go_sem, *]) rfl ⟨by (rw [hv.out]) <;> rfl, HBE.out⟩
        · have HN := Lib.hid (take_no hno.out hget hd)
          have hd' : ¬ ((s[k].toNat : Int) = 45) := fun e => hd (UInt8.toNat_inj.1 (by have h45 : (45 : UInt8).toNat = 45 := rfl; omega))
          clear hd hget hno
          go_wp2_with fail
          go_round
          case rel => exact ⟨k + 1, by omega, by go_num, HN⟩
          case measure => simp [intOf]; omega
      · obtain rfl : k = s.size := by omega
        have hall : s.data.toList.take s.size = s.data.toList := by
          have : s.size = s.data.toList.length := by rw [Array.length_toList]; rfl
          rw [this, List.take_length]
        have hno' := hno.out
        rw [hall] at hno'
        obtain ⟨hA, hB⟩ := cut_nowhere hno'
        have hN1 := fun W => refNum_val (s := s) (w := W) (n := numV s.data.toList) rfl (by omega)
        have H1 := Lib.hid hN1
        have hsp2 := HSP.out
        rw [hA, hB] at hsp2
        clear HSP
        have HSP := Lib.hid hsp2
        clear hsp2
        clear hN1 hA hB hno hno' hall
        generalize numV s.data.toList = a at *
        go_wp2_with fail
        refine (H1.out _).mono ?_
        rintro e w1 ⟨⟨q1, rfl⟩, h1⟩
        have HB1 := Lib.hid (below_then HB0.out h1)
        have HO1 := Lib.hid (HO0.out.below h1)
        clear h1 H1 HO0 HB0
        obtain ⟨o0, o1, o2, o3⟩ := HO1.out
        by_cases h1 : 65535 < a
        · have hv : Hid (refSpan s.data.toList = (1, 0)) := Lib.hid (by rw [HSP.out, if_pos (.inl (by omega))])
          have h1' : decide ((65535 : Int) < (a : Int)) = true := decide_eq_true (by omega)
          have HBE := Lib.hid ((HB1.out.setCell (p := ⟨w.heap.size, 0, none⟩) (Nat.le_refl _) (.int .u16 1)).setCell (p := ⟨w.heap.size, 1, none⟩) (Nat.le_refl _) (.int .u16 0))
          clear HSP
          go_wp2_with fail
          all_goals first
            | (exfalso; omega)
            | exact bodyPost_ret (v := .agg #[.int .u16 1, .int .u16 0]) (by simp [results, Tryz.results11, go_sem, *]) rfl ⟨by (rw [hv.out]) <;> rfl, HBE.out⟩
        · have h1' : decide ((65535 : Int) < (a : Int)) = false := decide_eq_false (by omega)
          have hv : Hid (refSpan s.data.toList = (a, a)) := Lib.hid (by rw [HSP.out, if_neg (by omega)])
          have ea : (a : Int) % 65536 = a := by omega
          have HBE := Lib.hid ((HB1.out.setCell (p := ⟨w.heap.size, 0, none⟩) (Nat.le_refl _) (.int .u16 a)).setCell (p := ⟨w.heap.size, 1, none⟩) (Nat.le_refl _) (.int .u16 a))
          clear HSP
          go_wp2_with fail
          all_goals first
            | (exfalso; omega)
            | exact bodyPost_ret (v := .agg #[.int .u16 a, .int .u16 a]) (by simp [results, Tryz.results11, go_sem, *]) rfl ⟨by (rw [hv.out]) <;> rfl, HBE.out⟩
end Go.Proofs.YtfiddoibnjildaaGreatDoor
