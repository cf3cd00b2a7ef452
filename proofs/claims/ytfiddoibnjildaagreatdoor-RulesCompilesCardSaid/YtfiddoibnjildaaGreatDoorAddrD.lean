/- Walks of the reference's Print, Show and Net of layer 3. -/
import Derived.Test.YtfiddoibnjildaaGreatDoorAddrC
namespace Go.Proofs.YtfiddoibnjildaaGreatDoor
set_option linter.unusedSimpArgs false
set_option linter.unusedVariables false
open Go Go.RowKit

abbrev str (l : List UInt8) : Value := .string ⟨l.toArray⟩
theorem num_val (n : Nat) (i : Int) (w : World) (hi : i = n) (h1 : n ≤ 9223372036854775807) :
    Calls Tryz.prog 54 #[.int .i64 i] w fun e w' => e = .returned (.string ⟨(Lib.decDigits n).toArray⟩) ∧ Below w.heap.size w w' := by
  subst hi
  have := num_any (n : Int) w (by omega) (by omega)
  rwa [Int.toNat_natCast] at this

set_option maxHeartbeats 2000000 in
set_option maxRecDepth 100000 in
theorem refPrint_any (a : Nat) (w : World) (ha : a < 4294967296) :
    Calls Tryz.prog 55 #[.int .u32 a] w fun e w' => e = .returned (str (showAddr a)) ∧ Below w.heap.size w w' := by
  have C3 := Lib.hid (fun v => num_val (byteAt a 3) ((a : Int) / 16777216) v (by unfold byteAt; omega) (by unfold byteAt; omega))
  have C2 := Lib.hid (fun v => num_val (byteAt a 2) ((a : Int) / 65536 % 256) v (by unfold byteAt; omega) (by unfold byteAt; omega))
  have C1 := Lib.hid (fun v => num_val (byteAt a 1) ((a : Int) / 256 % 256) v (by unfold byteAt; omega) (by unfold byteAt; omega))
  have C0 := Lib.hid (fun v => num_val (byteAt a 0) ((a : Int) % 256) v (by unfold byteAt; omega) (by unfold byteAt; omega))
  have l3 := dec_len_le 3 (byteAt a 3) (by unfold byteAt; omega) (by omega)
  have l2 := dec_len_le 3 (byteAt a 2) (by unfold byteAt; omega) (by omega)
  have l1 := dec_len_le 3 (byteAt a 1) (by unfold byteAt; omega) (by omega)
  have l0 := dec_len_le 3 (byteAt a 0) (by unfold byteAt; omega) (by omega)
  have hs : showAddr a = Lib.decDigits (byteAt a 3) ++ [46] ++ Lib.decDigits (byteAt a 2) ++ [46] ++ Lib.decDigits (byteAt a 1) ++ [46] ++ Lib.decDigits (byteAt a 0) := by
    unfold showAddr; rw [Lib.join_cons]; simp [Lib.joinTail]
  have HS := Lib.hid hs
  clear hs
  generalize Lib.decDigits (byteAt a 3) = d3 at *
  generalize Lib.decDigits (byteAt a 2) = d2 at *
  generalize Lib.decDigits (byteAt a 1) = d1 at *
  generalize Lib.decDigits (byteAt a 0) = d0 at *
  go_enter Tryz.func55, Tryz.ntmps55
  go_wp2_with fail
  refine (C3.out _).mono ?_
  rintro e w1 ⟨rfl, h1⟩
  go_wp2_with fail
  refine (C2.out _).mono ?_
  rintro e w2 ⟨rfl, h2⟩
  go_wp2_with fail
  refine (C1.out _).mono ?_
  rintro e w3 ⟨rfl, h3⟩
  go_wp2_with fail
  refine (C0.out _).mono ?_
  rintro e w4 ⟨rfl, h4⟩
  go_wp2_with fail
  go_ret
  refine retB (congrArg Value.string ?_) (below_then (below_then (below_then h1 h2) h3) h4)
  rw [HS.out]
  apply ByteArray.ext
  simp

/-- What Show answers: the text, the error. -/
def showF (a : Nat) (n : Int) : List UInt8 × Int := match showNet a n with | some l => (l, 0) | none => ([], 1)
def StrPost (q : List UInt8 × Int) (w : World) (e : Ending) (w' : World) : Prop := e = .returned (.tuple #[str q.1, .int .i64 q.2]) ∧ Below w.heap.size w w'
theorem str_end {q : List UInt8 × Int} {s : ByteArray} {c : Int} {w w' : World} (h1 : s.data.toList = q.1) (h2 : q.2 = c) (hb : Below w.heap.size w w') : StrPost q w (.returned (.tuple #[.string s, .int .i64 c])) w' := by
  obtain ⟨l, d⟩ := q
  simp only at h1 h2
  subst h1 h2; exact ⟨rfl, hb⟩
theorem show_len (a : Nat) : (showAddr a).length ≤ 15 := by
  have l3 := dec_len_le 3 (byteAt a 3) (by unfold byteAt; omega) (by omega)
  have l2 := dec_len_le 3 (byteAt a 2) (by unfold byteAt; omega) (by omega)
  have l1 := dec_len_le 3 (byteAt a 1) (by unfold byteAt; omega) (by omega)
  have l0 := dec_len_le 3 (byteAt a 0) (by unfold byteAt; omega) (by omega)
  unfold showAddr; rw [Lib.join_cons]; simp [Lib.joinTail]; omega

set_option maxHeartbeats 2000000 in
set_option maxRecDepth 100000 in
theorem refShow_any (a : Nat) (n : Int) (w : World) (ha : a < 4294967296) :
    Calls Tryz.prog 32 #[.agg #[.int .u32 a, .int .i64 n]] w (StrPost (showF a n) w) := by
  have B0 : Below w.heap.size w (w.alloc (.cells #[.int .u32 a, .int .i64 n] 39)) := (Below.refl _ _).alloc (Nat.le_refl _) _
  have N0 := NetAt.new w a n 39
  cases hm : mayNet a n with
  | false =>
    have hv : Hid (showF a n = ([], 1)) := Lib.hid (by unfold showF showNet; rw [hm]; simp)
    have HM := Lib.hid hm
    clear hm
    go_enter Tryz.func32, Tryz.ntmps32
    go_wp2_with fail
    refine (refMay_val a n false _ ha HM.out).mono ?_
    rintro e w1 ⟨rfl, h1⟩
    generalize w.alloc (.cells #[.int .u32 a, .int .i64 n] 39) = w0 at *
    have HB0 := Lib.hid B0
    clear B0
    go_wp2_with fail
    go_ret2
    exact str_end (by rw [hv.out]) (by rw [hv.out]) (below_then HB0.out h1)
  | true =>
    have hr := may_range hm
    have HM := Lib.hid hm
    by_cases h0 : n = 0
    · have hv : Hid (showF a n = (anyL, 0)) := Lib.hid (by unfold showF showNet; rw [if_pos hm, if_pos h0])
      have e0 : (n == 0) = true := by rw [h0]; rfl
      clear hm h0
      go_enter Tryz.func32, Tryz.ntmps32
      go_wp2_with fail
      refine (refMay_val a n true _ ha HM.out).mono ?_
      rintro e w1 ⟨rfl, h1⟩
      generalize w.alloc (.cells #[.int .u32 a, .int .i64 n] 39) = w0 at *
      have HB0 := Lib.hid B0
      have HB1 := Lib.hid (below_then B0 h1)
      obtain ⟨c0, c1⟩ := N0.below h1
      clear B0 h1
      go_wp2_with fail
      go_ret2
      exact str_end (by rw [hv.out]; rfl) (by rw [hv.out]) HB1.out
    · have hv : Hid (showF a n = (showAddr a ++ 47 :: Lib.decDigits n.toNat, 0)) := Lib.hid (by unfold showF showNet; rw [if_pos hm, if_neg h0])
      have e0 : (n == 0) = false := beq_eq_false_iff_ne.2 h0
      have ls := show_len a
      have ld := dec_len_le 2 n.toNat (by omega) (by omega)
      have CP := Lib.hid (fun v => refPrint_any a v ha)
      have CN := Lib.hid (fun v => num_val n.toNat n v (by omega) (by omega))
      generalize showAddr a = la at *
      generalize Lib.decDigits n.toNat = ln at *
      clear hm h0
      go_enter Tryz.func32, Tryz.ntmps32
      go_wp2_with fail
      refine (refMay_val a n true _ ha HM.out).mono ?_
      rintro e w1 ⟨rfl, h1⟩
      generalize w.alloc (.cells #[.int .u32 a, .int .i64 n] 39) = w0 at *
      have HB0 := Lib.hid B0
      have HB1 := Lib.hid (below_then B0 h1)
      obtain ⟨c0, c1⟩ := N0.below h1
      clear B0 h1
      go_wp2_with fail
      refine WQ.enter w1 (Since.refl _) (by kernel_rfl) (by kernel_rfl) ?_
      refine WQ.val (by rfl) (fun v hv => by have k0 := hv.cell c0; have k1 := hv.cell c1; go_simp; first | done | with_reducible rfl | (rw [if_neg (by omega)])) ?_; simp only [Act.put, List.setIfInBounds_toArray, List.set_cons_zero, List.set_cons_succ]
      refine WQ.val (by rfl) (fun v hv => by have k0 := hv.cell c0; have k1 := hv.cell c1; go_simp; first | done | with_reducible rfl | (rw [if_neg (by omega)])) ?_; simp only [Act.put, List.setIfInBounds_toArray, List.set_cons_zero, List.set_cons_succ]
      refine WQ.call (f := 55) (args := #[.int .u32 a]) (by rfl) (fun v hv => by go_simp) (fun v hv => (CP.out v).mono (fun e v' ⟨he, hb⟩ => ⟨he, hv.step hb⟩)) ?_; simp only [Act.put, List.setIfInBounds_toArray, List.set_cons_zero, List.set_cons_succ]
      refine WQ.val (by rfl) (fun v hv => by have k0 := hv.cell c0; have k1 := hv.cell c1; go_simp; first | done | with_reducible rfl | (rw [if_neg (by omega)])) ?_; simp only [Act.put, List.setIfInBounds_toArray, List.set_cons_zero, List.set_cons_succ]
      refine WQ.val (by rfl) (fun v hv => by have k0 := hv.cell c0; have k1 := hv.cell c1; go_simp; first | done | with_reducible rfl | (rw [if_neg (by omega)])) ?_; simp only [Act.put, List.setIfInBounds_toArray, List.set_cons_zero, List.set_cons_succ]
      refine WQ.val (by rfl) (fun v hv => by have k0 := hv.cell c0; have k1 := hv.cell c1; go_simp; first | done | with_reducible rfl | (rw [if_neg (by omega)])) ?_; simp only [Act.put, List.setIfInBounds_toArray, List.set_cons_zero, List.set_cons_succ]
      refine WQ.call (f := 54) (args := #[.int .i64 n]) (by rfl) (fun v hv => by go_simp) (fun v hv => (CN.out v).mono (fun e v' ⟨he, hb⟩ => ⟨he, hv.step hb⟩)) ?_; simp only [Act.put, List.setIfInBounds_toArray, List.set_cons_zero, List.set_cons_succ]
      refine WQ.val (by rfl) (fun v hv => by have k0 := hv.cell c0; have k1 := hv.cell c1; go_simp; first | done | with_reducible rfl | (rw [if_neg (by omega)])) ?_; simp only [Act.put, List.setIfInBounds_toArray, List.set_cons_zero, List.set_cons_succ]
      refine WQ.val (by rfl) (fun v hv => by have k0 := hv.cell c0; have k1 := hv.cell c1; go_simp; first | done | with_reducible rfl | (rw [if_neg (by omega)])) ?_; simp only [Act.put, List.setIfInBounds_toArray, List.set_cons_zero, List.set_cons_succ]
      refine WQ.val (by rfl) (fun v hv => by have k0 := hv.cell c0; have k1 := hv.cell c1; go_simp; first | done | with_reducible rfl | (rw [if_neg (by omega)])) ?_; simp only [Act.put, List.setIfInBounds_toArray, List.set_cons_zero, List.set_cons_succ]
      refine WQ.done ?_
      intro w5 hw5
      have HB5 := Lib.hid (below_then HB1.out hw5)
      clear hw5 c0 c1
      go_wp2_with fail
      go_ret2
      exact str_end (by rw [hv.out]; simp) (by rw [hv.out]) HB5.out

theorem bcell {W w1 : World} (hb : Below W.heap.size W w1) : (∀ b o, b < W.heap.size → w1.cell? ⟨b, o, none⟩ = W.cell? ⟨b, o, none⟩) ∧ (∀ b o, b < W.heap.size → w1.frozen? ⟨b, o, none⟩ = W.frozen? ⟨b, o, none⟩) :=
  ⟨fun b o h => hb.cell (p := ⟨b, o, none⟩) h, fun b o h => hb.frozen (p := ⟨b, o, none⟩) h⟩
/-- A net of the call's own, in memory. -/
def NetOwn (w : World) (b : Nat) (a n : Int) : Prop := w.cell? ⟨b, 0, none⟩ = some (.int .u32 a) ∧ w.cell? ⟨b, 1, none⟩ = some (.int .i64 n) ∧ w.frozen? ⟨b, 0, none⟩ = false ∧ w.frozen? ⟨b, 1, none⟩ = false
theorem NetOwn.below {w w1 : World} {b : Nat} {a n : Int} (h : NetOwn w b a n) (hb : Below w.heap.size w w1) : NetOwn w1 b a n := by
  obtain ⟨h1, h2, h3, h4⟩ := h
  have hl := World.block_lt_of_cell? w ⟨b, 0, none⟩ h1
  obtain ⟨c, f⟩ := bcell hb
  exact ⟨(c b 0 hl).trans h1, (c b 1 hl).trans h2, (f b 0 hl).trans h3, (f b 1 hl).trans h4⟩
theorem NetOwn.new (w : World) (a n : Int) (T : TypeId) : NetOwn (w.alloc (.cells #[.int .u32 a, .int .i64 n] T)) w.heap.size a n := ⟨by simp, by simp, by simp, by simp⟩
theorem NetOwn.box {w : World} {b : Nat} {a n : Int} (h : NetOwn w b a n) (o : Obj) : NetOwn (w.alloc o) b a n := h.below ((Below.refl _ _).alloc (Nat.le_refl _) _)
/-- What Net answers: the address, the bits, the error. -/
def netF (l : List UInt8) : Nat × Nat × Int := match netOf l with | some (a, b) => (a, b, 0) | none => (0, 0, 3)
def NetPost (q : Nat × Nat × Int) (w : World) (e : Ending) (w' : World) : Prop := e = .returned (.tuple #[.agg #[.int .u32 q.1, .int .i64 q.2.1], .int .i64 q.2.2]) ∧ Below w.heap.size w w'
theorem net_end {q : Nat × Nat × Int} {a b c : Int} {w w' : World} (h1 : (q.1 : Int) = a) (h2 : (q.2.1 : Int) = b) (h3 : q.2.2 = c) (hb : Below w.heap.size w w') : NetPost q w (.returned (.tuple #[.agg #[.int .u32 a, .int .i64 b], .int .i64 c])) w' := by
  subst h1 h2 h3; exact ⟨rfl, hb⟩

/-- The reference's road to a net. -/
theorem netOf_ref {p r : List UInt8} (hp : (47 : UInt8) ∉ p) : netOf (p ++ 47 :: r) = match addrOf p with
    | none => none
    | some a => if showNet a (numF r) = some (p ++ 47 :: r) then some (a, (numF r).toNat) else none := by
  have hne : p ++ 47 :: r ≠ anyL := by
    intro e
    have : (47 : UInt8) ∈ anyL := by rw [← e]; simp
    revert this; decide
  cases e : netOf (p ++ 47 :: r) with
  | some ab =>
    obtain ⟨a, b⟩ := ab
    have h1 := showNet_netOf e
    rw [netOf, if_neg hne, cut_at hp] at e
    simp only at e
    cases ha : addrOf p with
    | none => rw [ha] at e; simp at e
    | some a' =>
      rw [ha] at e
      simp only at e ⊢
      split at e
      · rename_i hc
        injection e with e
        injection e with e1 e2
        subst e1
        obtain ⟨n, hn, rfl⟩ := isNum_iff.1 hc.1
        rw [valOf_dec] at e2
        subst e2
        have hnum : numF (Lib.decDigits n) = n := by
          unfold numF
          rw [if_pos, valOf_dec]
          have := dec_len_le 2 n (by omega) (by omega)
          exact ⟨by omega, by rw [valOf_dec]⟩
        rw [hnum, if_pos h1.1]; simp
      · cases e
  | none =>
    rw [netOf, if_neg hne, cut_at hp] at e
    simp only at e
    cases ha : addrOf p with
    | none => rfl
    | some a' =>
      rw [ha] at e
      simp only at e ⊢
      rw [if_neg]
      intro hs
      have h2 := netOf_show (addrOf_lt ha).1 hs
      rw [netOf, if_neg hne, cut_at hp] at h2
      simp only at h2
      rw [ha] at h2
      simp only at h2
      rw [e] at h2
      cases h2
theorem netOf_noslash {l : List UInt8} (h : (47 : UInt8) ∉ l) (hne : l ≠ anyL) : netOf l = none := by
  rw [netOf, if_neg hne, cut_none h]
  simp only
  split
  · rfl
  · rw [if_neg]
    rintro ⟨h1, -⟩
    obtain ⟨n, _, e⟩ := isNum_iff.1 h1
    exact dec_ne_nil n e.symm

/-- Up to the first slash. -/
def Scan (s : ByteArray) (k : Nat) : Prop := (47 : UInt8) ∉ s.data.toList.take k
theorem Scan.next {s : ByteArray} {k : Nat} (h : Scan s k) (hk : k < s.size) (hc : s[k] ≠ 47) : Scan s (k + 1) := by
  unfold Scan at *
  have : s.data.toList.take (k + 1) = s.data.toList.take k ++ [s[k]] := by rw [List.take_succ_eq_append_getElem (by simpa using hk)]; rfl
  rw [this]
  simp only [List.mem_append, List.mem_singleton, not_or]
  exact ⟨h, fun e => hc e.symm⟩
theorem Scan.cut {s : ByteArray} {k : Nat} (h : Scan s k) (hk : k < s.size) (hc : s[k] = 47) : s.data.toList = (s.extract 0 k).data.toList ++ 47 :: (s.extract (k + 1) s.size).data.toList ∧ (47 : UInt8) ∉ (s.extract 0 k).data.toList := by
  rw [Lib.extract_from_zero, Lib.extract_to_end]
  refine ⟨?_, h⟩
  have h8 : s.data.toList[k]'(by simpa using hk) = 47 := by rw [← hc]; simp; rfl
  rw [← h8, ← List.drop_eq_getElem_cons (by simpa using hk), List.take_append_drop]
theorem Scan.all {s : ByteArray} (h : Scan s s.size) : (47 : UInt8) ∉ s.data.toList := by
  unfold Scan at h
  rwa [List.take_of_length_le (by simp)] at h

set_option maxHeartbeats 2000000 in
set_option maxRecDepth 100000 in
theorem refNet_any (s : ByteArray) (w : World) (hs : s.size ≤ 140737488351232) :
    Calls Tryz.prog 13 #[.string s] w (NetPost (netF s.data.toList) w) := by
  have B0 : Below w.heap.size w (w.alloc (.cells #[.int .u32 0, .int .i64 0] 39)) := (Below.refl _ _).alloc (Nat.le_refl _) _
  have O0 := NetOwn.new w 0 0 39
  cases ha : (s.toList == [97, 110, 121]) with
  | true =>
    have hv : Hid (netF s.data.toList = (0, 0, 0)) := Lib.hid (by
      rw [ByteArray.toList_eq, beq_iff_eq] at ha
      unfold netF netOf; rw [ha]; rfl)
    go_enter Tryz.func13, Tryz.ntmps13
    go_wp2_with fail
    exact bodyPost_ret (v := .tuple #[.agg #[.int .u32 0, .int .i64 0], .int .i64 0]) (by simp [results, Tryz.results13, go_sem]) rfl (net_end (by rw [hv.out]; rfl) (by rw [hv.out]; rfl) (by rw [hv.out]) B0)
  | false =>
    have hne : s.data.toList ≠ anyL := by
      intro e
      rw [ByteArray.toList_eq, beq_eq_false_iff_ne] at ha
      exact ha e
    have HNE := Lib.hid hne
    clear hne
    go_enter Tryz.func13, Tryz.ntmps13
    go_wp2_with fail
    go_loop [4] (fun i => ∃ k : Nat, k ≤ s.size ∧ i = .int .i64 k ∧ Hid (Scan s k)) (fun i => s.size - (intOf i).toNat)
    case atStart => exact ⟨0, Nat.zero_le _, rfl, Lib.hid (by simp [Scan])⟩
    case round =>
      obtain ⟨k, hk, rfl, hscan⟩ := hrel
      have hdec : (∃ h : k < s.size, s[k] ≠ 47) ∨ (k = s.size) ∨ (∃ h : k < s.size, s[k] = 47) := by
        by_cases h : k < s.size
        · by_cases h2 : s[k] = 47
          · exact .inr (.inr ⟨h, h2⟩)
          · exact .inl ⟨h, h2⟩
        · exact .inr (.inl (by omega))
      have hex : (s.extract 0 k).size ≤ 140737488351232 := by simp; omega
      have hpar := Lib.hid (fun v => refParse_any (s.extract 0 k) v hex)
      rcases hdec with ⟨hlt, hc⟩ | he | ⟨hlt, hc⟩
      · have hn := Lib.hid (hscan.out.next hlt hc)
        have hq : ((s[k].toNat : Int) != 47) = true := by
          rw [bne_iff_ne]; intro e; exact hc (UInt8.toNat_inj.1 (by have : (47 : UInt8).toNat = 47 := rfl; omega))
        clear hc
        go_wp2_with fail
        go_round
        case rel => exact ⟨k + 1, by omega, by go_num, hn⟩
        case measure => simp [intOf]; omega
      · have hv : Hid (netF s.data.toList = (0, 0, 3)) := Lib.hid (by subst he; unfold netF; rw [netOf_noslash hscan.out.all HNE.out])
        have hlt : ¬ k < s.size := by omega
        have HE := Lib.hid he
        clear he
        obtain ⟨pa, hpa⟩ : ∃ q, pairA (addrOf (s.extract 0 k).data.toList) = q := ⟨_, rfl⟩
        have HPA := Lib.hid hpa
        clear hpa
        have he' : ((k : Int) == (s.size : Int)) = true := by rw [beq_iff_eq]; omega
        have hz : (pa.2 != 0) = true ∨ (pa.2 != 0) = false := by cases (pa.2 != 0) <;> simp
        rcases hz with hz | hz
        all_goals
          go_wp2_with (go_at_call 30; fail)
          refine (hpar.out _).mono ?_
          unfold PairPost3
          rw [HPA.out]
          rintro e w1 ⟨rfl, h1⟩
          obtain ⟨c10, c11, f10, f11⟩ := O0.below h1
          have hs1 : w.heap.size + 1 ≤ w1.heap.size := by have := h1.size; simpa using this
          have hB := ((B0.trans (h1.mono (by simp))).setCell (p := ⟨w.heap.size, 0, none⟩) (Nat.le_refl _) (.int .u32 0)).setCell (p := ⟨w.heap.size, 1, none⟩) (Nat.le_refl _) (.int .i64 0)
          have HB := Lib.hid hB
          clear hB
          go_wp2_with fail
          exact bodyPost_ret (v := .tuple #[.agg #[.int .u32 0, .int .i64 0], .int .i64 3]) (by simp [results, Tryz.results13, go_sem, *]) rfl (net_end (by rw [hv.out]; rfl) (by rw [hv.out]; rfl) (by rw [hv.out]) HB.out)
      · obtain ⟨hcut, hns⟩ := hscan.out.cut hlt hc
        have href := netOf_ref (r := (s.extract (k + 1) s.size).data.toList) hns
        rw [← hcut] at href
        have hneq : ((k : Int) == (s.size : Int)) = false := beq_eq_false_iff_ne.2 (by omega)
        have hq : ((s[k].toNat : Int) != 47) = false := by rw [hc]; rfl
        have hex2 : (s.extract (k + 1) s.size).size ≤ 140737488351232 := by simp; omega
        have hnum := Lib.hid (fun v => number_any (s.extract (k + 1) s.size) v hex2)
        obtain ⟨m, hm⟩ : ∃ m, numF (s.extract (k + 1) s.size).data.toList = m := ⟨_, rfl⟩
        rw [hm] at href
        have HM := Lib.hid hm
        have HCUT := Lib.hid hcut
        clear hc hcut hns hm
        cases hA : addrOf (s.extract 0 k).data.toList with
        | none =>
          have hv : Hid (netF s.data.toList = (0, 0, 3)) := Lib.hid (by unfold netF; rw [href, hA])
          have HPA : Hid (pairA (addrOf (s.extract 0 k).data.toList) = (0, 3)) := Lib.hid (by rw [hA]; rfl)
          clear href hA
          go_wp2_with (go_at_call 30; fail)
          refine (hpar.out _).mono ?_
          unfold PairPost3
          rw [HPA.out]
          rintro e w1 ⟨rfl, h1⟩
          obtain ⟨c10, c11, f10, f11⟩ := O0.below h1
          have hs1 : w.heap.size + 1 ≤ w1.heap.size := by have := h1.size; simpa using this
          have HB := Lib.hid (((B0.trans (h1.mono (by simp))).setCell (p := ⟨w.heap.size, 0, none⟩) (Nat.le_refl _) (.int .u32 0)).setCell (p := ⟨w.heap.size, 1, none⟩) (Nat.le_refl _) (.int .i64 0))
          go_wp2_with fail
          exact bodyPost_ret (v := .tuple #[.agg #[.int .u32 0, .int .i64 0], .int .i64 3]) (by simp [results, Tryz.results13, go_sem, *]) rfl (net_end (by rw [hv.out]; try rfl) (by rw [hv.out]; try rfl) (by rw [hv.out]) HB.out)
        | some a =>
          have hal := (addrOf_lt hA).1
          have HPA : Hid (pairA (addrOf (s.extract 0 k).data.toList) = (↑a, 0)) := Lib.hid (by rw [hA]; rfl)
          have hsh := Lib.hid (fun v => refShow_any a m v hal)
          have href' : Hid (netOf s.data.toList = if showNet a m = some s.data.toList then some (a, m.toNat) else none) := Lib.hid (by rw [href, hA])
          have HAL := Lib.hid hal
          clear href hA hal
          go_wp2_with (go_at_call 30; fail)
          refine (hpar.out _).mono ?_
          unfold PairPost3
          rw [HPA.out]
          rintro e w1 ⟨rfl, h1⟩
          obtain ⟨c10, c11, f10, f11⟩ := O0.below h1
          have hs1 : w.heap.size + 1 ≤ w1.heap.size := by have := h1.size; simpa using this
          have HB1 := Lib.hid (B0.trans (h1.mono (by simp)))
          have O1 := O0.below h1
          clear h1 c10 c11 f10 f11
          go_wp2_with (go_at_call 31; fail)
          refine (hnum.out _).mono ?_
          rw [HM.out]
          rintro e w2 ⟨rfl, h2⟩
          have hs2 : w.heap.size + 1 ≤ w2.heap.size := by have := h2.size; omega
          have O2 := O1.below h2
          have HB2 := Lib.hid (HB1.out.trans (h2.mono (by omega)))
          clear h2
          go_wp2_with (go_at_call 32; fail)
          refine (hsh.out _).mono ?_
          cases hS : showNet a m with
          | none =>
            have hv : Hid (netF s.data.toList = (0, 0, 3)) := Lib.hid (by unfold netF; rw [href'.out, hS]; simp)
            have HSF : Hid (showF a m = ([], 1)) := Lib.hid (by unfold showF; rw [hS])
            clear hS
            unfold StrPost
            rw [HSF.out]
            rintro e w3 ⟨rfl, h3⟩
            obtain ⟨c30, c31, f30, f31⟩ := (O2.box _).below h3; obtain ⟨n30, n31, g30, g31⟩ := (NetOwn.new w2 a m 39).below h3; have hne3 : w2.heap.size ≠ w.heap.size := by omega
            have hs3 : w2.heap.size + 1 ≤ w3.heap.size := by have := h3.size; simpa using this
            have HB3 := Lib.hid (((HB2.out.alloc (by omega) (.cells #[.int .u32 a, .int .i64 m] 39)).trans (h3.mono (by simp; omega))))
            clear h3
            go_wp2_with fail
            exact bodyPost_ret (v := .tuple #[.agg #[.int .u32 0, .int .i64 0], .int .i64 3]) (by simp [results, Tryz.results13, go_sem, *]) rfl (net_end (by rw [hv.out]; try rfl) (by rw [hv.out]; try rfl) (by rw [hv.out]) ((HB3.out.setCell (p := ⟨w.heap.size, 0, none⟩) (Nat.le_refl _) (.int .u32 0)).setCell (p := ⟨w.heap.size, 1, none⟩) (Nat.le_refl _) (.int .i64 0)))
          | some t =>
            have HSF : Hid (showF a m = (t, 0)) := Lib.hid (by unfold showF; rw [hS])
            cases ht : (t == s.toList) with
            | true =>
              have ht' : t = s.data.toList := by rw [ByteArray.toList_eq, beq_iff_eq] at ht; exact ht
              have hm0 : 0 ≤ m := by
                have hmn : mayNet a m = true := by
                  unfold showNet at hS
                  split at hS
                  · assumption
                  · cases hS
                exact (may_range hmn).1
              have hv : Hid (netF s.data.toList = (a, m.toNat, 0)) := Lib.hid (by unfold netF; rw [href'.out, hS, ht', if_pos rfl])
              have hmm : ((m.toNat : Nat) : Int) = m := Int.toNat_of_nonneg hm0
              have HMM := Lib.hid hmm
              have hl : (str t) = str t := rfl
              clear hS hmm hl ht' hm0
              unfold StrPost
              rw [HSF.out]
              rintro e w3 ⟨rfl, h3⟩
              obtain ⟨c30, c31, f30, f31⟩ := (O2.box _).below h3; obtain ⟨n30, n31, g30, g31⟩ := (NetOwn.new w2 a m 39).below h3; have hne3 : w2.heap.size ≠ w.heap.size := by omega
              have hs3 : w2.heap.size + 1 ≤ w3.heap.size := by have := h3.size; simpa using this
              have HB3 := Lib.hid (((HB2.out.alloc (by omega) (.cells #[.int .u32 a, .int .i64 m] 39)).trans (h3.mono (by simp; omega))))
              clear h3
              go_wp2_with fail
              exact bodyPost_ret (v := .tuple #[.agg #[.int .u32 a, .int .i64 m], .int .i64 0]) (by simp [results, Tryz.results13, go_sem, *]) rfl (net_end (by rw [hv.out]) (by rw [hv.out]; exact HMM.out) (by rw [hv.out]) ((HB3.out.setCell (p := ⟨w.heap.size, 0, none⟩) (Nat.le_refl _) (.int .u32 a)).setCell (p := ⟨w.heap.size, 1, none⟩) (Nat.le_refl _) (.int .i64 m)))
            | false =>
              have ht' : t ≠ s.data.toList := by rw [ByteArray.toList_eq, beq_eq_false_iff_ne] at ht; exact ht
              have hv : Hid (netF s.data.toList = (0, 0, 3)) := Lib.hid (by unfold netF; rw [href'.out, hS, if_neg (fun e => ht' (Option.some.inj e))])
              clear hS ht'
              unfold StrPost
              rw [HSF.out]
              rintro e w3 ⟨rfl, h3⟩
              obtain ⟨c30, c31, f30, f31⟩ := (O2.box _).below h3; obtain ⟨n30, n31, g30, g31⟩ := (NetOwn.new w2 a m 39).below h3; have hne3 : w2.heap.size ≠ w.heap.size := by omega
              have hs3 : w2.heap.size + 1 ≤ w3.heap.size := by have := h3.size; simpa using this
              have HB3 := Lib.hid (((HB2.out.alloc (by omega) (.cells #[.int .u32 a, .int .i64 m] 39)).trans (h3.mono (by simp; omega))))
              clear h3
              go_wp2_with fail
              exact bodyPost_ret (v := .tuple #[.agg #[.int .u32 0, .int .i64 0], .int .i64 3]) (by simp [results, Tryz.results13, go_sem, *]) rfl (net_end (by rw [hv.out]; try rfl) (by rw [hv.out]; try rfl) (by rw [hv.out]) ((HB3.out.setCell (p := ⟨w.heap.size, 0, none⟩) (Nat.le_refl _) (.int .u32 0)).setCell (p := ⟨w.heap.size, 1, none⟩) (Nat.le_refl _) (.int .i64 0)))
end Go.Proofs.YtfiddoibnjildaaGreatDoor
