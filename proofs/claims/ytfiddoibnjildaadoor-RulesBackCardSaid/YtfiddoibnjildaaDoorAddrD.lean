/- Walks of the reference's Print, Show and Net of layer 3. -/
import Derived.Test.YtfiddoibnjildaaDoorAddrC
namespace Go.Proofs.YtfiddoibnjildaaDoor
set_option linter.unusedSimpArgs false
set_option linter.unusedVariables false
open Go Go.RowKit

abbrev str (l : List UInt8) : Value := .string ⟨l.toArray⟩
theorem num_val (n : Nat) (i : Int) (w : World) (hi : i = n) (h1 : n ≤ 9223372036854775807) :
    Calls Tryd.prog 45 #[.int .i64 i] w fun e w' => e = .returned (.string ⟨(Lib.decDigits n).toArray⟩) ∧ Below w.heap.size w w' := by
  subst hi
  have := num_any (n : Int) w (by omega) (by omega)
  rwa [Int.toNat_natCast] at this

set_option maxHeartbeats 2000000 in
set_option maxRecDepth 100000 in
theorem refPrint_any (a : Nat) (w : World) (ha : a < 4294967296) :
    Calls Tryd.prog 44 #[.int .u32 a] w fun e w' => e = .returned (str (showAddr a)) ∧ Below w.heap.size w w' := by
  have C3 := Lib.hid (fun v => num_val (byteAt a 3) ((a : Int) / 16777216) v (by unfold byteAt; omega) (by unfold byteAt; omega))
  have C2 := Lib.hid (fun v => num_val (byteAt a 2) ((a : Int) / 65536 % 256) v (by unfold byteAt; omega) (by unfold byteAt; omega))
  have C1 := Lib.hid (fun v => num_val (byteAt a 1) ((a : Int) / 256 % 256) v (by unfold byteAt; omega) (by unfold byteAt; omega))
  have C0 := Lib.hid (fun v => num_val (byteAt a 0) ((a : Int) % 256) v (by unfold byteAt; omega) (by unfold byteAt; omega))
  have l3 := dec_len_le 3 (byteAt a 3) (by unfold byteAt; omega) (by omega)
  have l2 := dec_len_le 3 (byteAt a 2) (by unfold byteAt; omega) (by omega)
  have l1 := dec_len_le 3 (byteAt a 1) (by unfold byteAt; omega) (by omega)
  have l0 := dec_len_le 3 (byteAt a 0) (by unfold byteAt; omega) (by omega)
  have hs : showAddr a = Lib.decDigits (byteAt a 3) ++ [46] ++ Lib.decDigits (byteAt a 2) ++ [46] ++ Lib.decDigits (byteAt a 1) ++ [46] ++ Lib.decDigits (byteAt a 0) := by
    unfold showAddr; rw [Lib.join_cons]; simp [Lib.joinTail]
  have HS := Lib.hid hs
  clear hs
  generalize Lib.decDigits (byteAt a 3) = d3 at *
  generalize Lib.decDigits (byteAt a 2) = d2 at *
  generalize Lib.decDigits (byteAt a 1) = d1 at *
  generalize Lib.decDigits (byteAt a 0) = d0 at *
  go_enter Tryd.func44, Tryd.ntmps44
  go_wp2_with fail
  refine (C3.out _).mono ?_
  rintro e w1 ⟨rfl, h1⟩
  go_wp2_with fail
  refine (C2.out _).mono ?_
  rintro e w2 ⟨rfl, h2⟩
  go_wp2_with fail
  refine (C1.out _).mono ?_
  rintro e w3 ⟨rfl, h3⟩
  go_wp2_with fail
  refine (C0.out _).mono ?_
  rintro e w4 ⟨rfl, h4⟩
  go_wp2_with fail
  go_ret
  refine retB (congrArg Value.string ?_) (below_then (below_then (below_then h1 h2) h3) h4)
  rw [HS.out]
  apply ByteArray.ext
  simp

/-- What Show answers: the text, the error. -/
def showF (a : Nat) (n : Int) : List UInt8 × Int := match showNet a n with | some l => (l, 0) | none => ([], 1)
def StrPost (q : List UInt8 × Int) (w : World) (e : Ending) (w' : World) : Prop := e = .returned (.tuple #[str q.1, .int .i64 q.2]) ∧ Below w.heap.size w w'
theorem str_end {q : List UInt8 × Int} {s : ByteArray} {c : Int} {w w' : World} (h1 : s.data.toList = q.1) (h2 : q.2 = c) (hb : Below w.heap.size w w') : StrPost q w (.returned (.tuple #[.string s, .int .i64 c])) w' := by
  obtain ⟨l, d⟩ := q
  simp only at h1 h2
  subst h1 h2; exact ⟨rfl, hb⟩
theorem show_len (a : Nat) : (showAddr a).length ≤ 15 := by
  have l3 := dec_len_le 3 (byteAt a 3) (by unfold byteAt; omega) (by omega)
  have l2 := dec_len_le 3 (byteAt a 2) (by unfold byteAt; omega) (by omega)
  have l1 := dec_len_le 3 (byteAt a 1) (by unfold byteAt; omega) (by omega)
  have l0 := dec_len_le 3 (byteAt a 0) (by unfold byteAt; omega) (by omega)
  unfold showAddr; rw [Lib.join_cons]; simp [Lib.joinTail]; omega

set_option maxHeartbeats 2000000 in
set_option maxRecDepth 100000 in
theorem refShow_any (a : Nat) (n : Int) (w : World) (ha : a < 4294967296) :
    Calls Tryd.prog 26 #[.agg #[.int .u32 a, .int .i64 n]] w (StrPost (showF a n) w) := by
  have B0 : Below w.heap.size w (w.alloc (.cells #[.int .u32 a, .int .i64 n] 25)) := (Below.refl _ _).alloc (Nat.le_refl _) _
  have N0 := NetAt.new w a n 25
  cases hm : mayNet a n with
  | false =>
    have hv : Hid (showF a n = ([], 1)) := Lib.hid (by unfold showF showNet; rw [hm]; simp)
    have HM := Lib.hid hm
    clear hm
    go_enter Tryd.func26, Tryd.ntmps26
    go_wp2_with fail
    refine (refMay_val a n false _ ha HM.out).mono ?_
    rintro e w1 ⟨rfl, h1⟩
    generalize w.alloc (.cells #[.int .u32 a, .int .i64 n] 25) = w0 at *
    have HB0 := Lib.hid B0
    clear B0
    go_wp2_with fail
    go_ret2
    exact str_end (by rw [hv.out]) (by rw [hv.out]) (below_then HB0.out h1)
  | true =>
    have hr := may_range hm
    have HM := Lib.hid hm
    by_cases h0 : n = 0
    · have hv : Hid (showF a n = (anyL, 0)) := Lib.hid (by unfold showF showNet; rw [if_pos hm, if_pos h0])
      have e0 : (n == 0) = true := by rw [h0]; rfl
      clear hm h0
      go_enter Tryd.func26, Tryd.ntmps26
      go_wp2_with fail
      refine (refMay_val a n true _ ha HM.out).mono ?_
      rintro e w1 ⟨rfl, h1⟩
      generalize w.alloc (.cells #[.int .u32 a, .int .i64 n] 25) = w0 at *
      have HB0 := Lib.hid B0
      have HB1 := Lib.hid (below_then B0 h1)
      obtain ⟨c0, c1⟩ := N0.below h1
      clear B0 h1
      go_wp2_with fail
      go_ret2
      exact str_end (by rw [hv.out]; rfl) (by rw [hv.out]) HB1.out
    · have hv : Hid (showF a n = (showAddr a ++ 47 :: Lib.decDigits n.toNat, 0)) := Lib.hid (by unfold showF showNet; rw [if_pos hm, if_neg h0])
      have e0 : (n == 0) = false := beq_eq_false_iff_ne.2 h0
      have ls := show_len a
      have ld := dec_len_le 2 n.toNat (by omega) (by omega)
      have CP := Lib.hid (fun v => refPrint_any a v ha)
      have CN := Lib.hid (fun v => num_val n.toNat n v (by omega) (by omega))
      generalize showAddr a = la at *
      generalize Lib.decDigits n.toNat = ln at *
      clear hm h0
      go_enter Tryd.func26, Tryd.ntmps26
      go_wp2_with fail
      refine (refMay_val a n true _ ha HM.out).mono ?_
      rintro e w1 ⟨rfl, h1⟩
      generalize w.alloc (.cells #[.int .u32 a, .int .i64 n] 25) = w0 at *
      have HB0 := Lib.hid B0
      have HB1 := Lib.hid (below_then B0 h1)
      obtain ⟨c0, c1⟩ := N0.below h1
      clear B0 h1
      go_wp2_with fail
      refine WQ.enter w1 (Since.refl _) (by kernel_rfl) (by kernel_rfl) ?_
      refine WQ.val (by rfl) (fun v hv => by have k0 := hv.cell c0; have k1 := hv.cell c1; go_simp; first | done | with_reducible rfl | (rw [if_neg (by omega)])) ?_; simp only [Act.put, List.setIfInBounds_toArray, List.set_cons_zero, List.set_cons_succ]
      refine WQ.val (by rfl) (fun v hv => by have k0 := hv.cell c0; have k1 := hv.cell c1; go_simp; first | done | with_reducible rfl | (rw [if_neg (by omega)])) ?_; simp only [Act.put, List.setIfInBounds_toArray, List.set_cons_zero, List.set_cons_succ]
      refine WQ.call (f := 44) (args := #[.int .u32 a]) (by rfl) (fun v hv => by go_simp) (fun v hv => (CP.out v).mono (fun e v' ⟨he, hb⟩ => ⟨he, hv.step hb⟩)) ?_; simp only [Act.put, List.setIfInBounds_toArray, List.set_cons_zero, List.set_cons_succ]
      refine WQ.val (by rfl) (fun v hv => by have k0 := hv.cell c0; have k1 := hv.cell c1; go_simp; first | done | with_reducible rfl | (rw [if_neg (by omega)])) ?_; simp only [Act.put, List.setIfInBounds_toArray, List.set_cons_zero, List.set_cons_succ]
      refine WQ.val (by rfl) (fun v hv => by have k0 := hv.cell c0; have k1 := hv.cell c1; go_simp; first | done | with_reducible rfl | (rw [if_neg (by omega)])) ?_; simp only [Act.put, List.setIfInBounds_toArray, List.set_cons_zero, List.set_cons_succ]
      refine WQ.val (by rfl) (fun v hv => by have k0 := hv.cell c0; have k1 := hv.cell c1; go_simp; first | done | with_reducible rfl | (rw [if_neg (by omega)])) ?_; simp only [Act.put, List.setIfInBounds_toArray, List.set_cons_zero, List.set_cons_succ]
      refine WQ.call (f := 45) (args := #[.int .i64 n]) (by rfl) (fun v hv => by go_simp) (fun v hv => (CN.out v).mono (fun e v' ⟨he, hb⟩ => ⟨he, hv.step hb⟩)) ?_; simp only [Act.put, List.setIfInBounds_toArray, List.set_cons_zero, List.set_cons_succ]
      refine WQ.val (by rfl) (fun v hv => by have k0 := hv.cell c0; have k1 := hv.cell c1; go_simp; first | done | with_reducible rfl | (rw [if_neg (by omega)])) ?_; simp only [Act.put, List.setIfInBounds_toArray, List.set_cons_zero, List.set_cons_succ]
      refine WQ.val (by rfl) (fun v hv => by have k0 := hv.cell c0; have k1 := hv.cell c1; go_simp; first | done | with_reducible rfl | (rw [if_neg (by omega)])) ?_; simp only [Act.put, List.setIfInBounds_toArray, List.set_cons_zero, List.set_cons_succ]
      refine WQ.val (by rfl) (fun v hv => by have k0 := hv.cell c0; have k1 := hv.cell c1; go_simp; first | done | with_reducible rfl | (rw [if_neg (by omega)])) ?_; simp only [Act.put, List.setIfInBounds_toArray, List.set_cons_zero, List.set_cons_succ]
      refine WQ.done ?_
      intro w5 hw5
      have HB5 := Lib.hid (below_then HB1.out hw5)
      clear hw5 c0 c1
      go_wp2_with fail
      go_ret2
      exact str_end (by rw [hv.out]; simp) (by rw [hv.out]) HB5.out

theorem bcell {W w1 : World} (hb : Below W.heap.size W w1) : (∀ b o, b < W.heap.size → w1.cell? ⟨b, o, none⟩ = W.cell? ⟨b, o, none⟩) ∧ (∀ b o, b < W.heap.size → w1.frozen? ⟨b, o, none⟩ = W.frozen? ⟨b, o, none⟩) :=
  ⟨fun b o h => hb.cell (p := ⟨b, o, none⟩) h, fun b o h => hb.frozen (p := ⟨b, o, none⟩) h⟩
/-- A net of the call's own, in memory. -/
def NetOwn (w : World) (b : Nat) (a n : Int) : Prop := w.cell? ⟨b, 0, none⟩ = some (.int .u32 a) ∧ w.cell? ⟨b, 1, none⟩ = some (.int .i64 n) ∧ w.frozen? ⟨b, 0, none⟩ = false ∧ w.frozen? ⟨b, 1, none⟩ = false
theorem NetOwn.below {w w1 : World} {b : Nat} {a n : Int} (h : NetOwn w b a n) (hb : Below w.heap.size w w1) : NetOwn w1 b a n := by
  obtain ⟨h1, h2, h3, h4⟩ := h
  have hl := World.block_lt_of_cell? w ⟨b, 0, none⟩ h1
  obtain ⟨c, f⟩ := bcell hb
  exact ⟨(c b 0 hl).trans h1, (c b 1 hl).trans h2, (f b 0 hl).trans h3, (f b 1 hl).trans h4⟩
theorem NetOwn.new (w : World) (a n : Int) (T : TypeId) : NetOwn (w.alloc (.cells #[.int .u32 a, .int .i64 n] T)) w.heap.size a n := ⟨by simp, by simp, by simp, by simp⟩
theorem NetOwn.box {w : World} {b : Nat} {a n : Int} (h : NetOwn w b a n) (o : Obj) : NetOwn (w.alloc o) b a n := h.below ((Below.refl _ _).alloc (Nat.le_refl _) _)
/-- What Net answers: the address, the bits, the error. -/
def netF (l : List UInt8) : Nat × Nat × Int := match netOf l with | some (a, b) => (a, b, 0) | none => (0, 0, 3)
def NetPost (q : Nat × Nat × Int) (w : World) (e : Ending) (w' : World) : Prop := e = .returned (.tuple #[.agg #[.int .u32 q.1, .int .i64 q.2.1], .int .i64 q.2.2]) ∧ Below w.heap.size w w'
theorem net_end {q : Nat × Nat × Int} {a b c : Int} {w w' : World} (h1 : (q.1 : Int) = a) (h2 : (q.2.1 : Int) = b) (h3 : q.2.2 = c) (hb : Below w.heap.size w w') : NetPost q w (.returned (.tuple #[.agg #[.int .u32 a, .int .i64 b], .int .i64 c])) w' := by
  subst h1 h2 h3; exact ⟨rfl, hb⟩

/-- The reference's road to a net. -/
theorem netOf_ref {p r : List UInt8} (hp : (47 : UInt8) ∉ p) : netOf (p ++ 47 :: r) = match addrOf p with
    | none => none
    | some a => if showNet a (numF r) = some (p ++ 47 :: r) then some (a, (numF r).toNat) else none := by
  have hne : p ++ 47 :: r ≠ anyL := by
    intro e
    have : (47 : UInt8) ∈ anyL := by rw [← e]; simp
    revert this; decide
  cases e : netOf (p ++ 47 :: r) with
  | some ab =>
    obtain ⟨a, b⟩ := ab
    have h1 := showNet_netOf e
    rw [netOf, if_neg hne, cut_at hp] at e
    simp only at e
    cases ha : addrOf p with
    | none => rw [ha] at e; simp at e
    | some a' =>
      rw [ha] at e
      simp only at e ⊢
      split at e
      · rename_i hc
        injection e with e
        injection e with e1 e2
        subst e1
        obtain ⟨n, hn, rfl⟩ := isNum_iff.1 hc.1
        rw [valOf_dec] at e2
        subst e2
        have hnum : numF (Lib.decDigits n) = n := by
          unfold numF
          rw [if_pos, valOf_dec]
          have := dec_len_le 2 n (by omega) (by omega)
          exact ⟨by omega, by rw [valOf_dec]⟩
        rw [hnum, if_pos h1.1]; simp
      · cases e
  | none =>
    rw [netOf, if_neg hne, cut_at hp] at e
    simp only at e
    cases ha : addrOf p with
    | none => rfl
    | some a' =>
      rw [ha] at e
      simp only at e ⊢
      rw [if_neg]
      intro hs
      have h2 := netOf_show (addrOf_lt ha).1 hs
      rw [netOf, if_neg hne, cut_at hp] at h2
      simp only at h2
      rw [ha] at h2
      simp only at h2
      rw [e] at h2
      cases h2
theorem netOf_noslash {l : List UInt8} (h : (47 : UInt8) ∉ l) (hne : l ≠ anyL) : netOf l = none := by
  rw [netOf, if_neg hne, cut_none h]
  simp only
  split
  · rfl
  · rw [if_neg]
    rintro ⟨h1, -⟩
    obtain ⟨n, _, e⟩ := isNum_iff.1 h1
    exact dec_ne_nil n e.symm

/-- Up to the first slash. -/
def Scan (s : ByteArray) (k : Nat) : Prop := (47 : UInt8) ∉ s.data.toList.take k
theorem Scan.next {s : ByteArray} {k : Nat} (h : Scan s k) (hk : k < s.size) (hc : s[k] ≠ 47) : Scan s (k + 1) := by
  unfold Scan at *
  have : s.data.toList.take (k + 1) = s.data.toList.take k ++ [s[k]] := by rw [List.take_succ_eq_append_getElem (by simpa using hk)]; rfl
  rw [this]
  simp only [List.mem_append, List.mem_singleton, not_or]
  exact ⟨h, fun e => hc e.symm⟩
theorem Scan.cut {s : ByteArray} {k : Nat} (h : Scan s k) (hk : k < s.size) (hc : s[k] = 47) : s.data.toList = (s.extract 0 k).data.toList ++ 47 :: (s.extract (k + 1) s.size).data.toList ∧ (47 : UInt8) ∉ (s.extract 0 k).data.toList := by
  rw [Lib.extract_from_zero, Lib.extract_to_end]
  refine ⟨?_, h⟩
  have h8 : s.data.toList[k]'(by simpa using hk) = 47 := by rw [← hc]; simp; rfl
  rw [← h8, ← List.drop_eq_getElem_cons (by simpa using hk), List.take_append_drop]
theorem Scan.all {s : ByteArray} (h : Scan s s.size) : (47 : UInt8) ∉ s.data.toList := by
  unfold Scan at h
  rwa [List.take_of_length_le (by simp)] at h

end Go.Proofs.YtfiddoibnjildaaDoor
