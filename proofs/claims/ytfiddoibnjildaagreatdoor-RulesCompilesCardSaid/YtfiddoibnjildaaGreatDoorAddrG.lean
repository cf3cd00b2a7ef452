/- The walks of addr's Parse and Net. -/
import Derived.Test.YtfiddoibnjildaaGreatDoorAddrF
namespace Go.Proofs.YtfiddoibnjildaaGreatDoor
set_option linter.unusedSimpArgs false
set_option linter.unusedVariables false
open Go Go.RowKit

theorem pieces_count (c : UInt8) : ∀ (n : Nat) (l : List UInt8), l.length ≤ n → (pieces c l).length = Lib.count l [c] + 1
  | n, l, hl => by
    rcases first_of c l with h | ⟨p, r, rfl, hp⟩
    · rw [Lib.count_miss (index_one_none h), pieces_none h]; rfl
    · have hi := index_one_at r hp
      have hc := Lib.count_hit (s := p ++ c :: r) (sub := [c]) (by simp) hi
      simp only [List.length_singleton] at hc
      rw [show (p ++ c :: r).drop (p.length + 1) = r by simp [← List.drop_drop]] at hc
      cases n with
      | zero => simp at hl
      | succ n =>
        have ih := pieces_count c n r (by simp at hl; omega)
        rw [pieces_at _ hp, hc, List.length_cons, ih]; omega
theorem pieces_len (c : UInt8) : ∀ (l : List UInt8), ∀ q ∈ pieces c l, q.length ≤ l.length
  | [], q, hq => by simp [pieces] at hq; subst hq; simp
  | x :: r, q, hq => by
    rw [pieces] at hq
    split at hq
    · rw [List.mem_cons] at hq
      rcases hq with rfl | hq
      · simp
      · have := pieces_len c r q hq; simp; omega
    · split at hq
      · simp at hq; subst hq; simp
      · rename_i p0 t he
        rw [List.mem_cons] at hq
        rcases hq with rfl | hq
        · have := pieces_len c r p0 (by rw [he]; simp); simp; omega
        · have := pieces_len c r q (by rw [he]; simp [hq]); simp; omega
theorem below_drewN (w : World) (n : Nat) : Below w.heap.size w (w.drewN n) := ⟨rfl, rfl, rfl, Nat.le_refl _, fun _ _ => rfl⟩
/-- The pieces of a text, in memory. -/
theorem split_any (s : ByteArray) (c : UInt8) (w : World) (hs : s.size ≤ 65536) (hT : Tabs w) :
    Calls Tryz.prog 21 #[.string s, .string ⟨#[c]⟩] w fun e w' => e = .returned (.slice (some ⟨w.heap.size, 0, none⟩) (pieces c s.data.toList).length (pieces c s.data.toList).length) ∧
      w' = w.alloc (.cells ((pieces c s.data.toList).map str).toArray 9) := by
  obtain ⟨m, hm⟩ := hT.len
  have hd := Lib.splitB_data ⟨#[c]⟩ 0 (Lib.countB s ⟨#[c]⟩) s
  have hp : (Lib.splitB ⟨#[c]⟩ 0 (Lib.countB s ⟨#[c]⟩) s).map (·.data.toList) = pieces c s.data.toList := by
    rw [hd]; exact splitK_pieces c _ _ (Nat.le_refl _) _ (Nat.le_refl _)
  have hv : (Lib.splitB ⟨#[c]⟩ 0 (Lib.countB s ⟨#[c]⟩) s).map Value.string = (pieces c s.data.toList).map str := by
    rw [← hp, List.map_map]
    exact List.map_congr_left fun x _ => by simp [str]
  refine (Tryz.strings_Split s ⟨#[c]⟩ m w (by omega) hm (Nat.le_refl _)).mono fun e w' ⟨he, hw⟩ => ?_
  rw [hv] at hw
  refine ⟨?_, hw⟩
  have hl : (pieces c s.data.toList).length = Lib.countB s ⟨#[c]⟩ + 1 := pieces_count c _ _ (Nat.le_refl _)
  rw [he, hl]

theorem bor_low (a v : Nat) (ha : a < 4294967296) (hv : v < 256) : bits .or .u32 ((a : Int) * 256 % 4294967296) (v : Int) = (((a * 256 + v) % 4294967296 : Nat) : Int) := by
  have e1 : ((a : Int) * 256 % 4294967296) = ((a * 256 % 4294967296 : Nat) : Int) := by omega
  rw [e1, u32_or_nat _ _ (by omega) (by omega)]
  congr 1
  have e2 : a * 256 % 4294967296 = 2 ^ 8 * (a * 256 % 4294967296 / 256) := by omega
  rw [e2, ← Nat.two_pow_add_eq_or_of_lt (by omega : v < 2 ^ 8)]
  omega

theorem atoiV_num {l : List UInt8} {most : Nat} (hm : most < 9223372036854775808) (h : isNum l most = true) : atoiV l = valOf l := by
  unfold atoiV; rw [(isNum_atoi hm h).1]

set_option maxHeartbeats 2000000 in
set_option maxRecDepth 100000 in
theorem parse_any (s : ByteArray) (w : World) (hs : s.size ≤ 65536) (hT : Tabs w) :
    Calls Tryz.prog 49 #[.string s] w (PairPost3 (pairA (addrOf s.data.toList)) w) := by
  have HSP := Lib.hid (split_any s 46 w hs hT)
  have hlen : ∀ q ∈ pieces 46 s.data.toList, q.length ≤ 65536 := fun q hq => by
    have := pieces_len 46 s.data.toList q hq
    simp at this; omega
  have ha : addrOf s.data.toList = addrGo 0 0 (pieces 46 s.data.toList) := rfl
  generalize pieces 46 s.data.toList = ps at *
  have B0 : Below w.heap.size w (w.alloc (.cells (ps.map str).toArray 9)) := (Below.refl _ _).alloc (Nat.le_refl _) _
  have hcell : ∀ k q, ps[k]? = some q → (w.alloc (.cells (ps.map str).toArray 9)).cell? ⟨w.heap.size, k, none⟩ = some (str q) := fun k q hq => by simp [hq]
  have HT0 := Lib.hid (hT.below B0)
  have HL := Lib.hid hlen
  have HA := Lib.hid ha
  have HC := Lib.hid hcell
  clear hlen ha hcell hT
  by_cases h4 : ps.length = 4
  · go_enter Tryz.func49, Tryz.ntmps49
    go_wp2_with fail
    refine HSP.out.mono ?_
    rintro e w1 ⟨rfl, hw1⟩
    rw [h4]
    have hw1' := hw1.symm
    clear hw1
    generalize w.alloc (.cells (ps.map str).toArray 9) = w0 at *
    subst hw1'
    go_wp2_with fail
    have HB0 := Lib.hid B0
    have HC0 := Lib.hid HC.out
    clear B0
    go_loopw [5, 17] (fun v n wr => ∃ (x k : Nat), k ≤ 4 ∧ v = .int .u32 x ∧ n = .int .i64 k ∧ Hid (x < 4294967296) ∧ Hid (addrOf s.data.toList = addrGo x k (ps.drop k)) ∧ Hid (Below w0.heap.size w0 wr)) (fun _ n _ => 4 - (intOf n).toNat)
    case atStart => exact ⟨0, 0, by omega, rfl, rfl, Lib.hid (by omega), Lib.hid HA.out, Lib.hid (Below.refl _ _)⟩
    case round =>
      obtain ⟨x, k, hk, rfl, rfl, hx, hgo, hbb⟩ := hrel
      by_cases hlt : k < 4
      · obtain ⟨q, hq⟩ : ∃ q, ps[k]? = some q := ⟨ps[k], List.getElem?_eq_getElem (by omega)⟩
        have hd : ps.drop k = q :: ps.drop (k + 1) := by
          have h5 : k < ps.length := by omega
          rw [List.drop_eq_getElem_cons h5]
          rw [List.getElem?_eq_getElem h5] at hq
          cases hq; rfl
        have hc : wr.cell? ⟨w.heap.size, k, none⟩ = some (str q) := (hbb.out.cell (p := ⟨w.heap.size, k, none⟩) (World.block_lt_of_cell? w0 _ (HC0.out k q hq))).trans (HC0.out k q hq)
        have hql : (⟨q.toArray⟩ : ByteArray).size ≤ 140737488351232 := by
          have := HL.out q (List.mem_of_getElem? hq)
          show q.toArray.size ≤ _
          simp; omega
        have HN := Lib.hid (fun W (hT : Tabs W) => num255_any ⟨q.toArray⟩ 255 W hql (by omega) hT)
        have HTr := Lib.hid (HT0.out.below hbb.out)
        have HQ := Lib.hid hd
        clear hd hq hql
        cases hi : isNum q 255 with
        | false =>
          have HI := Lib.hid hi
          have hv : Hid (addrOf s.data.toList = none) := Lib.hid (by rw [hgo.out, HQ.out]; simp only [addrGo]; rw [if_neg (by simp [hi])])
          clear hi
          go_wp2_with fail
          refine (HN.out _ HTr.out).mono ?_
          unfold NumPost
          rw [HI.out]
          rintro e w2 ⟨rfl, h2⟩
          go_wp2_with fail
          go_ret2
          exact pair3 (by rw [hv.out]; rfl) (below_then HB0.out (below_then hbb.out h2))
        | true =>
          have hvv := atoiV_num (by omega) hi
          have hv9 : valOf q ≤ 255 := (isNum_atoi (by omega) hi).2.1
          have hgo2 : Hid (addrOf s.data.toList = addrGo ((x * 256 + valOf q) % 4294967296) (k + 1) (ps.drop (k + 1))) := Lib.hid (by rw [hgo.out, HQ.out]; simp only [addrGo]; rw [if_pos hi])
          have HI := Lib.hid hi
          have HVV := Lib.hid hvv
          generalize valOf q = v at *
          have hbor := Lib.hid (bor_low x v hx.out (by omega))
          clear hi hvv
          go_wp2_with fail
          refine (HN.out _ HTr.out).mono ?_
          unfold NumPost
          rw [HI.out, HVV.out]
          rintro e w2 ⟨rfl, h2⟩
          go_wp2_with fail
          go_roundw
          case rel => exact ⟨(x * 256 + v) % 4294967296, k + 1, by omega, by first | (rw [← hbor.out]; rfl) | (rw [← hbor.out]), by go_num, Lib.hid (by omega), hgo2, Lib.hid (below_then hbb.out h2)⟩
          case measure => simp [intOf]; omega
      · obtain rfl : k = 4 := by omega
        have hv : Hid (addrOf s.data.toList = some x) := Lib.hid (by rw [hgo.out, List.drop_of_length_le (by omega)]; rfl)
        go_wp2_with fail
        go_ret2
        exact pair3 (by rw [hv.out]; rfl) (below_then HB0.out hbb.out)
  · have hv : Hid (addrOf s.data.toList = none) := Lib.hid (by rw [HA.out]; exact addrGo_short (by omega))
    have h4' : ((ps.length : Int) != 4) = true := by rw [bne_iff_ne]; omega
    go_enter Tryz.func49, Tryz.ntmps49
    go_wp2_with fail
    refine HSP.out.mono ?_
    rintro e w1 ⟨rfl, hw1⟩
    have hw1' := hw1.symm
    clear hw1
    generalize w.alloc (.cells (ps.map str).toArray 9) = w0 at *
    subst hw1'
    have HB0 := Lib.hid B0
    clear B0
    go_wp2_with fail
    go_ret2
    exact pair3 (by rw [hv.out]; rfl) HB0.out
theorem cut_any (s : ByteArray) (c : UInt8) (w : World) (hs : s.size ≤ 65536) (hT : Tabs w) :
    Calls Tryz.prog 22 #[.string s, .string ⟨#[c]⟩] w fun e w' => e = .returned (.tuple #[str (Lib.cut s.data.toList [c]).1, str (Lib.cut s.data.toList [c]).2.1, .bool (Lib.cut s.data.toList [c]).2.2]) ∧ Below w.heap.size w w' := by
  obtain ⟨m, hm⟩ := hT.len
  exact (Tryz.strings_Cut s ⟨#[c]⟩ m w (by omega) hm).mono fun e w' ⟨he, n, hw⟩ => ⟨he, by subst hw; exact below_drewN w n⟩
theorem cut_len (l : List UInt8) (c : UInt8) : (Lib.cut l [c]).1.length ≤ l.length ∧ (Lib.cut l [c]).2.1.length ≤ l.length := by
  rcases first_of c l with h | ⟨p, r, rfl, hp⟩
  · rw [cut_none h]; simp
  · rw [cut_at hp]; simp; omega

set_option maxHeartbeats 4000000 in
set_option maxRecDepth 100000 in
theorem net_any (s : ByteArray) (w : World) (hs : s.size ≤ 65536) (hT : Tabs w) :
    Calls Tryz.prog 27 #[.string s] w (NetPost (netF s.data.toList) w) := by
  have B0 : Below w.heap.size w (w.alloc (.cells #[.int .u32 0, .int .i64 0] 39)) := (Below.refl _ _).alloc (Nat.le_refl _) _
  have O0 := NetOwn.new w 0 0 39
  have HT := Lib.hid hT
  clear hT
  cases ha : (s.toList == [97, 110, 121]) with
  | true =>
    have hv : Hid (netF s.data.toList = (0, 0, 0)) := Lib.hid (by
      rw [ByteArray.toList_eq, beq_iff_eq] at ha
      unfold netF netOf; rw [ha]; rfl)
    go_enter Tryz.func27, Tryz.ntmps27
    go_wp2_with fail
    exact bodyPost_ret (v := .tuple #[.agg #[.int .u32 0, .int .i64 0], .int .i64 0]) (by simp [results, Tryz.results27, go_sem, *]) rfl (net_end (by rw [hv.out]; try rfl) (by rw [hv.out]; try rfl) (by rw [hv.out]) B0)
  | false =>
    have hne : s.data.toList ≠ anyL := by
      intro e
      rw [ByteArray.toList_eq, beq_eq_false_iff_ne] at ha
      exact ha e
    have HCUT := Lib.hid (fun W (hT : Tabs W) => cut_any s 47 W hs hT)
    obtain ⟨hl1, hl2⟩ := cut_len s.data.toList 47
    have hnet : netOf s.data.toList = match addrOf (Lib.cut s.data.toList [47]).1 with
      | none => none
      | some a => if isNum (Lib.cut s.data.toList [47]).2.1 32 = true ∧ valOf (Lib.cut s.data.toList [47]).2.1 ≠ 0 ∧ mayNet a (valOf (Lib.cut s.data.toList [47]).2.1) = true then some (a, valOf (Lib.cut s.data.toList [47]).2.1) else none := by
      rw [netOf, if_neg hne]; rfl
    generalize (Lib.cut s.data.toList [47]).1 = p at *
    generalize (Lib.cut s.data.toList [47]).2.1 = r at *
    generalize (Lib.cut s.data.toList [47]).2.2 = b3 at *
    have hsz : s.data.toList.length ≤ 65536 := by rw [Array.length_toList]; exact hs
    have HP := Lib.hid (fun W (hT : Tabs W) => parse_any ⟨p.toArray⟩ W (by show p.toArray.size ≤ _; simp; omega) hT)
    have HN := Lib.hid (fun W (hT : Tabs W) => num255_any ⟨r.toArray⟩ 32 W (by show r.toArray.size ≤ _; simp; omega) (by omega) hT)
    clear hne hl1 hl2 hsz
    cases hA : addrOf p with
    | none =>
      have hv : Hid (netF s.data.toList = (0, 0, 3)) := Lib.hid (by unfold netF; rw [hnet, hA])
      have HPA : Hid (pairA (addrOf p) = (0, 3)) := Lib.hid (by rw [hA]; rfl)
      clear hnet hA
      generalize atoiV r = n at *
      generalize isNum r 32 = b at *
      go_enter Tryz.func27, Tryz.ntmps27
      go_wp2_with fail
      refine (HCUT.out _ (HT.out.below B0)).mono ?_
      rintro e w1 ⟨rfl, h1⟩
      have HT1 := Lib.hid ((HT.out.below B0).below h1)
      have O1 := O0.below h1
      have HB1 := Lib.hid (below_then B0 h1)
      have hs1 : w.heap.size + 1 ≤ w1.heap.size := by have := h1.size; simpa using this
      clear h1
      go_wp2_with fail
      refine (HP.out _ HT1.out).mono ?_
      unfold PairPost3
      rw [show pairA (addrOf (⟨p.toArray⟩ : ByteArray).data.toList) = (0, 3) from HPA.out]
      rintro e w2 ⟨rfl, h2⟩
      have HT2 := Lib.hid (HT1.out.below h2)
      have O2 := O1.below h2
      have HB2 := Lib.hid (below_then HB1.out h2)
      have hs2 : w.heap.size + 1 ≤ w2.heap.size := by have := h2.size; omega
      clear h2 O1
      go_wp2_with fail
      refine (HN.out _ HT2.out).mono ?_
      unfold NumPost
      rintro e w3 ⟨rfl, h3⟩
      have O3 := O2.below h3
      have hs3 : w.heap.size + 1 ≤ w3.heap.size := by have := h3.size; omega
      have HB4 := Lib.hid ((below_then HB2.out h3).alloc (by omega) (.cells #[.int .u32 0, .int .i64 n] 39))
      obtain ⟨c30, c31, f30, f31⟩ := O3
      have hne3 : w3.heap.size ≠ w.heap.size := by omega
      clear h3 O2
      obtain ⟨c40, c41, f40, f41⟩ : NetOwn (w3.alloc (.cells #[.int .u32 0, .int .i64 n] 39)) w.heap.size 0 0 := NetOwn.box ⟨c30, c31, f30, f31⟩ _
      go_wp2_with fail
      exact bodyPost_ret (v := .tuple #[.agg #[.int .u32 0, .int .i64 0], .int .i64 3]) (by simp [results, Tryz.results27, go_sem, *]) rfl (net_end (by rw [hv.out]; try rfl) (by rw [hv.out]; try rfl) (by rw [hv.out]) ((HB4.out.setCell (p := ⟨w.heap.size, 0, none⟩) (Nat.le_refl _) (.int .u32 0)).setCell (p := ⟨w.heap.size, 1, none⟩) (Nat.le_refl _) (.int .i64 0)))
    | some a =>
      have hal := (addrOf_lt hA).1
      have HPA : Hid (pairA (addrOf p) = (↑a, 0)) := Lib.hid (by rw [hA]; rfl)
      rw [hA] at hnet
      simp only at hnet
      clear hA
      cases hi : isNum r 32 with
      | false =>
        have hv : Hid (netF s.data.toList = (0, 0, 3)) := Lib.hid (by unfold netF; rw [hnet, if_neg (by simp [hi])])
        have HI : Hid (isNum (⟨r.toArray⟩ : ByteArray).data.toList 32 = false) := Lib.hid hi
        clear hnet hi
        generalize atoiV r = n at *
        go_enter Tryz.func27, Tryz.ntmps27
        go_wp2_with fail
        refine (HCUT.out _ (HT.out.below B0)).mono ?_
        rintro e w1 ⟨rfl, h1⟩
        have HT1 := Lib.hid ((HT.out.below B0).below h1)
        have O1 := O0.below h1
        have HB1 := Lib.hid (below_then B0 h1)
        have hs1 : w.heap.size + 1 ≤ w1.heap.size := by have := h1.size; simpa using this
        clear h1
        go_wp2_with fail
        refine (HP.out _ HT1.out).mono ?_
        unfold PairPost3
        rw [show pairA (addrOf (⟨p.toArray⟩ : ByteArray).data.toList) = (↑a, 0) from HPA.out]
        rintro e w2 ⟨rfl, h2⟩
        have HT2 := Lib.hid (HT1.out.below h2)
        have O2 := O1.below h2
        have HB2 := Lib.hid (below_then HB1.out h2)
        have hs2 : w.heap.size + 1 ≤ w2.heap.size := by have := h2.size; omega
        clear h2 O1
        go_wp2_with fail
        refine (HN.out _ HT2.out).mono ?_
        unfold NumPost
        rw [HI.out]
        rintro e w3 ⟨rfl, h3⟩
        have O3 := O2.below h3
        have hs3 : w.heap.size + 1 ≤ w3.heap.size := by have := h3.size; omega
        have HB4 := Lib.hid ((below_then HB2.out h3).alloc (by omega) (.cells #[.int .u32 a, .int .i64 n] 39))
        obtain ⟨c30, c31, f30, f31⟩ := O3
        have hne3 : w3.heap.size ≠ w.heap.size := by omega
        clear h3 O2
        obtain ⟨c40, c41, f40, f41⟩ : NetOwn (w3.alloc (.cells #[.int .u32 a, .int .i64 n] 39)) w.heap.size 0 0 := NetOwn.box ⟨c30, c31, f30, f31⟩ _
        go_wp2_with fail
        exact bodyPost_ret (v := .tuple #[.agg #[.int .u32 0, .int .i64 0], .int .i64 3]) (by simp [results, Tryz.results27, go_sem, *]) rfl (net_end (by rw [hv.out]; try rfl) (by rw [hv.out]; try rfl) (by rw [hv.out]) ((HB4.out.setCell (p := ⟨w.heap.size, 0, none⟩) (Nat.le_refl _) (.int .u32 0)).setCell (p := ⟨w.heap.size, 1, none⟩) (Nat.le_refl _) (.int .i64 0)))
      | true =>
        have hvv := atoiV_num (by omega) hi
        have hv9 : valOf r ≤ 32 := (isNum_atoi (by omega) hi).2.1
        have HI : Hid (isNum (⟨r.toArray⟩ : ByteArray).data.toList 32 = true) := Lib.hid hi
        have HVV : Hid (atoiV (⟨r.toArray⟩ : ByteArray).data.toList = valOf r) := Lib.hid hvv
        rw [hi] at hnet
        generalize valOf r = v at *
        clear hi hvv
        by_cases h0 : v = 0
        · have hv : Hid (netF s.data.toList = (0, 0, 3)) := Lib.hid (by unfold netF; rw [hnet, if_neg (by simp [h0])])
          have h0' : ((v : Int) == 0) = true := by rw [h0]; rfl
          clear hnet h0
          go_enter Tryz.func27, Tryz.ntmps27
          go_wp2_with fail
          refine (HCUT.out _ (HT.out.below B0)).mono ?_
          rintro e w1 ⟨rfl, h1⟩
          have HT1 := Lib.hid ((HT.out.below B0).below h1)
          have O1 := O0.below h1
          have HB1 := Lib.hid (below_then B0 h1)
          have hs1 : w.heap.size + 1 ≤ w1.heap.size := by have := h1.size; simpa using this
          clear h1
          go_wp2_with fail
          refine (HP.out _ HT1.out).mono ?_
          unfold PairPost3
          rw [show pairA (addrOf (⟨p.toArray⟩ : ByteArray).data.toList) = (↑a, 0) from HPA.out]
          rintro e w2 ⟨rfl, h2⟩
          have HT2 := Lib.hid (HT1.out.below h2)
          have O2 := O1.below h2
          have HB2 := Lib.hid (below_then HB1.out h2)
          have hs2 : w.heap.size + 1 ≤ w2.heap.size := by have := h2.size; omega
          clear h2 O1
          go_wp2_with fail
          refine (HN.out _ HT2.out).mono ?_
          unfold NumPost
          rw [HI.out, HVV.out]
          rintro e w3 ⟨rfl, h3⟩
          have O3 := O2.below h3
          have hs3 : w.heap.size + 1 ≤ w3.heap.size := by have := h3.size; omega
          have HB4 := Lib.hid ((below_then HB2.out h3).alloc (by omega) (.cells #[.int .u32 a, .int .i64 v] 39))
          obtain ⟨c30, c31, f30, f31⟩ := O3
          have hne3 : w3.heap.size ≠ w.heap.size := by omega
          clear h3 O2
          obtain ⟨c40, c41, f40, f41⟩ : NetOwn (w3.alloc (.cells #[.int .u32 a, .int .i64 v] 39)) w.heap.size 0 0 := NetOwn.box ⟨c30, c31, f30, f31⟩ _
          go_wp2_with fail
          exact bodyPost_ret (v := .tuple #[.agg #[.int .u32 0, .int .i64 0], .int .i64 3]) (by simp [results, Tryz.results27, go_sem, *]) rfl (net_end (by rw [hv.out]; try rfl) (by rw [hv.out]; try rfl) (by rw [hv.out]) ((HB4.out.setCell (p := ⟨w.heap.size, 0, none⟩) (Nat.le_refl _) (.int .u32 0)).setCell (p := ⟨w.heap.size, 1, none⟩) (Nat.le_refl _) (.int .i64 0)))
        · have h0' : ((v : Int) == 0) = false := beq_eq_false_iff_ne.2 (by omega)
          cases hm : mayNet a v with
          | false =>
            have hv : Hid (netF s.data.toList = (0, 0, 3)) := Lib.hid (by unfold netF; rw [hnet, if_neg (by simp [hm])])
            have HMAY := Lib.hid (fun W => may_val a v false W hal hm)
            clear hnet h0 hm
            go_enter Tryz.func27, Tryz.ntmps27
            go_wp2_with fail
            refine (HCUT.out _ (HT.out.below B0)).mono ?_
            rintro e w1 ⟨rfl, h1⟩
            have HT1 := Lib.hid ((HT.out.below B0).below h1)
            have O1 := O0.below h1
            have HB1 := Lib.hid (below_then B0 h1)
            have hs1 : w.heap.size + 1 ≤ w1.heap.size := by have := h1.size; simpa using this
            clear h1
            go_wp2_with fail
            refine (HP.out _ HT1.out).mono ?_
            unfold PairPost3
            rw [show pairA (addrOf (⟨p.toArray⟩ : ByteArray).data.toList) = (↑a, 0) from HPA.out]
            rintro e w2 ⟨rfl, h2⟩
            have HT2 := Lib.hid (HT1.out.below h2)
            have O2 := O1.below h2
            have HB2 := Lib.hid (below_then HB1.out h2)
            have hs2 : w.heap.size + 1 ≤ w2.heap.size := by have := h2.size; omega
            clear h2 O1
            go_wp2_with fail
            refine (HN.out _ HT2.out).mono ?_
            unfold NumPost
            rw [HI.out, HVV.out]
            rintro e w3 ⟨rfl, h3⟩
            have O3 := O2.below h3
            have hs3 : w.heap.size + 1 ≤ w3.heap.size := by have := h3.size; omega
            have HB4 := Lib.hid ((below_then HB2.out h3).alloc (by omega) (.cells #[.int .u32 a, .int .i64 v] 39))
            obtain ⟨c30, c31, f30, f31⟩ := O3
            have hne3 : w3.heap.size ≠ w.heap.size := by omega
            clear h3 O2
            have O4 : NetOwn (w3.alloc (.cells #[.int .u32 a, .int .i64 v] 39)) w.heap.size 0 0 := NetOwn.box ⟨c30, c31, f30, f31⟩ _
            go_wp2_with fail
            refine (HMAY.out _).mono ?_
            rintro e w5 ⟨rfl, h5⟩
            have HB5 := Lib.hid (HB4.out.trans (h5.mono HB4.out.size))
            obtain ⟨c50, c51, f50, f51⟩ := O4.below h5
            clear h5
            go_wp2_with fail
            exact bodyPost_ret (v := .tuple #[.agg #[.int .u32 0, .int .i64 0], .int .i64 3]) (by simp [results, Tryz.results27, go_sem, *]) rfl (net_end (by rw [hv.out]; try rfl) (by rw [hv.out]; try rfl) (by rw [hv.out]) ((HB5.out.setCell (p := ⟨w.heap.size, 0, none⟩) (Nat.le_refl _) (.int .u32 0)).setCell (p := ⟨w.heap.size, 1, none⟩) (Nat.le_refl _) (.int .i64 0)))
          | true =>
            have hv : Hid (netF s.data.toList = (a, v, 0)) := Lib.hid (by unfold netF; rw [hnet, if_pos ⟨rfl, h0, hm⟩])
            have HMAY := Lib.hid (fun W => may_val a v true W hal hm)
            clear hnet h0 hm
            go_enter Tryz.func27, Tryz.ntmps27
            go_wp2_with fail
            refine (HCUT.out _ (HT.out.below B0)).mono ?_
            rintro e w1 ⟨rfl, h1⟩
            have HT1 := Lib.hid ((HT.out.below B0).below h1)
            have O1 := O0.below h1
            have HB1 := Lib.hid (below_then B0 h1)
            have hs1 : w.heap.size + 1 ≤ w1.heap.size := by have := h1.size; simpa using this
            clear h1
            go_wp2_with fail
            refine (HP.out _ HT1.out).mono ?_
            unfold PairPost3
            rw [show pairA (addrOf (⟨p.toArray⟩ : ByteArray).data.toList) = (↑a, 0) from HPA.out]
            rintro e w2 ⟨rfl, h2⟩
            have HT2 := Lib.hid (HT1.out.below h2)
            have O2 := O1.below h2
            have HB2 := Lib.hid (below_then HB1.out h2)
            have hs2 : w.heap.size + 1 ≤ w2.heap.size := by have := h2.size; omega
            clear h2 O1
            go_wp2_with fail
            refine (HN.out _ HT2.out).mono ?_
            unfold NumPost
            rw [HI.out, HVV.out]
            rintro e w3 ⟨rfl, h3⟩
            have O3 := O2.below h3
            have hs3 : w.heap.size + 1 ≤ w3.heap.size := by have := h3.size; omega
            have HB4 := Lib.hid ((below_then HB2.out h3).alloc (by omega) (.cells #[.int .u32 a, .int .i64 v] 39))
            obtain ⟨c30, c31, f30, f31⟩ := O3
            have hne3 : w3.heap.size ≠ w.heap.size := by omega
            clear h3 O2
            have O4 : NetOwn (w3.alloc (.cells #[.int .u32 a, .int .i64 v] 39)) w.heap.size 0 0 := NetOwn.box ⟨c30, c31, f30, f31⟩ _
            have N4 := NetOwn.new w3 a v 39
            go_wp2_with fail
            refine (HMAY.out _).mono ?_
            rintro e w5 ⟨rfl, h5⟩
            have HB5 := Lib.hid (HB4.out.trans (h5.mono HB4.out.size))
            obtain ⟨c50, c51, f50, f51⟩ := O4.below h5
            obtain ⟨n50, n51, g50, g51⟩ := N4.below h5
            clear h5
            go_wp2_with fail
            exact bodyPost_ret (v := .tuple #[.agg #[.int .u32 a, .int .i64 v], .int .i64 0]) (by simp [results, Tryz.results27, go_sem, *]) rfl (net_end (by rw [hv.out]; try rfl) (by rw [hv.out]; try rfl) (by rw [hv.out]) ((HB5.out.setCell (p := ⟨w.heap.size, 0, none⟩) (Nat.le_refl _) (.int .u32 a)).setCell (p := ⟨w.heap.size, 1, none⟩) (Nat.le_refl _) (.int .i64 v)))
end Go.Proofs.YtfiddoibnjildaaGreatDoor
