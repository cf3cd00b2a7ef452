/- Walks of bits.OnesCount at powers of two, of key.Hash and key.Stripe. Printed by gen_hasha.py. -/
import Derived.Test.YtahgapkecabnjaaC03
import Derived.Test.YtahgapkecabnjaaC02
import Derived.Laws.BitsAllLaws
import Derived.Test.YtahgapkecabnjaaC00
namespace Go.Proofs.Ytahgapkecabnjaa
set_option linter.unusedSimpArgs false
set_option linter.unusedVariables false
open Go Go.RowKit

def pows : List Nat := [1, 2, 4, 8, 16, 32, 64, 128, 256, 512, 1024, 2048, 4096]
theorem pows_pos {n : Nat} (h : n ∈ pows) : 0 < n ∧ n ≤ 4096 := by
  revert h; unfold pows; simp only [List.mem_cons, List.not_mem_nil, or_false]; omega
set_option maxHeartbeats 4000000 in
set_option maxRecDepth 100000 in
theorem ones64_pow {n : Nat} (h : n ∈ pows) (w : World) : Calls Try.prog 72 #[.int .u64 (n : Nat)] w fun e w' => e = .returned (.int .i64 1) ∧ w' = w := by
  unfold pows at h
  simp only [List.mem_cons, List.not_mem_nil, or_false] at h
  rcases h with rfl | rfl | rfl | rfl | rfl | rfl | rfl | rfl | rfl | rfl | rfl | rfl | rfl
  all_goals
    go_enter Try.func72, Try.ntmps72
    go_wp2_with fail
    go_ret
    exact ⟨by kernel_rfl, rfl⟩
set_option maxHeartbeats 1000000 in
theorem ones_pow {n : Nat} (h : n ∈ pows) (w : World) : Calls Try.prog 63 #[.int .u64 (n : Nat)] w fun e w' => e = .returned (.int .i64 1) ∧ w' = w := by
  go_enter Try.func63, Try.ntmps63
  go_wp2_with fail
  refine (ones64_pow h _).mono ?_
  rintro e w' ⟨rfl, rfl⟩
  go_wp2_with fail
  go_ret
  exact ⟨rfl, rfl⟩

theorem stepH_val (h x : Nat) (hh : h < 4294967296) (hx : x < 256) : (Value.int IntKind.u32 (bits BinOp.xor IntKind.u32 (h : Int) (x : Int) * 16777619 % 4294967296)) = .int .u32 ((stepH h x : Nat) : Int) := by
  rw [u32_xor_nat h x hh (by omega)]
  unfold stepH
  rw [Int.natCast_emod, Int.natCast_mul, show ((16777619 : Nat) : Int) = 16777619 from by decide, show ((4294967296 : Nat) : Int) = 4294967296 from by decide]
def seedH : Nat := 2166136261
theorem seedH_cast : (Value.int IntKind.u32 2166136261) = .int .u32 (seedH : Int) := congrArg (Value.int IntKind.u32) (by decide)
theorem seedH_lt : seedH < 4294967296 := by decide
theorem hashF_seed (k : Ky) : hashF k = (bytesK k).foldl stepH seedH := rfl

/-- The bytes that are hashed, after y rounds. -/
def hb (k : Ky) (y : Nat) : List Nat := k.pr :: ((if 1 ≤ y then cutF k.a0 4 ++ cutF k.p0 2 else []) ++ (if 2 ≤ y then cutF k.a1 4 ++ cutF k.p1 2 else []))
theorem cut4 (v : Nat) : cutF v 4 = [v / 16777216 % 256, v / 65536 % 256, v / 256 % 256, v % 256] := by simp [cutF, List.range, List.range.loop]
theorem cut2 (v : Nat) : cutF v 2 = [v / 256 % 256, v % 256] := by simp [cutF, List.range, List.range.loop]
theorem hb_two (k : Ky) : hb k 2 = bytesK k := by simp [hb, bytesK, cut4, cut2]
def adK (k : Ky) (y : Nat) : Nat := if y = 0 then k.a0 else k.a1
def ptK (k : Ky) (y : Nat) : Nat := if y = 0 then k.p0 else k.p1
theorem hb_step (k : Ky) (y : Nat) (hy : y < 2) (a b c : Value) : partsB [(a, hb k y), (b, cutF (adK k y) 4), (c, cutF (ptK k y) 2)] = hb k (y + 1) := by
  obtain rfl | rfl : y = 0 ∨ y = 1 := by omega
  · simp [partsB, hb, adK, ptK]
  · simp [partsB, hb, adK, ptK]
theorem hb_len (k : Ky) (y : Nat) (h : y ≤ 2) : (hb k y).length ≤ 13 := by
  unfold hb
  split <;> split <;> simp [cutF]
theorem cells3 (w : World) (x y z : Value) (t : TypeId) (ps : List (Value × List Nat)) (h : ps.map (·.1) = [x, y, z]) : ∀ j q, ps[j]? = some q → (w.alloc (.cells #[x, y, z] t)).cell? ⟨w.heap.size, j, none⟩ = some q.1 := by
  intro j q hq
  have h1 : (ps.map (·.1))[j]? = some q.1 := by simp [hq]
  rw [h] at h1
  simp [h1]
theorem kyC_len (k : Ky) : (kyC k).toList.length = 5 := rfl
theorem kyC_cells (w : World) (k : Ky) : (w.alloc (.cells (kyC k) 28)).rangeAt w.heap.size 0 (kyC k).toList := fun j v hv => by rw [← hv]; simp
set_option maxHeartbeats 8000000 in
set_option maxRecDepth 100000 in
theorem hash_any {k : Ky} (hk : k.In) (w : World) : Calls Try.prog 64 #[kyV k] w fun e w' => e = .returned (.int .u32 (hashF k : Nat)) ∧ Below w.heap.size w w' := by
  obtain ⟨b0, b1, b2, b3, b4⟩ := hk
  have hB1 : Below w.heap.size w (w.alloc (.cells (kyC k) 28)) := (Below.refl _ w).alloc (Nat.le_refl _) _
  have c0 : ∀ y, y < 2 → (w.alloc (.cells (kyC k) 28)).cell? ⟨w.heap.size, y, none⟩ = some (.int .u32 (adK k y : Nat)) := fun y hy => by
    obtain rfl | rfl : y = 0 ∨ y = 1 := by omega
    · simp [kyC, adK]
    · simp [kyC, adK]
  have c2 : ∀ y, y < 2 → (w.alloc (.cells (kyC k) 28)).cell? ⟨w.heap.size, 2 + y, none⟩ = some (.int .u16 (ptK k y : Nat)) := fun y hy => by
    obtain rfl | rfl : y = 0 ∨ y = 1 := by omega
    · simp [kyC, ptK]
    · simp [kyC, ptK]
  have c4 : (w.alloc (.cells (kyC k) 28)).cell? ⟨w.heap.size, 4, none⟩ = some (.int .u8 k.pr) := by simp [kyC]
  have had : ∀ y, adK k y < 4294967296 ∧ ptK k y < 65536 := fun y => by unfold adK ptK; split <;> omega
  have HA := Lib.hid had
  clear had
  have HB1 := Lib.hid hB1
  clear hB1
  have HZ : Hid ((w.alloc (.cells (kyC k) 28)).heap.size = w.heap.size + 1) := Lib.hid (by simp)
  go_enter Try.func64, Try.ntmps64
  go_wp2_with fail
  generalize w.alloc (.cells (kyC k) 28) = w1 at *
  have HB2 : Hid (Below w1.heap.size w1 (w1.alloc (.cells #[.int .u8 k.pr] 5))) := Lib.hid ((Below.refl _ w1).alloc (Nat.le_refl _) _)
  have hr0 : RdB (w1.alloc (.cells #[.int .u8 k.pr] 5)) (.slice (some ⟨w1.heap.size, 0, none⟩) 1 1) (hb k 0) := ⟨_, 1, rfl, Nat.le_refl _, (fun ad h => ⟨w1.heap.size, 0, by cases h; rfl⟩), fun j x hj => ⟨w1.heap.size, 0, rfl, by
    obtain ⟨hj1, e⟩ := List.getElem?_eq_some_iff.1 hj
    obtain rfl : j = 0 := by simp [hb] at hj1; omega
    simp [hb] at e
    subst e
    simp⟩⟩
  have HR0 := Lib.hid hr0
  clear hr0
  go_loopw [3, 11] (fun v i wr => ∃ y : Nat, y ≤ 2 ∧ i = .int .i64 (y : Nat) ∧ RdB wr v (hb k y) ∧ Below w1.heap.size w1 wr) (fun _ i _ => 2 - (intOf i).toNat)
  case atStart => exact ⟨0, Nat.zero_le _, rfl, by have := HR0.out; rwa [HZ.out] at this, HB2.out⟩
  case round =>
    clear HR0 HB2
    obtain ⟨y, hy, rfl, hr, hs⟩ := hrel
    have HR := Lib.hid hr
    have HS := Lib.hid hs
    have hS0 : Since wr wr.drew := (Below.refl _ wr).trans ⟨rfl, rfl, rfl, Nat.le_refl _, fun _ _ => rfl⟩
    obtain ⟨a3, cc3, rfl, -⟩ := hr
    by_cases hyl : y < 2
    · have d0 := Since.cell hs (c0 y hyl)
      have d2 := Since.cell hs (c2 y hyl)
      have hadb := HA.out y
      clear hs c0 c2 c4
      go_wp2_with fail
      refine WH.enter (Since wr) (by kernel_rfl) 16 rfl ?_
      refine WH.take 0 (some 14) rfl rfl (by kernel_rfl) (by kernel_rfl) (by kernel_rfl) (fun _ _ _ h => h) (by rfl) (fun v hv => by have k0 := Since.cell hv d0; have k2 := Since.cell hv d2; go_simp; first | done | with_reducible rfl | (rw [if_neg (by omega)])) hS0 ?_; simp only [Act.put, List.setIfInBounds_toArray, List.set_cons_zero, List.set_cons_succ]
      refine WH.take 1 (some 15) rfl rfl (by kernel_rfl) (by kernel_rfl) (by kernel_rfl) (fun _ _ _ h => h) (by rfl) (fun v hv => by have k0 := Since.cell hv d0; have k2 := Since.cell hv d2; go_simp; first | done | with_reducible rfl | (rw [if_neg (by omega)])) hS0 ?_; simp only [Act.put, List.setIfInBounds_toArray, List.set_cons_zero, List.set_cons_succ]
      refine WH.take 2 (some 16) rfl rfl (by kernel_rfl) (by kernel_rfl) (by kernel_rfl) (fun _ _ _ h => h) (by rfl) (fun v hv => by have k0 := Since.cell hv d0; have k2 := Since.cell hv d2; go_simp; first | done | with_reducible rfl | (rw [if_neg (by omega)])) hS0 ?_; simp only [Act.put, List.setIfInBounds_toArray, List.set_cons_zero, List.set_cons_succ]
      refine WH.take 3 (some 17) rfl rfl (by kernel_rfl) (by kernel_rfl) (by kernel_rfl) (fun _ _ _ h => h) (by rfl) (fun v hv => by have k0 := Since.cell hv d0; have k2 := Since.cell hv d2; go_simp; first | done | with_reducible rfl | (rw [if_neg (by omega)])) hS0 ?_; simp only [Act.put, List.setIfInBounds_toArray, List.set_cons_zero, List.set_cons_succ]
      refine WH.take 4 (some 18) rfl rfl (by kernel_rfl) (by kernel_rfl) (by kernel_rfl) (fun _ _ _ h => h) (by rfl) (fun v hv => by have k0 := Since.cell hv d0; have k2 := Since.cell hv d2; go_simp; first | done | with_reducible rfl | (rw [if_neg (by omega)])) hS0 ?_; simp only [Act.put, List.setIfInBounds_toArray, List.set_cons_zero, List.set_cons_succ]
      refine WH.take 5 (some 19) rfl rfl (by kernel_rfl) (by kernel_rfl) (by kernel_rfl) (fun _ _ _ h => h) (by rfl) (fun v hv => by have k0 := Since.cell hv d0; have k2 := Since.cell hv d2; go_simp; first | done | with_reducible rfl | (rw [if_neg (by omega)])) hS0 ?_; simp only [Act.put, List.setIfInBounds_toArray, List.set_cons_zero, List.set_cons_succ]
      refine WH.take 7 (some 21) rfl rfl (by kernel_rfl) (by kernel_rfl) (by kernel_rfl) (fun _ _ _ h => h) (by rfl) (fun v hv => by have k0 := Since.cell hv d0; have k2 := Since.cell hv d2; go_simp; first | done | with_reducible rfl | (rw [if_neg (by omega)])) hS0 ?_; simp only [Act.put, List.setIfInBounds_toArray, List.set_cons_zero, List.set_cons_succ]
      refine WH.take 8 (some 22) rfl rfl (by kernel_rfl) (by kernel_rfl) (by kernel_rfl) (fun _ _ _ h => h) (by rfl) (fun v hv => by have k0 := Since.cell hv d0; have k2 := Since.cell hv d2; go_simp; first | done | with_reducible rfl | (rw [if_neg (by omega)])) hS0 ?_; simp only [Act.put, List.setIfInBounds_toArray, List.set_cons_zero, List.set_cons_succ]
      refine WH.take 9 (some 23) rfl rfl (by kernel_rfl) (by kernel_rfl) (by kernel_rfl) (fun _ _ _ h => h) (by rfl) (fun v hv => by have k0 := Since.cell hv d0; have k2 := Since.cell hv d2; go_simp; first | done | with_reducible rfl | (rw [if_neg (by omega)])) hS0 ?_; simp only [Act.put, List.setIfInBounds_toArray, List.set_cons_zero, List.set_cons_succ]
      refine WH.take 10 (some 24) rfl rfl (by kernel_rfl) (by kernel_rfl) (by kernel_rfl) (fun _ _ _ h => h) (by rfl) (fun v hv => by have k0 := Since.cell hv d0; have k2 := Since.cell hv d2; go_simp; first | done | with_reducible rfl | (rw [if_neg (by omega)])) hS0 ?_; simp only [Act.put, List.setIfInBounds_toArray, List.set_cons_zero, List.set_cons_succ]
      refine WH.take 11 (some 25) rfl rfl (by kernel_rfl) (by kernel_rfl) (by kernel_rfl) (fun _ _ _ h => h) (by rfl) (fun v hv => by have k0 := Since.cell hv d0; have k2 := Since.cell hv d2; go_simp; first | done | with_reducible rfl | (rw [if_neg (by omega)])) hS0 ?_; simp only [Act.put, List.setIfInBounds_toArray, List.set_cons_zero, List.set_cons_succ]
      refine WH.one 6 (by kernel_rfl) rfl (by rfl) ?_
      go_wp2_with fail
      refine (cut_any ((adK k y)) 4 _ (by decide) (by decide) (by omega)).mono ?_
      rintro e w2 ⟨u4, rfl, hr4, hs4⟩
      have HS2 : Hid (Since wr w2) := Lib.hid (Since.step hS0 hs4)
      have HC4 := Lib.hid (RdB.of_row hr4)
      obtain ⟨va4, vc4, rfl, -⟩ := HC4.out
      clear hs4 hr4
      skip
      go_wp2_with fail
      refine ⟨HS2.out, ?_⟩
      refine WH.one 12 (by kernel_rfl) rfl (by rfl) ?_
      go_wp2_with fail
      refine (cut_any ((ptK k y)) 2 _ (by decide) (by decide) (by omega)).mono ?_
      rintro e w3 ⟨u2, rfl, hr2, hs2⟩
      have HX3 := Lib.hid hs2
      have HS3 : Hid (Since wr w3) := Lib.hid (Since.step HS2.out hs2)
      have HC2 := Lib.hid (RdB.of_row hr2)
      obtain ⟨va2, vc2, rfl, -⟩ := HC2.out
      clear hs2 hr2
      skip
      go_wp2_with fail
      refine ⟨HS3.out, ?_⟩
      refine WH.one 13 (by kernel_rfl) rfl (by rfl) ?_
      have HS4 : Hid (Since wr (w3.alloc (.cells #[.slice a3 (hb k y).length cc3, .slice va4 (cutF (adK k y) 4).length vc4, .slice va2 (cutF (ptK k y) 2).length vc2] 121))) := Lib.hid (Below.alloc HS3.out HS3.out.size _)
      have HPS : Hid (∀ q ∈ [(Value.slice a3 (hb k y).length cc3, hb k y), (Value.slice va4 (cutF (adK k y) 4).length vc4, cutF (adK k y) 4), (Value.slice va2 (cutF (ptK k y) 2).length vc2, cutF (ptK k y) 2)], RdB (w3.alloc (.cells #[.slice a3 (hb k y).length cc3, .slice va4 (cutF (adK k y) 4).length vc4, .slice va2 (cutF (ptK k y) 2).length vc2] 121)) q.1 q.2) := Lib.hid (fun q hq => by
        have hbx : Below w3.heap.size w3 (w3.alloc (.cells #[.slice a3 (hb k y).length cc3, .slice va4 (cutF (adK k y) 4).length vc4, .slice va2 (cutF (ptK k y) 2).length vc2] 121)) := (Below.refl _ w3).alloc (Nat.le_refl _) _
        simp only [List.mem_cons, List.not_mem_nil, or_false] at hq
        rcases hq with rfl | rfl | rfl
        · exact HR.out.below HS4.out
        · exact (HC4.out.below HX3.out).below hbx
        · exact HC2.out.below hbx)
      have HCL := Lib.hid (cells3 w3 (.slice a3 (hb k y).length cc3) (.slice va4 (cutF (adK k y) 4).length vc4) (.slice va2 (cutF (ptK k y) 2).length vc2) 121 [(Value.slice a3 (hb k y).length cc3, hb k y), (Value.slice va4 (cutF (adK k y) 4).length vc4, cutF (adK k y) 4), (Value.slice va2 (cutF (ptK k y) 2).length vc2, cutF (ptK k y) 2)] rfl)
      go_wp2_with fail
      refine ⟨HS4.out, ?_⟩
      refine WH.one 14 (by kernel_rfl) rfl (by rfl) ?_
      go_wp2_with fail
      refine (show Calls _ _ _ _ _ from concat_any [(Value.slice a3 (hb k y).length cc3, hb k y), (Value.slice va4 (cutF (adK k y) 4).length vc4, cutF (adK k y) 4), (Value.slice va2 (cutF (ptK k y) 2).length vc2, cutF (ptK k y) 2)] w3.heap.size 3 _ HCL.out HPS.out (by rw [hb_step k y hyl]; have := hb_len k (y + 1) (by omega); omega) (by simp)).mono ?_
      rintro e w5 ⟨u5, rfl, hr5, hs5⟩
      rw [hb_step k y hyl] at hr5
      have HS5 : Hid (Since wr w5) := Lib.hid (Since.step HS4.out hs5)
      have HR5 := Lib.hid (RdB.of_row hr5)
      clear hr5 hs5
      go_wp2_with fail
      refine ⟨HS5.out, ?_⟩
      refine WH.take 15 (some 3) rfl rfl (by kernel_rfl) (by kernel_rfl) (by kernel_rfl) (fun _ _ _ h => h) (by rfl) (fun v hv => by have k0 := Since.cell hv d0; have k2 := Since.cell hv d2; go_simp; first | done | with_reducible rfl | (rw [if_neg (by omega)])) HS5.out ?_; simp only [Act.put, List.setIfInBounds_toArray, List.set_cons_zero, List.set_cons_succ]
      refine WH.done (by kernel_rfl) ?_
      go_wp2_with fail
      go_roundw
      case rel => exact ⟨y + 1, by omega, by push_cast; rfl, HR5.out, HS.out.trans (HS5.out.mono HS.out.size)⟩
      case measure => simp [intOf]; omega
    · obtain rfl : y = 2 := by omega
      have HBW : Hid (Below w.heap.size w wr) := Lib.hid (HB1.out.trans (HS.out.mono HB1.out.size))
      rw [hb_two] at HR
      have hln : (bytesK k).length = 13 := rfl
      rw [hb_two, hln]
      have hlt : ∀ x ∈ bytesK k, x < 256 := by
        intro x hx
        simp only [bytesK, List.mem_cons, List.not_mem_nil, or_false] at hx
        omega
      have HFIN : Hid (hashF k = (bytesK k).foldl stepH seedH) := Lib.hid (hashF_seed k)
      clear hS0 hs c0 c2 c4 HB1 HZ HS HA b0 b1 b2 b3 b4
      generalize hhf : hashF k = hf at *
      have HFE := Lib.hid hhf
      clear hhf
      generalize bytesK k = l at *
      have HLT := Lib.hid hlt
      clear hlt
      go_wp2_with fail
      go_loopw [5, 32] (fun h i wz => ∃ z : Nat, z ≤ 13 ∧ i = .int .i64 (z : Nat) ∧ h = .int .u32 ((l.take z).foldl stepH seedH : Nat) ∧ wz = wr) (fun _ i _ => 13 - (intOf i).toNat)
      case atStart => exact ⟨0, Nat.zero_le _, rfl, seedH_cast, rfl⟩
      case round =>
        obtain ⟨z, hz, rfl, rfl, hwz⟩ := hrel
        subst hwz
        by_cases hzl : z < 13
        · obtain ⟨x, hx⟩ : ∃ x, l[z]? = some x := ⟨_, List.getElem?_eq_getElem (by omega)⟩
          obtain ⟨a', c', e1, -, -, hrd⟩ := HR.out
          cases e1
          obtain ⟨b, o, rfl, hcx⟩ := hrd z x hx
          have hx256 := HLT.out x (List.mem_of_getElem? hx)
          have HT : Hid ((l.take (z + 1)).foldl stepH seedH = stepH ((l.take z).foldl stepH seedH) x) := Lib.hid (by rw [List.take_add_one, hx, Option.toList_some, List.foldl_append, List.foldl_cons, List.foldl_nil])
          have hh := hash_fold (l.take z) seedH seedH_lt
          generalize (l.take z).foldl stepH seedH = h at *
          clear hrd hx
          go_wp2_with fail
          rw [stepH_val h x hh hx256, ← HT.out]
          refine ⟨⟨z + 1, by omega, by push_cast; rfl, rfl, trivial⟩, by simp [intOf]; omega⟩
        · have hz13 : z = 13 := by omega
          subst hz13
          have e : l.take 13 = l := List.take_of_length_le (by omega)
          rw [e, ← HFIN.out]
          clear e
          go_wp2_with fail
          go_ret
          exact ⟨by (rw [HFE.out]) <;> rfl, HBW.out⟩
theorem ofInt_64 (a : Nat) (h : a < 18446744073709551616) : (BitVec.ofInt 64 (a : Int)).toNat = a := by simp; omega
theorem band_pow {n : Nat} (hn : n ∈ pows) (h : Nat) (hh : h < 4294967296) : bits .and .i64 (h : Int) ((n : Int) - 1) = ((h % n : Nat) : Int) := by
  obtain ⟨h1, h2⟩ := pows_pos hn
  have e : ((n : Int) - 1) = ((n - 1 : Nat) : Int) := by omega
  have ha : h &&& (n - 1) = h % n := by
    have hp : ∃ j, n = 2 ^ j := ⟨n.log2, (by decide : ∀ n ∈ pows, n = 2 ^ n.log2) n hn⟩
    obtain ⟨j, rfl⟩ := hp
    exact Nat.and_two_pow_sub_one_eq_mod h j
  have hlt : h % n < n := Nat.mod_lt _ h1
  rw [e]
  show IntKind.i64.wrap ((BitVec.ofInt 64 (h : Int) &&& BitVec.ofInt 64 ((n - 1 : Nat) : Int)).toNat : Int) = _
  rw [BitVec.toNat_and, ofInt_64 h (by omega), ofInt_64 (n - 1) (by omega), ha]
  generalize h % n = q at *
  simp [IntKind.wrap, IntKind.bits, IntKind.signed]
  omega
set_option maxHeartbeats 4000000 in
set_option maxRecDepth 100000 in
theorem stripe_any {k : Ky} (hk : k.In) {n : Nat} (hn : n ∈ pows) (w : World) : Calls Try.prog 50 #[kyV k, .int .i64 (n : Nat)] w fun e w' => e = .returned (.int .i64 (stripeF k n : Nat)) ∧ Below w.heap.size w w' := by
  obtain ⟨h1, h2⟩ := pows_pos hn
  have c0 : (w.alloc (.cells (kyC k) 28)).cell? ⟨w.heap.size, 0, none⟩ = some (.int .u32 k.a0) := by simp [kyC]
  have c1 : (w.alloc (.cells (kyC k) 28)).cell? ⟨w.heap.size, 1, none⟩ = some (.int .u32 k.a1) := by simp [kyC]
  have c2 : (w.alloc (.cells (kyC k) 28)).cell? ⟨w.heap.size, 2, none⟩ = some (.int .u16 k.p0) := by simp [kyC]
  have c3 : (w.alloc (.cells (kyC k) 28)).cell? ⟨w.heap.size, 3, none⟩ = some (.int .u16 k.p1) := by simp [kyC]
  have c4 : (w.alloc (.cells (kyC k) 28)).cell? ⟨w.heap.size, 4, none⟩ = some (.int .u8 k.pr) := by simp [kyC]
  have HB1 : Hid (Below w.heap.size w (w.alloc (.cells (kyC k) 28))) := Lib.hid ((Below.refl _ w).alloc (Nat.le_refl _) _)
  have hsz : IntKind.u64.wrap (n : Int) = n := by simp [IntKind.wrap, IntKind.bits, IntKind.signed]; omega
  have HON := Lib.hid (fun W => ones_pow hn W)
  have HHS := Lib.hid (fun W => hash_any hk W)
  have HF : Hid (bits .and .i64 (hashF k : Int) ((n : Int) - 1) = ((stripeF k n : Nat) : Int)) := Lib.hid (band_pow hn _ (hashF_lt k))
  have hlt := hashF_lt k
  generalize hashF k = hf at *
  generalize stripeF k n = sf at *
  go_enter Try.func50, Try.ntmps50
  go_wp2_with fail
  refine (HON.out _).mono ?_
  rintro e w' ⟨rfl, rfl⟩
  go_wp2_with fail
  refine (HHS.out _).mono ?_
  rintro e w2 ⟨rfl, hb⟩
  have HB2 := Lib.hid (below_then HB1.out hb)
  clear hb c0 c1 c2 c3 c4
  go_wp2_with fail
  rw [HF.out]
  go_ret
  exact ⟨rfl, HB2.out⟩
end Go.Proofs.Ytahgapkecabnjaa
/- Walks of key.Of, key.Turn and of the reference's end, Of and Less. Printed by gen_keyb.py. -/
namespace Go.Proofs.Ytahgapkecabnjaa
set_option linter.unusedSimpArgs false
set_option linter.unusedVariables false
open Go Go.RowKit

/-- What a packet's parts can be. -/
structure PkIn (p : Pk) : Prop where
  proto : 0 ≤ p.proto ∧ p.proto < 256
  src : 0 ≤ p.src ∧ p.src < 4294967296
  dst : 0 ≤ p.dst ∧ p.dst < 4294967296
  sport : 0 ≤ p.sport ∧ p.sport < 65536
  dport : 0 ≤ p.dport ∧ p.dport < 65536
  flags : 0 ≤ p.flags ∧ p.flags < 256
  kind : 0 ≤ p.kind ∧ p.kind < 256
/-- A packet's flow, and whether it comes from the higher end. -/
def keyF (p : Pk) : Ky × Bool :=
  if p.dst < p.src ∨ p.dst = p.src ∧ p.dport < p.sport then (⟨p.dst.toNat, p.src.toNat, p.dport.toNat, p.sport.toNat, p.proto.toNat⟩, true)
  else (⟨p.src.toNat, p.dst.toNat, p.sport.toNat, p.dport.toNat, p.proto.toNat⟩, false)
theorem keyF_in {p : Pk} (h : PkIn p) : (keyF p).1.In := by
  obtain ⟨h1, h2, h3, h4, h5, h6, h7⟩ := h
  unfold keyF
  split
  · exact ⟨by simp only; omega, by simp only; omega, by simp only; omega, by simp only; omega, by simp only; omega⟩
  · exact ⟨by simp only; omega, by simp only; omega, by simp only; omega, by simp only; omega, by simp only; omega⟩
theorem turned_or (a b c d : Nat) : (orF [cmpF a b, cmpF c d] < 0) ↔ ((a : Int) < b ∨ (a : Int) = b ∧ (c : Int) < d) := by
  have h : ∀ (a b : Nat) (l : List Int), orF (cmpF a b :: l) < 0 ↔ a < b ∨ a = b ∧ orF l < 0 := fun a b l => by
    unfold orF cmpF
    rw [List.find?_cons]
    by_cases h1 : a < b
    · have : (a : Int) < b := by omega
      simp [this, h1]
    · by_cases h2 : b < a
      · have e1 : ¬ (a : Int) < b := by omega
        have e2 : (b : Int) < a := by omega
        have e3 : ¬ a = b := by omega
        simp [e1, e2, h1, e3]
      · have e1 : ¬ (a : Int) < b := by omega
        have e2 : ¬ (b : Int) < a := by omega
        have e3 : a = b := by omega
        simp [e1, e2, h1, e3]
  rw [h, h]
  have : ¬ orF [] < 0 := by simp [orF]
  simp only [this, and_false, or_false]
  omega
/-- A key in a box. -/
structure KyBox (w : World) (b : Nat) (k : Ky) : Prop where
  c0 : w.cell? ⟨b, 0, none⟩ = some (.int .u32 k.a0)
  c1 : w.cell? ⟨b, 1, none⟩ = some (.int .u32 k.a1)
  c2 : w.cell? ⟨b, 2, none⟩ = some (.int .u16 k.p0)
  c3 : w.cell? ⟨b, 3, none⟩ = some (.int .u16 k.p1)
  c4 : w.cell? ⟨b, 4, none⟩ = some (.int .u8 k.pr)
  fr : ∀ j, w.frozen? ⟨b, j, none⟩ = false
theorem Grew.frozen {w w1 : World} (h : Grew w w1) {a : Addr} (ha : a.block < w.heap.size) : w1.frozen? a = w.frozen? a := by
  obtain ⟨q, os, rfl⟩ := h
  exact (Sort.frozen?_grow (w.drewN q) os a ha)
theorem or_two (d1 d2 oo : Int) (h : orF [d1, d2] = oo) (b : Nat) (W : World) (c0 : W.cell? ⟨b, 0, none⟩ = some (.int .i64 d1)) (c1 : W.cell? ⟨b, 1, none⟩ = some (.int .i64 d2)) :
    Calls Try.prog 67 #[.slice (some ⟨b, 0, none⟩) 2 2] W fun e w' => e = .returned (.int .i64 oo) ∧ w' = W := by
  subst h
  exact or_any b 2 [d1, d2] W (fun j v hj => by
    match j, hj with
    | 0, hj => simp at hj; subst hj; exact c0
    | 1, hj => simp at hj; subst hj; exact c1
    | j + 2, hj => simp at hj) (by simp)
end Go.Proofs.Ytahgapkecabnjaa
/- Walks of the reference's end, Less and Of. Printed by gen_keyc.py. -/
namespace Go.Proofs.Ytahgapkecabnjaa
set_option linter.unusedSimpArgs false
set_option linter.unusedVariables false
open Go Go.RowKit

set_option maxHeartbeats 1000000 in
theorem end_any (a p n : Nat) (w : World) (h : endN a p = n) (ha : a < 4294967296) (hp : p < 65536) :
    Calls Try.prog 58 #[.int .u32 a, .int .u16 p] w fun e w' => e = .returned (.int .u64 n) ∧ Below w.heap.size w w' := by
  subst h
  go_enter Try.func58, Try.ntmps58
  go_wp2
  go_ret
  refine ⟨congrArg (fun b => Ending.returned (.int .u64 b)) ?_, Below.refl _ _⟩
  unfold endN
  first | (rw [Int.emod_eq_of_lt] <;> omega) | omega
set_option maxHeartbeats 16000000 in
set_option maxRecDepth 100000 in
theorem refLess_any (x y : Ky) (w : World) (hx : x.In) (hy : y.In) :
    Calls Try.prog 60 #[kyV x, kyV y] w fun e w' => e = .returned (.bool (lessK x y)) ∧ Below w.heap.size w w' := by
  have HL := Lib.hid (lessK_ends hx hy)
  obtain ⟨a0, a1, p0, p1, pr⟩ := x
  obtain ⟨b0, b1, q0, q1, qr⟩ := y
  obtain ⟨x1, x2, x3, x4, _⟩ := hx
  obtain ⟨y1, y2, y3, y4, _⟩ := hy
  simp only at HL x1 x2 x3 x4 y1 y2 y3 y4
  have E1 := Lib.hid (fun W n h => end_any a0 p0 n W h x1 x3)
  have E2 := Lib.hid (fun W n h => end_any b0 q0 n W h y1 y3)
  have E3 := Lib.hid (fun W n h => end_any a1 p1 n W h x2 x4)
  have E4 := Lib.hid (fun W n h => end_any b1 q1 n W h y2 y4)
  clear x1 x2 x3 x4 y1 y2 y3 y4
  generalize lessK ⟨a0, a1, p0, p1, pr⟩ ⟨b0, b1, q0, q1, qr⟩ = res at *
  generalize endN a0 p0 = e1 at *
  generalize endN b0 q0 = e2 at *
  generalize endN a1 p1 = e3 at *
  generalize endN b1 q1 = e4 at *
  have E1 := Lib.hid (fun W => E1.out W e1 rfl)
  have E2 := Lib.hid (fun W => E2.out W e2 rfl)
  have E3 := Lib.hid (fun W => E3.out W e3 rfl)
  have E4 := Lib.hid (fun W => E4.out W e4 rfl)
  unfold kyV kyC
  by_cases hp : pr = qr
  · subst hp
    go_enter Try.func60, Try.ntmps60
    go_wp2_with fail
    have HB0 : Hid (Below w.heap.size w ((w.alloc (.cells #[.int .u32 a0, .int .u32 a1, .int .u16 p0, .int .u16 p1, .int .u8 pr] 28)).alloc (.cells #[.int .u32 b0, .int .u32 b1, .int .u16 q0, .int .u16 q1, .int .u8 pr] 28))) := Lib.hid (((Below.refl _ w).alloc (Nat.le_refl _) _).alloc (by simp) _)
    have xk0 : ((w.alloc (.cells #[.int .u32 a0, .int .u32 a1, .int .u16 p0, .int .u16 p1, .int .u8 pr] 28)).alloc (.cells #[.int .u32 b0, .int .u32 b1, .int .u16 q0, .int .u16 q1, .int .u8 pr] 28)).cell? ⟨w.heap.size, 0, none⟩ = some (.int .u32 a0) := by simp
    have xm0 : ((w.alloc (.cells #[.int .u32 a0, .int .u32 a1, .int .u16 p0, .int .u16 p1, .int .u8 pr] 28)).alloc (.cells #[.int .u32 b0, .int .u32 b1, .int .u16 q0, .int .u16 q1, .int .u8 pr] 28)).cell? ⟨w.heap.size + 1, 0, none⟩ = some (.int .u32 b0) := by simp
    have xk1 : ((w.alloc (.cells #[.int .u32 a0, .int .u32 a1, .int .u16 p0, .int .u16 p1, .int .u8 pr] 28)).alloc (.cells #[.int .u32 b0, .int .u32 b1, .int .u16 q0, .int .u16 q1, .int .u8 pr] 28)).cell? ⟨w.heap.size, 1, none⟩ = some (.int .u32 a1) := by simp
    have xm1 : ((w.alloc (.cells #[.int .u32 a0, .int .u32 a1, .int .u16 p0, .int .u16 p1, .int .u8 pr] 28)).alloc (.cells #[.int .u32 b0, .int .u32 b1, .int .u16 q0, .int .u16 q1, .int .u8 pr] 28)).cell? ⟨w.heap.size + 1, 1, none⟩ = some (.int .u32 b1) := by simp
    have xk2 : ((w.alloc (.cells #[.int .u32 a0, .int .u32 a1, .int .u16 p0, .int .u16 p1, .int .u8 pr] 28)).alloc (.cells #[.int .u32 b0, .int .u32 b1, .int .u16 q0, .int .u16 q1, .int .u8 pr] 28)).cell? ⟨w.heap.size, 2, none⟩ = some (.int .u16 p0) := by simp
    have xm2 : ((w.alloc (.cells #[.int .u32 a0, .int .u32 a1, .int .u16 p0, .int .u16 p1, .int .u8 pr] 28)).alloc (.cells #[.int .u32 b0, .int .u32 b1, .int .u16 q0, .int .u16 q1, .int .u8 pr] 28)).cell? ⟨w.heap.size + 1, 2, none⟩ = some (.int .u16 q0) := by simp
    have xk3 : ((w.alloc (.cells #[.int .u32 a0, .int .u32 a1, .int .u16 p0, .int .u16 p1, .int .u8 pr] 28)).alloc (.cells #[.int .u32 b0, .int .u32 b1, .int .u16 q0, .int .u16 q1, .int .u8 pr] 28)).cell? ⟨w.heap.size, 3, none⟩ = some (.int .u16 p1) := by simp
    have xm3 : ((w.alloc (.cells #[.int .u32 a0, .int .u32 a1, .int .u16 p0, .int .u16 p1, .int .u8 pr] 28)).alloc (.cells #[.int .u32 b0, .int .u32 b1, .int .u16 q0, .int .u16 q1, .int .u8 pr] 28)).cell? ⟨w.heap.size + 1, 3, none⟩ = some (.int .u16 q1) := by simp
    generalize hwx : ((w.alloc (.cells #[.int .u32 a0, .int .u32 a1, .int .u16 p0, .int .u16 p1, .int .u8 pr] 28)).alloc (.cells #[.int .u32 b0, .int .u32 b1, .int .u16 q0, .int .u16 q1, .int .u8 pr] 28)) = wx at *
    generalize hn0 : w.heap.size = n0 at *
    refine WQ.enter wx (Since.refl _) (by kernel_rfl) (by kernel_rfl) ?_
    refine WQ.val (by rfl) (fun v hv => by have k0 := hv.cell xk0; have k1 := hv.cell xk2; have k2 := hv.cell xm0; have k3 := hv.cell xm2; go_simp; first | done | with_reducible rfl | (rw [if_neg (by omega)])) ?_; simp only [Act.put, List.setIfInBounds_toArray, List.set_cons_zero, List.set_cons_succ]
    refine WQ.val (by rfl) (fun v hv => by have k0 := hv.cell xk0; have k1 := hv.cell xk2; have k2 := hv.cell xm0; have k3 := hv.cell xm2; go_simp; first | done | with_reducible rfl | (rw [if_neg (by omega)])) ?_; simp only [Act.put, List.setIfInBounds_toArray, List.set_cons_zero, List.set_cons_succ]
    refine WQ.val (by rfl) (fun v hv => by have k0 := hv.cell xk0; have k1 := hv.cell xk2; have k2 := hv.cell xm0; have k3 := hv.cell xm2; go_simp; first | done | with_reducible rfl | (rw [if_neg (by omega)])) ?_; simp only [Act.put, List.setIfInBounds_toArray, List.set_cons_zero, List.set_cons_succ]
    refine WQ.val (by rfl) (fun v hv => by have k0 := hv.cell xk0; have k1 := hv.cell xk2; have k2 := hv.cell xm0; have k3 := hv.cell xm2; go_simp; first | done | with_reducible rfl | (rw [if_neg (by omega)])) ?_; simp only [Act.put, List.setIfInBounds_toArray, List.set_cons_zero, List.set_cons_succ]
    refine WQ.val (by rfl) (fun v hv => by have k0 := hv.cell xk0; have k1 := hv.cell xk2; have k2 := hv.cell xm0; have k3 := hv.cell xm2; go_simp; first | done | with_reducible rfl | (rw [if_neg (by omega)])) ?_; simp only [Act.put, List.setIfInBounds_toArray, List.set_cons_zero, List.set_cons_succ]
    refine WQ.val (by rfl) (fun v hv => by have k0 := hv.cell xk0; have k1 := hv.cell xk2; have k2 := hv.cell xm0; have k3 := hv.cell xm2; go_simp; first | done | with_reducible rfl | (rw [if_neg (by omega)])) ?_; simp only [Act.put, List.setIfInBounds_toArray, List.set_cons_zero, List.set_cons_succ]
    refine WQ.call (f := 58) (args := #[.int .u32 a0, .int .u16 p0]) (by rfl) (fun v hv => by go_simp) (fun v hv => (E1.out v).mono (fun e v' ⟨he, hb⟩ => ⟨he, hv.step hb⟩)) ?_; simp only [Act.put, List.setIfInBounds_toArray, List.set_cons_zero, List.set_cons_succ]
    refine WQ.val (by rfl) (fun v hv => by have k0 := hv.cell xk0; have k1 := hv.cell xk2; have k2 := hv.cell xm0; have k3 := hv.cell xm2; go_simp; first | done | with_reducible rfl | (rw [if_neg (by omega)])) ?_; simp only [Act.put, List.setIfInBounds_toArray, List.set_cons_zero, List.set_cons_succ]
    refine WQ.val (by rfl) (fun v hv => by have k0 := hv.cell xk0; have k1 := hv.cell xk2; have k2 := hv.cell xm0; have k3 := hv.cell xm2; go_simp; first | done | with_reducible rfl | (rw [if_neg (by omega)])) ?_; simp only [Act.put, List.setIfInBounds_toArray, List.set_cons_zero, List.set_cons_succ]
    refine WQ.val (by rfl) (fun v hv => by have k0 := hv.cell xk0; have k1 := hv.cell xk2; have k2 := hv.cell xm0; have k3 := hv.cell xm2; go_simp; first | done | with_reducible rfl | (rw [if_neg (by omega)])) ?_; simp only [Act.put, List.setIfInBounds_toArray, List.set_cons_zero, List.set_cons_succ]
    refine WQ.val (by rfl) (fun v hv => by have k0 := hv.cell xk0; have k1 := hv.cell xk2; have k2 := hv.cell xm0; have k3 := hv.cell xm2; go_simp; first | done | with_reducible rfl | (rw [if_neg (by omega)])) ?_; simp only [Act.put, List.setIfInBounds_toArray, List.set_cons_zero, List.set_cons_succ]
    refine WQ.val (by rfl) (fun v hv => by have k0 := hv.cell xk0; have k1 := hv.cell xk2; have k2 := hv.cell xm0; have k3 := hv.cell xm2; go_simp; first | done | with_reducible rfl | (rw [if_neg (by omega)])) ?_; simp only [Act.put, List.setIfInBounds_toArray, List.set_cons_zero, List.set_cons_succ]
    refine WQ.val (by rfl) (fun v hv => by have k0 := hv.cell xk0; have k1 := hv.cell xk2; have k2 := hv.cell xm0; have k3 := hv.cell xm2; go_simp; first | done | with_reducible rfl | (rw [if_neg (by omega)])) ?_; simp only [Act.put, List.setIfInBounds_toArray, List.set_cons_zero, List.set_cons_succ]
    refine WQ.call (f := 58) (args := #[.int .u32 b0, .int .u16 q0]) (by rfl) (fun v hv => by go_simp) (fun v hv => (E2.out v).mono (fun e v' ⟨he, hb⟩ => ⟨he, hv.step hb⟩)) ?_; simp only [Act.put, List.setIfInBounds_toArray, List.set_cons_zero, List.set_cons_succ]
    refine WQ.val (by rfl) (fun v hv => by have k0 := hv.cell xk0; have k1 := hv.cell xk2; have k2 := hv.cell xm0; have k3 := hv.cell xm2; go_simp; first | done | with_reducible rfl | (rw [if_neg (by omega)])) ?_; simp only [Act.put, List.setIfInBounds_toArray, List.set_cons_zero, List.set_cons_succ]
    refine WQ.val (by rfl) (fun v hv => by have k0 := hv.cell xk0; have k1 := hv.cell xk2; have k2 := hv.cell xm0; have k3 := hv.cell xm2; go_simp; first | done | with_reducible rfl | (rw [if_neg (by omega)])) ?_; simp only [Act.put, List.setIfInBounds_toArray, List.set_cons_zero, List.set_cons_succ]
    refine WQ.done ?_
    intro w5 hw5
    have HB5 : Hid (Below n0 w w5) := Lib.hid (by rw [← hn0]; rw [← hn0] at HB0; exact below_then HB0.out hw5)
    have zk1 := Since.cell hw5 xk1
    have zk3 := Since.cell hw5 xk3
    have zm1 := Since.cell hw5 xm1
    have zm3 := Since.cell hw5 xm3
    clear hw5 xk0 xk1 xk2 xk3 xm0 xm1 xm2 xm3
    by_cases he : e1 = e2
    · subst he
      have hV : Hid (res = decide (e3 < e4)) := Lib.hid (by rw [HL.out]; simp)
      go_wp2_with fail
      refine WQ.enter w5 (Since.refl _) (by kernel_rfl) (by kernel_rfl) ?_
      refine WQ.val (by rfl) (fun v hv => by have k0 := hv.cell zk1; have k1 := hv.cell zk3; have k2 := hv.cell zm1; have k3 := hv.cell zm3; go_simp; first | done | with_reducible rfl | (rw [if_neg (by omega)])) ?_; simp only [Act.put, List.setIfInBounds_toArray, List.set_cons_zero, List.set_cons_succ]
      refine WQ.val (by rfl) (fun v hv => by have k0 := hv.cell zk1; have k1 := hv.cell zk3; have k2 := hv.cell zm1; have k3 := hv.cell zm3; go_simp; first | done | with_reducible rfl | (rw [if_neg (by omega)])) ?_; simp only [Act.put, List.setIfInBounds_toArray, List.set_cons_zero, List.set_cons_succ]
      refine WQ.val (by rfl) (fun v hv => by have k0 := hv.cell zk1; have k1 := hv.cell zk3; have k2 := hv.cell zm1; have k3 := hv.cell zm3; go_simp; first | done | with_reducible rfl | (rw [if_neg (by omega)])) ?_; simp only [Act.put, List.setIfInBounds_toArray, List.set_cons_zero, List.set_cons_succ]
      refine WQ.val (by rfl) (fun v hv => by have k0 := hv.cell zk1; have k1 := hv.cell zk3; have k2 := hv.cell zm1; have k3 := hv.cell zm3; go_simp; first | done | with_reducible rfl | (rw [if_neg (by omega)])) ?_; simp only [Act.put, List.setIfInBounds_toArray, List.set_cons_zero, List.set_cons_succ]
      refine WQ.val (by rfl) (fun v hv => by have k0 := hv.cell zk1; have k1 := hv.cell zk3; have k2 := hv.cell zm1; have k3 := hv.cell zm3; go_simp; first | done | with_reducible rfl | (rw [if_neg (by omega)])) ?_; simp only [Act.put, List.setIfInBounds_toArray, List.set_cons_zero, List.set_cons_succ]
      refine WQ.val (by rfl) (fun v hv => by have k0 := hv.cell zk1; have k1 := hv.cell zk3; have k2 := hv.cell zm1; have k3 := hv.cell zm3; go_simp; first | done | with_reducible rfl | (rw [if_neg (by omega)])) ?_; simp only [Act.put, List.setIfInBounds_toArray, List.set_cons_zero, List.set_cons_succ]
      refine WQ.call (f := 58) (args := #[.int .u32 a1, .int .u16 p1]) (by rfl) (fun v hv => by go_simp) (fun v hv => (E3.out v).mono (fun e v' ⟨he, hb⟩ => ⟨he, hv.step hb⟩)) ?_; simp only [Act.put, List.setIfInBounds_toArray, List.set_cons_zero, List.set_cons_succ]
      refine WQ.val (by rfl) (fun v hv => by have k0 := hv.cell zk1; have k1 := hv.cell zk3; have k2 := hv.cell zm1; have k3 := hv.cell zm3; go_simp; first | done | with_reducible rfl | (rw [if_neg (by omega)])) ?_; simp only [Act.put, List.setIfInBounds_toArray, List.set_cons_zero, List.set_cons_succ]
      refine WQ.val (by rfl) (fun v hv => by have k0 := hv.cell zk1; have k1 := hv.cell zk3; have k2 := hv.cell zm1; have k3 := hv.cell zm3; go_simp; first | done | with_reducible rfl | (rw [if_neg (by omega)])) ?_; simp only [Act.put, List.setIfInBounds_toArray, List.set_cons_zero, List.set_cons_succ]
      refine WQ.val (by rfl) (fun v hv => by have k0 := hv.cell zk1; have k1 := hv.cell zk3; have k2 := hv.cell zm1; have k3 := hv.cell zm3; go_simp; first | done | with_reducible rfl | (rw [if_neg (by omega)])) ?_; simp only [Act.put, List.setIfInBounds_toArray, List.set_cons_zero, List.set_cons_succ]
      refine WQ.val (by rfl) (fun v hv => by have k0 := hv.cell zk1; have k1 := hv.cell zk3; have k2 := hv.cell zm1; have k3 := hv.cell zm3; go_simp; first | done | with_reducible rfl | (rw [if_neg (by omega)])) ?_; simp only [Act.put, List.setIfInBounds_toArray, List.set_cons_zero, List.set_cons_succ]
      refine WQ.val (by rfl) (fun v hv => by have k0 := hv.cell zk1; have k1 := hv.cell zk3; have k2 := hv.cell zm1; have k3 := hv.cell zm3; go_simp; first | done | with_reducible rfl | (rw [if_neg (by omega)])) ?_; simp only [Act.put, List.setIfInBounds_toArray, List.set_cons_zero, List.set_cons_succ]
      refine WQ.val (by rfl) (fun v hv => by have k0 := hv.cell zk1; have k1 := hv.cell zk3; have k2 := hv.cell zm1; have k3 := hv.cell zm3; go_simp; first | done | with_reducible rfl | (rw [if_neg (by omega)])) ?_; simp only [Act.put, List.setIfInBounds_toArray, List.set_cons_zero, List.set_cons_succ]
      refine WQ.call (f := 58) (args := #[.int .u32 b1, .int .u16 q1]) (by rfl) (fun v hv => by go_simp) (fun v hv => (E4.out v).mono (fun e v' ⟨he, hb⟩ => ⟨he, hv.step hb⟩)) ?_; simp only [Act.put, List.setIfInBounds_toArray, List.set_cons_zero, List.set_cons_succ]
      refine WQ.val (by rfl) (fun v hv => by have k0 := hv.cell zk1; have k1 := hv.cell zk3; have k2 := hv.cell zm1; have k3 := hv.cell zm3; go_simp; first | done | with_reducible rfl | (rw [if_neg (by omega)])) ?_; simp only [Act.put, List.setIfInBounds_toArray, List.set_cons_zero, List.set_cons_succ]
      refine WQ.val (by rfl) (fun v hv => by have k0 := hv.cell zk1; have k1 := hv.cell zk3; have k2 := hv.cell zm1; have k3 := hv.cell zm3; go_simp; first | done | with_reducible rfl | (rw [if_neg (by omega)])) ?_; simp only [Act.put, List.setIfInBounds_toArray, List.set_cons_zero, List.set_cons_succ]
      refine WQ.done ?_
      intro w6 hw6
      have HB6 : Hid (Below n0 w w6) := Lib.hid (HB5.out.trans (hw6.mono (by have := HB5.out.size; have := hn0; omega)))
      clear hw6 zk1 zk3 zm1 zm3
      go_wp2_with fail
      go_ret
      exact ⟨by (rw [hV.out]) <;> rfl, by rw [hn0]; exact HB6.out⟩
    · have hV : Hid (res = decide (e1 < e2)) := Lib.hid (by rw [HL.out]; simp [he])
      go_wp2_with fail
      go_ret
      exact ⟨by (rw [hV.out]) <;> rfl, by rw [hn0]; exact HB5.out⟩
  · have hV : Hid (res = decide (pr < qr)) := Lib.hid (by rw [HL.out]; simp [hp])
    go_enter Try.func60, Try.ntmps60
    go_wp2_with fail
    go_ret
    exact ⟨by (rw [hV.out]) <;> rfl, ((Below.refl _ w).alloc (Nat.le_refl _) _).alloc (by simp) _⟩
theorem of_ends {s d sp dp : Nat} (h1 : s < 4294967296) (h2 : d < 4294967296) (h3 : sp < 65536) (h4 : dp < 65536) :
    (endN d dp < endN s sp ↔ ((d : Int) < s ∨ (d : Int) = s ∧ (dp : Int) < sp)) ∧ endN s sp / 65536 = s ∧ endN s sp % 65536 = sp := by
  unfold endN; omega
end Go.Proofs.Ytahgapkecabnjaa
/- Walks of the reference's Hash and Stripe. Printed by gen_hashb.py. -/
namespace Go.Proofs.Ytahgapkecabnjaa
set_option linter.unusedSimpArgs false
set_option linter.unusedVariables false
open Go Go.RowKit

/-- The six bytes of an end. -/
def eb (e : Nat) : List Nat := (List.range 6).map fun j => e / 2 ^ (40 - 8 * j) % 256
theorem eb_at (e j : Nat) (h : j < 6) : (eb e)[j]? = some (e / 2 ^ (40 - 8 * j) % 256) := by simp [eb, h]
theorem eb_len (e : Nat) : (eb e).length = 6 := by simp [eb]
/-- The bytes that are hashed, after y rounds. -/
def hr (k : Ky) (y : Nat) : List Nat := k.pr :: ((if 1 ≤ y then eb (endN k.a0 k.p0) else []) ++ (if 2 ≤ y then eb (endN k.a1 k.p1) else []))
theorem eb_bytes {a p : Nat} (ha : a < 4294967296) (hp : p < 65536) : eb (endN a p) = [a / 16777216 % 256, a / 65536 % 256, a / 256 % 256, a % 256, p / 256 % 256, p % 256] := by
  simp [eb, List.range, List.range.loop, endN]
  omega
theorem hr_two {k : Ky} (hk : k.In) : hr k 2 = bytesK k := by
  simp [hr, bytesK, eb_bytes hk.1 hk.3, eb_bytes hk.2 hk.4]
theorem hr_step (k : Ky) (y : Nat) (hy : y < 2) : hr k (y + 1) = hr k y ++ eb (endN (adK k y) (ptK k y)) := by
  obtain rfl | rfl : y = 0 ∨ y = 1 := by omega
  · simp [hr, adK, ptK]
  · simp [hr, adK, ptK]
theorem stepR_val (h x : Nat) (hh : h < 4294967296) (hx : x < 256) : (IntKind.u64.wrap (bits BinOp.xor IntKind.u64 (h : Int) (x : Int) * 16777619)).tmod 4294967296 = ((stepH h x : Nat) : Int) := by
  have hxx : h ^^^ x < 4294967296 := Nat.xor_lt_two_pow (n := 32) hh (by omega)
  rw [u64_xor_nat h x (by omega) (by omega)]
  unfold stepH
  generalize h ^^^ x = q at *
  have e : IntKind.u64.wrap ((q : Int) * 16777619) = (q : Int) * 16777619 := by
    simp only [IntKind.wrap, IntKind.bits, IntKind.signed]
    simp
    omega
  rw [e, Int.tmod_eq_emod_of_nonneg (by omega), Int.natCast_emod, Int.natCast_mul, show ((16777619 : Nat) : Int) = 16777619 from by decide, show ((4294967296 : Nat) : Int) = 4294967296 from by decide]
theorem seed64_cast : (Value.int IntKind.u64 2166136261) = .int .u64 (seedH : Int) := congrArg (Value.int IntKind.u64) (by decide)
set_option maxHeartbeats 8000000 in
set_option maxRecDepth 100000 in
theorem refHash_any {k : Ky} (hk : k.In) (w : World) : Calls Try.prog 40 #[kyV k] w fun e w' => e = .returned (.int .u32 (hashF k : Nat)) ∧ Below w.heap.size w w' := by
  have HTW := Lib.hid (hr_two hk)
  obtain ⟨b0, b1, b2, b3, b4⟩ := hk
  have HB1 : Hid (Below w.heap.size w (w.alloc (.cells (kyC k) 28))) := Lib.hid ((Below.refl _ w).alloc (Nat.le_refl _) _)
  have c0 : ∀ y, y < 2 → (w.alloc (.cells (kyC k) 28)).cell? ⟨w.heap.size, y, none⟩ = some (.int .u32 (adK k y : Nat)) := fun y hy => by
    obtain rfl | rfl : y = 0 ∨ y = 1 := by omega
    · simp [kyC, adK]
    · simp [kyC, adK]
  have c2 : ∀ y, y < 2 → (w.alloc (.cells (kyC k) 28)).cell? ⟨w.heap.size, 2 + y, none⟩ = some (.int .u16 (ptK k y : Nat)) := fun y hy => by
    obtain rfl | rfl : y = 0 ∨ y = 1 := by omega
    · simp [kyC, ptK]
    · simp [kyC, ptK]
  have c4 : (w.alloc (.cells (kyC k) 28)).cell? ⟨w.heap.size, 4, none⟩ = some (.int .u8 k.pr) := by simp [kyC]
  have had : ∀ y, adK k y < 4294967296 ∧ ptK k y < 65536 := fun y => by unfold adK ptK; split <;> omega
  have HA := Lib.hid had
  have h0 := stepR_val seedH k.pr seedH_lt b4
  have HS0 : Hid ((hr k 0).foldl stepH seedH = stepH seedH k.pr) := Lib.hid (by simp only [hr]; rw [if_neg (by decide), if_neg (by decide), List.append_nil, List.foldl_cons, List.foldl_nil])
  have HSC := Lib.hid seed64_cast
  have HFS := Lib.hid (hashF_seed k)
  clear had
  go_enter Try.func40, Try.ntmps40
  go_wp2_with fail
  generalize w.alloc (.cells (kyC k) 28) = w1 at *
  go_loopw [3, 5] (fun h n wr => ∃ y : Nat, y ≤ 2 ∧ n = .int .i64 (y : Nat) ∧ h = .int .u64 ((hr k y).foldl stepH seedH : Nat) ∧ Below w1.heap.size w1 wr) (fun _ n _ => 2 - (intOf n).toNat)
  case atStart => exact ⟨0, Nat.zero_le _, rfl, by rw [HS0.out, ← h0]; exact congrArg (fun s => Value.int .u64 ((IntKind.u64.wrap (bits BinOp.xor IntKind.u64 s _ * 16777619)).tmod 4294967296)) (by decide), Below.refl _ _⟩
  case round =>
    clear h0 HS0
    obtain ⟨y, hy, rfl, rfl, hs⟩ := hrel
    have HS := Lib.hid hs
    have HHB : Hid ((hr k y).foldl stepH seedH < 4294967296) := Lib.hid (hash_fold _ _ seedH_lt)
    by_cases hyl : y < 2
    · have d0 := Since.cell hs (c0 y hyl)
      have d2 := Since.cell hs (c2 y hyl)
      have hadb := HA.out y
      have HST : Hid ((hr k (y + 1)).foldl stepH seedH = (eb (endN (adK k y) (ptK k y))).foldl stepH ((hr k y).foldl stepH seedH)) := Lib.hid (by rw [hr_step k y hyl, List.foldl_append])
      have HEN := Lib.hid (fun W => end_any (adK k y) (ptK k y) _ W rfl hadb.1 hadb.2)
      have hel : endN (adK k y) (ptK k y) < 18446744073709551616 := by unfold endN; omega
      generalize endN (adK k y) (ptK k y) = en at *
      generalize adK k y = ad at *
      generalize ptK k y = pt at *
      generalize hg0 : (hr k y).foldl stepH seedH = g0 at *
      clear hg0 hs c0 c2 c4 hadb
      have hS0 : Since wr wr.drew := (Below.refl _ wr).trans ⟨rfl, rfl, rfl, Nat.le_refl _, fun _ _ => rfl⟩
      go_wp2_with fail
      refine WQ.enter wr (Since.refl _) (by kernel_rfl) (by kernel_rfl) ?_
      refine WQ.val (by rfl) (fun v hv => by have k0 := hv.cell d0; have k1 := hv.cell d2; go_simp; first | done | with_reducible rfl | (rw [if_neg (by omega)])) ?_; simp only [Act.put, List.setIfInBounds_toArray, List.set_cons_zero, List.set_cons_succ]
      refine WQ.val (by rfl) (fun v hv => by have k0 := hv.cell d0; have k1 := hv.cell d2; go_simp; first | done | with_reducible rfl | (rw [if_neg (by omega)])) ?_; simp only [Act.put, List.setIfInBounds_toArray, List.set_cons_zero, List.set_cons_succ]
      refine WQ.val (by rfl) (fun v hv => by have k0 := hv.cell d0; have k1 := hv.cell d2; go_simp; first | done | with_reducible rfl | (rw [if_neg (by omega)])) ?_; simp only [Act.put, List.setIfInBounds_toArray, List.set_cons_zero, List.set_cons_succ]
      refine WQ.val (by rfl) (fun v hv => by have k0 := hv.cell d0; have k1 := hv.cell d2; go_simp; first | done | with_reducible rfl | (rw [if_neg (by omega)])) ?_; simp only [Act.put, List.setIfInBounds_toArray, List.set_cons_zero, List.set_cons_succ]
      refine WQ.val (by rfl) (fun v hv => by have k0 := hv.cell d0; have k1 := hv.cell d2; go_simp; first | done | with_reducible rfl | (rw [if_neg (by omega)])) ?_; simp only [Act.put, List.setIfInBounds_toArray, List.set_cons_zero, List.set_cons_succ]
      refine WQ.val (by rfl) (fun v hv => by have k0 := hv.cell d0; have k1 := hv.cell d2; go_simp; first | done | with_reducible rfl | (rw [if_neg (by omega)])) ?_; simp only [Act.put, List.setIfInBounds_toArray, List.set_cons_zero, List.set_cons_succ]
      refine WQ.val (by rfl) (fun v hv => by have k0 := hv.cell d0; have k1 := hv.cell d2; go_simp; first | done | with_reducible rfl | (rw [if_neg (by omega)])) ?_; simp only [Act.put, List.setIfInBounds_toArray, List.set_cons_zero, List.set_cons_succ]
      refine WQ.val (by rfl) (fun v hv => by have k0 := hv.cell d0; have k1 := hv.cell d2; go_simp; first | done | with_reducible rfl | (rw [if_neg (by omega)])) ?_; simp only [Act.put, List.setIfInBounds_toArray, List.set_cons_zero, List.set_cons_succ]
      refine WQ.call (f := 58) (args := #[.int .u32 ad, .int .u16 pt]) (by rfl) (fun v hv => by go_simp) (fun v hv => (HEN.out v).mono (fun e v' ⟨he, hb⟩ => ⟨he, hv.step hb⟩)) ?_; simp only [Act.put, List.setIfInBounds_toArray, List.set_cons_zero, List.set_cons_succ]
      refine WQ.val (by rfl) (fun v hv => by have k0 := hv.cell d0; have k1 := hv.cell d2; go_simp; first | done | with_reducible rfl | (rw [if_neg (by omega)])) ?_; simp only [Act.put, List.setIfInBounds_toArray, List.set_cons_zero, List.set_cons_succ]
      refine WQ.done ?_
      intro w5 hw5
      have HS5 : Hid (Below w1.heap.size w1 w5) := Lib.hid (HS.out.trans (Below.mono hw5 HS.out.size))
      clear d0 d2 hw5 hS0 HEN HS
      go_wp2_with fail
      go_loopw [3, 7] (fun h i wz => ∃ j : Nat, j ≤ 6 ∧ i = .int .i64 (40 - 8 * (j : Int)) ∧ h = .int .u64 (((eb en).take j).foldl stepH g0 : Nat) ∧ wz = w5) (fun _ i _ => (intOf i + 8).toNat)
      case atStart => exact ⟨0, Nat.zero_le _, rfl, rfl, rfl⟩
      case round =>
        obtain ⟨j, hj, rfl, rfl, hwz⟩ := hrel
        subst hwz
        by_cases hjl : j < 6
        · have hx := eb_at en j hjl
          have hT : ((eb en).take (j + 1)).foldl stepH g0 = stepH (((eb en).take j).foldl stepH g0) (en / 2 ^ (40 - 8 * j) % 256) := by rw [List.take_add_one, hx, Option.toList_some, List.foldl_append, List.foldl_cons, List.foldl_nil]
          have hlt := hash_fold ((eb en).take j) g0 HHB.out
          have es : (40 - 8 * (j : Int)) = ((40 - 8 * j : Nat) : Int) := by omega
          have HNX : Hid (((40 - 8 * j : Nat) : Int) - 8 = 40 - 8 * ((j + 1 : Nat) : Int)) := Lib.hid (by omega)
          have hsh : 40 - 8 * j ≤ 40 := by omega
          have HT := Lib.hid hT
          clear hT hx
          rw [es]
          clear es
          generalize 40 - 8 * j = sh at *
          generalize ((eb en).take j).foldl stepH g0 = h at *
          generalize hxv : en / 2 ^ sh % 256 = xv at *
          have hx256 : xv < 256 := by omega
          have HXV := Lib.hid hxv
          clear hxv
          go_wp2_with fail
          have ex : ((en : Int) / 2 ^ sh).tmod 256 = ((xv : Nat) : Int) := by
            rw [← HXV.out, Int.tmod_eq_emod_of_nonneg (Int.ediv_nonneg (by omega) (Int.le_of_lt (Int.pow_pos (by decide))))]
            push_cast
            rfl
          rw [ex, stepR_val h xv hlt hx256, ← HT.out, HNX.out]
          refine ⟨⟨j + 1, by omega, rfl, rfl, trivial⟩, ?_⟩
          have := HNX.out
          simp only [intOf]
          omega
        · have hj6 : j = 6 := by omega
          subst hj6
          have e : (eb en).take 6 = eb en := List.take_of_length_le (by rw [eb_len]; exact Nat.le_refl _)
          rw [e, ← HST.out]
          clear e
          go_wp2_with fail
          go_roundw
          case rel => exact ⟨y + 1, by omega, by push_cast; rfl, rfl, HS5.out⟩
          case measure => simp [intOf]; omega
    · obtain rfl : y = 2 := by omega
      rw [HTW.out, ← HFS.out]
      have HB5 : Hid (Below w.heap.size w wr) := Lib.hid (HB1.out.trans (HS.out.mono HB1.out.size))
      have hlt := hashF_lt k
      clear hs c0 c2 c4 HHB HS HTW HA
      go_wp2_with fail
      go_ret
      exact ⟨rfl, HB5.out⟩
set_option maxHeartbeats 8000000 in
set_option maxRecDepth 100000 in
theorem refStripe_any {k : Ky} (hk : k.In) {n : Nat} (hn : n ∈ pows) (w : World) : Calls Try.prog 13 #[kyV k, .int .i64 (n : Nat)] w fun e w' => e = .returned (.int .i64 (stripeF k n : Nat)) ∧ Below w.heap.size w w' := by
  obtain ⟨h1, h2⟩ := pows_pos hn
  have HB1 : Hid (Below w.heap.size w (w.alloc (.cells (kyC k) 28))) := Lib.hid ((Below.refl _ w).alloc (Nat.le_refl _) _)
  have c0 : (w.alloc (.cells (kyC k) 28)).cell? ⟨w.heap.size, 0, none⟩ = some (.int .u32 k.a0) := by simp [kyC]
  have c1 : (w.alloc (.cells (kyC k) 28)).cell? ⟨w.heap.size, 1, none⟩ = some (.int .u32 k.a1) := by simp [kyC]
  have c2 : (w.alloc (.cells (kyC k) 28)).cell? ⟨w.heap.size, 2, none⟩ = some (.int .u16 k.p0) := by simp [kyC]
  have c3 : (w.alloc (.cells (kyC k) 28)).cell? ⟨w.heap.size, 3, none⟩ = some (.int .u16 k.p1) := by simp [kyC]
  have c4 : (w.alloc (.cells (kyC k) 28)).cell? ⟨w.heap.size, 4, none⟩ = some (.int .u8 k.pr) := by simp [kyC]
  have HHS := Lib.hid (fun W => refHash_any hk W)
  have hlt := hashF_lt k
  have HF : Hid (((hashF k : Nat) : Int) % (n : Int) = ((stripeF k n : Nat) : Int)) := Lib.hid (by
    unfold stripeF
    push_cast
    rfl)
  obtain ⟨J, hJ, HJ⟩ : ∃ J, J ≤ 12 ∧ n = 2 ^ J := ⟨n.log2, (by decide : ∀ n ∈ pows, n.log2 ≤ 12) n hn, (by decide : ∀ n ∈ pows, n = 2 ^ n.log2) n hn⟩
  generalize hashF k = hf at *
  generalize stripeF k n = sf at *
  have HJQ := Lib.hid HJ
  clear HJ hn
  go_enter Try.func13, Try.ntmps13
  go_wp2_with fail
  generalize w.alloc (.cells (kyC k) 28) = w1 at *
  go_loopw [5] (fun i wz => ∃ j m : Nat, j ≤ J ∧ m = 2 ^ j ∧ i = .int .i64 (m : Nat) ∧ wz = w1) (fun i _ => 4096 - (intOf i).toNat)
  case atStart => exact ⟨0, 1, Nat.zero_le _, rfl, rfl, rfl⟩
  case round =>
    obtain ⟨j, m, hj, hm, rfl, hwz⟩ := hrel
    subst hwz
    have hmle : m ≤ n := by rw [hm, HJQ.out]; exact Nat.pow_le_pow_right (by decide) hj
    have hmpos : 0 < m := by rw [hm]; exact Nat.two_pow_pos j
    by_cases e : m = n
    · subst e
      clear hm
      go_wp2_with fail
      refine (HHS.out _).mono ?_
      rintro e w2 ⟨rfl, hb⟩
      have HB2 := Lib.hid (below_then HB1.out hb)
      clear hb c0 c1 c2 c3 c4
      go_wp2_with fail
      rw [HF.out]
      go_ret
      exact ⟨rfl, HB2.out⟩
    · have hjl : j < J := by
        rcases Nat.lt_or_ge j J with h | h
        · exact h
        · exact absurd (by rw [hm, HJQ.out, Nat.le_antisymm hj h]) e
      have h2m : m * 2 ≤ n := by
        have : 2 ^ (j + 1) ≤ 2 ^ J := Nat.pow_le_pow_right (by decide) hjl
        rw [Nat.pow_succ, ← hm, ← HJQ.out] at this
        exact this
      have HM2 : Hid (m * 2 = 2 ^ (j + 1)) := Lib.hid (by rw [Nat.pow_succ, ← hm])
      have q1 : ((m : Int) == (n : Int)) = false := by simp; omega
      clear hm
      go_wp2_with fail
      refine ⟨⟨j + 1, m * 2, hjl, HM2.out, by push_cast; rfl, trivial⟩, ?_⟩
      simp only [intOf]
      omega
end Go.Proofs.Ytahgapkecabnjaa
/- A flow's key as a map's key. -/
namespace Go.Proofs.Ytahgapkecabnjaa
set_option linter.unusedSimpArgs false
set_option linter.unusedVariables false
open Go Go.RowKit Go.Maps Go.MapKept
open Go.ChangeMaps (setBlock)

theorem keyOf_wide3 {P : Program} {k : TypeId} {v : Value} (hwide : (match P.underlying k with | some (.array _ _) | some (.struct _) => true | _ => false) = true) (hT : P.keyType k = true) (hf : v.formed P k = true)
    (hne : (P.types.size != 0 && P.types.size != 1) = true) {ls : List Lit} (h : ∀ m, P.keyLits (m + 3) k v.cells.toList = some ls) : keyOf P k v = some (.string (keyBytes ls)) := by
  rw [Bool.and_eq_true, bne_iff_ne, bne_iff_ne] at hne
  obtain ⟨m, hm⟩ : ∃ m, P.types.size = m + 2 := ⟨P.types.size - 2, by omega⟩
  have h2 : P.keyLits (P.types.size + 1) k v.cells.toList = some ls := by rw [hm]; exact h m
  unfold keyOf
  split
  · simp [hT, hf, h2]
  · simp [hT, hf, h2]
  · rename_i h3 h4
    exfalso
    split at hwide
    · exact h3 _ _ ‹_›
    · exact h4 _ ‹_›
    · cases hwide
theorem ky_keyed : Keyed Try.prog 28 := Keyed.of_law (deep_law_laid (by kernel_rfl) (m := 3) (by decide) (of_decide_eq_true (by kernel_rfl)) (by kernel_rfl) (by kernel_rfl))
theorem types_two : (Try.prog.types.size != 0 && Try.prog.types.size != 1) = true := by kernel_rfl
theorem kcells_key : Try.prog.cellsOf 28 = 5 := by kernel_rfl
theorem kcells_u8 : Try.prog.cellsOf 5 = 1 := by kernel_rfl
theorem kcells_u16 : Try.prog.cellsOf 25 = 1 := by kernel_rfl
theorem kcells_u32 : Try.prog.cellsOf 23 = 1 := by kernel_rfl
theorem kcells_a16 : Try.prog.cellsOf 26 = 2 := by kernel_rfl
theorem kcells_a32 : Try.prog.cellsOf 24 = 2 := by kernel_rfl
theorem keyType_key : Try.prog.keyType 28 = true := by kernel_rfl
theorem wf_u32 {n : Nat} (h : n < 4294967296) : (Lit.int .u32 n).wf = true := by simp [Lit.wf, IntKind.min, IntKind.max, IntKind.bits, IntKind.signed]; omega
theorem wf_u16 {n : Nat} (h : n < 65536) : (Lit.int .u16 n).wf = true := by simp [Lit.wf, IntKind.min, IntKind.max, IntKind.bits, IntKind.signed]; omega
theorem wf_u8 {n : Nat} (h : n < 256) : (Lit.int .u8 n).wf = true := by simp [Lit.wf, IntKind.min, IntKind.max, IntKind.bits, IntKind.signed]; omega
theorem ky_key {k : Ky} (hk : k.In) : ∃ kl, keyOf Try.prog 28 (kyV k) = some kl :=
  ⟨_, keyOf_wide3 (by rw [Try.underlying28]) keyType_key (by simp [kyC, Value.formed, Try.underlying28, kcells_key]) types_two
    (ls := [.int .u32 k.a0, .int .u32 k.a1, .int .u16 k.p0, .int .u16 k.p1, .int .u8 k.pr]) fun m => by
      have h0 := wf_u32 hk.a0
      have h1 := wf_u32 hk.a1
      have h2 := wf_u16 hk.p0
      have h3 := wf_u16 hk.p1
      have h4 := wf_u8 hk.pr
      have r2 : List.range 2 = [0, 1] := rfl
      simp [kyC, Value.cells, Program.keyLits, kcells_key, kcells_u8, kcells_u16, kcells_u32, kcells_a16, kcells_a32, Try.underlying28, Try.underlying5, Try.underlying25, Try.underlying23, Try.underlying26, Try.underlying24, h0, h1, h2, h3, h4, r2]⟩
end Go.Proofs.Ytahgapkecabnjaa
