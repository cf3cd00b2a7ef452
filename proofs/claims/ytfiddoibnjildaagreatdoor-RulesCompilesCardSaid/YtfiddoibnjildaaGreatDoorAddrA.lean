/- Walks of the reference of layer 3: Num. -/
import Derived.Test.YtfiddoibnjildaaGreatDoorProg
import Derived.Test.YtfiddoibnjildaaGreatDoorAddrP
import Derived.WalkKit
import Derived.KernelRfl
import Derived.OwnWalk
import Derived.Outline
import Derived.Deep.Light
import Derived.Below
import Derived.LoopTactic
import Derived.Lib.Hide
import Derived.Deep.LoopGhost
import Derived.Lib.ConvBytes
import Derived.Laws.IdiomStrings
namespace Go.Proofs.YtfiddoibnjildaaGreatDoor
set_option linter.unusedSimpArgs false
set_option linter.unusedVariables false
open Go Go.RowKit

theorem dec_len (n : Nat) (h : n ≤ 9223372036854775807) : (Lib.decDigits n).length ≤ 19 := by
  rw [Lib.decDigits_length]
  by_cases e : Lib.nDigits n ≤ 19
  · exact e
  · exfalso
    have h2 : ∀ k u : Nat, k < Lib.nDigits u → 10 ^ k ≤ u ∨ k = 0 := by
      intro k
      induction k with
      | zero => intro u _; exact .inr rfl
      | succ k ih =>
        intro u hu
        left
        by_cases h10 : u < 10
        · rw [Lib.nDigits_small h10] at hu; omega
        · rw [Lib.nDigits_big h10] at hu
          rcases ih (u / 10) (by omega) with h | rfl
          · rw [Nat.pow_succ]; omega
          · simp; omega
    rcases h2 19 n (by omega) with h3 | h3
    · have : (10 : Nat) ^ 19 = 10000000000000000000 := by decide
      omega
    · omega

/-- One byte as a string. -/
theorem conv_one (wr : World) (v : Int) (h0 : 0 ≤ v) (h1 : v ≤ 255) :
    (convert 83 9 (.slice (some ⟨wr.heap.size, 0, none⟩) 1 1)).run Tryz.prog (wr.alloc (.cells #[.int .u8 v] 5)) = .ok (.string ⟨#[UInt8.ofNat v.toNat]⟩) (wr.alloc (.cells #[.int .u8 v] 5)) := by
  have := run_convert_bytes_back (P := Tryz.prog) (wr.alloc (.cells #[.int .u8 v] 5)) 83 9 5 ⟨wr.heap.size, 0, none⟩ 1 [UInt8.ofNat v.toNat] Tryz.underlying83 Tryz.underlying5 Tryz.underlying9 (fun j hj => by
    have : j = 0 := by simpa using hj
    subst this
    simp [Addr.add]
    omega)
  simpa using this

/-- A walk's end with one result. -/
theorem retB {v u : Value} {w w' : World} (h : v = u) (hb : Below w.heap.size w w') : Ending.returned v = Ending.returned u ∧ Below w.heap.size w w' := ⟨by rw [h], hb⟩

theorem str_cat {a b c : List UInt8} (h : a ++ b = c) : (⟨a.toArray⟩ : ByteArray) ++ ⟨b.toArray⟩ = ⟨c.toArray⟩ := by
  subst h; apply ByteArray.ext; simp

set_option maxHeartbeats 400000 in
set_option maxRecDepth 100000 in
theorem num_any (n : Int) (w : World) (h0 : 0 ≤ n) (h1 : n ≤ 9223372036854775807) :
    Calls Tryz.prog 54 #[.int .i64 n] w fun e w' => e = .returned (.string ⟨(Lib.decDigits n.toNat).toArray⟩) ∧ Below w.heap.size w w' := by
  have hn : decide (n < 0) = false := by simp; omega
  have hdl := dec_len n.toNat (by omega)
  go_enter Tryz.func54, Tryz.ntmps54
  go_wp2_with fail
  have H1 := Lib.hid h1
  have HL := Lib.hid hdl
  clear h1 hdl
  go_loopw [3, 4] (fun u s wr => ∃ (x : Int) (t : List UInt8), u = .int .u64 x ∧ s = .string ⟨t.toArray⟩ ∧ 0 ≤ x ∧ Hid (x ≤ 9223372036854775807) ∧ Hid (Lib.decDigits n.toNat = Lib.decDigits x.toNat ++ t) ∧ Below w.heap.size w wr) (fun u _ _ => (intOf u).toNat)
  case atStart => exact ⟨n, [], rfl, rfl, h0, H1, Lib.hid (by simp), Below.refl _ _⟩
  case round =>
    obtain ⟨x, t, rfl, rfl, h0x, hk, hd, hb⟩ := hrel
    have htl : t.length ≤ 19 := by have := congrArg List.length hd.out; rw [List.length_append] at this; have := HL.out; omega
    by_cases h9 : 9 < x
    · have hcv := conv_one wr (48 + x % 10) (by omega) (by omega)
      have hq : Hid (IntKind.u64.wrap (x.tdiv 10) = x / 10) := Lib.hid (IntWalk.u64_quo x 10 ⟨h0x, by have := hk.out; omega, by omega⟩)
      go_wp2
      go_roundw
      case rel =>
        refine ⟨x / 10, UInt8.ofNat (48 + x % 10).toNat :: t, by rw [hq.out], ?_, by omega, Lib.hid (by have := hk.out; omega), Lib.hid ?_, hb.alloc (by have := hb.size; omega) _⟩
        · exact congrArg Value.string (str_cat (a := [UInt8.ofNat (48 + x % 10).toNat]) rfl)
        · rw [hd.out, Lib.decDigits, dif_neg (by omega), show (48 + x % 10).toNat = 48 + x.toNat % 10 by omega, show (x / 10).toNat = x.toNat / 10 by omega]
          simp
      case measure => rw [hq.out]; simp [intOf]; omega
    · have hcv := conv_one wr (48 + x) (by omega) (by omega)
      go_wp2
      go_ret
      refine retB (congrArg Value.string (str_cat (a := [UInt8.ofNat (48 + x).toNat]) (b := t) (c := Lib.decDigits n.toNat) ?_)) (hb.alloc (by have := hb.size; omega) _)
      rw [hd.out, Lib.decDigits, dif_pos (by omega), show (48 + x).toNat = 48 + x.toNat by omega]

/-- What the reference's Number answers. -/
def numF (l : List UInt8) : Int := if l.length ≤ 9 ∧ Lib.decDigits (valOf l) = l then valOf l else -1

theorem strEq {a : ByteArray} {l : List UInt8} : a = ⟨l.toArray⟩ ↔ a.data.toList = l := by
  constructor
  · rintro rfl; rfl
  · rintro rfl; rfl

theorem take_val (s : ByteArray) (k : Nat) (h : k < s.size) : valOf (s.data.toList.take (k + 1)) = valOf (s.data.toList.take k) * 10 + (s[k].toNat - 48) := by
  have : s.data.toList.take (k + 1) = s.data.toList.take k ++ [s[k]] := by rw [List.take_succ_eq_append_getElem (by simpa using h)]; rfl
  rw [this, valOf, valFrom_snoc, valOf]

theorem valFrom_lt : ∀ (l : List UInt8) (a : Nat), (∀ c ∈ l, digit c) → valFrom a l < (a + 1) * 10 ^ l.length
  | [], a, _ => by simp [valFrom]
  | c :: r, a, h => by
    have h2 := h c (by simp)
    unfold digit at h2
    have h1 := valFrom_lt r (a * 10 + (c.toNat - 48)) (fun x hx => h x (by simp [hx]))
    rw [valFrom_cons, List.length_cons, Nat.pow_succ, Nat.mul_comm (10 ^ r.length) 10, ← Nat.mul_assoc]
    exact Nat.lt_of_lt_of_le h1 (Nat.mul_le_mul_right (10 ^ r.length) (show a * 10 + (c.toNat - 48) + 1 ≤ (a + 1) * 10 by omega))
theorem val_lt (l : List UInt8) (h : ∀ c ∈ l, digit c) : valOf l < 10 ^ l.length := by
  have := valFrom_lt l 0 h
  simpa [valOf] using this
theorem numF_bad {l : List UInt8} {c : UInt8} (hc : c ∈ l) (h : ¬ digit c) : numF l = -1 := by
  unfold numF
  rw [if_neg]
  rintro ⟨_, e⟩
  exact h (dec_digits (valOf l) c (by rw [e]; exact hc))
theorem dec_len_le : ∀ (k n : Nat), n < 10 ^ k → 1 ≤ k → (Lib.decDigits n).length ≤ k := by
  intro k
  induction k with
  | zero => intro n _ h; omega
  | succ k ih =>
    intro n hn _
    rw [Lib.decDigits_length]
    by_cases h : n < 10
    · rw [Lib.nDigits_small h]; omega
    · rw [Lib.nDigits_big h]
      by_cases hk : k = 0
      · subst hk; omega
      · have := ih (n / 10) (by rw [Nat.pow_succ] at hn; omega) (by omega)
        rw [Lib.decDigits_length] at this; omega
/-- What is left to ask behind the loop. -/
theorem numF_end {l : List UInt8} {k : Nat} (hk : k ≤ l.length) (h : k = l.length ∨ k = 9) (h9 : k ≤ 9) (hd : ∀ c ∈ l.take k, digit c) :
    numF l = if Lib.decDigits (valOf (l.take k)) = l then (valOf (l.take k) : Int) else -1 := by
  by_cases he : k = l.length
  · subst he
    rw [List.take_length]
    unfold numF
    by_cases e : Lib.decDigits (valOf l) = l
    · rw [if_pos ⟨h9, e⟩, if_pos e]
    · rw [if_neg (fun x => e x.2), if_neg e]
  · have h9' : k = 9 := by omega
    subst h9'
    unfold numF
    rw [if_neg (by omega), if_neg]
    intro e
    have h1 := val_lt _ hd
    have h2 : (l.take 9).length = 9 := by rw [List.length_take]; omega
    rw [h2] at h1
    have h3 := dec_len_le 9 _ h1 (by omega)
    rw [e] at h3
    omega
theorem num_yes {s : ByteArray} {m : Nat} (h : numF s.data.toList = if Lib.decDigits m = s.data.toList then (m : Int) else -1) (hb : (!Lib.decDigits m == s.toList) = false) : Value.int .i64 m = Value.int .i64 (numF s.data.toList) := by
  rw [h, if_pos]
  rw [ByteArray.toList_eq] at hb
  simpa using hb
theorem num_no {s : ByteArray} {m : Nat} (h : numF s.data.toList = if Lib.decDigits m = s.data.toList then (m : Int) else -1) (hb : (!Lib.decDigits m == s.toList) = true) : Value.int .i64 (-1) = Value.int .i64 (numF s.data.toList) := by
  rw [h, if_neg]
  rw [ByteArray.toList_eq] at hb
  simpa using hb
theorem mem_take_at (s : ByteArray) (k : Nat) (h : k < s.size) : s[k] ∈ s.data.toList := by
  show s.data[k] ∈ s.data.toList
  simp
theorem digits_take (s : ByteArray) (k : Nat) (h : k < s.size) (hd : ∀ c ∈ s.data.toList.take k, digit c) (h2 : digit s[k]) : ∀ c ∈ s.data.toList.take (k + 1), digit c := by
  have : s.data.toList.take (k + 1) = s.data.toList.take k ++ [s[k]] := by rw [List.take_succ_eq_append_getElem (by simpa using h)]; rfl
  rw [this]
  intro c hc
  rw [List.mem_append, List.mem_singleton] at hc
  rcases hc with hc | rfl
  · exact hd c hc
  · exact h2

set_option maxHeartbeats 1000000 in
set_option maxRecDepth 100000 in
theorem number_any (s : ByteArray) (w : World) (hs : s.size ≤ 140737488351232) :
    Calls Tryz.prog 31 #[.string s] w fun e w' => e = .returned (.int .i64 (numF s.data.toList)) ∧ Below w.heap.size w w' := by
  go_enter Tryz.func31, Tryz.ntmps31
  go_wp2_with fail
  go_loop [3, 4] (fun n i => ∃ k : Nat, k ≤ s.size ∧ k ≤ 9 ∧ i = .int .i64 k ∧ n = .int .i64 (valOf (s.data.toList.take k)) ∧ Hid (∀ c ∈ s.data.toList.take k, digit c)) (fun _ i => s.size - (intOf i).toNat)
  case atStart => exact ⟨0, Nat.zero_le _, Nat.zero_le _, rfl, rfl, Lib.hid (by simp)⟩
  case round =>
    obtain ⟨k, hk, hk9, rfl, rfl, hd⟩ := hrel
    have hv := val_lt _ hd.out
    have hp : (10 : Nat) ^ (s.data.toList.take k).length ≤ 10 ^ 9 := Nat.pow_le_pow_right (by omega) (by rw [List.length_take]; omega)
    have hv9 : valOf (s.data.toList.take k) < 1000000000 := by omega
    clear hv hp
    have hvn : 0 ≤ (valOf (s.data.toList.take k) : Int) := by omega
    by_cases hlt : k < s.size
    · by_cases h9 : k < 9
      · have hts := Lib.hid (take_val s k hlt)
        generalize valOf (s.data.toList.take k) = m at *
        by_cases hdg : digit s[k]
        · have HD := Lib.hid (digits_take s k hlt hd.out hdg)
          have hg1 : 48 ≤ (s[k].toNat : Int) := by have := hdg.1; omega
          have hg2 : (s[k].toNat : Int) ≤ 57 := by have := hdg.2; omega
          clear hdg
          go_wp2
          go_round
          case rel => exact ⟨k + 1, by omega, by omega, by go_num, by rw [hts.out]; congr 1; omega, HD⟩
          case measure => simp [intOf]; omega
        · have HN := Lib.hid (numF_bad (mem_take_at s k hlt) hdg)
          by_cases hg : (s[k].toNat : Int) < 48
          · clear hdg
            go_wp2
            go_ret
            exact retB (by rw [HN.out]; rfl) (Below.refl _ _)
          · have hg2 : 57 < (s[k].toNat : Int) := by unfold digit at hdg; omega
            clear hdg
            go_wp2
            go_ret
            exact retB (by rw [HN.out]; rfl) (Below.refl _ _)
      · obtain rfl : k = 9 := by omega
        have HN := Lib.hid (numF_end (l := s.data.toList) (k := 9) (by simpa using hk) (.inr rfl) (by omega) hd.out)
        generalize valOf (s.data.toList.take 9) = m at *
        go_wp2_with (go_at_call 54; refine (num_any m _ hvn (by omega)).mono ?_; rintro e w1 ⟨rfl, hb⟩)
        all_goals first
          | (have h : (!Lib.decDigits m == s.toList) = false := by assumption
             go_ret
             exact retB (num_yes HN.out h) hb)
          | (have h : (!Lib.decDigits m == s.toList) = true := by assumption
             go_ret
             exact retB (num_no HN.out h) hb)
    · have hke : k = s.size := by omega
      have HN := Lib.hid (numF_end (l := s.data.toList) (k := k) (by simpa using hk) (.inl (by simpa using hke)) (by omega) hd.out)
      generalize valOf (s.data.toList.take k) = m at *
      go_wp2_with (go_at_call 54; refine (num_any m _ hvn (by omega)).mono ?_; rintro e w1 ⟨rfl, hb⟩)
      all_goals first
        | (have h : (!Lib.decDigits m == s.toList) = false := by assumption
           go_ret
           exact retB (num_yes HN.out h) hb)
        | (have h : (!Lib.decDigits m == s.toList) = true := by assumption
           go_ret
           exact retB (num_no HN.out h) hb)
end Go.Proofs.YtfiddoibnjildaaGreatDoor
