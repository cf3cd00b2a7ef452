/- The reference's memory: Load, Swap, Holder, Lock, Unlock, Touch. -/
import Derived.Test.YtpmhlcnnbkicaaaMemP
namespace Go.Proofs.Ytpmhlcnnbkicaaa
set_option linter.unusedSimpArgs false
set_option linter.unusedVariables false
open Go Go.RowKit

set_option maxHeartbeats 1000000 in
theorem rload_any (g : Nat) (F : Nat → Prop) (m : M) (t i : Int) (w : World) (h : RMem w g F m) (hs : m.small) :
    Calls Try.prog 45 #[.pointer (some ⟨g, 0, none⟩), .int .i64 t, .int .i64 i] w (RMemPost w g F (.int .u64 (m.look i)) (m.load t i)) := by
  have hsm := hs.1
  obtain ⟨a, c, hc, hx⟩ := h.words
  cases hh : m.has i with
  | false =>
    have hv : RMemPost w g F (.int .u64 (m.look i)) (m.load t i) (.returned (.int .u64 0)) w := by
      have e1 : m.look i = 0 := by simp [M.look, hh]
      have e2 : m.load t i = m := by simp [M.load, hh]
      rw [e1, e2]; exact rmemPost_same h
    have HV := Lib.hid hv
    simp only [M.has, decide_eq_false_iff_not] at hh
    clear h hv hx hs
    go_enter Try.func45, Try.ntmps45
    by_cases h0 : i < 0
    · go_wp2
      go_ret
      exact HV.out
    · have h1 : (m.W.length : Int) ≤ i := by omega
      go_wp2
      go_ret
      exact HV.out
  | true =>
    obtain ⟨j, rfl, hj⟩ := M.has_nat hh
    obtain ⟨x, ex⟩ : ∃ x, m.W.getD j 0 = x := ⟨_, rfl⟩
    have hv : ∀ e w1, RMemPost w g F (.tuple #[]) (m.note t 3 (3 * j)) e w1 → RMemPost w g F (.int .u64 (m.look j)) (m.load t j) (.returned (.int .u64 x)) w1 := fun e w1 hp => by
      have e1 : m.look j = x := by rw [← ex]; simp [M.look, hh]
      have e2 : m.load t j = m.note t 3 (3 * j) := by simp [M.load, hh]
      rw [e1, e2]
      exact hp.then fun F' hm' _ => rmemPost_same hm'
    have H := Lib.hid h
    have HV := Lib.hid hv
    have HS := Lib.hid hs
    clear h hv hh hs hx
    go_enter Try.func45, Try.ntmps45
    go_wp2_with fail
    refine (say_any g F m t 3 (3 * j) _ H.out HS.out).mono ?_
    intro e w1 hp
    have hp' := hp
    obtain ⟨rfl, F', hm', ht, hx⟩ := hp
    have HP := Lib.hid hp'
    clear hp' ht hx hc
    obtain ⟨a, c, hc, hx⟩ := hm'.words
    obtain ⟨b, rfl, _, hcb, _⟩ := hx j hj
    clear hx hm'
    simp only [M.note] at hc hcb
    rw [ex] at hcb
    clear ex
    go_wp2
    go_ret
    exact HV.out _ _ HP.out

set_option maxHeartbeats 2000000 in
theorem rswap_any (g : Nat) (F : Nat → Prop) (m : M) (t i old now : Int) (w : World) (h : RMem w g F m) (hs : m.small) :
    Calls Try.prog 46 #[.pointer (some ⟨g, 0, none⟩), .int .i64 t, .int .i64 i, .int .u64 old, .int .u64 now] w (RMemPost w g F (.bool (m.swapOk i old)) (m.swap t i old now)) := by
  have hsm := hs.1
  obtain ⟨a, c, hc, hx⟩ := h.words
  cases hh : m.has i with
  | false =>
    have hv : RMemPost w g F (.bool (m.swapOk i old)) (m.swap t i old now) (.returned (.bool false)) w := by
      have e1 : m.swapOk i old = false := by simp [M.swapOk, hh]
      have e2 : m.swap t i old now = m := by simp [M.swap, hh]
      rw [e1, e2]; exact rmemPost_same h
    have HV := Lib.hid hv
    simp only [M.has, decide_eq_false_iff_not] at hh
    clear h hv hx hs
    go_enter Try.func46, Try.ntmps46
    by_cases h0 : i < 0
    · go_wp2
      go_ret
      exact HV.out
    · have h1 : (m.W.length : Int) ≤ i := by omega
      go_wp2
      go_ret
      exact HV.out
  | true =>
    obtain ⟨j, rfl, hj⟩ := M.has_nat hh
    obtain ⟨x, ex⟩ : ∃ x, m.W.getD j 0 = x := ⟨_, rfl⟩
    obtain ⟨b, rfl, hFb, hcb, hfb⟩ := hx j hj
    rw [ex] at hcb
    by_cases hxo : x = old
    · have hS : RMem (w.setCell ⟨b, j, none⟩ (.int .u64 now)) g F { m with W := m.W.set j now } := RMem.setW h hc rfl hj now
      have hv : ∀ e w1, RMemPost (w.setCell ⟨b, j, none⟩ (.int .u64 now)) g F (.tuple #[]) ({ m with W := m.W.set j now }.note t 4 (3 * j)) e w1 → RMemPost w g F (.bool (m.swapOk j old)) (m.swap t j old now) (.returned (.bool true)) w1 := fun e w1 hp => by
        have e1 : m.swapOk j old = true := by simp only [M.swapOk, hh, Int.toNat_natCast, ex]; simp [hxo]
        have e2 : m.swap t j old now = { m with W := m.W.set j now }.note t 4 (3 * j) := by simp only [M.swap, hh, if_true, Int.toNat_natCast, ex]; rw [if_pos hxo]; rfl
        rw [e1, e2]
        obtain ⟨_, F', hm', ht', hx'⟩ := hp
        have hsz : (w.setCell ⟨b, j, none⟩ (.int .u64 now)).heap.size = w.heap.size := by simp [World.setCell]
        exact ⟨rfl, F', hm', ((Turn.refl F w).setCell _ _ (.inl hFb)).trans ht' (fun i hi => .inl hi), fun i hi => by have := hx' i hi; rwa [hsz] at this⟩
      have hsm2 : { m with W := m.W.set j now }.small := ⟨by simpa using hs.1, hs.2.1, hs.2.2⟩
      have HV := Lib.hid hv
      have HS := Lib.hid hS
      have HSM := Lib.hid hsm2
      obtain ⟨q1, q2⟩ := beq_t hxo
      clear h hv hh hs hx ex hxo hS hFb hsm2
      go_enter Try.func46, Try.ntmps46
      go_wp2_with (go_at_call 74; refine (say_any g F _ t 4 (3 * j) _ HS.out HSM.out).mono ?_; intro e w1 hp; have HP := Lib.hid (HV.out e w1 hp); obtain ⟨rfl, _⟩ := hp)
      go_ret
      exact HP.out
    · have hv : ∀ e w1, RMemPost w g F (.tuple #[]) (m.note t 3 (3 * j)) e w1 → RMemPost w g F (.bool (m.swapOk j old)) (m.swap t j old now) (.returned (.bool false)) w1 := fun e w1 hp => by
        have e1 : m.swapOk j old = false := by simp only [M.swapOk, hh, Int.toNat_natCast, ex]; simp [hxo]
        have e2 : m.swap t j old now = m.note t 3 (3 * j) := by simp only [M.swap, hh, if_true, Int.toNat_natCast, ex]; rw [if_neg hxo]
        rw [e1, e2]
        exact hp.then fun F' hm' _ => rmemPost_same hm'
      have H := Lib.hid h
      have HV := Lib.hid hv
      have HSM := Lib.hid hs
      obtain ⟨q1, q2⟩ := beq_f hxo
      clear h hv hh hs hx ex hxo hFb
      go_enter Try.func46, Try.ntmps46
      go_wp2_with (go_at_call 74; refine (say_any g F _ t 3 (3 * j) _ H.out HSM.out).mono ?_; intro e w1 hp; have HP := Lib.hid (HV.out e w1 hp); obtain ⟨rfl, _⟩ := hp)
      go_ret
      exact HP.out

theorem M.held_at {m : M} (h : m.held) {j : Nat} (hj : j < m.L.length) : -1 ≤ m.L.getD j 0 ∧ m.L.getD j 0 ≤ 9223372036854775807 := by
  rw [List.getD_eq_getElem?_getD, List.getElem?_eq_getElem hj]
  exact h _ (List.getElem_mem hj)

set_option maxHeartbeats 1000000 in
theorem rholder_any (g : Nat) (F : Nat → Prop) (m : M) (i : Int) (w : World) (h : RMem w g F m) (hs : m.small) (hl : m.held) :
    Calls Try.prog 52 #[.pointer (some ⟨g, 0, none⟩), .int .i64 i] w fun e w' => e = .returned (.int .i64 (m.holder i)) ∧ w' = w := by
  have hsm := hs.2.1
  cases hh : m.hasL i with
  | false =>
    have hv : m.holder i = -1 := by simp [M.holder, hh]
    have HV := Lib.hid hv
    obtain ⟨a, c, hc, hx⟩ := h.locks
    simp only [M.hasL, decide_eq_false_iff_not] at hh
    clear h hv hx hs hl
    go_enter Try.func52, Try.ntmps52
    by_cases h0 : i < 0
    · go_wp2
      go_ret
      exact ⟨by rw [HV.out]; rfl, rfl⟩
    · have h1 : (m.L.length : Int) ≤ i := by omega
      go_wp2
      go_ret
      exact ⟨by rw [HV.out]; rfl, rfl⟩
  | true =>
    obtain ⟨j, rfl, hj⟩ := M.hasL_nat hh
    obtain ⟨b1, b2⟩ := M.held_at hl hj
    obtain ⟨a, c, hc, hx⟩ := h.locks
    obtain ⟨b, rfl, _, hcb, _⟩ := hx j hj
    obtain ⟨x, ex⟩ : ∃ x, m.L.getD j 0 = x := ⟨_, rfl⟩
    have hv : m.holder j = x := by rw [← ex]; simp [M.holder, hh]
    have HV := Lib.hid hv
    rw [ex] at hcb b1 b2
    have hw : wrap64 (wrap64 (x + 1) - 1) = x := by unfold wrap64; omega
    clear h hv hh hx hs ex hl
    go_enter Try.func52, Try.ntmps52
    go_wp2
    go_ret
    exact ⟨by rw [HV.out]; exact congrArg (fun z => Ending.returned (.int .i64 z)) hw, rfl⟩

set_option maxHeartbeats 2000000 in
theorem rtouch_any (g : Nat) (F : Nat → Prop) (m : M) (t k p : Int) (w : World) (h : RMem w g F m) (hs : m.small) :
    Calls Try.prog 50 #[.pointer (some ⟨g, 0, none⟩), .int .i64 t, .int .i64 k, .int .i64 p] w (RMemPost w g F (.tuple #[]) (m.touch t k p)) := by
  by_cases h0 : 0 ≤ p
  · by_cases h1 : p ≤ 1099511627776
    · have e : m.touch t k p = m.note t k (3 * p + 2) := by simp [M.touch, h0, h1]
      rw [e]
      have H := Lib.hid h
      have HS := Lib.hid hs
      clear h hs e
      go_enter Try.func50, Try.ntmps50
      go_wp2_with (go_at_call 74; refine (say_any g F m t k (3 * p + 2) _ H.out HS.out).mono ?_; intro e w1 hp; have HP := Lib.hid hp; obtain ⟨rfl, _⟩ := hp)
      go_end0
      exact HP.out
    · have e : m.touch t k p = m := by simp [M.touch, h1]
      rw [e]
      have HV := Lib.hid (rmemPost_same (r := .tuple #[]) h)
      clear h hs e
      have h2 : 1099511627776 < p := by omega
      go_enter Try.func50, Try.ntmps50
      go_wp2
      go_end0
      exact HV.out
  · have e : m.touch t k p = m := by simp [M.touch, h0]
    rw [e]
    have HV := Lib.hid (rmemPost_same (r := .tuple #[]) h)
    clear h hs e
    go_enter Try.func50, Try.ntmps50
    go_wp2
    go_end0
    exact HV.out
end Go.Proofs.Ytpmhlcnnbkicaaa
