/- The walks of package mem: Look, Load, Swap, Holder, Lock, Unlock, plain, Read, Write. -/
import Derived.Test.YtpmhlcnnbkicaaaMemB
namespace Go.Proofs.Ytpmhlcnnbkicaaa
set_option linter.unusedSimpArgs false
set_option linter.unusedVariables false
open Go Go.RowKit

theorem has_val (g : Nat) (F : Nat → Prop) (m : M) (i : Int) (b : Bool) (w : World) (h : Mem w g F m) (hb : m.has i = b) :
    Calls Try.prog 72 #[.pointer (some ⟨g, 0, none⟩), .int .i64 i] w fun e w' => e = .returned (.bool b) ∧ w' = w := by
  rw [← hb]; exact has_any' g F m i w h

theorem M.has_nat {m : M} {i : Int} (h : m.has i = true) : ∃ j : Nat, i = j ∧ j < m.W.length := by
  simp only [M.has, decide_eq_true_eq] at h
  obtain ⟨j, rfl⟩ := Int.eq_ofNat_of_zero_le h.1
  exact ⟨j, rfl, by omega⟩
theorem M.hasL_nat {m : M} {i : Int} (h : m.hasL i = true) : ∃ j : Nat, i = j ∧ j < m.L.length := by
  simp only [M.hasL, decide_eq_true_eq] at h
  obtain ⟨j, rfl⟩ := Int.eq_ofNat_of_zero_le h.1
  exact ⟨j, rfl, by omega⟩

set_option maxHeartbeats 1000000 in
theorem look_any (g : Nat) (F : Nat → Prop) (m : M) (i : Int) (w : World) (h : Mem w g F m) (hs : m.small) :
    Calls Try.prog 54 #[.pointer (some ⟨g, 0, none⟩), .int .i64 i] w fun e w' => e = .returned (.int .u64 (m.look i)) ∧ w' = w := by
  cases hh : m.has i with
  | false =>
    have hv : m.look i = 0 := by simp [M.look, hh]
    have H := Lib.hid h
    have HV := Lib.hid hv
    have HH := Lib.hid hh
    clear h hv hh
    go_enter Try.func54, Try.ntmps54
    go_wp2_with (go_at_call 72; refine (has_val g F m i false _ H.out HH.out).mono ?_; rintro e w' ⟨rfl, rfl⟩)
    go_ret
    exact ⟨by rw [HV.out]; rfl, rfl⟩
  | true =>
    obtain ⟨j, rfl, hj⟩ := M.has_nat hh
    obtain ⟨x, ex⟩ : ∃ x, m.W.getD j 0 = x := ⟨_, rfl⟩
    have hv : m.look j = x := by rw [← ex]; simp [M.look, hh]
    have hsm := hs.1
    have H := Lib.hid h
    have HV := Lib.hid hv
    have HH := Lib.hid hh
    obtain ⟨a, c, hc, hx⟩ := h.words
    obtain ⟨b, rfl, _, hcb, _⟩ := hx j hj
    rw [ex] at hcb
    clear h hv hh hx hs ex
    go_enter Try.func54, Try.ntmps54
    go_wp2_with (go_at_call 72; refine (has_val g F m j true _ H.out HH.out).mono ?_; rintro e w' ⟨rfl, rfl⟩)
    go_ret
    exact ⟨by rw [HV.out]; rfl, rfl⟩

set_option maxHeartbeats 1000000 in
theorem load_any (g : Nat) (F : Nat → Prop) (m : M) (t i : Int) (w : World) (h : Mem w g F m) (hs : m.small) :
    Calls Try.prog 40 #[.pointer (some ⟨g, 0, none⟩), .int .i64 t, .int .i64 i] w (MemPost w g F (.int .u64 (m.look i)) (m.load t i)) := by
  cases hh : m.has i with
  | false =>
    have hv : MemPost w g F (.int .u64 (m.look i)) (m.load t i) (.returned (.int .u64 0)) w := by
      have e1 : m.look i = 0 := by simp [M.look, hh]
      have e2 : m.load t i = m := by simp [M.load, hh]
      rw [e1, e2]; exact memPost_same h
    have H := Lib.hid h
    have HV := Lib.hid hv
    have HH := Lib.hid hh
    clear h hv hh
    go_enter Try.func40, Try.ntmps40
    go_wp2_with (go_at_call 72; refine (has_val g F m i false _ H.out HH.out).mono ?_; rintro e w' ⟨rfl, rfl⟩)
    go_ret
    exact HV.out
  | true =>
    obtain ⟨j, rfl, hj⟩ := M.has_nat hh
    obtain ⟨x, ex⟩ : ∃ x, m.W.getD j 0 = x := ⟨_, rfl⟩
    have hv : ∀ e w1, MemPost w g F (.tuple #[]) (m.note t 3 (3 * j)) e w1 → MemPost w g F (.int .u64 (m.look j)) (m.load t j) (.returned (.int .u64 x)) w1 := fun e w1 hp => by
      have e1 : m.look j = x := by rw [← ex]; simp [M.look, hh]
      have e2 : m.load t j = m.note t 3 (3 * j) := by simp [M.load, hh]
      rw [e1, e2]
      exact hp.then fun F' hm' _ => memPost_same hm'
    have hsm := hs.1
    have H := Lib.hid h
    have HV := Lib.hid hv
    have HH := Lib.hid hh
    have HS := Lib.hid hs
    clear h hv hh hs
    go_enter Try.func40, Try.ntmps40
    go_wp2_with (go_at_call 72; refine (has_val g F m j true _ H.out HH.out).mono ?_; rintro e w' ⟨rfl, rfl⟩)
    refine (noteM g F m t 3 (3 * j) _ H.out HS.out).mono ?_
    intro e w1 hp
    have hp' := hp
    obtain ⟨rfl, F', hm', ht, hx⟩ := hp
    have HP := Lib.hid hp'
    clear hp' ht hx
    obtain ⟨a, c, hc, hx⟩ := hm'.words
    obtain ⟨b, rfl, _, hcb, _⟩ := hx j hj
    clear hx hm'
    simp only [M.note] at hc hcb
    rw [ex] at hcb
    clear ex
    go_wp2
    go_ret
    exact HV.out _ _ HP.out

theorem beq_t {a b : Int} (h : a = b) : (a == b) = true ∧ (a != b) = false := by subst h; simp
theorem beq_f {a b : Int} (h : a ≠ b) : (a == b) = false ∧ (a != b) = true := by simp [h]

/-- A word or a mutex of the memory is written. -/
theorem Mem.setW {w : World} {g : Nat} {F : Nat → Prop} {m : M} (h : Mem w g F m) {j b : Nat} {a : Option Addr} {c : Nat} (hc : w.cell? ⟨g, 0, none⟩ = some (.slice a m.W.length c)) (ha : a = some ⟨b, 0, none⟩) (hj : j < m.W.length) (x : Int) :
    Mem (w.setCell ⟨b, j, none⟩ (.int .u64 x)) g F { m with W := m.W.set j x } := by
  obtain ⟨vw, vl, vg, hm, rfl⟩ := h
  obtain ⟨a1, a2, a3⟩ := hm.apart
  have e : vw = .slice a m.W.length c := Option.some.inj (hm.cells.1.symm.trans hc)
  have hb : vw.ownBlock = some b := by rw [e, ha]; rfl
  have keep : ∀ {i}, i ≠ b → (w.setCell ⟨b, j, none⟩ (.int .u64 x)).heap[i]? = w.heap[i]? := fun hi => Below.heap_setCell _ _ _ _ hi
  refine ⟨vw, vl, vg, ⟨(keep (a1 b hb).1.symm).trans hm.blk, ?_, row_of_block hm.locks (fun b' hb' => keep (fun e => by subst e; exact (a1 _ hb).2.1 hb')), row_of_block hm.log (fun b' hb' => keep (fun e => by subst e; exact (a1 _ hb).2.2 hb'))⟩, rfl⟩
  have := row_set hm.words hb j (.int .u64 x) (by simpa using hj)
  simpa [List.map_set] using this
theorem Mem.setL {w : World} {g : Nat} {F : Nat → Prop} {m : M} (h : Mem w g F m) {j b : Nat} {a : Option Addr} {c : Nat} (hc : w.cell? ⟨g, 1, none⟩ = some (.slice a m.L.length c)) (ha : a = some ⟨b, 0, none⟩) (hj : j < m.L.length) (x : Int) :
    Mem (w.setCell ⟨b, j, none⟩ (.int .i64 x)) g F { m with L := m.L.set j x } := by
  obtain ⟨vw, vl, vg, hm, rfl⟩ := h
  obtain ⟨a1, a2, a3⟩ := hm.apart
  have e : vl = .slice a m.L.length c := Option.some.inj (hm.cells.2.1.symm.trans hc)
  have hb : vl.ownBlock = some b := by rw [e, ha]; rfl
  have keep : ∀ {i}, i ≠ b → (w.setCell ⟨b, j, none⟩ (.int .i64 x)).heap[i]? = w.heap[i]? := fun hi => Below.heap_setCell _ _ _ _ hi
  refine ⟨vw, vl, vg, ⟨(keep (a2 b hb).1.symm).trans hm.blk, row_of_block hm.words (fun b' hb' => keep (fun e => by subst e; exact (a1 _ hb').2.1 hb)), ?_, row_of_block hm.log (fun b' hb' => keep (fun e => by subst e; exact (a2 _ hb).2 hb'))⟩, rfl⟩
  have := row_set hm.locks hb j (.int .i64 x) (by simpa using hj)
  simpa [List.map_set] using this

theorem memPost_set {w w1 : World} {g b : Nat} {F : Nat → Prop} {r r' : Value} {m m' : M} {e : Ending} {v : Value} {j : Nat} (h : MemPost w g F r m e w1)
    (k : ∀ F', Mem w1 g F' m → F' b ∧ Mem (w1.setCell ⟨b, j, none⟩ v) g F' m') : MemPost w g F r' m' (.returned r') (w1.setCell ⟨b, j, none⟩ v) :=
  h.then fun F' hm ht => ⟨rfl, F', (k F' hm).2, (Turn.refl _ _).setCell _ _ (.inl (k F' hm).1), Ext.refl _ _⟩

set_option maxHeartbeats 1000000 in
theorem holder_any (g : Nat) (F : Nat → Prop) (m : M) (i : Int) (w : World) (h : Mem w g F m) (hs : m.small) :
    Calls Try.prog 38 #[.pointer (some ⟨g, 0, none⟩), .int .i64 i] w fun e w' => e = .returned (.int .i64 (m.holder i)) ∧ w' = w := by
  have hsm := hs.2.1
  cases hh : m.hasL i with
  | false =>
    have hv : m.holder i = -1 := by simp [M.holder, hh]
    have HV := Lib.hid hv
    obtain ⟨a, c, hc, hx⟩ := h.locks
    simp only [M.hasL, decide_eq_false_iff_not] at hh
    clear h hv hx hs
    go_enter Try.func38, Try.ntmps38
    by_cases h0 : i < 0
    · go_wp2
      go_ret
      exact ⟨by rw [HV.out]; rfl, rfl⟩
    · have h1 : (m.L.length : Int) ≤ i := by omega
      go_wp2
      go_ret
      exact ⟨by rw [HV.out]; rfl, rfl⟩
  | true =>
    obtain ⟨j, rfl, hj⟩ := M.hasL_nat hh
    obtain ⟨x, ex⟩ : ∃ x, m.L.getD j 0 = x := ⟨_, rfl⟩
    have hv : m.holder j = x := by rw [← ex]; simp [M.holder, hh]
    have HV := Lib.hid hv
    obtain ⟨a, c, hc, hx⟩ := h.locks
    obtain ⟨b, rfl, _, hcb, _⟩ := hx j hj
    rw [ex] at hcb
    clear h hv hh hx hs ex
    go_enter Try.func38, Try.ntmps38
    go_wp2
    go_ret
    exact ⟨by rw [HV.out]; rfl, rfl⟩

set_option maxHeartbeats 2000000 in
theorem swap_any (g : Nat) (F : Nat → Prop) (m : M) (t i old now : Int) (w : World) (h : Mem w g F m) (hs : m.small) :
    Calls Try.prog 41 #[.pointer (some ⟨g, 0, none⟩), .int .i64 t, .int .i64 i, .int .u64 old, .int .u64 now] w (MemPost w g F (.bool (m.swapOk i old)) (m.swap t i old now)) := by
  cases hh : m.has i with
  | false =>
    have hv : MemPost w g F (.bool (m.swapOk i old)) (m.swap t i old now) (.returned (.bool false)) w := by
      have e1 : m.swapOk i old = false := by simp [M.swapOk, hh]
      have e2 : m.swap t i old now = m := by simp [M.swap, hh]
      rw [e1, e2]; exact memPost_same h
    have H := Lib.hid h
    have HV := Lib.hid hv
    have HH := Lib.hid hh
    clear h hv hh
    go_enter Try.func41, Try.ntmps41
    go_wp2_with (go_at_call 72; refine (has_val g F m i false _ H.out HH.out).mono ?_; rintro e w' ⟨rfl, rfl⟩)
    go_ret
    exact HV.out
  | true =>
    obtain ⟨j, rfl, hj⟩ := M.has_nat hh
    obtain ⟨x, ex⟩ : ∃ x, m.W.getD j 0 = x := ⟨_, rfl⟩
    have hsm := hs.1
    have H := Lib.hid h
    have HH := Lib.hid hh
    have HS := Lib.hid hs
    obtain ⟨a, c, hc, hx⟩ := h.words
    obtain ⟨b, rfl, _, hcb, _⟩ := hx j hj
    rw [ex] at hcb
    by_cases hxo : x = old
    · have hv : ∀ e w1 b c, MemPost w g F (.tuple #[]) (m.note t 4 (3 * j)) e w1 → w1.cell? ⟨g, 0, none⟩ = some (.slice (some ⟨b, 0, none⟩) m.W.length c) → MemPost w g F (.bool (m.swapOk j old)) (m.swap t j old now) (.returned (.bool true)) (w1.setCell ⟨b, j, none⟩ (.int .u64 now)) := fun e w1 b c hp hc1 => by
        have e1 : m.swapOk j old = true := by simp only [M.swapOk, hh, Int.toNat_natCast, ex]; simp [hxo]
        have e2 : m.swap t j old now = { (m.note t 4 (3 * j)) with W := m.W.set j now } := by simp only [M.swap, hh, if_true, Int.toNat_natCast, ex]; rw [if_pos hxo]
        rw [e1, e2]
        refine memPost_set hp fun F' hm => ⟨?_, Mem.setW hm (m := m.note t 4 (3 * j)) hc1 rfl hj now⟩
        obtain ⟨a', c', hc', hx'⟩ := hm.words
        obtain ⟨b', e', hF, _⟩ := hx' j hj
        rw [hc'] at hc1
        cases hc1
        cases e'
        exact hF
      have HV := Lib.hid hv
      obtain ⟨q1, q2⟩ := beq_t hxo
      clear h hv hh hs hx ex hxo
      go_enter Try.func41, Try.ntmps41
      go_wp2_with (go_at_call 72; refine (has_val g F m j true _ H.out HH.out).mono ?_; rintro e w' ⟨rfl, rfl⟩)
      refine (noteM g F m t 4 (3 * j) _ H.out HS.out).mono ?_
      intro e w1 hp
      have hp' := hp
      obtain ⟨rfl, F', hm', ht, hx⟩ := hp
      have HP := Lib.hid hp'
      clear hp' ht
      clear hc hcb
      obtain ⟨a, c, hc, hx⟩ := hm'.words
      obtain ⟨b, rfl, _, hcb, hfz⟩ := hx j hj
      clear hx hm'
      simp only [M.note] at hc hcb
      go_wp2
      go_ret
      exact HV.out _ _ _ _ HP.out hc
    · have hv : ∀ e w1, MemPost w g F (.tuple #[]) (m.note t 3 (3 * j)) e w1 → MemPost w g F (.bool (m.swapOk j old)) (m.swap t j old now) (.returned (.bool false)) w1 := fun e w1 hp => by
        have e1 : m.swapOk j old = false := by simp only [M.swapOk, hh, Int.toNat_natCast, ex]; simp [hxo]
        have e2 : m.swap t j old now = m.note t 3 (3 * j) := by simp only [M.swap, hh, if_true, Int.toNat_natCast, ex]; rw [if_neg hxo]
        rw [e1, e2]
        exact hp.then fun F' hm' _ => memPost_same hm'
      have HV := Lib.hid hv
      obtain ⟨q1, q2⟩ := beq_f hxo
      clear h hv hh hs hx ex hxo
      go_enter Try.func41, Try.ntmps41
      go_wp2_with (go_at_call 72; refine (has_val g F m j true _ H.out HH.out).mono ?_; rintro e w' ⟨rfl, rfl⟩)
      refine (noteM g F m t 3 (3 * j) _ H.out HS.out).mono ?_
      intro e w1 hp
      have hp' := hp
      obtain ⟨rfl, F', hm', ht, hx⟩ := hp
      have HP := Lib.hid hp'
      clear hp' ht hx hm'
      go_wp2
      go_ret
      exact HV.out _ _ HP.out

set_option maxHeartbeats 2000000 in
theorem lock_any (g : Nat) (F : Nat → Prop) (m : M) (t i : Int) (w : World) (h : Mem w g F m) (hs : m.small) :
    Calls Try.prog 35 #[.pointer (some ⟨g, 0, none⟩), .int .i64 t, .int .i64 i] w (MemPost w g F (.bool (m.lockOk t i)) (m.lock t i)) := by
  have hsm := hs.2.1
  have same : m.lockOk t i = false → MemPost w g F (.bool (m.lockOk t i)) (m.lock t i) (.returned (.bool false)) w := fun e1 => by
    have e2 : m.lock t i = m := by simp [M.lock, e1]
    rw [e1, e2]; exact memPost_same h
  obtain ⟨a, c, hc, hx⟩ := h.locks
  cases hh : m.hasL i with
  | false =>
    have HV := Lib.hid (same (by simp [M.lockOk, hh]))
    simp only [M.hasL, decide_eq_false_iff_not] at hh
    clear h hx hs same
    go_enter Try.func35, Try.ntmps35
    by_cases h0 : i < 0
    · go_wp2
      go_ret
      exact HV.out
    · have h1 : (m.L.length : Int) ≤ i := by omega
      go_wp2
      go_ret
      exact HV.out
  | true =>
    obtain ⟨j, rfl, hj⟩ := M.hasL_nat hh
    obtain ⟨x, ex⟩ : ∃ x, m.L.getD j 0 = x := ⟨_, rfl⟩
    obtain ⟨b, rfl, _, hcb, hfb⟩ := hx j hj
    rw [ex] at hcb
    by_cases hx1 : x = -1
    · by_cases ht : 0 ≤ t
      · have hok : m.lockOk t j = true := by simp only [M.lockOk, hh, Int.toNat_natCast, ex]; simp [hx1, ht]
        have hS : Mem (w.setCell ⟨b, j, none⟩ (.int .i64 t)) g F { m with L := m.L.set j t } := Mem.setL h hc rfl hj t
        have hTu : F b := by
          obtain ⟨b', e', hF, _⟩ := hx j hj
          cases e'; exact hF
        have hv : ∀ e w1, MemPost (w.setCell ⟨b, j, none⟩ (.int .i64 t)) g F (.tuple #[]) ({ m with L := m.L.set j t }.note t 1 (3 * j + 1)) e w1 → MemPost w g F (.bool (m.lockOk t j)) (m.lock t j) (.returned (.bool true)) w1 := fun e w1 hp => by
          have e2 : m.lock t j = { m with L := m.L.set j t }.note t 1 (3 * j + 1) := by simp only [M.lock, hok, if_true, Int.toNat_natCast]; rfl
          rw [hok, e2]
          obtain ⟨_, F', hm', ht', hx'⟩ := hp
          have hsz : (w.setCell ⟨b, j, none⟩ (.int .i64 t)).heap.size = w.heap.size := by simp [World.setCell]
          exact ⟨rfl, F', hm', ((Turn.refl F w).setCell _ _ (.inl hTu)).trans ht' (fun i hi => .inl hi), fun i hi => by have := hx' i hi; rwa [hsz] at this⟩
        have hsm2 : { m with L := m.L.set j t }.small := ⟨hs.1, by simpa using hs.2.1, hs.2.2⟩
        have HV := Lib.hid hv
        have HS := Lib.hid hS
        have HSM := Lib.hid hsm2
        obtain ⟨q1, q2⟩ := beq_t hx1
        clear h hv hh hs hx ex hx1 same hS hTu hsm2 hok
        go_enter Try.func35, Try.ntmps35
        go_wp2_with (go_at_call 69; refine (noteM g F _ t 1 (3 * j + 1) _ HS.out HSM.out).mono ?_; intro e w1 hp; have HP := Lib.hid (HV.out e w1 hp); obtain ⟨rfl, _⟩ := hp)
        go_ret
        exact HP.out
      · have HV := Lib.hid (same (by simp only [M.lockOk, hh, Int.toNat_natCast, ex]; simp [ht]))
        obtain ⟨q1, q2⟩ := beq_t hx1
        clear h hh hs hx ex hx1 same
        go_enter Try.func35, Try.ntmps35
        go_wp2
        go_ret
        exact HV.out
    · have HV := Lib.hid (same (by simp only [M.lockOk, hh, Int.toNat_natCast, ex]; simp [hx1]))
      obtain ⟨q1, q2⟩ := beq_f hx1
      clear h hh hs hx ex hx1 same
      go_enter Try.func35, Try.ntmps35
      go_wp2
      go_ret
      exact HV.out
end Go.Proofs.Ytpmhlcnnbkicaaa
