/- The walks of package mem: Unlock, plain, Read, Write, More, Log. -/
import Derived.Test.YtpmhlcnnbkicaaaMemC
namespace Go.Proofs.Ytpmhlcnnbkicaaa
set_option linter.unusedSimpArgs false
set_option linter.unusedVariables false
open Go Go.RowKit

set_option maxHeartbeats 2000000 in
theorem unlock_any (g : Nat) (F : Nat → Prop) (m : M) (t i : Int) (w : World) (h : Mem w g F m) (hs : m.small) :
    Calls Try.prog 36 #[.pointer (some ⟨g, 0, none⟩), .int .i64 t, .int .i64 i] w (MemPost w g F (.int .i64 (m.unlockE t i)) (m.unlock t i)) := by
  have hsm := hs.2.1
  have same : ∀ x, x ≠ 0 → m.unlockE t i = x → MemPost w g F (.int .i64 (m.unlockE t i)) (m.unlock t i) (.returned (.int .i64 x)) w := fun x hx e1 => by
    have e2 : m.unlock t i = m := by simp only [M.unlock, e1]; rw [if_neg hx]
    rw [e1, e2]; exact memPost_same h
  obtain ⟨a, c, hc, hx⟩ := h.locks
  cases hh : m.hasL i with
  | false =>
    have HV := Lib.hid (same 15 (by decide) (by simp [M.unlockE, hh]))
    simp only [M.hasL, decide_eq_false_iff_not] at hh
    clear h hx hs same
    go_enter Try.func36, Try.ntmps36
    by_cases h0 : i < 0
    · go_wp2
      go_ret
      exact HV.out
    · have h1 : (m.L.length : Int) ≤ i := by omega
      go_wp2
      go_ret
      exact HV.out
  | true =>
    obtain ⟨j, rfl, hj⟩ := M.hasL_nat hh
    obtain ⟨x, ex⟩ : ∃ x, m.L.getD j 0 = x := ⟨_, rfl⟩
    obtain ⟨b, rfl, _, hcb, hfb⟩ := hx j hj
    rw [ex] at hcb
    by_cases hx1 : x = t
    · by_cases ht : 0 ≤ t
      · have hok : m.unlockE t j = 0 := by simp only [M.unlockE, hh, if_true, Int.toNat_natCast, ex]; rw [if_pos ⟨hx1, ht⟩]
        have hS : Mem (w.setCell ⟨b, j, none⟩ (.int .i64 (-1))) g F { m with L := m.L.set j (-1) } := Mem.setL h hc rfl hj (-1)
        have hTu : F b := by
          obtain ⟨b', e', hF, _⟩ := hx j hj
          cases e'; exact hF
        have hv : ∀ e w1, MemPost (w.setCell ⟨b, j, none⟩ (.int .i64 (-1))) g F (.tuple #[]) ({ m with L := m.L.set j (-1) }.note t 2 (3 * j + 1)) e w1 → MemPost w g F (.int .i64 (m.unlockE t j)) (m.unlock t j) (.returned (.int .i64 0)) w1 := fun e w1 hp => by
          have e2 : m.unlock t j = { m with L := m.L.set j (-1) }.note t 2 (3 * j + 1) := by simp only [M.unlock, hok, if_true, Int.toNat_natCast]; rfl
          rw [hok, e2]
          obtain ⟨_, F', hm', ht', hx'⟩ := hp
          have hsz : (w.setCell ⟨b, j, none⟩ (.int .i64 (-1))).heap.size = w.heap.size := by simp [World.setCell]
          exact ⟨rfl, F', hm', ((Turn.refl F w).setCell _ _ (.inl hTu)).trans ht' (fun i hi => .inl hi), fun i hi => by have := hx' i hi; rwa [hsz] at this⟩
        have hsm2 : { m with L := m.L.set j (-1) }.small := ⟨hs.1, by simpa using hs.2.1, hs.2.2⟩
        have HV := Lib.hid hv
        have HS := Lib.hid hS
        have HSM := Lib.hid hsm2
        obtain ⟨q1, q2⟩ := beq_t hx1
        clear h hv hh hs hx ex hx1 same hS hTu hsm2 hok
        go_enter Try.func36, Try.ntmps36
        go_wp2_with (go_at_call 69; refine (noteM g F _ t 2 (3 * j + 1) _ HS.out HSM.out).mono ?_; intro e w1 hp; have HP := Lib.hid (HV.out e w1 hp); obtain ⟨rfl, _⟩ := hp)
        go_ret
        exact HP.out
      · have HV := Lib.hid (same 13 (by decide) (by simp only [M.unlockE, hh, if_true, Int.toNat_natCast, ex]; rw [if_neg (fun h => ht h.2)]))
        obtain ⟨q1, q2⟩ := beq_t hx1
        clear h hh hs hx ex hx1 same
        go_enter Try.func36, Try.ntmps36
        go_wp2
        go_ret
        exact HV.out
    · have HV := Lib.hid (same 13 (by decide) (by simp only [M.unlockE, hh, if_true, Int.toNat_natCast, ex]; rw [if_neg (fun h => hx1 h.1)]))
      obtain ⟨q1, q2⟩ := beq_f hx1
      clear h hh hs hx ex hx1 same
      go_enter Try.func36, Try.ntmps36
      go_wp2
      go_ret
      exact HV.out

set_option maxHeartbeats 2000000 in
theorem plain_any (g : Nat) (F : Nat → Prop) (m : M) (t k p : Int) (w : World) (h : Mem w g F m) (hs : m.small) :
    Calls Try.prog 75 #[.pointer (some ⟨g, 0, none⟩), .int .i64 t, .int .i64 k, .int .i64 p] w (MemPost w g F (.tuple #[]) (m.touch t k p)) := by
  by_cases h0 : 0 ≤ p
  · by_cases h1 : p ≤ 1099511627776
    · have e : m.touch t k p = m.note t k (3 * p + 2) := by simp [M.touch, h0, h1]
      rw [e]
      have H := Lib.hid h
      have HS := Lib.hid hs
      clear h hs e
      go_enter Try.func75, Try.ntmps75
      go_wp2_with (go_at_call 69; refine (noteM g F m t k (3 * p + 2) _ H.out HS.out).mono ?_; intro e w1 hp; have HP := Lib.hid hp; obtain ⟨rfl, _⟩ := hp)
      go_end0
      exact HP.out
    · have e : m.touch t k p = m := by simp [M.touch, h1]
      rw [e]
      have HV := Lib.hid (memPost_same (r := .tuple #[]) h)
      clear h hs e
      have h2 : 1099511627776 < p := by omega
      go_enter Try.func75, Try.ntmps75
      go_wp2
      go_end0
      exact HV.out
  · have e : m.touch t k p = m := by simp [M.touch, h0]
    rw [e]
    have HV := Lib.hid (memPost_same (r := .tuple #[]) h)
    clear h hs e
    go_enter Try.func75, Try.ntmps75
    go_wp2
    go_end0
    exact HV.out

set_option maxHeartbeats 2000000 in
theorem read_any (g : Nat) (F : Nat → Prop) (m : M) (t p : Int) (w : World) (h : Mem w g F m) (hs : m.small) :
    Calls Try.prog 49 #[.pointer (some ⟨g, 0, none⟩), .int .i64 t, .int .i64 p] w (MemPost w g F (.tuple #[]) (m.touch t 5 p)) := by
  have H := Lib.hid h
  have HS := Lib.hid hs
  clear h hs
  go_enter Try.func49, Try.ntmps49
  go_wp2_with (go_at_call 75; refine (plain_any g F m t 5 p _ H.out HS.out).mono ?_; intro e w1 hp; have HP := Lib.hid hp; obtain ⟨rfl, _⟩ := hp)
  go_end0
  exact HP.out

set_option maxHeartbeats 2000000 in
theorem write_any (g : Nat) (F : Nat → Prop) (m : M) (t p : Int) (w : World) (h : Mem w g F m) (hs : m.small) :
    Calls Try.prog 51 #[.pointer (some ⟨g, 0, none⟩), .int .i64 t, .int .i64 p] w (MemPost w g F (.tuple #[]) (m.touch t 6 p)) := by
  have H := Lib.hid h
  have HS := Lib.hid hs
  clear h hs
  go_enter Try.func51, Try.ntmps51
  go_wp2_with (go_at_call 75; refine (plain_any g F m t 6 p _ H.out HS.out).mono ?_; intro e w1 hp; have HP := Lib.hid hp; obtain ⟨rfl, _⟩ := hp)
  go_end0
  exact HP.out

theorem u64Info : (Try.prog.info? 51).map (fun i => (i.zero, i.size, i.bytes)) = some (some (.int .u64 0), 1, 8) := by kernel_rfl

/-- A word more. -/
theorem more_end {w w1 : World} {g : Nat} {vw vl vg v' : Value} {W L : List Int} {Lg : List Acc} {o : Obj} {x : Int} (h : MemAt w g vw vl vg W L Lg) (hg : (w.alloc o).grownBy w1 vw.ownBlock)
    (hown : w1.ownsRow 0 51 1 v' (W.length + 1) (W.map (.int .u64) ++ [.int .u64 x])) (hloc : v'.ownBlock = vw.ownBlock ∨ v'.ownBlock = some (w.alloc o).heap.size) :
    MemAt (w1.setCell ⟨g, 0, none⟩ v') g v' vl vg (W ++ [x]) L Lg ∧ Turn (fun i => i = g ∨ vw.ownBlock = some i) w (w1.setCell ⟨g, 0, none⟩ v') ∧ (∀ b, v'.ownBlock = some b → vw.ownBlock = some b ∨ w.heap.size ≤ b) := by
  obtain ⟨a1, a2, a3⟩ := h.apart
  have hsz : (w.alloc o).heap.size = w.heap.size + 1 := by simp
  have hlt := h.lt
  have hblk : w1.heap[g]? = some (.cells #[vw, vl, vg] 98 (0, 0)) := by
    rw [hg.block g (by omega) (fun e => (a1 g e.symm).1 rfl), Below.heap_alloc w o g h.lt]
    exact h.blk
  have T1 : Turn (fun i => i = g ∨ vw.ownBlock = some i) w w1 := ((Turn.refl _ w).alloc o).grown hg (fun b hb => .inl (.inr hb))
  have hext : ∀ b, v'.ownBlock = some b → vw.ownBlock = some b ∨ w.heap.size ≤ b := fun b hb => by
    rcases hloc with e | e
    · exact .inl (by rw [← e]; exact hb)
    · rw [hb] at e; cases e; exact .inr (by omega)
  have keep : ∀ {b}, b ≠ g → (w1.setCell ⟨g, 0, none⟩ v').heap[b]? = w1.heap[b]? := fun hb => Below.heap_setCell _ _ _ _ hb
  refine ⟨⟨set_heap_row hblk v', ?_, ?_, ?_⟩, T1.setCell _ _ (.inl (.inl rfl)), hext⟩
  · have e1 : (W ++ [x]).length = W.length + 1 := by simp
    have e2 : (W ++ [x]).map (Value.int .u64) = W.map (Value.int .u64) ++ [Value.int .u64 x] := by simp
    rw [e1, e2]
    exact row_of_block hown (fun b hb => keep (fun e => (hext b hb).elim (fun e2 => (a1 b e2).1 e) (fun e2 => by omega)))
  · exact row_of_block (row_turn h.locks T1 (fun b hb hh => hh.elim (a2 b hb).1 (fun e => (a1 b e).2.1 hb))) (fun b hb => keep (a2 b hb).1)
  · exact row_of_block (row_turn h.log T1 (fun b hb hh => hh.elim (a3 b hb) (fun e => (a1 b e).2.2 hb))) (fun b hb => keep (a3 b hb))

set_option maxHeartbeats 2000000 in
set_option maxRecDepth 100000 in
theorem more_any (g : Nat) (F : Nat → Prop) (m : M) (x : Int) (w : World) (h : Mem w g F m) (hs : m.small) :
    Calls Try.prog 43 #[.pointer (some ⟨g, 0, none⟩), .int .u64 x] w (MemPost w g F (.int .i64 m.W.length) (m.more x)) := by
  obtain ⟨vw, vl, vg, hm, rfl⟩ := h
  have hsm := hs.1
  obtain ⟨c0, c1, c2, hfz⟩ := hm.cells
  obtain ⟨i0, hi, hz0, hz1, hz2⟩ := info_parts u64Info
  have H := Lib.hid hm
  have hown : Row (w.alloc (.cells #[.int .u64 x] 51)) 51 1 vw m.W.length (m.W.map (.int .u64)) := H.out.words.alloc _
  clear hm hfz
  go_enter Try.func43, Try.ntmps43
  go_wp2_with (at_builtin; refine wpList_append_own_at _ rfl _ _ 74 rfl 0 51 i0 (.int .u64 0) 1 8 Try.underlying74 hi hz0 hz1 hz2 rfl (by decide) _ _ _ rfl hown ⟨w.heap.size, 0, none⟩ 1 1 [.int .u64 x] rfl rfl (cells_new _ [.int .u64 x] _) (by intro u hu; simp at hu; subst hu; rfl) (by unfold maxLen; omega) (by omega) (Nat.zero_le _) ?_; intro v' w1 hown1 hgrow _ hloc; obtain ⟨a', c', rfl, _⟩ := row_form hown1; have HE := Lib.hid (more_end H.out hgrow hown1 hloc); have HGB := Lib.hid ((hgrow.block g (by have := H.out.lt; simp; omega) (fun e => (H.out.apart.1 g e.symm).1 rfl)).trans ((Below.heap_alloc w _ g H.out.lt).trans H.out.blk)); have hfz : w1.frozen? ⟨g, 0, none⟩ = false := (by simp [World.frozen?, HGB.out]); have hc2 : w1.cell? ⟨g, 0, none⟩ = some vw := (by simp [World.cell?, HGB.out]))
  go_ret
  obtain ⟨h1, h2, h3⟩ := HE.out
  exact ⟨by simp, _, ⟨_, _, _, h1, rfl⟩, h2.mono (fun i hi => hi.elim .inl (fun hb => .inr (.inl hb))), fun i hi => by
    rcases hi with hi | hi | hi | hi
    · exact .inl (.inl hi)
    · exact (h3 i hi).imp (fun hb => .inr (.inl hb)) id
    · exact .inl (.inr (.inr (.inl hi)))
    · exact .inl (.inr (.inr (.inr hi)))⟩
end Go.Proofs.Ytpmhlcnnbkicaaa
