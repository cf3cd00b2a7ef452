/- The reference's memory: Lock, Unlock, New. -/
import Derived.Test.YtpmhlcnnbkicaaaMemQ
namespace Go.Proofs.Ytpmhlcnnbkicaaa
set_option linter.unusedSimpArgs false
set_option linter.unusedVariables false
open Go Go.RowKit

set_option maxHeartbeats 2000000 in
theorem rlock_any (g : Nat) (F : Nat → Prop) (m : M) (t i : Int) (w : World) (h : RMem w g F m) (hs : m.small) (hl : m.held) (ht63 : t ≤ 9223372036854775807) :
    Calls Try.prog 47 #[.pointer (some ⟨g, 0, none⟩), .int .i64 t, .int .i64 i] w (RMemPost w g F (.bool (m.lockOk t i)) (m.lock t i)) := by
  have hsm := hs.2.1
  have same : m.lockOk t i = false → RMemPost w g F (.bool (m.lockOk t i)) (m.lock t i) (.returned (.bool false)) w := fun e1 => by
    have e2 : m.lock t i = m := by simp [M.lock, e1]
    rw [e1, e2]; exact rmemPost_same h
  obtain ⟨a, c, hc, hx⟩ := h.locks
  cases hh : m.hasL i with
  | false =>
    have HV := Lib.hid (same (by simp [M.lockOk, hh]))
    simp only [M.hasL, decide_eq_false_iff_not] at hh
    clear h hx hs same hl
    go_enter Try.func47, Try.ntmps47
    by_cases h0 : i < 0
    · go_wp2
      go_ret
      exact HV.out
    · have h1 : (m.L.length : Int) ≤ i := by omega
      go_wp2
      go_ret
      exact HV.out
  | true =>
    obtain ⟨j, rfl, hj⟩ := M.hasL_nat hh
    obtain ⟨b1, b2⟩ := M.held_at hl hj
    obtain ⟨x, ex⟩ : ∃ x, m.L.getD j 0 = x := ⟨_, rfl⟩
    obtain ⟨b, rfl, hTu, hcb, hfb⟩ := hx j hj
    rw [ex] at hcb b1 b2
    by_cases hx1 : x = -1
    · subst hx1
      by_cases ht : 0 ≤ t
      · have hok : m.lockOk t j = true := by simp only [M.lockOk, hh, Int.toNat_natCast, ex]; simp [ht]
        have hS : RMem (w.setCell ⟨b, j, none⟩ (.int .u64 (t + 1))) g F { m with L := m.L.set j t } := RMem.setL h hc rfl hj t (t + 1) rfl
        have hv : ∀ e w1, RMemPost (w.setCell ⟨b, j, none⟩ (.int .u64 (t + 1))) g F (.tuple #[]) ({ m with L := m.L.set j t }.note t 1 (3 * j + 1)) e w1 → RMemPost w g F (.bool (m.lockOk t j)) (m.lock t j) (.returned (.bool true)) w1 := fun e w1 hp => by
          have e2 : m.lock t j = { m with L := m.L.set j t }.note t 1 (3 * j + 1) := by simp only [M.lock, hok, if_true, Int.toNat_natCast]; rfl
          rw [hok, e2]
          obtain ⟨_, F', hm', ht', hx'⟩ := hp
          have hsz : (w.setCell ⟨b, j, none⟩ (.int .u64 (t + 1))).heap.size = w.heap.size := by simp [World.setCell]
          exact ⟨rfl, F', hm', ((Turn.refl F w).setCell _ _ (.inl hTu)).trans ht' (fun i hi => .inl hi), fun i hi => by have := hx' i hi; rwa [hsz] at this⟩
        have hsm2 : { m with L := m.L.set j t }.small := ⟨hs.1, by simpa using hs.2.1, hs.2.2⟩
        have hw1 : IntKind.u64.wrap t = t := by simp [IntKind.wrap, IntKind.bits, IntKind.signed]; omega
        have hw2 : IntKind.u64.wrap (t + 1) = t + 1 := by simp [IntKind.wrap, IntKind.bits, IntKind.signed]; omega
        have HV := Lib.hid hv
        have HS := Lib.hid hS
        have HSM := Lib.hid hsm2
        clear h hv hh hs hx ex same hS hTu hsm2 hok hl
        go_enter Try.func47, Try.ntmps47
        go_wp2_with (go_at_call 74; refine (say_any g F _ t 1 (3 * j + 1) _ HS.out HSM.out).mono ?_; intro e w1 hp; have HP := Lib.hid (HV.out e w1 hp); obtain ⟨rfl, _⟩ := hp)
        go_ret
        exact HP.out
      · have HV := Lib.hid (same (by simp only [M.lockOk, hh, Int.toNat_natCast, ex]; simp [ht]))
        clear h hh hs hx ex same hl
        go_enter Try.func47, Try.ntmps47
        go_wp2
        go_ret
        exact HV.out
    · have HV := Lib.hid (same (by simp only [M.lockOk, hh, Int.toNat_natCast, ex]; simp [hx1]))
      obtain ⟨q1, q2⟩ := beq_f (a := x + 1) (b := 0) (by omega)
      clear h hh hs hx ex hx1 same hl
      go_enter Try.func47, Try.ntmps47
      go_wp2
      go_ret
      exact HV.out

set_option maxHeartbeats 2000000 in
theorem runlock_any (g : Nat) (F : Nat → Prop) (m : M) (t i : Int) (w : World) (h : RMem w g F m) (hs : m.small) (hl : m.held) (ht63 : t ≤ 9223372036854775807) :
    Calls Try.prog 48 #[.pointer (some ⟨g, 0, none⟩), .int .i64 t, .int .i64 i] w (RMemPost w g F (.int .i64 (m.unlockE t i)) (m.unlock t i)) := by
  have hsm := hs.2.1
  have same : ∀ x, x ≠ 0 → m.unlockE t i = x → RMemPost w g F (.int .i64 (m.unlockE t i)) (m.unlock t i) (.returned (.int .i64 x)) w := fun x hx e1 => by
    have e2 : m.unlock t i = m := by simp only [M.unlock, e1]; rw [if_neg hx]
    rw [e1, e2]; exact rmemPost_same h
  obtain ⟨a, c, hc, hx⟩ := h.locks
  cases hh : m.hasL i with
  | false =>
    have HV := Lib.hid (same 15 (by decide) (by simp [M.unlockE, hh]))
    simp only [M.hasL, decide_eq_false_iff_not] at hh
    clear h hx hs same hl
    go_enter Try.func48, Try.ntmps48
    by_cases h0 : i < 0
    · go_wp2
      go_ret
      exact HV.out
    · have h1 : (m.L.length : Int) ≤ i := by omega
      go_wp2
      go_ret
      exact HV.out
  | true =>
    obtain ⟨j, rfl, hj⟩ := M.hasL_nat hh
    obtain ⟨b1, b2⟩ := M.held_at hl hj
    obtain ⟨x, ex⟩ : ∃ x, m.L.getD j 0 = x := ⟨_, rfl⟩
    obtain ⟨b, rfl, hTu, hcb, hfb⟩ := hx j hj
    rw [ex] at hcb b1 b2
    by_cases ht : 0 ≤ t
    · have hw1 : IntKind.u64.wrap t = t := by simp [IntKind.wrap, IntKind.bits, IntKind.signed]; omega
      have hw2 : IntKind.u64.wrap (t + 1) = t + 1 := by simp [IntKind.wrap, IntKind.bits, IntKind.signed]; omega
      by_cases hx1 : x = t
      · subst hx1
        have hok : m.unlockE x j = 0 := by simp only [M.unlockE, hh, if_true, Int.toNat_natCast, ex]; rw [if_pos ⟨trivial, ht⟩]
        have hS : RMem (w.setCell ⟨b, j, none⟩ (.int .u64 0)) g F { m with L := m.L.set j (-1) } := RMem.setL h hc rfl hj (-1) 0 rfl
        have hv : ∀ e w1, RMemPost (w.setCell ⟨b, j, none⟩ (.int .u64 0)) g F (.tuple #[]) ({ m with L := m.L.set j (-1) }.note x 2 (3 * j + 1)) e w1 → RMemPost w g F (.int .i64 (m.unlockE x j)) (m.unlock x j) (.returned (.int .i64 0)) w1 := fun e w1 hp => by
          have e2 : m.unlock x j = { m with L := m.L.set j (-1) }.note x 2 (3 * j + 1) := by simp only [M.unlock, hok, if_true, Int.toNat_natCast]; rfl
          rw [hok, e2]
          obtain ⟨_, F', hm', ht', hx'⟩ := hp
          have hsz : (w.setCell ⟨b, j, none⟩ (.int .u64 0)).heap.size = w.heap.size := by simp [World.setCell]
          exact ⟨rfl, F', hm', ((Turn.refl F w).setCell _ _ (.inl hTu)).trans ht' (fun i hi => .inl hi), fun i hi => by have := hx' i hi; rwa [hsz] at this⟩
        have hsm2 : { m with L := m.L.set j (-1) }.small := ⟨hs.1, by simpa using hs.2.1, hs.2.2⟩
        have HV := Lib.hid hv
        have HS := Lib.hid hS
        have HSM := Lib.hid hsm2
        clear h hv hh hs hx ex same hS hTu hsm2 hok hl
        go_enter Try.func48, Try.ntmps48
        go_wp2_with (go_at_call 74; refine (say_any g F _ x 2 (3 * j + 1) _ HS.out HSM.out).mono ?_; intro e w1 hp; have HP := Lib.hid (HV.out e w1 hp); obtain ⟨rfl, _⟩ := hp)
        go_ret
        exact HP.out
      · have HV := Lib.hid (same 13 (by decide) (by simp only [M.unlockE, hh, if_true, Int.toNat_natCast, ex]; rw [if_neg (fun h => hx1 h.1)]))
        obtain ⟨q1, q2⟩ := beq_f (a := x + 1) (b := t + 1) (by omega)
        clear h hh hs hx ex hx1 same hl
        go_enter Try.func48, Try.ntmps48
        go_wp2
        go_ret
        exact HV.out
    · have HV := Lib.hid (same 13 (by decide) (by simp only [M.unlockE, hh, if_true, Int.toNat_natCast, ex]; rw [if_neg (fun h => ht h.2)]))
      clear h hh hs hx ex same hl
      go_enter Try.func48, Try.ntmps48
      go_wp2
      go_ret
      exact HV.out

set_option maxHeartbeats 1000000 in
theorem rnear_nat (n : Int) (j : Nat) (w : World) (h : nearM n = j) :
    Calls Try.prog 73 #[.int .i64 n] w fun e w' => e = .returned (.int .i64 j) ∧ w' = w := by
  go_enter Try.func73, Try.ntmps73
  go_wp2
  all_goals
    go_ret
    exact ⟨congrArg (fun b => Ending.returned (.int .i64 b)) (by unfold nearM at h; omega), rfl⟩

def RNewPost (w : World) (m : M) (e : Ending) (w' : World) : Prop := ∃ g F, e = .returned (.pointer (some ⟨g, 0, none⟩)) ∧ RMem w' g F m ∧ Below w.heap.size w w' ∧ (∀ i, F i → w.heap.size ≤ i)

theorem rnew_close {w W : World} {words locks : Int} {a b : Nat} {vw vl : Value} (ea : nearM words = a) (eb : nearM locks = b) (hw : Row W 51 1 vw a (List.replicate a (.int .u64 0))) (hl : Row W 51 1 vl b (List.replicate b (.int .u64 0)))
    (hB : Below w.heap.size w W) (fw : ∀ i, vw.ownBlock = some i → w.heap.size ≤ i) (fl : ∀ i, vl.ownBlock = some i → w.heap.size ≤ i) (h2 : ∀ i, vw.ownBlock = some i → vl.ownBlock ≠ some i) :
    RNewPost w (newM words locks) (.returned (.pointer (some ⟨W.heap.size, 0, none⟩))) (W.alloc (.cells #[vw, vl, .slice none 0 0] 76)) := by
  refine ⟨W.heap.size, _, rfl, ⟨vw, vl, .slice none 0 0, ⟨(MapKept.heap_alloc W _).1, ?_, ?_, row_nil _ _ _, h2⟩, rfl⟩, hB.alloc hB.size _, ?_⟩
  · have : (newM words locks).W = List.replicate a 0 := by simp [newM, ea]
    rw [this]; simpa using hw.alloc _
  · have : (newM words locks).L = List.replicate b (-1) := by simp [newM, eb]
    rw [this]; simpa [lockC] using hl.alloc _
  · rintro i (rfl | h | h | h)
    · exact hB.size
    · exact fw i h
    · exact fl i h
    · cases h

theorem rnew_one {w : World} {words locks : Int} {a b : Nat} (ea : nearM words = a) (eb : nearM locks = b) (ha : a ≤ 8192) (hb : b ≤ 8192) :
    RNewPost w (newM words locks) (.returned (.pointer (some ⟨w.heap.size + 1 + 1, 0, none⟩))) (((w.alloc (.cells (madeCells #[.int .u64 0] a) 51)).alloc (.cells (madeCells #[.int .u64 0] b) 51)).alloc (.cells #[.slice (some ⟨w.heap.size, 0, none⟩) a a, .slice (some ⟨w.heap.size + 1, 0, none⟩) b b, .slice none 0 0] 76)) := by
  have hs : (w.alloc (.cells (madeCells #[.int .u64 0] a) 51)).heap.size = w.heap.size + 1 := by simp
  have hs2 : ((w.alloc (.cells (madeCells #[.int .u64 0] a) 51)).alloc (.cells (madeCells #[.int .u64 0] b) 51)).heap.size = w.heap.size + 1 + 1 := by simp
  have := rnew_close (w := w) (W := (w.alloc (.cells (madeCells #[.int .u64 0] a) 51)).alloc (.cells (madeCells #[.int .u64 0] b) 51)) (vw := .slice (some ⟨w.heap.size, 0, none⟩) a a) (vl := .slice (some ⟨w.heap.size + 1, 0, none⟩) b b) ea eb
    ((row_made w a ha).alloc _) (by rw [← hs]; exact row_made _ b hb) (((Below.refl _ w).alloc (Nat.le_refl _) _).alloc (by simp) _) (fun i e => by cases e; exact Nat.le_refl _) (fun i e => by cases e; exact Nat.le_succ _) (fun i e e2 => by have h1 : w.heap.size = i := Option.some.inj e; have h2 : w.heap.size + 1 = i := Option.some.inj e2; omega)
  rwa [hs2] at this
theorem rnew_two {w : World} {words locks : Int} {a b : Nat} (ea : nearM words = a) (eb : nearM locks = b) (ha : a ≤ 8192) (hb : b ≤ 8192) :
    RNewPost w (newM words locks) (.returned (.pointer (some ⟨w.heap.size + 1 + 1, 0, none⟩))) (((w.alloc (.cells (madeCells #[.int .u64 0] b) 51)).alloc (.cells (madeCells #[.int .u64 0] a) 51)).alloc (.cells #[.slice (some ⟨w.heap.size + 1, 0, none⟩) a a, .slice (some ⟨w.heap.size, 0, none⟩) b b, .slice none 0 0] 76)) := by
  have hs : (w.alloc (.cells (madeCells #[.int .u64 0] b) 51)).heap.size = w.heap.size + 1 := by simp
  have hs2 : ((w.alloc (.cells (madeCells #[.int .u64 0] b) 51)).alloc (.cells (madeCells #[.int .u64 0] a) 51)).heap.size = w.heap.size + 1 + 1 := by simp
  have := rnew_close (w := w) (W := (w.alloc (.cells (madeCells #[.int .u64 0] b) 51)).alloc (.cells (madeCells #[.int .u64 0] a) 51)) (vl := .slice (some ⟨w.heap.size, 0, none⟩) b b) (vw := .slice (some ⟨w.heap.size + 1, 0, none⟩) a a) ea eb
    (by rw [← hs]; exact row_made _ a ha) ((row_made w b hb).alloc _) (((Below.refl _ w).alloc (Nat.le_refl _) _).alloc (by simp) _) (fun i e => by cases e; exact Nat.le_succ _) (fun i e => by cases e; exact Nat.le_refl _) (fun i e e2 => by have h1 : w.heap.size + 1 = i := Option.some.inj e; have h2 : w.heap.size = i := Option.some.inj e2; omega)
  rwa [hs2] at this
theorem RNewPost.ofDrew {w : World} {m : M} {e : Ending} {w' : World} (h : RNewPost w.drew m e w') : RNewPost w m e w' := by
  obtain ⟨g, F, he, hm, hb, hF⟩ := h
  exact ⟨g, F, he, hm, (Below.drew (Below.refl w.heap.size w)).trans hb, hF⟩

set_option maxHeartbeats 4000000 in
set_option maxRecDepth 100000 in
theorem rnew_any (words locks : Int) (w : World) :
    Calls Try.prog 42 #[.int .i64 words, .int .i64 locks] w (RNewPost w (newM words locks)) := by
  obtain ⟨a, ea, ha⟩ := nearM_nat words
  obtain ⟨b, eb, hb⟩ := nearM_nat locks
  have EA := Lib.hid ea
  have EB := Lib.hid eb
  clear ea eb
  have hmk : ∀ (W : World) (n : Nat), n ≤ 8192 → (Instr.makeSlice 74 (.int .i64 (n : Int)) (.int .i64 (n : Int))).run Try.prog W = .ok (.slice (some ⟨W.heap.size, 0, none⟩) n n) (W.alloc (.cells (madeCells #[.int .u64 0] n) 51)) := fun W n hn => by
    obtain ⟨i0, hi, hz0, hz1, hz2⟩ := info_parts u64Info
    exact run_make_row (P := Try.prog) 74 51 i0 (.int .u64 0) Try.underlying74 hi hz0 hz1 rfl .i64 .i64 n (by rw [hz2]; omega) (by omega) W
  have hmka := fun W => hmk W a ha
  have hmkb := fun W => hmk W b hb
  clear hmk
  go_enter Try.func42, Try.ntmps42
  go_wp2_with fail
  go_region_with (first
    | (go_at_call_of 73 words; refine (rnear_nat words a _ EA.out).mono ?_; rintro e w1 ⟨rfl, rfl⟩)
    | (go_at_call_of 73 locks; refine (rnear_nat locks b _ EB.out).mono ?_; rintro e w1 ⟨rfl, rfl⟩))
  all_goals
    go_wp2
    go_ret
    first
      | exact (rnew_one EA.out EB.out ha hb).ofDrew
      | exact (rnew_two EA.out EB.out ha hb).ofDrew
      | exact rnew_one EA.out EB.out ha hb
      | trace_state
end Go.Proofs.Ytpmhlcnnbkicaaa
