/- Two memories side by side; the walk of MemPlays. -/
import Derived.Test.YtpmhlcnnbkicaaaMemR
import Derived.Test.YtpmhlcnnbkicaaaMemL
namespace Go.Proofs.Ytpmhlcnnbkicaaa
set_option linter.unusedSimpArgs false
set_option linter.unusedVariables false
open Go Go.RowKit

theorem Mem.drewN {w : World} {g : Nat} {F : Nat → Prop} {m : M} (h : Mem w g F m) (n : Nat) : Mem (w.drewN n) g F m := h.turn ((Turn.refl (fun _ => False) w).drewN n) (fun _ _ h => h)
theorem RMem.drewN {w : World} {g : Nat} {F : Nat → Prop} {m : M} (h : RMem w g F m) (n : Nat) : RMem (w.drewN n) g F m := h.turn ((Turn.refl (fun _ => False) w).drewN n) (fun _ _ h => h)

/-- Two memories made since w0, apart, and a block b besides. -/
def Two (w0 : World) (b g r : Nat) (m ρ : M) (w : World) : Prop := ∃ F G, Mem w g F m ∧ RMem w r G ρ ∧ Sep F G ∧ (∀ i, F i → w0.heap.size ≤ i) ∧ (∀ i, G i → w0.heap.size ≤ i) ∧ (b < w.heap.size ∧ ¬ F b ∧ ¬ G b) ∧ Below w0.heap.size w0 w
/-- .. with no block besides. -/
def Duo (w0 : World) (g r : Nat) (m ρ : M) (w : World) : Prop := ∃ F G, Mem w g F m ∧ RMem w r G ρ ∧ Sep F G ∧ (∀ i, F i → w0.heap.size ≤ i) ∧ (∀ i, G i → w0.heap.size ≤ i) ∧ Below w0.heap.size w0 w
theorem Two.duo {w0 w : World} {b g r : Nat} {m ρ : M} (h : Two w0 b g r m ρ w) : Duo w0 g r m ρ w := by
  obtain ⟨F, G, h1, h2, h3, h4, h5, _, h7⟩ := h
  exact ⟨F, G, h1, h2, h3, h4, h5, h7⟩
theorem Duo.below {w0 w : World} {g r : Nat} {m ρ : M} (h : Duo w0 g r m ρ w) : Below w0.heap.size w0 w := by
  obtain ⟨F, G, _, _, _, _, _, h7⟩ := h
  exact h7
theorem Duo.step {w0 w w' : World} {g r : Nat} {m ρ : M} (h : Duo w0 g r m ρ w) (k : Below w.heap.size w w') : Duo w0 g r m ρ w' := by
  obtain ⟨F, G, h1, h2, h3, h4, h5, h7⟩ := h
  exact ⟨F, G, h1.turn (Turn.of_below (F := fun _ => False) k) (fun _ _ h => h), h2.turn (Turn.of_below (F := fun _ => False) k) (fun _ _ h => h), h3, h4, h5, h7.trans (k.mono h7.size)⟩
theorem Duo.drewN {w0 w : World} {g r : Nat} {m ρ : M} (h : Duo w0 g r m ρ w) (n : Nat) : Duo w0 g r m ρ (w.drewN n) := h.step (below_drewN (Below.refl _ w) n)
theorem Duo.two {w0 w : World} {g r : Nat} {m ρ : M} (h : Duo w0 g r m ρ w) (o : Obj) : Two w0 w.heap.size g r m ρ (w.alloc o) := by
  have h' := h.step ((Below.refl _ w).alloc (Nat.le_refl _) o)
  obtain ⟨F, G, h1, h2, h3, h4, h5, h7⟩ := h
  have k : Below w.heap.size w (w.alloc o) := (Below.refl _ w).alloc (Nat.le_refl _) o
  exact ⟨F, G, h1.turn (Turn.of_below (F := fun _ => False) k) (fun _ _ h => h), h2.turn (Turn.of_below (F := fun _ => False) k) (fun _ _ h => h), h3, h4, h5, ⟨by simp, fun hf => Nat.lt_irrefl _ (h1.foot_lt _ hf), fun hf => Nat.lt_irrefl _ (h2.foot_lt _ hf)⟩, h7.trans (k.mono h7.size)⟩
theorem Two.left {w0 w : World} {b g r : Nat} {m ρ m' m2 : M} {f : FuncId} {args : Array Value} {v v' : Value} (h : Two w0 b g r m ρ w) (hc : ∀ F, Mem w g F m → Calls Try.prog f args w (MemPost w g F v m')) (hr : v = v') (hm : m' = m2) :
    Calls Try.prog f args w fun e w' => e = .returned v' ∧ Two w0 b g r m2 ρ w' ∧ w'.heap[b]? = w.heap[b]? := by
  subst hr; subst hm
  obtain ⟨F, G, h1, h2, h3, h4, h5, ⟨b1, b2, b3⟩, h7⟩ := h
  refine (hc F h1).mono ?_
  rintro e w' ⟨rfl, F', hm', ht, hx⟩
  exact ⟨rfl, ⟨F', G, hm', h2.turn ht h3.symm, h3.ext hx h2.foot_lt, hx.base h7.size h4, h5, ⟨Nat.lt_of_lt_of_le b1 ht.size, fun hf => (hx b hf).elim b2 (fun h => by omega), b3⟩, h7.trans (ht.below h7.size h4)⟩, ht.block b b1 b2⟩
theorem Two.right {w0 w : World} {b g r : Nat} {m ρ m' m2 : M} {f : FuncId} {args : Array Value} {v v' : Value} (h : Two w0 b g r m ρ w) (hc : ∀ F, RMem w r F ρ → Calls Try.prog f args w (RMemPost w r F v m')) (hr : v = v') (hm : m' = m2) :
    Calls Try.prog f args w fun e w' => e = .returned v' ∧ Two w0 b g r m m2 w' ∧ w'.heap[b]? = w.heap[b]? := by
  subst hr; subst hm
  obtain ⟨F, G, h1, h2, h3, h4, h5, ⟨b1, b2, b3⟩, h7⟩ := h
  refine (hc G h2).mono ?_
  rintro e w' ⟨rfl, G', hm', ht, hx⟩
  exact ⟨rfl, ⟨F, G', h1.turn ht h3, hm', (h3.symm.ext hx h1.foot_lt).symm, h4, hx.base h7.size h5, ⟨Nat.lt_of_lt_of_le b1 ht.size, b2, fun hf => (hx b hf).elim b3 (fun h => by omega)⟩, h7.trans (ht.below h7.size h5)⟩, ht.block b b1 b3⟩

theorem Two.drewN {w0 w : World} {b g r : Nat} {m ρ : M} (h : Two w0 b g r m ρ w) (n : Nat) : Two w0 b g r m ρ (w.drewN n) := by
  obtain ⟨F, G, h1, h2, h3, h4, h5, h6, h7⟩ := h
  exact ⟨F, G, h1.drewN n, h2.drewN n, h3, h4, h5, h6, below_drewN h7 n⟩
theorem Two.drew {w0 w : World} {b g r : Nat} {m ρ : M} (h : Two w0 b g r m ρ w) : Two w0 b g r m ρ w.drew := h.drewN 1

/-- After j rounds. -/
def PInv (j : Nat) (m : M) : Prop := m.W.length ≤ 8192 + j ∧ m.L.length ≤ 8192 ∧ m.Lg.length ≤ j ∧ m.held
theorem PInv.small {j : Nat} {m : M} (h : PInv j m) (hj : j ≤ 100) : m.small := ⟨by have := h.1; omega, by have := h.2.1; omega, by have := h.2.2.1; omega⟩
theorem pinv_new (a b : Int) : PInv 0 (newM a b) := by
  have := nearM_bd a
  have := nearM_bd b
  refine ⟨by simp [newM]; omega, by simp [newM]; omega, Nat.le_refl _, fun h hh => ?_⟩
  rw [List.eq_of_mem_replicate hh]; decide
theorem pinv_more {j : Nat} {m : M} (h : PInv j m) (x : Int) : PInv (j + 1) (m.more x) := ⟨by have := h.1; simp [M.more]; omega, h.2.1, Nat.le_succ_of_le h.2.2.1, h.2.2.2⟩
theorem pinv_note {j : Nat} {m : M} (h : PInv j m) (t k p : Int) : PInv (j + 1) (m.note t k p) := ⟨by have := h.1; simp [M.note]; omega, h.2.1, by have := h.2.2.1; simp [M.note]; omega, h.2.2.2⟩
theorem pinv_up {j : Nat} {m : M} (h : PInv j m) : PInv (j + 1) m := ⟨by have := h.1; omega, h.2.1, by have := h.2.2.1; omega, h.2.2.2⟩
theorem pinv_load {j : Nat} {m : M} (h : PInv j m) (t i : Int) : PInv (j + 1) (m.load t i) := by
  unfold M.load; split
  · exact pinv_note h _ _ _
  · exact pinv_up h
theorem pinv_touch {j : Nat} {m : M} (h : PInv j m) (t k p : Int) : PInv (j + 1) (m.touch t k p) := by
  unfold M.touch; split
  · exact pinv_note h _ _ _
  · exact pinv_up h
theorem pinv_swap {j : Nat} {m : M} (h : PInv j m) (t i o n : Int) : PInv (j + 1) (m.swap t i o n) := by
  unfold M.swap; split
  · split
    · have := pinv_note h t 4 (3 * i)
      exact ⟨by have := this.1; simpa [M.note] using this, this.2.1, this.2.2.1, this.2.2.2⟩
    · exact pinv_note h _ _ _
  · exact pinv_up h
theorem pinv_lock {j : Nat} {m : M} (h : PInv j m) (t i : Int) (ht : t ≤ 9223372036854775807) : PInv (j + 1) (m.lock t i) := by
  unfold M.lock; split
  · rename_i hok
    simp only [M.lockOk, Bool.and_eq_true, decide_eq_true_eq] at hok
    have := pinv_note h t 1 (3 * i + 1)
    refine ⟨this.1, by have := h.2.1; simpa using this, this.2.2.1, fun x hx => ?_⟩
    rcases List.mem_or_eq_of_mem_set hx with hx | rfl
    · exact h.2.2.2 x hx
    · exact ⟨by omega, ht⟩
  · exact pinv_up h
theorem pinv_unlock {j : Nat} {m : M} (h : PInv j m) (t i : Int) : PInv (j + 1) (m.unlock t i) := by
  unfold M.unlock; split
  · have := pinv_note h t 2 (3 * i + 1)
    refine ⟨this.1, by have := h.2.1; simpa using this, this.2.2.1, fun x hx => ?_⟩
    rcases List.mem_or_eq_of_mem_set hx with hx | rfl
    · exact h.2.2.2 x hx
    · decide
  · exact pinv_up h
theorem unlockE_bd (m : M) (t i : Int) : 0 ≤ m.unlockE t i ∧ m.unlockE t i ≤ 15 := by
  unfold M.unlockE; split
  · split <;> decide
  · decide

/-- The cells of a thing to do that a walk keeps in a block of its own. -/
theorem box_cells {w : World} {b : Nat} {z t i o n : Value} {T : TypeId} (h : w.heap[b]? = some (.cells #[z, t, i, o, n] T (0, 0))) :
    w.cell? ⟨b, 0, none⟩ = some z ∧ w.cell? ⟨b, 1, none⟩ = some t ∧ w.cell? ⟨b, 2, none⟩ = some i ∧ w.cell? ⟨b, 3, none⟩ = some o ∧ w.cell? ⟨b, 4, none⟩ = some n := by
  refine ⟨?_, ?_, ?_, ?_, ?_⟩ <;> simp [World.cell?, h]

theorem rholder_val (g : Nat) (F : Nat → Prop) (m : M) (i x : Int) (w : World) (h : RMem w g F m) (hs : m.small) (hl : m.held) (hx : m.holder i = x) :
    Calls Try.prog 52 #[.pointer (some ⟨g, 0, none⟩), .int .i64 i] w fun e w' => e = .returned (.int .i64 x) ∧ w' = w := by
  rw [← hx]; exact rholder_any g F m i w h hs hl
theorem holder_val' (g : Nat) (F : Nat → Prop) (m : M) (i x : Int) (w : World) (h : Mem w g F m) (hs : m.small) (hx : m.holder i = x) :
    Calls Try.prog 38 #[.pointer (some ⟨g, 0, none⟩), .int .i64 i] w fun e w' => e = .returned (.int .i64 x) ∧ w' = w := by
  rw [← hx]; exact holder_any g F m i w h hs
theorem look_val (g : Nat) (F : Nat → Prop) (m : M) (i x : Int) (w : World) (h : Mem w g F m) (hs : m.small) (hx : m.look i = x) :
    Calls Try.prog 54 #[.pointer (some ⟨g, 0, none⟩), .int .i64 i] w fun e w' => e = .returned (.int .u64 x) ∧ w' = w := by
  rw [← hx]; exact look_any g F m i w h hs

set_option maxHeartbeats 8000000 in
set_option maxRecDepth 100000 in
theorem memPlays_walk (words locks : Int) (a : Option Addr) (len cap : Nat) (w : World) (_ : (Lit.int .i64 words).wf = true) (_ : (Lit.int .i64 locks).wf = true) (hz : RdDos w a len) :
    Calls Try.prog 14 #[.int .i64 words, .int .i64 locks, .slice a len cap] w fun e w' => e = .returned (.bool true) ∧ Below w.heap.size w w' := by
  have hlen : len ≤ 9223372036854775807 := hz.1
  have HZ := Lib.hid hz
  clear hz
  go_enter Try.func14, Try.ntmps14
  go_wp2_with fail
  refine (new_any words locks _).mono ?_
  rintro e w1 ⟨g, F, rfl, hm, hb, hF⟩
  go_wp2_with fail
  refine (rnew_any words locks _).mono ?_
  rintro e w2 ⟨r, G, rfl, hr, hb2, hG⟩
  have hD : Duo w g r (newM words locks) (newM words locks) w2 := ⟨F, G, hm.turn (Turn.of_below (F := fun _ => False) hb2) (fun _ _ h => h), hr, fun i hi hi2 => by have := hG i hi2; have := hm.foot_lt i hi; omega, hF, fun i hi => Nat.le_trans hb.size (hG i hi), hb.trans (hb2.mono hb.size)⟩
  have hP := pinv_new words locks
  generalize newM words locks = m0 at hD hP
  clear hm hr hb hb2 hF hG
  go_wp2_with fail
  go_loopw [9] (fun n wr => ∃ (j : Nat) (m : M), j ≤ len ∧ j ≤ 80 ∧ n = .int .i64 j ∧ PInv j m ∧ Duo w g r m m wr) (fun n _ => len - (intOf n).toNat)
  case atStart => exact ⟨0, m0, by omega, by omega, rfl, hP, hD⟩
  case round =>
    clear hD hP
    obtain ⟨j, m, hj, hj2, rfl, hP, hD⟩ := hrel
    by_cases hc : j < len ∧ j < 80
    · obtain ⟨hl1, hl2⟩ := hc
      obtain ⟨ad, x, rfl, hx, hok⟩ := HZ.out.2 j hl1
      have hx' := hx.below hD.below (Nat.le_refl _)
      obtain ⟨c0, c1, c2, c3, c4⟩ := hx'
      obtain ⟨⟨z0, z1⟩, hwt, _⟩ := hok
      obtain ⟨z, t, i, o, nw⟩ := x
      dsimp only at c0 c1 c2 c3 c4 z0 z1 hwt
      have ht63 : t ≤ 9223372036854775807 := by
        have h2 : IntKind.i64.min ≤ t ∧ t ≤ IntKind.i64.max := by simpa [Lit.wf] using hwt
        exact h2.2
      clear hwt
      have c1 : wr.cell? ⟨(ad.add (j * 5)).block, (ad.add (j * 5)).off + 1, none⟩ = some (.int .i64 t) := c1
      have c2 : wr.cell? ⟨(ad.add (j * 5)).block, (ad.add (j * 5)).off + 2, none⟩ = some (.int .i64 i) := c2
      have c3 : wr.cell? ⟨(ad.add (j * 5)).block, (ad.add (j * 5)).off + 3, none⟩ = some (.int .u64 o) := c3
      have c4 : wr.cell? ⟨(ad.add (j * 5)).block, (ad.add (j * 5)).off + 4, none⟩ = some (.int .u64 nw) := c4
      obtain ⟨z, rfl⟩ := Int.eq_ofNat_of_zero_le z0
      clear hx
      have hT := hD.two (.cells #[.int .u8 z, .int .i64 t, .int .i64 i, .int .u64 o, .int .u64 nw] 57)
      have HT := Lib.hid hT
      have HP := Lib.hid hP
      have HS := Lib.hid (hP.small (by omega))
      clear hD hT hP
      obtain ⟨q, hq, hq8⟩ : ∃ q : Nat, (z : Int).tmod 8 = q ∧ q < 8 := ⟨z % 8, by rw [Int.tmod_eq_emod_of_nonneg (by omega)]; omega, Nat.mod_lt _ (by decide)⟩
      -- CASES
      have hB : (wr.alloc (.cells #[.int .u8 z, .int .i64 t, .int .i64 i, .int .u64 o, .int .u64 nw] 57)).heap[wr.heap.size]? = some (.cells #[.int .u8 z, .int .i64 t, .int .i64 i, .int .u64 o, .int .u64 nw] 57 (0, 0)) := (MapKept.heap_alloc wr _).1
      have HB := Lib.hid hB
      clear hB z0 z1
      obtain rfl | rfl | rfl | rfl | rfl | rfl | rfl | rfl : q = 0 ∨ q = 1 ∨ q = 2 ∨ q = 3 ∨ q = 4 ∨ q = 5 ∨ q = 6 ∨ q = 7 := by omega
      · go_wp2_with fail
        generalize wr.heap.size = b at *
        generalize (wr.alloc (.cells #[.int .u8 z, .int .i64 t, .int .i64 i, .int .u64 o, .int .u64 nw] 57)) = wx at *
        obtain ⟨k0, k1, k2, k3, k4⟩ := box_cells HB.out
        go_region_held3 (fun w' => w'.cell? ⟨b, 0, none⟩ = some (.int .u8 z) ∧ w'.cell? ⟨b, 1, none⟩ = some (.int .i64 t) ∧ w'.cell? ⟨b, 2, none⟩ = some (.int .i64 i) ∧ w'.cell? ⟨b, 3, none⟩ = some (.int .u64 o) ∧ w'.cell? ⟨b, 4, none⟩ = some (.int .u64 nw)) (first | exact ⟨k0, k1, k2, k3, k4⟩ | exact KA | exact KB)
          (first
            | (go_at_call 43; refine (HT.out.drew.left (m2 := m.more nw) (fun F hm => more_any g F m nw _ hm HS.out) rfl rfl).mono ?_; rintro e w3 ⟨rfl, T3, he3⟩; have KA := box_cells (he3.trans HB.out); have HE3 := Lib.hid (he3.trans HB.out); clear he3)
            | (go_at_call 44; refine (T3.right (m2 := m.more nw) (fun F hm => rmore_any r F m nw _ hm HS.out) rfl rfl).mono ?_; rintro e w4 ⟨rfl, T4, he4⟩; have KB := box_cells (he4.trans HE3.out); clear he4))
        obtain ⟨q0, q1, q2, q3, q4⟩ := KB
        clear KA HE3 T3 k0 k1 k2 k3 k4
        have HPn := Lib.hid (pinv_more HP.out nw)
        have HSn := Lib.hid (HPn.out.small (by omega))
        obtain ⟨m', em⟩ : ∃ m', m' = m.more nw := ⟨_, rfl⟩
        rw [← em] at T4 HPn HSn
        clear em
        obtain ⟨F5, G5, hm5, hr5, _⟩ := id T4
        obtain ⟨aw, cw, hcw, _⟩ := hr5.words
        have HM5 := Lib.hid hm5
        have HR5 := Lib.hid hr5
        have HT5 := Lib.hid T4
        clear hm5 hr5 T4
        obtain ⟨hv, ehv⟩ : ∃ hv, m'.holder i = hv := ⟨_, rfl⟩
        have HV5 := Lib.hid ehv
        have hwl : m'.W.length ≤ 8300 := by have := HPn.out.1; omega
        clear ehv
        go_wp2_with fail
        go_quiet (first
          | (go_at_call 38; refine Calls.quiet_of_same (holder_val' g F5 m' i hv _ (HM5.out.drewN _) HSn.out HV5.out))
          | (go_at_call 52; refine Calls.quiet_of_same (rholder_val r G5 m' i hv _ (HR5.out.drewN _) HSn.out HPn.out.2.2.2 HV5.out))
          | (go_at_call 53; refine Calls.quiet_of_same (words_any g F5 m' _ (HM5.out.drewN _))))
        go_wp2_with fail
        go_roundw
        case rel => exact ⟨j + 1, m', by omega, by omega, by go_num, HPn.out, HT5.out.duo.drewN _⟩
        case measure => simp [intOf]; omega
      · go_wp2_with fail
        generalize wr.heap.size = b at *
        generalize (wr.alloc (.cells #[.int .u8 z, .int .i64 t, .int .i64 i, .int .u64 o, .int .u64 nw] 57)) = wx at *
        obtain ⟨k0, k1, k2, k3, k4⟩ := box_cells HB.out
        go_region_held3 (fun w' => w'.cell? ⟨b, 0, none⟩ = some (.int .u8 z) ∧ w'.cell? ⟨b, 1, none⟩ = some (.int .i64 t) ∧ w'.cell? ⟨b, 2, none⟩ = some (.int .i64 i) ∧ w'.cell? ⟨b, 3, none⟩ = some (.int .u64 o) ∧ w'.cell? ⟨b, 4, none⟩ = some (.int .u64 nw)) (first | exact ⟨k0, k1, k2, k3, k4⟩ | exact KA | exact KB)
          (first
            | (go_at_call 40; refine (HT.out.drew.left (m2 := m.load t i) (fun F hm => load_any g F m t i _ hm HS.out) rfl rfl).mono ?_; rintro e w3 ⟨rfl, T3, he3⟩; have KA := box_cells (he3.trans HB.out); have HE3 := Lib.hid (he3.trans HB.out); clear he3)
            | (go_at_call 45; refine (T3.right (m2 := m.load t i) (fun F hm => rload_any r F m t i _ hm HS.out) rfl rfl).mono ?_; rintro e w4 ⟨rfl, T4, he4⟩; have KB := box_cells (he4.trans HE3.out); clear he4))
        obtain ⟨q0, q1, q2, q3, q4⟩ := KB
        clear KA HE3 T3 k0 k1 k2 k3 k4
        have HPn := Lib.hid (pinv_load HP.out t i)
        have HSn := Lib.hid (HPn.out.small (by omega))
        obtain ⟨m', em⟩ : ∃ m', m' = m.load t i := ⟨_, rfl⟩
        rw [← em] at T4 HPn HSn
        clear em
        obtain ⟨F5, G5, hm5, hr5, _⟩ := id T4
        obtain ⟨aw, cw, hcw, _⟩ := hr5.words
        have HM5 := Lib.hid hm5
        have HR5 := Lib.hid hr5
        have HT5 := Lib.hid T4
        clear hm5 hr5 T4
        obtain ⟨hv, ehv⟩ : ∃ hv, m'.holder i = hv := ⟨_, rfl⟩
        have HV5 := Lib.hid ehv
        have hwl : m'.W.length ≤ 8300 := by have := HPn.out.1; omega
        clear ehv
        go_wp2_with fail
        go_quiet (first
          | (go_at_call 38; refine Calls.quiet_of_same (holder_val' g F5 m' i hv _ (HM5.out.drewN _) HSn.out HV5.out))
          | (go_at_call 52; refine Calls.quiet_of_same (rholder_val r G5 m' i hv _ (HR5.out.drewN _) HSn.out HPn.out.2.2.2 HV5.out))
          | (go_at_call 53; refine Calls.quiet_of_same (words_any g F5 m' _ (HM5.out.drewN _))))
        go_wp2_with fail
        go_roundw
        case rel => exact ⟨j + 1, m', by omega, by omega, by go_num, HPn.out, HT5.out.duo.drewN _⟩
        case measure => simp [intOf]; omega
      · go_wp2_with fail
        generalize wr.heap.size = b at *
        generalize (wr.alloc (.cells #[.int .u8 z, .int .i64 t, .int .i64 i, .int .u64 o, .int .u64 nw] 57)) = wx at *
        obtain ⟨k0, k1, k2, k3, k4⟩ := box_cells HB.out
        go_region_held3 (fun w' => w'.cell? ⟨b, 0, none⟩ = some (.int .u8 z) ∧ w'.cell? ⟨b, 1, none⟩ = some (.int .i64 t) ∧ w'.cell? ⟨b, 2, none⟩ = some (.int .i64 i) ∧ w'.cell? ⟨b, 3, none⟩ = some (.int .u64 o) ∧ w'.cell? ⟨b, 4, none⟩ = some (.int .u64 nw)) (first | exact ⟨k0, k1, k2, k3, k4⟩ | exact KA | exact KB)
          (first
            | (go_at_call 41; refine (HT.out.drew.left (m2 := m.swap t i o nw) (fun F hm => swap_any g F m t i o nw _ hm HS.out) rfl rfl).mono ?_; rintro e w3 ⟨rfl, T3, he3⟩; have KA := box_cells (he3.trans HB.out); have HE3 := Lib.hid (he3.trans HB.out); clear he3)
            | (go_at_call 46; refine (T3.right (m2 := m.swap t i o nw) (fun F hm => rswap_any r F m t i o nw _ hm HS.out) rfl rfl).mono ?_; rintro e w4 ⟨rfl, T4, he4⟩; have KB := box_cells (he4.trans HE3.out); clear he4))
        obtain ⟨q0, q1, q2, q3, q4⟩ := KB
        clear KA HE3 T3 k0 k1 k2 k3 k4
        have HPn := Lib.hid (pinv_swap HP.out t i o nw)
        have HSn := Lib.hid (HPn.out.small (by omega))
        obtain ⟨m', em⟩ : ∃ m', m' = m.swap t i o nw := ⟨_, rfl⟩
        rw [← em] at T4 HPn HSn
        clear em
        obtain ⟨F5, G5, hm5, hr5, _⟩ := id T4
        obtain ⟨aw, cw, hcw, _⟩ := hr5.words
        have HM5 := Lib.hid hm5
        have HR5 := Lib.hid hr5
        have HT5 := Lib.hid T4
        clear hm5 hr5 T4
        obtain ⟨hv, ehv⟩ : ∃ hv, m'.holder i = hv := ⟨_, rfl⟩
        have HV5 := Lib.hid ehv
        have hwl : m'.W.length ≤ 8300 := by have := HPn.out.1; omega
        clear ehv
        go_wp2_with fail
        go_quiet (first
          | (go_at_call 38; refine Calls.quiet_of_same (holder_val' g F5 m' i hv _ (HM5.out.drewN _) HSn.out HV5.out))
          | (go_at_call 52; refine Calls.quiet_of_same (rholder_val r G5 m' i hv _ (HR5.out.drewN _) HSn.out HPn.out.2.2.2 HV5.out))
          | (go_at_call 53; refine Calls.quiet_of_same (words_any g F5 m' _ (HM5.out.drewN _))))
        go_wp2_with fail
        go_roundw
        case rel => exact ⟨j + 1, m', by omega, by omega, by go_num, HPn.out, HT5.out.duo.drewN _⟩
        case measure => simp [intOf]; omega
      · go_wp2_with fail
        generalize wr.heap.size = b at *
        generalize (wr.alloc (.cells #[.int .u8 z, .int .i64 t, .int .i64 i, .int .u64 o, .int .u64 nw] 57)) = wx at *
        obtain ⟨k0, k1, k2, k3, k4⟩ := box_cells HB.out
        go_region_held3 (fun w' => w'.cell? ⟨b, 0, none⟩ = some (.int .u8 z) ∧ w'.cell? ⟨b, 1, none⟩ = some (.int .i64 t) ∧ w'.cell? ⟨b, 2, none⟩ = some (.int .i64 i) ∧ w'.cell? ⟨b, 3, none⟩ = some (.int .u64 o) ∧ w'.cell? ⟨b, 4, none⟩ = some (.int .u64 nw)) (first | exact ⟨k0, k1, k2, k3, k4⟩ | exact KA | exact KB)
          (first
            | (go_at_call 41; refine (HT.out.drew.left (m2 := m.swap t i o nw) (fun F hm => swap_any g F m t i o nw _ hm HS.out) rfl rfl).mono ?_; rintro e w3 ⟨rfl, T3, he3⟩; have KA := box_cells (he3.trans HB.out); have HE3 := Lib.hid (he3.trans HB.out); clear he3)
            | (go_at_call 46; refine (T3.right (m2 := m.swap t i o nw) (fun F hm => rswap_any r F m t i o nw _ hm HS.out) rfl rfl).mono ?_; rintro e w4 ⟨rfl, T4, he4⟩; have KB := box_cells (he4.trans HE3.out); clear he4))
        obtain ⟨q0, q1, q2, q3, q4⟩ := KB
        clear KA HE3 T3 k0 k1 k2 k3 k4
        have HPn := Lib.hid (pinv_swap HP.out t i o nw)
        have HSn := Lib.hid (HPn.out.small (by omega))
        obtain ⟨m', em⟩ : ∃ m', m' = m.swap t i o nw := ⟨_, rfl⟩
        rw [← em] at T4 HPn HSn
        clear em
        obtain ⟨F5, G5, hm5, hr5, _⟩ := id T4
        obtain ⟨aw, cw, hcw, _⟩ := hr5.words
        have HM5 := Lib.hid hm5
        have HR5 := Lib.hid hr5
        have HT5 := Lib.hid T4
        clear hm5 hr5 T4
        obtain ⟨hv, ehv⟩ : ∃ hv, m'.holder i = hv := ⟨_, rfl⟩
        have HV5 := Lib.hid ehv
        have hwl : m'.W.length ≤ 8300 := by have := HPn.out.1; omega
        clear ehv
        go_wp2_with fail
        go_quiet (first
          | (go_at_call 38; refine Calls.quiet_of_same (holder_val' g F5 m' i hv _ (HM5.out.drewN _) HSn.out HV5.out))
          | (go_at_call 52; refine Calls.quiet_of_same (rholder_val r G5 m' i hv _ (HR5.out.drewN _) HSn.out HPn.out.2.2.2 HV5.out))
          | (go_at_call 53; refine Calls.quiet_of_same (words_any g F5 m' _ (HM5.out.drewN _))))
        go_wp2_with fail
        go_roundw
        case rel => exact ⟨j + 1, m', by omega, by omega, by go_num, HPn.out, HT5.out.duo.drewN _⟩
        case measure => simp [intOf]; omega
      · go_wp2_with fail
        generalize wr.heap.size = b at *
        generalize (wr.alloc (.cells #[.int .u8 z, .int .i64 t, .int .i64 i, .int .u64 o, .int .u64 nw] 57)) = wx at *
        obtain ⟨k0, k1, k2, k3, k4⟩ := box_cells HB.out
        go_region_held3 (fun w' => w'.cell? ⟨b, 0, none⟩ = some (.int .u8 z) ∧ w'.cell? ⟨b, 1, none⟩ = some (.int .i64 t) ∧ w'.cell? ⟨b, 2, none⟩ = some (.int .i64 i) ∧ w'.cell? ⟨b, 3, none⟩ = some (.int .u64 o) ∧ w'.cell? ⟨b, 4, none⟩ = some (.int .u64 nw)) (first | exact ⟨k0, k1, k2, k3, k4⟩ | exact KA | exact KB)
          (first
            | (go_at_call 35; refine (HT.out.drew.left (m2 := m.lock t i) (fun F hm => lock_any g F m t i _ hm HS.out) rfl rfl).mono ?_; rintro e w3 ⟨rfl, T3, he3⟩; have KA := box_cells (he3.trans HB.out); have HE3 := Lib.hid (he3.trans HB.out); clear he3)
            | (go_at_call 47; refine (T3.right (m2 := m.lock t i) (fun F hm => rlock_any r F m t i _ hm HS.out HP.out.2.2.2 ht63) rfl rfl).mono ?_; rintro e w4 ⟨rfl, T4, he4⟩; have KB := box_cells (he4.trans HE3.out); clear he4))
        obtain ⟨q0, q1, q2, q3, q4⟩ := KB
        clear KA HE3 T3 k0 k1 k2 k3 k4
        have HPn := Lib.hid (pinv_lock HP.out t i ht63)
        have HSn := Lib.hid (HPn.out.small (by omega))
        obtain ⟨m', em⟩ : ∃ m', m' = m.lock t i := ⟨_, rfl⟩
        rw [← em] at T4 HPn HSn
        clear em
        obtain ⟨F5, G5, hm5, hr5, _⟩ := id T4
        obtain ⟨aw, cw, hcw, _⟩ := hr5.words
        have HM5 := Lib.hid hm5
        have HR5 := Lib.hid hr5
        have HT5 := Lib.hid T4
        clear hm5 hr5 T4
        obtain ⟨hv, ehv⟩ : ∃ hv, m'.holder i = hv := ⟨_, rfl⟩
        have HV5 := Lib.hid ehv
        have hwl : m'.W.length ≤ 8300 := by have := HPn.out.1; omega
        clear ehv
        go_wp2_with fail
        go_quiet (first
          | (go_at_call 38; refine Calls.quiet_of_same (holder_val' g F5 m' i hv _ (HM5.out.drewN _) HSn.out HV5.out))
          | (go_at_call 52; refine Calls.quiet_of_same (rholder_val r G5 m' i hv _ (HR5.out.drewN _) HSn.out HPn.out.2.2.2 HV5.out))
          | (go_at_call 53; refine Calls.quiet_of_same (words_any g F5 m' _ (HM5.out.drewN _))))
        go_wp2_with fail
        go_roundw
        case rel => exact ⟨j + 1, m', by omega, by omega, by go_num, HPn.out, HT5.out.duo.drewN _⟩
        case measure => simp [intOf]; omega
      · go_wp2_with fail
        generalize wr.heap.size = b at *
        generalize (wr.alloc (.cells #[.int .u8 z, .int .i64 t, .int .i64 i, .int .u64 o, .int .u64 nw] 57)) = wx at *
        obtain ⟨k0, k1, k2, k3, k4⟩ := box_cells HB.out
        go_region_held3 (fun w' => w'.cell? ⟨b, 0, none⟩ = some (.int .u8 z) ∧ w'.cell? ⟨b, 1, none⟩ = some (.int .i64 t) ∧ w'.cell? ⟨b, 2, none⟩ = some (.int .i64 i) ∧ w'.cell? ⟨b, 3, none⟩ = some (.int .u64 o) ∧ w'.cell? ⟨b, 4, none⟩ = some (.int .u64 nw)) (first | exact ⟨k0, k1, k2, k3, k4⟩ | exact KA | exact KB)
          (first
            | (go_at_call 36; refine (HT.out.drew.left (m2 := m.unlock t i) (fun F hm => unlock_any g F m t i _ hm HS.out) rfl rfl).mono ?_; rintro e w3 ⟨rfl, T3, he3⟩; have KA := box_cells (he3.trans HB.out); have HE3 := Lib.hid (he3.trans HB.out); clear he3)
            | (go_at_call 48; refine (T3.right (m2 := m.unlock t i) (fun F hm => runlock_any r F m t i _ hm HS.out HP.out.2.2.2 ht63) rfl rfl).mono ?_; rintro e w4 ⟨rfl, T4, he4⟩; have KB := box_cells (he4.trans HE3.out); clear he4))
        obtain ⟨q0, q1, q2, q3, q4⟩ := KB
        clear KA HE3 T3 k0 k1 k2 k3 k4
        have HPn := Lib.hid (pinv_unlock HP.out t i)
        have HSn := Lib.hid (HPn.out.small (by omega))
        obtain ⟨m', em⟩ : ∃ m', m' = m.unlock t i := ⟨_, rfl⟩
        rw [← em] at T4 HPn HSn
        clear em
        obtain ⟨F5, G5, hm5, hr5, _⟩ := id T4
        obtain ⟨aw, cw, hcw, _⟩ := hr5.words
        have HM5 := Lib.hid hm5
        have HR5 := Lib.hid hr5
        have HT5 := Lib.hid T4
        clear hm5 hr5 T4
        obtain ⟨hv, ehv⟩ : ∃ hv, m'.holder i = hv := ⟨_, rfl⟩
        have HV5 := Lib.hid ehv
        have hwl : m'.W.length ≤ 8300 := by have := HPn.out.1; omega
        clear ehv
        go_wp2_with fail
        go_quiet (first
          | (go_at_call 38; refine Calls.quiet_of_same (holder_val' g F5 m' i hv _ (HM5.out.drewN _) HSn.out HV5.out))
          | (go_at_call 52; refine Calls.quiet_of_same (rholder_val r G5 m' i hv _ (HR5.out.drewN _) HSn.out HPn.out.2.2.2 HV5.out))
          | (go_at_call 53; refine Calls.quiet_of_same (words_any g F5 m' _ (HM5.out.drewN _))))
        go_wp2_with fail
        go_roundw
        case rel => exact ⟨j + 1, m', by omega, by omega, by go_num, HPn.out, HT5.out.duo.drewN _⟩
        case measure => simp [intOf]; omega
      · go_wp2_with fail
        generalize wr.heap.size = b at *
        generalize (wr.alloc (.cells #[.int .u8 z, .int .i64 t, .int .i64 i, .int .u64 o, .int .u64 nw] 57)) = wx at *
        obtain ⟨k0, k1, k2, k3, k4⟩ := box_cells HB.out
        refine (HT.out.left (m2 := m.touch t 5 i) (fun F hm => read_any g F m t i _ hm HS.out) rfl rfl).mono ?_
        rintro e w3 ⟨rfl, T3, he3⟩
        obtain ⟨l0, l1, l2, l3, l4⟩ := box_cells (he3.trans HB.out)
        have HE3 := Lib.hid (he3.trans HB.out)
        clear he3 k0 k1 k2 k3 k4
        go_wp2_with fail
        refine (T3.right (m2 := m.touch t 5 i) (fun F hm => rtouch_any r F m t 5 i _ hm HS.out) rfl rfl).mono ?_
        rintro e w4 ⟨rfl, T4, he4⟩
        obtain ⟨q0, q1, q2, q3, q4⟩ := box_cells (he4.trans HE3.out)
        clear he4 HE3 T3 l0 l1 l2 l3 l4
        have HPn := Lib.hid (pinv_touch HP.out t 5 i)
        have HSn := Lib.hid (HPn.out.small (by omega))
        obtain ⟨m', em⟩ : ∃ m', m' = m.touch t 5 i := ⟨_, rfl⟩
        rw [← em] at T4 HPn HSn
        clear em
        obtain ⟨F5, G5, hm5, hr5, _⟩ := id T4
        obtain ⟨aw, cw, hcw, _⟩ := hr5.words
        have HM5 := Lib.hid hm5
        have HR5 := Lib.hid hr5
        have HT5 := Lib.hid T4
        clear hm5 hr5 T4
        obtain ⟨hv, ehv⟩ : ∃ hv, m'.holder i = hv := ⟨_, rfl⟩
        have HV5 := Lib.hid ehv
        have hwl : m'.W.length ≤ 8300 := by have := HPn.out.1; omega
        clear ehv
        go_wp2_with fail
        go_quiet (first
          | (go_at_call 38; refine Calls.quiet_of_same (holder_val' g F5 m' i hv _ (HM5.out.drewN _) HSn.out HV5.out))
          | (go_at_call 52; refine Calls.quiet_of_same (rholder_val r G5 m' i hv _ (HR5.out.drewN _) HSn.out HPn.out.2.2.2 HV5.out))
          | (go_at_call 53; refine Calls.quiet_of_same (words_any g F5 m' _ (HM5.out.drewN _))))
        go_wp2_with fail
        go_roundw
        case rel => exact ⟨j + 1, m', by omega, by omega, by go_num, HPn.out, HT5.out.duo.drewN _⟩
        case measure => simp [intOf]; omega
      · go_wp2_with fail
        generalize wr.heap.size = b at *
        generalize (wr.alloc (.cells #[.int .u8 z, .int .i64 t, .int .i64 i, .int .u64 o, .int .u64 nw] 57)) = wx at *
        obtain ⟨k0, k1, k2, k3, k4⟩ := box_cells HB.out
        refine (HT.out.left (m2 := m.touch t 6 i) (fun F hm => write_any g F m t i _ hm HS.out) rfl rfl).mono ?_
        rintro e w3 ⟨rfl, T3, he3⟩
        obtain ⟨l0, l1, l2, l3, l4⟩ := box_cells (he3.trans HB.out)
        have HE3 := Lib.hid (he3.trans HB.out)
        clear he3 k0 k1 k2 k3 k4
        go_wp2_with fail
        refine (T3.right (m2 := m.touch t 6 i) (fun F hm => rtouch_any r F m t 6 i _ hm HS.out) rfl rfl).mono ?_
        rintro e w4 ⟨rfl, T4, he4⟩
        obtain ⟨q0, q1, q2, q3, q4⟩ := box_cells (he4.trans HE3.out)
        clear he4 HE3 T3 l0 l1 l2 l3 l4
        have HPn := Lib.hid (pinv_touch HP.out t 6 i)
        have HSn := Lib.hid (HPn.out.small (by omega))
        obtain ⟨m', em⟩ : ∃ m', m' = m.touch t 6 i := ⟨_, rfl⟩
        rw [← em] at T4 HPn HSn
        clear em
        obtain ⟨F5, G5, hm5, hr5, _⟩ := id T4
        obtain ⟨aw, cw, hcw, _⟩ := hr5.words
        have HM5 := Lib.hid hm5
        have HR5 := Lib.hid hr5
        have HT5 := Lib.hid T4
        clear hm5 hr5 T4
        obtain ⟨hv, ehv⟩ : ∃ hv, m'.holder i = hv := ⟨_, rfl⟩
        have HV5 := Lib.hid ehv
        have hwl : m'.W.length ≤ 8300 := by have := HPn.out.1; omega
        clear ehv
        go_wp2_with fail
        go_quiet (first
          | (go_at_call 38; refine Calls.quiet_of_same (holder_val' g F5 m' i hv _ (HM5.out.drewN _) HSn.out HV5.out))
          | (go_at_call 52; refine Calls.quiet_of_same (rholder_val r G5 m' i hv _ (HR5.out.drewN _) HSn.out HPn.out.2.2.2 HV5.out))
          | (go_at_call 53; refine Calls.quiet_of_same (words_any g F5 m' _ (HM5.out.drewN _))))
        go_wp2_with fail
        go_roundw
        case rel => exact ⟨j + 1, m', by omega, by omega, by go_num, HPn.out, HT5.out.duo.drewN _⟩
        case measure => simp [intOf]; omega
    · -- REST
      have hex : ¬ (j < len) ∨ (j < len ∧ ¬ (j < 80)) := by omega
      have HP := Lib.hid hP
      have HS := Lib.hid (hP.small (by omega))
      have HD := Lib.hid hD
      obtain ⟨F5, G5, hm5, hr5, _⟩ := id hD
      obtain ⟨aw, cw, hcw, _⟩ := hr5.words
      have hwl : m.W.length ≤ 8300 := by have := hP.1; omega
      clear hP hD hc hm5 hr5
      rcases hex with hc | ⟨hc0, hc⟩
      · go_wp2_with fail
        go_loopw [12] (fun n wv => ∃ y : Nat, y ≤ m.W.length ∧ n = .int .i64 y ∧ Duo w g r m m wv ∧ wv.cell? ⟨r, 0, none⟩ = some (.slice aw m.W.length cw)) (fun n _ => m.W.length - (intOf n).toNat)
        case atStart => exact ⟨0, Nat.zero_le _, rfl, HD.out, hcw⟩
        case round =>
          clear hcw
          obtain ⟨y, hy, rfl, hD, hcw⟩ := hrel
          have HD := Lib.hid hD
          clear hD
          obtain ⟨F6, G6, hm6, hr6, _⟩ := id HD.out
          by_cases hyl : y < m.W.length
          · obtain ⟨aw', cw', hcw', hcx⟩ := hr6.words
            rw [hcw] at hcw'
            cases hcw'
            obtain ⟨b6, rfl, _, hcb, _⟩ := hcx y hyl
            obtain ⟨v, ev⟩ : ∃ v, m.W.getD y 0 = v := ⟨_, rfl⟩
            rw [ev] at hcb
            have hlk : m.look y = v := by rw [← ev]; simp [M.look, M.has, hyl]
            have HL := Lib.hid hlk
            have HM6 := Lib.hid hm6
            clear hlk ev hcx hr6 hm6
            go_wp2_with fail
            go_quiet (first
              | (go_at_call 54; refine Calls.quiet_of_same (look_val g F6 m y v _ (HM6.out.drewN _) HS.out HL.out)))
            go_wp2_with fail
            go_roundw
            case rel => exact ⟨y + 1, by omega, by go_num, HD.out.drewN _, hcw⟩
            case measure => simp [intOf]; omega
          · obtain ⟨vw, vl, vg, hat, hG6⟩ := id hr6
            obtain ⟨ag, cg, evg, hcg⟩ := row_form hat.log
            subst evg
            obtain ⟨e0, e1, e2, _⟩ := hat.cells
            have hrd : RdFrom wr 0 ag (logC m.Lg) := fun k x hk => by
              obtain ⟨b, e, h1, _⟩ := hcg k x hk
              exact ⟨b, e, h1, Nat.zero_le _⟩
            have HRD := Lib.hid hrd
            have HLN := Lib.hid HP.out.2.2.1
            have HM6 := Lib.hid hm6
            have hl1 : m.look (-1) = 0 := by simp [M.look, M.has]
            have hl2 : m.look m.W.length = 0 := by simp [M.look, M.has]
            have HL1 := Lib.hid hl1
            have HL2 := Lib.hid hl2
            clear e0 e1 hat hcg hrd hr6 hm6 hG6 hl1 hl2
            go_wp2_with fail
            go_region_held3 (fun w' => w'.cell? ⟨r, 0, none⟩ = some (.slice aw m.W.length cw) ∧ w'.cell? ⟨r, 2, none⟩ = some (.slice ag m.Lg.length cg)) (first | exact ⟨hcw, e2⟩ | exact ⟨K7, E7⟩ | exact ⟨K8, E8⟩ | exact ⟨K9, E9⟩)
              (first
                | (go_at_call 39; refine (awake19_any _).mono ?_; rintro e w7 ⟨rfl, hb7⟩; have D7 := (HD.out.drewN 1).step hb7; have K7 := (hb7.cell (World.block_lt_of_cell? wr.drew _ hcw)).trans hcw; have E7 := (hb7.cell (World.block_lt_of_cell? wr.drew _ e2)).trans e2; have R7 := Lib.hid ((show RdFrom wr.drew 0 ag (logC m.Lg) from HRD.out).below hb7); clear hb7)
                | (go_at_call 37; obtain ⟨F7, G7, hm7, _⟩ := id D7; refine (log_any g F7 m _ hm7 HS.out).mono ?_; rintro e w8 ⟨a8, c8, rfl, hr8, hb8⟩; have D8 := D7.step hb8; have K8 := (hb8.cell (World.block_lt_of_cell? w7 _ K7)).trans K7; have E8 := (hb8.cell (World.block_lt_of_cell? w7 _ E7)).trans E7; have R8 := Lib.hid (R7.out.below hb8); have Q8 := Lib.hid hr8.zero; clear hb8 hr8 hm7)
                | (go_at_call 55; refine (same_any a8 ag c8 cg m.Lg m.Lg _ 0 Q8.out R8.out (by have := HLN.out; omega) (by have := HLN.out; omega)).mono ?_; rintro e w9 ⟨rr, rfl, hrr, hb9⟩; obtain rfl : rr = true := hrr.2 rfl; have D9 := D8.step hb9; have K9 := (hb9.cell (World.block_lt_of_cell? w8 _ K8)).trans K8; have E9 := (hb9.cell (World.block_lt_of_cell? w8 _ E8)).trans E8; obtain ⟨F9, G9, hm9, _⟩ := id D9; have HM9 := Lib.hid hm9; clear hb9 hrr hm9)
                | (go_at_call 54; refine (look_val g F9 m _ 0 _ HM9.out HS.out (by first | exact HL1.out | exact HL2.out)).mono ?_; rintro e w' ⟨rfl, rfl⟩))
            go_wp2_with fail
            go_ret
            exact ⟨rfl, D9.below⟩
      · go_wp2_with fail
        go_loopw [12] (fun n wv => ∃ y : Nat, y ≤ m.W.length ∧ n = .int .i64 y ∧ Duo w g r m m wv ∧ wv.cell? ⟨r, 0, none⟩ = some (.slice aw m.W.length cw)) (fun n _ => m.W.length - (intOf n).toNat)
        case atStart => exact ⟨0, Nat.zero_le _, rfl, HD.out, hcw⟩
        case round =>
          clear hcw
          obtain ⟨y, hy, rfl, hD, hcw⟩ := hrel
          have HD := Lib.hid hD
          clear hD
          obtain ⟨F6, G6, hm6, hr6, _⟩ := id HD.out
          by_cases hyl : y < m.W.length
          · obtain ⟨aw', cw', hcw', hcx⟩ := hr6.words
            rw [hcw] at hcw'
            cases hcw'
            obtain ⟨b6, rfl, _, hcb, _⟩ := hcx y hyl
            obtain ⟨v, ev⟩ : ∃ v, m.W.getD y 0 = v := ⟨_, rfl⟩
            rw [ev] at hcb
            have hlk : m.look y = v := by rw [← ev]; simp [M.look, M.has, hyl]
            have HL := Lib.hid hlk
            have HM6 := Lib.hid hm6
            clear hlk ev hcx hr6 hm6
            go_wp2_with fail
            go_quiet (first
              | (go_at_call 54; refine Calls.quiet_of_same (look_val g F6 m y v _ (HM6.out.drewN _) HS.out HL.out)))
            go_wp2_with fail
            go_roundw
            case rel => exact ⟨y + 1, by omega, by go_num, HD.out.drewN _, hcw⟩
            case measure => simp [intOf]; omega
          · obtain ⟨vw, vl, vg, hat, hG6⟩ := id hr6
            obtain ⟨ag, cg, evg, hcg⟩ := row_form hat.log
            subst evg
            obtain ⟨e0, e1, e2, _⟩ := hat.cells
            have hrd : RdFrom wr 0 ag (logC m.Lg) := fun k x hk => by
              obtain ⟨b, e, h1, _⟩ := hcg k x hk
              exact ⟨b, e, h1, Nat.zero_le _⟩
            have HRD := Lib.hid hrd
            have HLN := Lib.hid HP.out.2.2.1
            have HM6 := Lib.hid hm6
            have hl1 : m.look (-1) = 0 := by simp [M.look, M.has]
            have hl2 : m.look m.W.length = 0 := by simp [M.look, M.has]
            have HL1 := Lib.hid hl1
            have HL2 := Lib.hid hl2
            clear e0 e1 hat hcg hrd hr6 hm6 hG6 hl1 hl2
            go_wp2_with fail
            go_region_held3 (fun w' => w'.cell? ⟨r, 0, none⟩ = some (.slice aw m.W.length cw) ∧ w'.cell? ⟨r, 2, none⟩ = some (.slice ag m.Lg.length cg)) (first | exact ⟨hcw, e2⟩ | exact ⟨K7, E7⟩ | exact ⟨K8, E8⟩ | exact ⟨K9, E9⟩)
              (first
                | (go_at_call 39; refine (awake19_any _).mono ?_; rintro e w7 ⟨rfl, hb7⟩; have D7 := (HD.out.drewN 1).step hb7; have K7 := (hb7.cell (World.block_lt_of_cell? wr.drew _ hcw)).trans hcw; have E7 := (hb7.cell (World.block_lt_of_cell? wr.drew _ e2)).trans e2; have R7 := Lib.hid ((show RdFrom wr.drew 0 ag (logC m.Lg) from HRD.out).below hb7); clear hb7)
                | (go_at_call 37; obtain ⟨F7, G7, hm7, _⟩ := id D7; refine (log_any g F7 m _ hm7 HS.out).mono ?_; rintro e w8 ⟨a8, c8, rfl, hr8, hb8⟩; have D8 := D7.step hb8; have K8 := (hb8.cell (World.block_lt_of_cell? w7 _ K7)).trans K7; have E8 := (hb8.cell (World.block_lt_of_cell? w7 _ E7)).trans E7; have R8 := Lib.hid (R7.out.below hb8); have Q8 := Lib.hid hr8.zero; clear hb8 hr8 hm7)
                | (go_at_call 55; refine (same_any a8 ag c8 cg m.Lg m.Lg _ 0 Q8.out R8.out (by have := HLN.out; omega) (by have := HLN.out; omega)).mono ?_; rintro e w9 ⟨rr, rfl, hrr, hb9⟩; obtain rfl : rr = true := hrr.2 rfl; have D9 := D8.step hb9; have K9 := (hb9.cell (World.block_lt_of_cell? w8 _ K8)).trans K8; have E9 := (hb9.cell (World.block_lt_of_cell? w8 _ E8)).trans E8; obtain ⟨F9, G9, hm9, _⟩ := id D9; have HM9 := Lib.hid hm9; clear hb9 hrr hm9)
                | (go_at_call 54; refine (look_val g F9 m _ 0 _ HM9.out HS.out (by first | exact HL1.out | exact HL2.out)).mono ?_; rintro e w' ⟨rfl, rfl⟩))
            go_wp2_with fail
            go_ret
            exact ⟨rfl, D9.below⟩
end Go.Proofs.Ytpmhlcnnbkicaaa
