/- The walk of MemOne. -/
import Derived.Test.YtpmhlcnnbkicaaaMemL
namespace Go.Proofs.Ytpmhlcnnbkicaaa
set_option linter.unusedSimpArgs false
set_option linter.unusedVariables false
open Go Go.RowKit

/-- Whose mutex k is behind an access, by the log; 'none': an access that may not be. -/
def scanStep (k : Int) (h : Int) (a : Acc) : Option Int :=
  if a.place = 3 * k + 1 then (if (a.kind = 1 ∧ 0 ≤ h) ∨ (a.kind = 2 ∧ h ≠ a.thread) then none else some (if a.kind = 1 then a.thread else -1)) else some h
def scan (k : Int) : Int → List Acc → Option Int
  | h, [] => some h
  | h, a :: l => (scanStep k h a).bind fun h' => scan k h' l
theorem scan_append (k : Int) : ∀ (h : Int) (l m : List Acc), scan k h (l ++ m) = (scan k h l).bind fun h' => scan k h' m
  | h, [], m => rfl
  | h, a :: l, m => by
    simp only [List.cons_append, scan]
    cases scanStep k h a with
    | none => rfl
    | some h' => exact scan_append k h' l m
theorem scan_snoc (k h : Int) (l : List Acc) (a : Acc) (h' : Int) (e : scan k h l = some h') : scan k h (l ++ [a]) = scanStep k h' a := by
  rw [scan_append, e]
  simp only [Option.bind_some, scan]
  cases scanStep k h' a <;> rfl
/-- Each access of a good log may be. -/
theorem scan_at (k : Int) (l : List Acc) (x : Int) (e : scan k (-1) l = some x) (j : Nat) (hj : j < l.length) (h : Int) (hp : scan k (-1) (l.take j) = some h) :
    ∃ h', scanStep k h l[j] = some h' ∧ scan k (-1) (l.take (j + 1)) = some h' := by
  have e2 : l.take (j + 1) = l.take j ++ [l[j]] := by rw [List.take_add_one, List.getElem?_eq_getElem hj]; rfl
  have e3 : scan k (-1) (l.take (j + 1)) = scanStep k h l[j] := by rw [e2]; exact scan_snoc k (-1) _ _ h hp
  have e4 : scan k (-1) (l.take (j + 1) ++ l.drop (j + 1)) = some x := by rw [List.take_append_drop]; exact e
  rw [scan_append, e3] at e4
  cases hs : scanStep k h l[j] with
  | none => rw [hs] at e4; cases e4
  | some h' => exact ⟨h', rfl, by rw [e3, hs]⟩

theorem scan_lock {k h th h' : Int} (hs : scanStep k h ⟨th, 1, 3 * k + 1⟩ = some h') : h < 0 ∧ h' = th := by
  by_cases h0 : 0 ≤ h
  · simp [scanStep, h0] at hs
  · simp [scanStep] at hs
    omega
theorem scan_unlock {k h th h' : Int} (hs : scanStep k h ⟨th, 2, 3 * k + 1⟩ = some h') : h = th ∧ h' = -1 := by
  by_cases h0 : h = th
  · simp [scanStep, h0] at hs
    omega
  · simp [scanStep, h0] at hs
theorem scan_else {k h th kd h' : Int} (h1 : kd ≠ 1) (h2 : kd ≠ 2) (hs : scanStep k h ⟨th, kd, 3 * k + 1⟩ = some h') : h' = -1 := by
  simp [scanStep, h1, h2] at hs
  omega
theorem scan_far {k h th kd pl h' : Int} (h1 : pl ≠ 3 * k + 1) (hs : scanStep k h ⟨th, kd, pl⟩ = some h') : h' = h := by
  simp [scanStep, h1] at hs
  exact hs.symm
theorem holder_val (g : Nat) (F : Nat → Prop) (m : M) (i x : Int) (w : World) (h : Mem w g F m) (hs : m.small) (hx : m.holder i = x) :
    Calls Try.prog 38 #[.pointer (some ⟨g, 0, none⟩), .int .i64 i] w fun e w' => e = .returned (.int .i64 x) ∧ w' = w := by
  rw [← hx]; exact holder_any g F m i w h hs

/-- The mutexes are as the log says. -/
def OneInv (n : Nat) (m : M) : Prop := m.L.length = n ∧ m.W.length = 1 ∧ ∀ k : Nat, k < n → scan k (-1) m.Lg = some (m.L.getD k 0)
theorem one_new (n : Nat) (hn : n ≤ 8192) : OneInv n (newM 1 n) := by
  have e : nearM (n : Int) = n := by unfold nearM; omega
  refine ⟨by simp [newM, e], by rw [show (newM 1 n).W = [0] from rfl]; rfl, fun k hk => ?_⟩
  have : (newM 1 n).Lg = [] := rfl
  rw [this]
  simp only [scan, newM, e, Int.toNat_natCast]
  simp [List.getD_eq_getElem?_getD, List.getElem?_replicate, hk]
theorem one_set (n : Nat) (m : M) (h : OneInv n m) (i : Nat) (hi : i < n) (a : Acc) (x : Int) (hp : a.place = 3 * i + 1) (hs : scanStep i (m.L.getD i 0) a = some x) :
    OneInv n { m with L := m.L.set i x, Lg := m.Lg ++ [a] } := by
  obtain ⟨h1, h2, h3⟩ := h
  refine ⟨by simpa using h1, h2, fun k hk => ?_⟩
  show scan k (-1) (m.Lg ++ [a]) = some ((m.L.set i x).getD k 0)
  rw [scan_snoc k (-1) _ a _ (h3 k hk)]
  by_cases hki : i = k
  · subst hki
    have e : (m.L.set i x).getD i 0 = x := by simp [List.getD_eq_getElem?_getD, List.getElem?_set, h1, hk]
    rw [e]; exact hs
  · have e : (m.L.set i x).getD k 0 = m.L.getD k 0 := by simp [List.getD_eq_getElem?_getD, List.getElem?_set, hki]
    rw [e]
    unfold scanStep
    rw [if_neg (by omega)]
theorem one_lock (n : Nat) (m : M) (h : OneInv n m) (t i : Int) : OneInv n (m.lock t i) := by
  unfold M.lock
  split
  · rename_i hok
    simp only [M.lockOk, Bool.and_eq_true, decide_eq_true_eq] at hok
    obtain ⟨⟨hl, h1⟩, h2⟩ := hok
    obtain ⟨j, rfl, hj⟩ := M.hasL_nat hl
    rw [Int.toNat_natCast] at h1 ⊢
    refine one_set n m h j (by rw [← h.1]; exact hj) ⟨t, 1, 3 * j + 1⟩ t rfl ?_
    rw [h1]; simp [scanStep]
  · exact h
theorem one_unlock (n : Nat) (m : M) (h : OneInv n m) (t i : Int) : OneInv n (m.unlock t i) := by
  unfold M.unlock
  split
  · rename_i hok
    unfold M.unlockE at hok
    split at hok
    · rename_i hl
      split at hok
      · rename_i h12
        obtain ⟨j, rfl, hj⟩ := M.hasL_nat hl
        rw [Int.toNat_natCast] at h12 ⊢
        refine one_set n m h j (by rw [← h.1]; exact hj) ⟨t, 2, 3 * j + 1⟩ (-1) rfl ?_
        rw [h12.1]; simp [scanStep]
      · cases hok
    · cases hok
  · exact h
theorem lock_len (m : M) (t i : Int) : (m.lock t i).Lg.length ≤ m.Lg.length + 1 := by
  unfold M.lock; split <;> simp [M.note]
theorem unlock_len (m : M) (t i : Int) : (m.unlock t i).Lg.length ≤ m.Lg.length + 1 := by
  unfold M.unlock; split <;> simp [M.note]
theorem one_small (n : Nat) (m : M) (h : OneInv n m) (hn : n ≤ 8192) (hl : m.Lg.length ≤ 1000) : m.small := ⟨by rw [h.2.1]; decide, by rw [h.1]; omega, by omega⟩
theorem one_holder (n : Nat) (m : M) (h : OneInv n m) (k : Nat) (hk : k < n) (x : Int) (hx : scan k (-1) m.Lg = some x) : m.holder k = x := by
  have := h.2.2 k hk
  rw [hx] at this
  have hl : m.hasL k = true := by simp [M.hasL, h.1]; omega
  simp only [M.holder, hl, if_true, Int.toNat_natCast]
  exact (Option.some.inj this).symm

set_option maxHeartbeats 4000000 in
set_option maxRecDepth 100000 in
theorem memOne_walk (locks : Int) (a : Option Addr) (len cap : Nat) (w : World) (hq : (Lit.int .u8 locks).wf = true) (hz : RdDos w a len) :
    Calls Try.prog 12 #[.int .u8 locks, .slice a len cap] w fun e w' => e = .returned (.bool true) ∧ Below w.heap.size w w' := by
  have hlen : len ≤ 9223372036854775807 := hz.1
  have HZ := Lib.hid hz
  obtain ⟨l0, l1⟩ := wf_u8d hq
  obtain ⟨n, hn, hn1, hn5⟩ : ∃ n : Nat, 1 + locks.tmod 5 = n ∧ 1 ≤ n ∧ n ≤ 5 := ⟨(1 + locks % 5).toNat, by rw [Int.tmod_eq_emod_of_nonneg l0]; omega, by omega, by omega⟩
  obtain ⟨q, hq5, hqn⟩ : ∃ q : Nat, locks.tmod 5 = q ∧ 1 + q = n := ⟨(locks % 5).toNat, by rw [Int.tmod_eq_emod_of_nonneg l0]; omega, by rw [Int.tmod_eq_emod_of_nonneg l0] at hn; omega⟩
  clear hz hn hq
  go_enter Try.func12, Try.ntmps12
  go_wp2_with fail
  have hnn : (1 : Int) + q = n := by omega
  refine (On.new 1 (1 + q) w _ (Below.refl _ _) rfl).mono ?_
  rintro e w1 ⟨g, rfl, h⟩
  rw [hnn] at h
  have hinv := one_new n (by omega)
  have hl0 : (newM 1 n).Lg.length = 0 := rfl
  generalize newM 1 n = m0 at h hinv hl0
  clear hq5
  go_wp2_with fail
  go_loopw [7] (fun i wr => ∃ (j : Nat) (m : M), j ≤ len ∧ j ≤ 120 ∧ i = .int .i64 j ∧ m.Lg.length ≤ j ∧ OneInv n m ∧ On w g m wr) (fun i _ => len - (intOf i).toNat)
  case atStart => exact ⟨0, m0, by omega, by omega, rfl, by omega, hinv, h⟩
  case round =>
    clear h hinv hl0
    obtain ⟨j, m, hj, hj2, rfl, hL, hI, hO⟩ := hrel
    have HS := Lib.hid (one_small n m hI (by omega) (by omega))
    by_cases hc : j < len ∧ j < 120
    · obtain ⟨hl1, hl2⟩ := hc
      obtain ⟨ad, x, rfl, hx, hok⟩ := HZ.out.2 j hl1
      have hx' := hx.below hO.below (Nat.le_refl _)
      obtain ⟨c0, c1, c2, c3, c4⟩ := hx'
      obtain ⟨⟨z0, z1⟩, _⟩ := hok
      obtain ⟨z, t, i, o, nw⟩ := x
      dsimp only at c0 c1 c2 c3 c4 z0 z1
      have c1 : wr.cell? ⟨(ad.add (j * 5)).block, (ad.add (j * 5)).off + 1, none⟩ = some (.int .i64 t) := c1
      have c2 : wr.cell? ⟨(ad.add (j * 5)).block, (ad.add (j * 5)).off + 2, none⟩ = some (.int .i64 i) := c2
      have c3 : wr.cell? ⟨(ad.add (j * 5)).block, (ad.add (j * 5)).off + 3, none⟩ = some (.int .u64 o) := c3
      have c4 : wr.cell? ⟨(ad.add (j * 5)).block, (ad.add (j * 5)).off + 4, none⟩ = some (.int .u64 nw) := c4
      obtain ⟨z, rfl⟩ := Int.eq_ofNat_of_zero_le z0
      clear hx
      have HO := Lib.hid (hO.step ((Below.refl _ wr).alloc (Nat.le_refl _) (.cells #[.int .u8 z, .int .i64 t, .int .i64 i, .int .u64 o, .int .u64 nw] 57)))
      clear hO
      have HI := Lib.hid hI
      clear hI
      by_cases hz2 : z % 2 = 0
      · have hz2' : (z : Int).tmod 2 = 0 := by rw [Int.tmod_eq_emod_of_nonneg (by omega)]; omega
        go_wp2_with fail
        refine (HO.out.post (fun F hm => lock_any g F _ t i _ hm HS.out) rfl rfl).mono ?_
        rintro e w3 ⟨rfl, hO3⟩
        go_wp2_with fail
        go_roundw
        case rel => exact ⟨j + 1, _, by omega, by omega, by go_num, Nat.le_trans (lock_len _ _ _) (by omega), one_lock _ _ HI.out _ _, hO3⟩
        case measure => simp [intOf]; omega
      · have hz2' : ((z : Int).tmod 2 == 0) = false := by rw [Int.tmod_eq_emod_of_nonneg (by omega)]; simp; omega
        go_wp2_with fail
        refine (HO.out.post (fun F hm => unlock_any g F _ t i _ hm HS.out) rfl rfl).mono ?_
        rintro e w3 ⟨rfl, hO3⟩
        go_wp2_with fail
        go_roundw
        case rel => exact ⟨j + 1, _, by omega, by omega, by go_num, Nat.le_trans (unlock_len _ _ _) (by omega), one_unlock _ _ HI.out _ _, hO3⟩
        case measure => simp [intOf]; omega
    · have hex : ¬ (j < len) ∨ (j < len ∧ ¬ (j < 120)) := by omega
      have HI := Lib.hid hI
      clear hI
      have hLL : m.Lg.length ≤ 120 := by omega
      clear hc
      rcases hex with hc | ⟨hc0, hc⟩
      · go_wp2_with fail
        refine (hO.log (l := m.Lg) HS.out rfl).mono ?_
        rintro e w5 ⟨a5, c5, rfl, hr, hO5⟩
        have HR := Lib.hid hr
        clear hr hO
        go_wp2_with fail
        go_loopw [10] (fun i wr => ∃ k : Nat, k ≤ n ∧ i = .int .i64 k ∧ On w g m wr ∧ Hid (RdFrom wr w.heap.size a5 (logC m.Lg))) (fun i _ => n - (intOf i).toNat)
        case atStart => exact ⟨0, Nat.zero_le _, rfl, hO5, HR⟩
        case round =>
          clear hO5 HR
          obtain ⟨k, hkn, rfl, hO6, HR6⟩ := hrel
          by_cases hk : k < n
          · go_wp2_with fail
            have hw3 : IntKind.i64.wrap (3 * (k : Int)) = 3 * k := IntWalk.i64_in _ (by omega)
            have hw4 : IntKind.i64.wrap (3 * (k : Int) + 1) = 3 * k + 1 := IntWalk.i64_in _ (by omega)
            have HSC := Lib.hid (HI.out.2.2 k hk)
            obtain ⟨holder, hho⟩ : ∃ holder, m.L.getD k 0 = holder := ⟨_, rfl⟩
            rw [hho] at HSC
            clear hho
            go_loopw [11, 12] (fun d i wv => ∃ (h : Int) (y : Nat), y ≤ m.Lg.length ∧ d = .int .i64 h ∧ i = .int .i64 y ∧ Hid (scan k (-1) (m.Lg.take y) = some h) ∧ wv = wr) (fun _ i _ => m.Lg.length - (intOf i).toNat)
            case atStart => exact ⟨-1, 0, Nat.zero_le _, rfl, rfl, Lib.hid rfl, rfl⟩
            case round =>
              obtain ⟨h, y, hy, rfl, rfl, HH, rfl⟩ := hrel
              by_cases hyl : y < m.Lg.length
              · obtain ⟨b5, rfl, c1, c2, c3⟩ := rd_at HR6.out hyl
                obtain ⟨h', hs, hn'⟩ := scan_at k m.Lg holder HSC.out y hyl h HH.out
                have HN := Lib.hid hn'
                clear hn'
                obtain ⟨x, hx⟩ : ∃ x, m.Lg[y] = x := ⟨_, rfl⟩
                rw [hx] at c1 c2 c3 hs
                clear hx
                obtain ⟨th, kd, pl⟩ := x
                dsimp only at c1 c2 c3
                by_cases hpl : pl = 3 * (k : Int) + 1
                · subst hpl
                  by_cases hk1 : kd = 1
                  · subst hk1
                    obtain ⟨hneg, rfl⟩ : h < 0 ∧ h' = th := scan_lock hs
                    clear hs
                    go_wp2_with fail
                    go_roundw
                    case rel => exact ⟨_, y + 1, by omega, rfl, by go_num, HN, trivial⟩
                    case measure => simp [intOf]; omega
                  · by_cases hk2 : kd = 2
                    · subst hk2
                      obtain ⟨rfl, rfl⟩ := scan_unlock hs
                      clear hs
                      go_wp2_with fail
                      go_roundw
                      case rel => exact ⟨_, y + 1, by omega, rfl, by go_num, HN, trivial⟩
                      case measure => simp [intOf]; omega
                    · obtain rfl := scan_else hk1 hk2 hs
                      have e1 : (kd == 1) = false := beq_eq_false_iff_ne.2 hk1
                      have e2 : (kd == 2) = false := beq_eq_false_iff_ne.2 hk2
                      clear hs hk1 hk2
                      go_wp2_with fail
                      go_roundw
                      case rel => exact ⟨_, y + 1, by omega, rfl, by go_num, HN, trivial⟩
                      case measure => simp [intOf]; omega
                · obtain rfl := scan_far hpl hs
                  have e1 : (pl == 3 * (k : Int) + 1) = false := beq_eq_false_iff_ne.2 hpl
                  clear hs hpl
                  go_wp2_with fail
                  go_roundw
                  case rel => exact ⟨_, y + 1, by omega, rfl, by go_num, HN, trivial⟩
                  case measure => simp [intOf]; omega
              · obtain rfl : y = m.Lg.length := by omega
                have hh := HH.out
                rw [List.take_length, HSC.out] at hh
                obtain rfl : holder = h := Option.some.inj hh
                clear hh
                go_wp2_with fail
                obtain ⟨F, hm, hF, hb⟩ := hO6
                refine (holder_val g F _ k holder _ hm HS.out (one_holder n m HI.out k hk holder HSC.out)).mono ?_
                rintro e w7 ⟨rfl, rfl⟩
                go_wp2_with fail
                go_roundw
                case rel => exact ⟨k + 1, by omega, by go_num, ⟨F, hm, hF, hb⟩, HR6⟩
                case measure => simp [intOf]; omega
          · go_wp2_with fail
            refine (awake19_any _).mono ?_
            rintro e w7 ⟨rfl, hb7⟩
            go_wp2_with fail
            go_ret
            exact ⟨rfl, (hO6.step hb7).below⟩
      · go_wp2_with fail
        refine (hO.log (l := m.Lg) HS.out rfl).mono ?_
        rintro e w5 ⟨a5, c5, rfl, hr, hO5⟩
        have HR := Lib.hid hr
        clear hr hO
        go_wp2_with fail
        go_loopw [10] (fun i wr => ∃ k : Nat, k ≤ n ∧ i = .int .i64 k ∧ On w g m wr ∧ Hid (RdFrom wr w.heap.size a5 (logC m.Lg))) (fun i _ => n - (intOf i).toNat)
        case atStart => exact ⟨0, Nat.zero_le _, rfl, hO5, HR⟩
        case round =>
          clear hO5 HR
          obtain ⟨k, hkn, rfl, hO6, HR6⟩ := hrel
          by_cases hk : k < n
          · go_wp2_with fail
            have hw3 : IntKind.i64.wrap (3 * (k : Int)) = 3 * k := IntWalk.i64_in _ (by omega)
            have hw4 : IntKind.i64.wrap (3 * (k : Int) + 1) = 3 * k + 1 := IntWalk.i64_in _ (by omega)
            have HSC := Lib.hid (HI.out.2.2 k hk)
            obtain ⟨holder, hho⟩ : ∃ holder, m.L.getD k 0 = holder := ⟨_, rfl⟩
            rw [hho] at HSC
            clear hho
            go_loopw [11, 12] (fun d i wv => ∃ (h : Int) (y : Nat), y ≤ m.Lg.length ∧ d = .int .i64 h ∧ i = .int .i64 y ∧ Hid (scan k (-1) (m.Lg.take y) = some h) ∧ wv = wr) (fun _ i _ => m.Lg.length - (intOf i).toNat)
            case atStart => exact ⟨-1, 0, Nat.zero_le _, rfl, rfl, Lib.hid rfl, rfl⟩
            case round =>
              obtain ⟨h, y, hy, rfl, rfl, HH, rfl⟩ := hrel
              by_cases hyl : y < m.Lg.length
              · obtain ⟨b5, rfl, c1, c2, c3⟩ := rd_at HR6.out hyl
                obtain ⟨h', hs, hn'⟩ := scan_at k m.Lg holder HSC.out y hyl h HH.out
                have HN := Lib.hid hn'
                clear hn'
                obtain ⟨x, hx⟩ : ∃ x, m.Lg[y] = x := ⟨_, rfl⟩
                rw [hx] at c1 c2 c3 hs
                clear hx
                obtain ⟨th, kd, pl⟩ := x
                dsimp only at c1 c2 c3
                by_cases hpl : pl = 3 * (k : Int) + 1
                · subst hpl
                  by_cases hk1 : kd = 1
                  · subst hk1
                    obtain ⟨hneg, rfl⟩ : h < 0 ∧ h' = th := scan_lock hs
                    clear hs
                    go_wp2_with fail
                    go_roundw
                    case rel => exact ⟨_, y + 1, by omega, rfl, by go_num, HN, trivial⟩
                    case measure => simp [intOf]; omega
                  · by_cases hk2 : kd = 2
                    · subst hk2
                      obtain ⟨rfl, rfl⟩ := scan_unlock hs
                      clear hs
                      go_wp2_with fail
                      go_roundw
                      case rel => exact ⟨_, y + 1, by omega, rfl, by go_num, HN, trivial⟩
                      case measure => simp [intOf]; omega
                    · obtain rfl := scan_else hk1 hk2 hs
                      have e1 : (kd == 1) = false := beq_eq_false_iff_ne.2 hk1
                      have e2 : (kd == 2) = false := beq_eq_false_iff_ne.2 hk2
                      clear hs hk1 hk2
                      go_wp2_with fail
                      go_roundw
                      case rel => exact ⟨_, y + 1, by omega, rfl, by go_num, HN, trivial⟩
                      case measure => simp [intOf]; omega
                · obtain rfl := scan_far hpl hs
                  have e1 : (pl == 3 * (k : Int) + 1) = false := beq_eq_false_iff_ne.2 hpl
                  clear hs hpl
                  go_wp2_with fail
                  go_roundw
                  case rel => exact ⟨_, y + 1, by omega, rfl, by go_num, HN, trivial⟩
                  case measure => simp [intOf]; omega
              · obtain rfl : y = m.Lg.length := by omega
                have hh := HH.out
                rw [List.take_length, HSC.out] at hh
                obtain rfl : holder = h := Option.some.inj hh
                clear hh
                go_wp2_with fail
                obtain ⟨F, hm, hF, hb⟩ := hO6
                refine (holder_val g F _ k holder _ hm HS.out (one_holder n m HI.out k hk holder HSC.out)).mono ?_
                rintro e w7 ⟨rfl, rfl⟩
                go_wp2_with fail
                go_roundw
                case rel => exact ⟨k + 1, by omega, by go_num, ⟨F, hm, hF, hb⟩, HR6⟩
                case measure => simp [intOf]; omega
          · go_wp2_with fail
            refine (awake19_any _).mono ?_
            rintro e w7 ⟨rfl, hb7⟩
            go_wp2_with fail
            go_ret
            exact ⟨rfl, (hO6.step hb7).below⟩
end Go.Proofs.Ytpmhlcnnbkicaaa
