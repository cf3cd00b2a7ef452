/- The walks of short, awake. Printed by gen_raceo.py. -/
import Derived.Test.YtccbiolgdamnpaaRaceL
import Derived.Maps.AppendAt
namespace Go.Proofs.Ytccbiolgdamnpaa
set_option linter.unusedSimpArgs false
set_option linter.unusedVariables false
open Go Go.RowKit

def accC (x : Ac) : List Value := [.int .i64 x.th, .int .i64 x.kd, .int .i64 x.pl]
def logC (L : List Ac) : List Value := L.flatMap accC
theorem logC_length (L : List Ac) : (logC L).length = L.length * 3 := by
  induction L with
  | nil => rfl
  | cons a l ih => simp only [logC, List.flatMap_cons, List.length_append, List.length_cons] at *; rw [ih]; simp [accC]; omega
theorem logC_get : ∀ (L : List Ac) (j k : Nat), j < L.length → k < 3 → (logC L)[j * 3 + k]? = (accC (ac L j))[k]?
  | [], j, k, hj, _ => by simp at hj
  | x :: L, 0, k, _, hk => by
    show (accC x ++ logC L)[0 * 3 + k]? = _
    rw [List.getElem?_append_left (by simp [accC]; omega), Nat.zero_mul, Nat.zero_add]; rfl
  | x :: L, j + 1, k, hj, hk => by
    show (accC x ++ logC L)[(j + 1) * 3 + k]? = _
    rw [List.getElem?_append_right (by simp [accC]; omega), show (j + 1) * 3 + k - (accC x).length = j * 3 + k by simp [accC]; omega, logC_get L j k (by simpa using hj) hk]
    rfl
theorem log_cells {w : World} {a : Option Addr} {L : List Ac} (hok : ∀ j, j < L.length → AcOk (ac L j)) (h : ∀ j x, (logC L)[j]? = some x → ∃ g, a = some ⟨g, 0, none⟩ ∧ w.cell? ⟨g, j, none⟩ = some x) : LogAt w a L := by
  refine ⟨fun j hj => ⟨hok j hj, ?_⟩⟩
  obtain ⟨g, rfl, h0⟩ := h (j * 3) _ (logC_get L j 0 hj (by omega))
  obtain ⟨g1, e1, h1⟩ := h (j * 3 + 1) _ (logC_get L j 1 hj (by omega))
  obtain ⟨g2, e2, h2⟩ := h (j * 3 + 2) _ (logC_get L j 2 hj (by omega))
  obtain rfl : g = g1 := by injection e1 with e1; injection e1
  obtain rfl : g = g2 := by injection e2 with e2; injection e2
  have e : (⟨g, 0, none⟩ : Addr).add (j * 3) = ⟨g, j * 3, none⟩ := by rw [Addr.add_mid, Nat.zero_add]
  refine ⟨_, rfl, ?_⟩
  rw [e]
  exact ⟨h0, h1, h2⟩
theorem log_new (w : World) (L : List Ac) (T : TypeId) (hok : ∀ j, j < L.length → AcOk (ac L j)) : LogAt (w.alloc (.cells (logC L).toArray T)) (some ⟨w.heap.size, 0, none⟩) L :=
  log_cells hok fun j x hj => ⟨_, rfl, by simp; exact hj⟩
theorem log_of_row {w : World} {v : Value} {L : List Ac} (h : Row w 32 3 v L.length (logC L)) (hok : ∀ j, j < L.length → AcOk (ac L j)) : ∃ a c, v = .slice a L.length c ∧ LogAt w a L := by
  obtain ⟨a, c, rfl, hx⟩ := row_form h
  exact ⟨a, c, rfl, log_cells hok fun j x hj => let ⟨g, h1, h2, _⟩ := hx j x hj; ⟨g, h1, h2⟩⟩
/-- The first n. -/
theorem LogAt.take {w : World} {a : Option Addr} {L : List Ac} (h : LogAt w a L) (n : Nat) : LogAt w a (L.take n) := by
  refine ⟨fun j hj => ?_⟩
  rw [List.length_take] at hj
  have e : ac (L.take n) j = ac L j := by
    unfold ac
    rw [List.getD_eq_getElem?_getD, List.getD_eq_getElem?_getD, List.getElem?_take, if_pos (by omega)]
  rw [e]
  exact h.at_ j (by omega)
theorem LogAt.drewN {w : World} {a : Option Addr} {L : List Ac} (h : LogAt w a L) (n : Nat) : LogAt (w.drewN n) a L := ⟨h.at_⟩
/-- Find, where its answer is known. -/
theorem find_is {a : Option Addr} {cap : Nat} {L : List Ac} {w : World} {n k : Int} (hL : LogAt w a L) (hlen : L.length ≤ 200) (hF : FindIs L n k) {m : Nat} (hm : L.length = m) :
    Calls Try.prog 7 #[.slice a m cap] w fun e w' => e = .returned (.tuple #[.int .i64 n, .int .i64 k]) ∧ Below w.heap.size w w' := by
  subst hm
  refine (find_any a cap L w hL hlen).mono ?_
  rintro e w' ⟨⟨n', k', rfl, h⟩, hb⟩
  obtain ⟨rfl, rfl⟩ := h.same hF
  exact ⟨rfl, hb⟩

theorem before_is {a : Option Addr} {cap : Nat} {L : List Ac} {w : World} {x y : Int} {b : Bool} {m : Nat} (hL : LogAt w a L) (hlen : L.length ≤ 200) (hm : L.length = m) (hb : beforeB L x y = b) :
    Calls Try.prog 10 #[.slice a m cap, .int .i64 x, .int .i64 y] w fun e w' => e = .returned (.bool b) ∧ Below w.heap.size w w' := by
  subst hm hb
  exact before_any a cap L x y w hL hlen
/-! ### The fixed facts -/
def oneL : List Ac := [⟨0, 6, 2⟩, ⟨0, 2, 1⟩, ⟨1, 1, 1⟩, ⟨1, 6, 2⟩]
def twoL : List Ac := [⟨0, 6, 2⟩, ⟨1, 6, 2⟩]
theorem one_hb : HB oneL 0 3 := (HB.one (show 0 < 1 by decide) (by decide)).trans ((HB.one (show 1 < 2 by decide) (by decide)).trans (HB.one (show 2 < 3 by decide) (by decide)))
theorem one_known : Known oneL := fun i hi => by
  rcases i with _ | _ | _ | _ | i
  · decide
  · decide
  · decide
  · decide
  · simp [oneL] at hi; omega
theorem two_known : Known twoL := fun i hi => by
  rcases i with _ | _ | i
  · decide
  · decide
  · simp [twoL] at hi; omega
theorem one_find : FindIs oneL (-1) 0 := by
  refine .inr ⟨one_known, .inr ⟨fun n hn ⟨hp, i, hi, hq, h2, h3, h4⟩ => ?_, rfl, rfl⟩⟩
  rcases n with _ | _ | _ | _ | n
  · omega
  · rcases hp with h | h <;> exact absurd h (by decide)
  · rcases hp with h | h <;> exact absurd h (by decide)
  · rcases i with _ | _ | _ | i
    · exact h4 one_hb
    · rcases hq with h | h <;> exact absurd h (by decide)
    · rcases hq with h | h <;> exact absurd h (by decide)
    · omega
  · simp [oneL] at hn; omega
theorem two_find : FindIs twoL 1 17 := by
  refine .inr ⟨two_known, .inl ⟨1, by decide, ⟨.inr rfl, 0, by decide, .inr rfl, rfl, .inl rfl, fun h => ?_⟩, fun i hi => ?_, rfl, rfl⟩⟩
  · obtain ⟨m, h1, h2, h3, h4⟩ := h.last (by decide)
    obtain rfl : m = 0 := by omega
    exact absurd h4 (by decide)
  · obtain rfl : i = 0 := by omega
    rintro ⟨_, i, hi, _⟩
    omega
theorem one_before : beforeB oneL 0 3 = true := beforeB_iff.2 ⟨by decide, by decide, by decide, one_hb⟩
theorem one_not : beforeB oneL 3 0 = false := beforeB_no (.inr (.inl (by decide)))
theorem ok_small {x : Ac} (h1 : 0 ≤ x.th ∧ x.th < 1000) (h2 : 0 ≤ x.kd ∧ x.kd < 1000) (h3 : 0 ≤ x.pl ∧ x.pl < 1000) : AcOk x := ⟨WalkArith.wf_i64 (by omega), WalkArith.wf_i64 (by omega), WalkArith.wf_i64 (by omega)⟩
theorem one_ok : ∀ j, j < oneL.length → AcOk (ac oneL j) := fun i hi => by
  rcases i with _ | _ | _ | _ | i
  · exact ok_small (by decide) (by decide) (by decide)
  · exact ok_small (by decide) (by decide) (by decide)
  · exact ok_small (by decide) (by decide) (by decide)
  · exact ok_small (by decide) (by decide) (by decide)
  · simp [oneL] at hi; omega
theorem two_ok : ∀ j, j < twoL.length → AcOk (ac twoL j) := fun i hi => by
  rcases i with _ | _ | i
  · exact ok_small (by decide) (by decide) (by decide)
  · exact ok_small (by decide) (by decide) (by decide)
  · simp [twoL] at hi; omega

set_option maxHeartbeats 4000000 in
set_option maxRecDepth 100000 in
theorem short_any (s : Option Addr) (len cap : Nat) (w : World) (hlen : len ≤ cap) (hcap : cap ≤ maxLen) (hs : 0 < len → ∃ ad, s = some ad) :
    Calls Try.prog 6 #[.slice s len cap] w fun e w' => e = .returned (.slice s (min len 60) cap) ∧ w' = w := by
  by_cases h : 60 < len
  · obtain ⟨ad, rfl⟩ := hs (by omega)
    have hm : min len 60 = 60 := by omega
    have HM := Lib.hid hm
    clear hm
    go_enter Try.func6, Try.ntmps6
    go_wp2_with fail
    go_ret
    exact ⟨by (rw [HM.out]) <;> rfl, rfl⟩
  · have hm : min len 60 = len := by omega
    have HM := Lib.hid hm
    clear hm
    go_enter Try.func6, Try.ntmps6
    go_wp2_with fail
    go_ret
    exact ⟨by (rw [HM.out]) <;> rfl, rfl⟩

set_option maxHeartbeats 8000000 in
set_option maxRecDepth 100000 in
theorem awake_any (w : World) :
    Calls Try.prog 9 #[] w fun e w' => e = .returned (.bool true) ∧ Below w.heap.size w w' := by
  have hl1 := log_new w oneL 32 one_ok
  have hB1 : Below w.heap.size w (w.alloc (.cells (logC oneL).toArray 32)) := (Below.refl _ _).alloc (Nat.le_refl _) _
  have ha : (w.alloc (.cells (logC oneL).toArray 32)) = w.alloc (.cells #[.int .i64 0, .int .i64 6, .int .i64 2, .int .i64 0, .int .i64 2, .int .i64 1, .int .i64 1, .int .i64 1, .int .i64 1, .int .i64 1, .int .i64 6, .int .i64 2] 32) := rfl
  rw [ha] at hl1 hB1
  have HL1 := Lib.hid hl1
  have HB1 := Lib.hid hB1
  clear hl1 hB1 ha
  go_enter Try.func9, Try.ntmps9
  go_wp2_with fail
  generalize w.alloc (.cells #[.int .i64 0, .int .i64 6, .int .i64 2, .int .i64 0, .int .i64 2, .int .i64 1, .int .i64 1, .int .i64 1, .int .i64 1, .int .i64 1, .int .i64 6, .int .i64 2] 32) = w1 at *
  refine (find_is (L := oneL) HL1.out (by decide) one_find rfl).mono ?_
  rintro e w2 ⟨rfl, hb2⟩
  go_wp2_with fail
  have HL2 := Lib.hid (HL1.out.below hb2 (Nat.le_refl _))
  have HB2 : Hid (Below w.heap.size w w2) := Lib.hid (HB1.out.trans (hb2.mono HB1.out.size))
  clear hb2 HL1 HB1
  obtain ⟨_, ad, had, a0, a1, a2⟩ := HL2.out.at_ 0 (by decide)
  obtain rfl := Option.some.inj had
  obtain ⟨_, ad', had2, b0, b1, b2⟩ := HL2.out.at_ 3 (by decide)
  obtain rfl := Option.some.inj had2
  clear had had2
  have a0' : w2.cell? ⟨w.heap.size, 0, none⟩ = some (.int .i64 0) := a0
  have a1' : w2.cell? ⟨w.heap.size, 1, none⟩ = some (.int .i64 6) := a1
  have a2' : w2.cell? ⟨w.heap.size, 2, none⟩ = some (.int .i64 2) := a2
  have b0' : w2.cell? ⟨w.heap.size, 9, none⟩ = some (.int .i64 1) := b0
  have b1' : w2.cell? ⟨w.heap.size, 10, none⟩ = some (.int .i64 6) := b1
  have b2' : w2.cell? ⟨w.heap.size, 11, none⟩ = some (.int .i64 2) := b2
  clear a0 a1 a2 b0 b1 b2
  have HS0 : Since w2 w2.drew := (Below.refl _ _).drew
  refine WH.enter (Since w2) (by kernel_rfl) 13 rfl ?_
  refine WH.take 0 (some 17) rfl rfl (by kernel_rfl) (by kernel_rfl) (by kernel_rfl) (fun _ _ _ h => h) (by rfl) (fun v hv => by have k0 := hv.cell a0'; have k1 := hv.cell a1'; have k2 := hv.cell a2'; have k3 := hv.cell b0'; have k4 := hv.cell b1'; have k5 := hv.cell b2'; go_simp; first | done | with_reducible rfl) HS0 ?_; simp only [Act.put, List.setIfInBounds_toArray, List.set_cons_zero, List.set_cons_succ]
  refine WH.take 1 (some 18) rfl rfl (by kernel_rfl) (by kernel_rfl) (by kernel_rfl) (fun _ _ _ h => h) (by rfl) (fun v hv => by have k0 := hv.cell a0'; have k1 := hv.cell a1'; have k2 := hv.cell a2'; have k3 := hv.cell b0'; have k4 := hv.cell b1'; have k5 := hv.cell b2'; go_simp; first | done | with_reducible rfl) HS0 ?_; simp only [Act.put, List.setIfInBounds_toArray, List.set_cons_zero, List.set_cons_succ]
  refine WH.take 2 (some 19) rfl rfl (by kernel_rfl) (by kernel_rfl) (by kernel_rfl) (fun _ _ _ h => h) (by rfl) (fun v hv => by have k0 := hv.cell a0'; have k1 := hv.cell a1'; have k2 := hv.cell a2'; have k3 := hv.cell b0'; have k4 := hv.cell b1'; have k5 := hv.cell b2'; go_simp; first | done | with_reducible rfl) HS0 ?_; simp only [Act.put, List.setIfInBounds_toArray, List.set_cons_zero, List.set_cons_succ]
  refine WH.take 3 (some 20) rfl rfl (by kernel_rfl) (by kernel_rfl) (by kernel_rfl) (fun _ _ _ h => h) (by rfl) (fun v hv => by have k0 := hv.cell a0'; have k1 := hv.cell a1'; have k2 := hv.cell a2'; have k3 := hv.cell b0'; have k4 := hv.cell b1'; have k5 := hv.cell b2'; go_simp; first | done | with_reducible rfl) HS0 ?_; simp only [Act.put, List.setIfInBounds_toArray, List.set_cons_zero, List.set_cons_succ]
  refine WH.take 4 (some 21) rfl rfl (by kernel_rfl) (by kernel_rfl) (by kernel_rfl) (fun _ _ _ h => h) (by rfl) (fun v hv => by have k0 := hv.cell a0'; have k1 := hv.cell a1'; have k2 := hv.cell a2'; have k3 := hv.cell b0'; have k4 := hv.cell b1'; have k5 := hv.cell b2'; go_simp; first | done | with_reducible rfl) HS0 ?_; simp only [Act.put, List.setIfInBounds_toArray, List.set_cons_zero, List.set_cons_succ]
  refine WH.take 5 (some 22) rfl rfl (by kernel_rfl) (by kernel_rfl) (by kernel_rfl) (fun _ _ _ h => h) (by rfl) (fun v hv => by have k0 := hv.cell a0'; have k1 := hv.cell a1'; have k2 := hv.cell a2'; have k3 := hv.cell b0'; have k4 := hv.cell b1'; have k5 := hv.cell b2'; go_simp; first | done | with_reducible rfl) HS0 ?_; simp only [Act.put, List.setIfInBounds_toArray, List.set_cons_zero, List.set_cons_succ]
  clear a0' a1' a2' b0' b1' b2'
  have hl3 := log_new w2.drew twoL 32 two_ok
  have hs3 : Since w2 (w2.drew.alloc (.cells (logC twoL).toArray 32)) := Below.alloc HS0 HS0.size _
  have ha : (w2.drew.alloc (.cells (logC twoL).toArray 32)) = w2.drew.alloc (.cells #[.int .i64 0, .int .i64 6, .int .i64 2, .int .i64 1, .int .i64 6, .int .i64 2] 32) := rfl
  rw [ha] at hl3 hs3
  have HL3 := Lib.hid hl3
  have HS3 := Lib.hid hs3
  clear ha hl3 hs3
  refine WH.one 6 (by kernel_rfl) rfl (by rfl) ?_
  go_wp2_with fail
  have HL4 : Hid (LogAt (w2.alloc (.cells #[.int .i64 0, .int .i64 6, .int .i64 2, .int .i64 1, .int .i64 6, .int .i64 2] 32)).drew (some ⟨w2.heap.size, 0, none⟩) twoL) := HL3
  have HS4 : Hid (Since w2 (w2.alloc (.cells #[.int .i64 0, .int .i64 6, .int .i64 2, .int .i64 1, .int .i64 6, .int .i64 2] 32)).drew) := HS3
  clear HL3 HS3
  generalize (w2.alloc (.cells #[.int .i64 0, .int .i64 6, .int .i64 2, .int .i64 1, .int .i64 6, .int .i64 2] 32)).drew = w4 at *
  refine ⟨HS4.out, ?_⟩
  refine WH.one 7 (by kernel_rfl) rfl (by rfl) ?_
  go_wp2_with fail
  refine (find_is (L := twoL) HL4.out (by decide) two_find rfl).mono ?_
  rintro e w5 ⟨rfl, hb5⟩
  have hs5 : Since w2 w5 := HS4.out.step hb5
  have HS5 := Lib.hid hs5
  clear hb5 hs5
  go_wp2_with fail
  refine ⟨HS5.out, ?_⟩
  refine WH.take 8 (some 16) rfl rfl (by kernel_rfl) (by kernel_rfl) (by kernel_rfl) (fun _ _ _ h => h) (by rfl) (fun v hv => by go_simp; first | done | with_reducible rfl) HS5.out ?_; simp only [Act.put, List.setIfInBounds_toArray, List.set_cons_zero, List.set_cons_succ]
  refine WH.take 9 (some 25) rfl rfl (by kernel_rfl) (by kernel_rfl) (by kernel_rfl) (fun _ _ _ h => h) (by rfl) (fun v hv => by go_simp; first | done | with_reducible rfl) HS5.out ?_; simp only [Act.put, List.setIfInBounds_toArray, List.set_cons_zero, List.set_cons_succ]
  refine WH.take 10 (some 26) rfl rfl (by kernel_rfl) (by kernel_rfl) (by kernel_rfl) (fun _ _ _ h => h) (by rfl) (fun v hv => by go_simp; first | done | with_reducible rfl) HS5.out ?_; simp only [Act.put, List.setIfInBounds_toArray, List.set_cons_zero, List.set_cons_succ]
  refine WH.take 11 (some 4) rfl rfl (by kernel_rfl) (by kernel_rfl) (by kernel_rfl) (fun _ _ _ h => h) (by rfl) (fun v hv => by go_simp; first | done | with_reducible rfl) HS5.out ?_; simp only [Act.put, List.setIfInBounds_toArray, List.set_cons_zero, List.set_cons_succ]
  refine WH.take 12 (some 5) rfl rfl (by kernel_rfl) (by kernel_rfl) (by kernel_rfl) (fun _ _ _ h => h) (by rfl) (fun v hv => by go_simp; first | done | with_reducible rfl) HS5.out ?_; simp only [Act.put, List.setIfInBounds_toArray, List.set_cons_zero, List.set_cons_succ]
  refine WH.done (by kernel_rfl) ?_
  have HL5 := Lib.hid (HL2.out.below HS5.out (Nat.le_refl _))
  have HB5 := Lib.hid (HB2.out.trans (Below.mono HS5.out HB2.out.size))
  clear HL4 HS4 HS5 HS0 HB2 HL2
  go_wp2_with fail
  refine (before_is (L := oneL) HL5.out (by decide) rfl one_before).mono ?_
  rintro e w6 ⟨rfl, hb6⟩
  have HL6 := Lib.hid (HL5.out.below hb6 (Nat.le_refl _))
  have HB6 := Lib.hid (HB5.out.trans (hb6.mono HB5.out.size))
  clear hb6 HL5 HB5
  go_wp2_with fail
  refine (before_is (L := oneL) HL6.out (by decide) rfl one_not).mono ?_
  rintro e w7 ⟨rfl, hb7⟩
  have HB7 := Lib.hid (HB6.out.trans (hb7.mono HB6.out.size))
  clear hb7
  go_wp2_with fail
  go_ret
  exact ⟨rfl, HB7.out⟩
end Go.Proofs.Ytccbiolgdamnpaa
