/- The walk of (*state).races. Printed by gen_raceg.py. -/
import Derived.Test.YtccbiolgdamnpaaRaceF
namespace Go.Proofs.Ytccbiolgdamnpaa
set_option linter.unusedSimpArgs false
set_option linter.unusedVariables false
open Go Go.RowKit Go.Maps Go.MapKept
open Go.ChangeMaps (setBlock)

/-- Has another thread touched a place that thread t has not heard of? -/
def LateAt (S : VS) (t : Nat) (g : Nat → Option Nat) : Prop := ∃ u c, u < 64 ∧ u ≠ t ∧ g u = some c ∧ S.V t u < c
noncomputable def lateB (S : VS) (t : Nat) (g : Nat → Option Nat) : Bool := @decide (LateAt S t g) (Classical.propDecidable _)
theorem lateB_iff {S : VS} {t : Nat} {g : Nat → Option Nat} : lateB S t g = true ↔ LateAt S t g := by unfold lateB; exact @decide_eq_true_iff _ (Classical.propDecidable _)
/-- Does an access race? -/
noncomputable def racesB (S : VS) (x : Ac) : Bool :=
  if x.kd = 5 then lateB (S.step x) x.th.toNat ((S.step x).Wr x.pl)
  else if x.kd = 6 then lateB (S.step x) x.th.toNat ((S.step x).Wr x.pl) || lateB (S.step x) x.th.toNat ((S.step x).Rd x.pl)
  else false
theorem late_at (B : Blk) (S : VS) (x : Ac) (t : Nat) (V : Value) (g : Nat → Option Nat) (w : World) (hR : Rep w B S) (hV : (V = .map none ∧ ∀ u, u < 64 → g u = none) ∨ ∃ bi, V = .map (some bi) ∧ TM w bi g) (ht : x.th = t) (ht64 : t < 64) :
    Calls Try.prog 20 #[.pointer (some ⟨B.b, 0, none⟩), acV x, V] w fun e w' => e = .returned (.bool (lateB S t g)) ∧ Below w.heap.size w w' := by
  rcases hV with ⟨rfl, hn⟩ | ⟨bi, rfl, htm⟩
  · have hf : lateB S t g = false := by
      rw [← Bool.not_eq_true, lateB_iff]
      rintro ⟨u, c, hu, _, hc, _⟩
      rw [hn u hu] at hc; cases hc
    rw [hf]
    exact late_nil B x w
  · refine (late_any B S x t bi g w hR htm ht ht64).mono ?_
    rintro e w' ⟨b, rfl, hb, hbe⟩
    refine ⟨?_, hbe⟩
    rw [show b = lateB S t g from by rw [Bool.eq_iff_iff, hb, lateB_iff]; exact Iff.rfl]
theorem TouchMap.look_all {w : World} {F : Nat → Prop} {b : Nat} {m : Int → Nat → Option Nat} (h : TouchMap w F b m) {p : Int} (hp : (Lit.int .i64 p).wf = true) :
    ∃ V, (∀ v : World, v.heap[b]? = w.heap[b]? → (Instr.lookup 43 (.map (some b)) (.int .i64 p) false).run Try.prog v = .ok V v) ∧ ∀ v, Since w v → (V = .map none ∧ ∀ u, u < 64 → m p u = none) ∨ ∃ bi, V = .map (some bi) ∧ TM v bi (m p) := by
  obtain ⟨f, hf, hm⟩ := h
  have := fun (v : World) (hv : v.heap[b]? = w.heap[b]?) => (hf.of_block hv).lookup (int_keyed Try.underlying3) Try.underlying43 (touch_zero v) (keyOf_int_mk Try.underlying3 hp) false
  refine ⟨_, this, fun v hv => ?_⟩
  rcases hm p with ⟨h1, h2⟩ | ⟨bi, h1, h2, h3⟩
  · rw [h1]; exact .inl ⟨rfl, h2⟩
  · rw [h1]; exact .inr ⟨bi, rfl, h3.of_block (hv.block _ h3.lt)⟩
theorem hears_V (S : VS) (x : Ac) : (S.hears x).V = (S.step x).V := rfl
theorem hearsVt (S : VS) (t : Nat) (kd pl : Int) : (S.hears ⟨t, kd, pl⟩).V t t = hearsV S ⟨t, kd, pl⟩ t := by
  show (if t = ((t : Int)).toNat then hearsV S ⟨t, kd, pl⟩ else S.V t) t = _
  rw [Int.toNat_natCast, if_pos rfl]
theorem step_reads (S : VS) (t : Nat) (pl : Int) : ({ S.hears ⟨t, 5, pl⟩ with Rd := fun q u => if q = pl then (if u = t then some ((S.hears ⟨t, 5, pl⟩).V t t) else (S.hears ⟨t, 5, pl⟩).Rd pl u) else (S.hears ⟨t, 5, pl⟩).Rd q u } : VS) = S.step ⟨t, 5, pl⟩ := by
  rw [hearsVt]
  unfold VS.hears VS.step
  simp only [Int.toNat_natCast]
  congr 1
  · funext q u
    by_cases h : q = pl
    · subst h
      by_cases h2 : u = t
      · subst h2; simp
      · simp [h2]
    · simp [h]
theorem step_writes (S : VS) (t : Nat) (pl : Int) : ({ S.hears ⟨t, 6, pl⟩ with Wr := fun q u => if q = pl then (if u = t then some ((S.hears ⟨t, 6, pl⟩).V t t) else (S.hears ⟨t, 6, pl⟩).Wr pl u) else (S.hears ⟨t, 6, pl⟩).Wr q u } : VS) = S.step ⟨t, 6, pl⟩ := by
  rw [hearsVt]
  unfold VS.hears VS.step
  simp only [Int.toNat_natCast]
  congr 1
  · funext q u
    by_cases h : q = pl
    · subst h
      by_cases h2 : u = t
      · subst h2; simp
      · simp [h2]
    · simp [h]
theorem step_other (S : VS) (x : Ac) (h5 : x.kd ≠ 5) (h6 : x.kd ≠ 6) : S.hears x = S.step x := by
  unfold VS.hears VS.step
  congr 1
  · funext q u; rw [if_neg (fun h => h5 h.1)]
  · funext q u; rw [if_neg (fun h => h6 h.1)]

set_option maxHeartbeats 4000000 in
set_option maxRecDepth 100000 in
theorem races_any (B : Blk) (S : VS) (x : Ac) (t : Nat) (w : World) (hR : Rep w B S) (ht : x.th = t) (ht64 : t < 64) (hp : (Lit.int .i64 x.pl).wf = true) (hS : Small S 900) :
    Calls Try.prog 14 #[.pointer (some ⟨B.b, 0, none⟩), acV x] w fun e w' => e = .returned (.bool (racesB S x)) ∧ Rep w' B (S.step x) ∧ Turn B.has w w' := by
  obtain ⟨th, kd, pl⟩ := x
  simp only at ht hp
  subst ht
  unfold acV
  have HSM := Lib.hid hS
  clear hS
  have HRB5 : Hid (kd = 5 → racesB S ⟨t, kd, pl⟩ = lateB (S.step ⟨t, kd, pl⟩) t ((S.step ⟨t, kd, pl⟩).Wr pl)) := Lib.hid (fun h => if_pos h)
  have HRB6 : Hid (kd = 6 → racesB S ⟨t, kd, pl⟩ = (lateB (S.step ⟨t, kd, pl⟩) t ((S.step ⟨t, kd, pl⟩).Wr pl) || lateB (S.step ⟨t, kd, pl⟩) t ((S.step ⟨t, kd, pl⟩).Rd pl))) := Lib.hid (fun h => (if_neg (show ¬ kd = 5 by omega)).trans (if_pos h))
  have HRB0 : Hid (kd ≠ 5 → kd ≠ 6 → racesB S ⟨t, kd, pl⟩ = false) := Lib.hid (fun h h6 => (if_neg h).trans (if_neg h6))
  generalize racesB S ⟨t, kd, pl⟩ = res at *
  go_enter Try.func14, Try.ntmps14
  have hB1 : Below w.heap.size w (w.alloc (.cells #[.int .i64 (t : Int), .int .i64 kd, .int .i64 pl] 32)) := (Below.refl _ _).alloc (Nat.le_refl _) _
  have rg1 : ∀ j v, [Value.int .i64 (t : Int), .int .i64 kd, .int .i64 pl][j]? = some v → (w.alloc (.cells #[.int .i64 (t : Int), .int .i64 kd, .int .i64 pl] 32)).cell? ⟨w.heap.size, 0 + j, none⟩ = some v := fun j v hv => by
    rcases j with _ | _ | _ | j <;> simp at hv <;> subst hv <;> simp
  go_wp2_with fail
  have HR1 := Lib.hid (hR.below hB1)
  have hbx : ¬ B.has w.heap.size := fun h => by have := hR.lt _ h; omega
  have HNB := Lib.hid hbx
  have HT1 := Lib.hid (Turn.of_below (F := B.has) hB1)
  generalize hw0 : w.alloc (.cells #[.int .i64 (t : Int), .int .i64 kd, .int .i64 pl] 32) = w1 at *
  generalize hbq : w.heap.size = bx at *
  clear hB1 hR hw0 hbq hbx
  refine (hears_any B S ⟨t, kd, pl⟩ t w1 HR1.out rfl ht64 hp HSM.out).mono ?_
  rintro e w4 ⟨rfl, hr4, ht4⟩
  have HR4 := Lib.hid hr4
  have HT4 := Lib.hid (HT1.out.trans ht4 (fun i h => .inl h))
  have rg : ∀ j v, [Value.int .i64 (t : Int), .int .i64 kd, .int .i64 pl][j]? = some v → w4.cell? ⟨bx, 0 + j, none⟩ = some v := fun j v hv => ht4.cell (rg1 j v hv) HNB.out
  have x1 : w4.cell? ⟨bx, 1, none⟩ = some (.int .i64 kd) := rg 1 _ rfl
  have cr := HR4.out.cr
  have cx := HR4.out.cx
  clear rg1 hr4 ht4 HR1 HT1
  by_cases h5 : kd = 5
  · subst h5
    go_wp2_with fail
    refine WQ.last (Drew w4) ⟨1, rfl⟩ 6 3 (by rfl) (by kernel_rfl) (by kernel_rfl) ?_; simp only [List.take_succ_cons, List.take_zero]
    refine WQ.val (by rfl) (fun v hv => by have k0 := hv.cell cr; go_simp; first | done | with_reducible rfl | (rw [if_neg (by omega)])) ?_; simp only [Act.put, List.setIfInBounds_toArray, List.set_cons_zero, List.set_cons_succ]
    refine WQ.load (by rfl) 32 (.tmp 3) rfl bx 0 (by rfl) [.int .i64 t, .int .i64 5, .int .i64 pl] _ (fun v hv => hv.range rg) Try.underlying32 rfl (by rfl) ?_; simp only [Act.put, List.setIfInBounds_toArray, List.set_cons_zero, List.set_cons_succ]
    refine WQ.val (by rfl) (fun v hv => by have k0 := hv.cell cr; go_simp; first | done | with_reducible rfl | (rw [if_neg (by omega)])) ?_; simp only [Act.put, List.setIfInBounds_toArray, List.set_cons_zero, List.set_cons_succ]
    refine WQ.val (by rfl) (fun v hv => by have k0 := hv.cell cr; go_simp; first | done | with_reducible rfl | (rw [if_neg (by omega)])) ?_; simp only [Act.put, List.setIfInBounds_toArray, List.set_cons_zero, List.set_cons_succ]
    refine WQ.val (by rfl) (fun v hv => by have k0 := hv.cell cr; go_simp; first | done | with_reducible rfl | (rw [if_neg (by omega)])) ?_; simp only [Act.put, List.setIfInBounds_toArray, List.set_cons_zero, List.set_cons_succ]
    refine WQ.val (by rfl) (fun v hv => by have k0 := hv.cell cr; go_simp; first | done | with_reducible rfl | (rw [if_neg (by omega)])) ?_; simp only [Act.put, List.setIfInBounds_toArray, List.set_cons_zero, List.set_cons_succ]
    refine WQ.done ?_
    intro w5 hw5
    obtain ⟨n5, rfl⟩ := hw5
    refine wpOp_one rfl (by rfl) ?_
    intro K' hK'
    go_wp2_with fail
    refine (note_any B (S.hears ⟨t, 5, pl⟩) ⟨t, 5, pl⟩ t B.br _ (w4.drewN n5) (HR4.out.keep fun _ _ => rfl) (.inr (.inr (.inr (.inl rfl)))) (HR4.out.r.keep rfl fun _ _ _ => rfl) rfl ht64 hp).mono ?_
    rintro e w6 ⟨rfl, htm6, ht6⟩
    have HX6 : Hid (∀ j v, [Value.int .i64 (t : Int), .int .i64 5, .int .i64 pl][j]? = some v → w6.cell? ⟨bx, 0 + j, none⟩ = some v) := Lib.hid (fun j v hv => ht6.cell (rg j v hv) (fun e => HNB.out (by rw [show bx = B.br from e]; exact .inr (.inr (.inr (.inl rfl))))))
    have HT6 : Hid (Turn B.has w w6) := Lib.hid ((HT4.out.drewN n5).trans (ht6.mono (G := B.has) (fun i e => by rw [e]; exact .inr (.inr (.inr (.inl rfl))))) (fun i h => .inl h))
    have hr6 := HR4.out.reads (w' := w6) (fun i hi hne => ht6.block i hi hne) htm6
    rw [step_reads] at hr6
    have HR6 := Lib.hid hr6
    clear ht6 htm6 hr6
    clear cr cx x1 rg
    have rg6 := HX6.out
    have x2 : w6.cell? ⟨bx, 2, none⟩ = some (.int .i64 pl) := rg6 2 _ rfl
    have cr := HR6.out.cr
    have cx := HR6.out.cx
    obtain ⟨V0, hlk0, hV0⟩ := HR6.out.x.look_all hp
    have hlook0 : ∀ v, Since w6 v → (Instr.lookup 43 (.map (some B.bx)) (.int .i64 pl) false).run Try.prog v = .ok V0 v := fun v hv => hlk0 v (hv.block _ HR6.out.x.lt)
    have hcon0 : ∀ v, Since w6 v → Calls Try.prog 20 #[.pointer (some ⟨B.b, 0, none⟩), .agg #[.int .i64 (t : Int), .int .i64 5, .int .i64 pl], V0] v fun e w' => e = .returned (.bool (lateB (S.step ⟨t, 5, pl⟩) t ((S.step ⟨t, 5, pl⟩).Wr pl))) ∧ Below v.heap.size v w' := fun v hv => late_at B _ ⟨t, 5, pl⟩ t V0 _ v (HR6.out.below hv) (hV0 v hv) rfl ht64
    clear hlk0 hV0
    go_wp2_with fail
    refine WQ.enter w6 (Since.refl _) (by kernel_rfl) (by kernel_rfl) ?_
    refine WQ.val (by rfl) (fun v hv => by have k0 := hv.cell x2; have k1 := hv.cell cx; go_simp; first | done | with_reducible rfl | (rw [if_neg (by omega)])) ?_; simp only [Act.put, List.setIfInBounds_toArray, List.set_cons_zero, List.set_cons_succ]
    refine WQ.load (by rfl) 32 (.tmp 3) rfl bx 0 (by rfl) [.int .i64 t, .int .i64 5, .int .i64 pl] _ (fun v hv => hv.range rg6) Try.underlying32 rfl (by rfl) ?_; simp only [Act.put, List.setIfInBounds_toArray, List.set_cons_zero, List.set_cons_succ]
    refine WQ.val (by rfl) (fun v hv => by have k0 := hv.cell x2; have k1 := hv.cell cx; go_simp; first | done | with_reducible rfl | (rw [if_neg (by omega)])) ?_; simp only [Act.put, List.setIfInBounds_toArray, List.set_cons_zero, List.set_cons_succ]
    refine WQ.val (by rfl) (fun v hv => by have k0 := hv.cell x2; have k1 := hv.cell cx; go_simp; first | done | with_reducible rfl | (rw [if_neg (by omega)])) ?_; simp only [Act.put, List.setIfInBounds_toArray, List.set_cons_zero, List.set_cons_succ]
    refine WQ.val (by rfl) (fun v hv => by have k0 := hv.cell x2; have k1 := hv.cell cx; go_simp; first | done | with_reducible rfl | (rw [if_neg (by omega)])) ?_; simp only [Act.put, List.setIfInBounds_toArray, List.set_cons_zero, List.set_cons_succ]
    refine WQ.val (by rfl) (fun v hv => by have k0 := hv.cell x2; have k1 := hv.cell cx; go_simp; first | done | with_reducible rfl | (rw [if_neg (by omega)])) ?_; simp only [Act.put, List.setIfInBounds_toArray, List.set_cons_zero, List.set_cons_succ]
    refine WQ.val (by rfl) (fun v hv => by have k0 := hv.cell x2; have k1 := hv.cell cx; go_simp; first | done | with_reducible rfl | (rw [if_neg (by omega)])) ?_; simp only [Act.put, List.setIfInBounds_toArray, List.set_cons_zero, List.set_cons_succ]
    refine WQ.val (by rfl) (fun v hv => by have k0 := hv.cell x2; have k1 := hv.cell cx; go_simp; first | done | with_reducible rfl | (rw [if_neg (by omega)])) ?_; simp only [Act.put, List.setIfInBounds_toArray, List.set_cons_zero, List.set_cons_succ]
    refine WQ.val (by rfl) (fun v hv => by have k0 := hv.cell x2; have hl := hlook0 v hv; go_simp; first | done | with_reducible rfl) ?_; simp only [Act.put, List.setIfInBounds_toArray, List.set_cons_zero, List.set_cons_succ]
    refine WQ.call (f := 20) (args := #[.pointer (some ⟨B.b, 0, none⟩), .agg #[.int .i64 (t : Int), .int .i64 5, .int .i64 pl], V0]) (by rfl) (fun v hv => by go_simp) (fun v hv => (hcon0 v hv).mono (fun e v' ⟨he, hb⟩ => ⟨he, hv.step hb⟩)) ?_; simp only [Act.put, List.setIfInBounds_toArray, List.set_cons_zero, List.set_cons_succ]
    refine WQ.val (by rfl) (fun v hv => by have k0 := hv.cell x2; have k1 := hv.cell cx; go_simp; first | done | with_reducible rfl | (rw [if_neg (by omega)])) ?_; simp only [Act.put, List.setIfInBounds_toArray, List.set_cons_zero, List.set_cons_succ]
    refine WQ.done ?_
    intro w7 hw7
    have HR7 := Lib.hid (HR6.out.below hw7)
    have HT7 := Lib.hid (HT6.out.then hw7)
    go_wp2_with fail
    go_ret
    exact ⟨by (first | rw [HRB5.out rfl] | rw [HRB5.out trivial]) <;> rfl, HR7.out, HT7.out⟩
  by_cases h6 : kd = 6
  · subst h6
    go_wp2_with fail
    refine WQ.last (Drew w4) ⟨1, rfl⟩ 6 3 (by rfl) (by kernel_rfl) (by kernel_rfl) ?_; simp only [List.take_succ_cons, List.take_zero]
    refine WQ.val (by rfl) (fun v hv => by have k0 := hv.cell cx; go_simp; first | done | with_reducible rfl | (rw [if_neg (by omega)])) ?_; simp only [Act.put, List.setIfInBounds_toArray, List.set_cons_zero, List.set_cons_succ]
    refine WQ.load (by rfl) 32 (.tmp 3) rfl bx 0 (by rfl) [.int .i64 t, .int .i64 6, .int .i64 pl] _ (fun v hv => hv.range rg) Try.underlying32 rfl (by rfl) ?_; simp only [Act.put, List.setIfInBounds_toArray, List.set_cons_zero, List.set_cons_succ]
    refine WQ.val (by rfl) (fun v hv => by have k0 := hv.cell cx; go_simp; first | done | with_reducible rfl | (rw [if_neg (by omega)])) ?_; simp only [Act.put, List.setIfInBounds_toArray, List.set_cons_zero, List.set_cons_succ]
    refine WQ.val (by rfl) (fun v hv => by have k0 := hv.cell cx; go_simp; first | done | with_reducible rfl | (rw [if_neg (by omega)])) ?_; simp only [Act.put, List.setIfInBounds_toArray, List.set_cons_zero, List.set_cons_succ]
    refine WQ.val (by rfl) (fun v hv => by have k0 := hv.cell cx; go_simp; first | done | with_reducible rfl | (rw [if_neg (by omega)])) ?_; simp only [Act.put, List.setIfInBounds_toArray, List.set_cons_zero, List.set_cons_succ]
    refine WQ.val (by rfl) (fun v hv => by have k0 := hv.cell cx; go_simp; first | done | with_reducible rfl | (rw [if_neg (by omega)])) ?_; simp only [Act.put, List.setIfInBounds_toArray, List.set_cons_zero, List.set_cons_succ]
    refine WQ.done ?_
    intro w5 hw5
    obtain ⟨n5, rfl⟩ := hw5
    refine wpOp_one rfl (by rfl) ?_
    intro K' hK'
    go_wp2_with fail
    refine (note_any B (S.hears ⟨t, 6, pl⟩) ⟨t, 6, pl⟩ t B.bx _ (w4.drewN n5) (HR4.out.keep fun _ _ => rfl) (.inr (.inr (.inr (.inr rfl)))) (HR4.out.x.keep rfl fun _ _ _ => rfl) rfl ht64 hp).mono ?_
    rintro e w6 ⟨rfl, htm6, ht6⟩
    have HX6 : Hid (∀ j v, [Value.int .i64 (t : Int), .int .i64 6, .int .i64 pl][j]? = some v → w6.cell? ⟨bx, 0 + j, none⟩ = some v) := Lib.hid (fun j v hv => ht6.cell (rg j v hv) (fun e => HNB.out (by rw [show bx = B.bx from e]; exact .inr (.inr (.inr (.inr rfl))))))
    have HT6 : Hid (Turn B.has w w6) := Lib.hid ((HT4.out.drewN n5).trans (ht6.mono (G := B.has) (fun i e => by rw [e]; exact .inr (.inr (.inr (.inr rfl))))) (fun i h => .inl h))
    have hr6 := HR4.out.writes (w' := w6) (fun i hi hne => ht6.block i hi hne) htm6
    rw [step_writes] at hr6
    have HR6 := Lib.hid hr6
    clear ht6 htm6 hr6
    clear cr cx x1 rg
    have rg6 := HX6.out
    have x2 : w6.cell? ⟨bx, 2, none⟩ = some (.int .i64 pl) := rg6 2 _ rfl
    have cr := HR6.out.cr
    have cx := HR6.out.cx
    obtain ⟨V0, hlk0, hV0⟩ := HR6.out.x.look_all hp
    have hlook0 : ∀ v, Since w6 v → (Instr.lookup 43 (.map (some B.bx)) (.int .i64 pl) false).run Try.prog v = .ok V0 v := fun v hv => hlk0 v (hv.block _ HR6.out.x.lt)
    have hcon0 : ∀ v, Since w6 v → Calls Try.prog 20 #[.pointer (some ⟨B.b, 0, none⟩), .agg #[.int .i64 (t : Int), .int .i64 6, .int .i64 pl], V0] v fun e w' => e = .returned (.bool (lateB (S.step ⟨t, 6, pl⟩) t ((S.step ⟨t, 6, pl⟩).Wr pl))) ∧ Below v.heap.size v w' := fun v hv => late_at B _ ⟨t, 6, pl⟩ t V0 _ v (HR6.out.below hv) (hV0 v hv) rfl ht64
    clear hlk0 hV0
    obtain ⟨V1, hlk1, hV1⟩ := HR6.out.r.look_all hp
    have hlook1 : ∀ v, Since w6 v → (Instr.lookup 43 (.map (some B.br)) (.int .i64 pl) false).run Try.prog v = .ok V1 v := fun v hv => hlk1 v (hv.block _ HR6.out.r.lt)
    have hcon1 : ∀ v, Since w6 v → Calls Try.prog 20 #[.pointer (some ⟨B.b, 0, none⟩), .agg #[.int .i64 (t : Int), .int .i64 6, .int .i64 pl], V1] v fun e w' => e = .returned (.bool (lateB (S.step ⟨t, 6, pl⟩) t ((S.step ⟨t, 6, pl⟩).Rd pl))) ∧ Below v.heap.size v w' := fun v hv => late_at B _ ⟨t, 6, pl⟩ t V1 _ v (HR6.out.below hv) (hV1 v hv) rfl ht64
    clear hlk1 hV1
    rcases hq : lateB (S.step ⟨t, 6, pl⟩) t ((S.step ⟨t, 6, pl⟩).Wr pl) with _ | _
    · have hcon0' : ∀ v, Since w6 v → Calls Try.prog 20 #[.pointer (some ⟨B.b, 0, none⟩), .agg #[.int .i64 (t : Int), .int .i64 6, .int .i64 pl], V0] v fun e w' => e = .returned (.bool false) ∧ Below v.heap.size v w' := fun v hv => by
        have := hcon0 v hv
        rw [hq] at this; exact this
      have HQ := Lib.hid hq
      clear hcon0 hq
      go_wp2_with fail
      refine WQ.enter w6 (Since.refl _) (by kernel_rfl) (by kernel_rfl) ?_
      refine WQ.val (by rfl) (fun v hv => by have k0 := hv.cell x2; have k1 := hv.cell cx; have k2 := hv.cell cr; go_simp; first | done | with_reducible rfl | (rw [if_neg (by omega)])) ?_; simp only [Act.put, List.setIfInBounds_toArray, List.set_cons_zero, List.set_cons_succ]
      refine WQ.load (by rfl) 32 (.tmp 3) rfl bx 0 (by rfl) [.int .i64 t, .int .i64 6, .int .i64 pl] _ (fun v hv => hv.range rg6) Try.underlying32 rfl (by rfl) ?_; simp only [Act.put, List.setIfInBounds_toArray, List.set_cons_zero, List.set_cons_succ]
      refine WQ.val (by rfl) (fun v hv => by have k0 := hv.cell x2; have k1 := hv.cell cx; have k2 := hv.cell cr; go_simp; first | done | with_reducible rfl | (rw [if_neg (by omega)])) ?_; simp only [Act.put, List.setIfInBounds_toArray, List.set_cons_zero, List.set_cons_succ]
      refine WQ.val (by rfl) (fun v hv => by have k0 := hv.cell x2; have k1 := hv.cell cx; have k2 := hv.cell cr; go_simp; first | done | with_reducible rfl | (rw [if_neg (by omega)])) ?_; simp only [Act.put, List.setIfInBounds_toArray, List.set_cons_zero, List.set_cons_succ]
      refine WQ.val (by rfl) (fun v hv => by have k0 := hv.cell x2; have k1 := hv.cell cx; have k2 := hv.cell cr; go_simp; first | done | with_reducible rfl | (rw [if_neg (by omega)])) ?_; simp only [Act.put, List.setIfInBounds_toArray, List.set_cons_zero, List.set_cons_succ]
      refine WQ.val (by rfl) (fun v hv => by have k0 := hv.cell x2; have k1 := hv.cell cx; have k2 := hv.cell cr; go_simp; first | done | with_reducible rfl | (rw [if_neg (by omega)])) ?_; simp only [Act.put, List.setIfInBounds_toArray, List.set_cons_zero, List.set_cons_succ]
      refine WQ.val (by rfl) (fun v hv => by have k0 := hv.cell x2; have k1 := hv.cell cx; have k2 := hv.cell cr; go_simp; first | done | with_reducible rfl | (rw [if_neg (by omega)])) ?_; simp only [Act.put, List.setIfInBounds_toArray, List.set_cons_zero, List.set_cons_succ]
      refine WQ.val (by rfl) (fun v hv => by have k0 := hv.cell x2; have k1 := hv.cell cx; have k2 := hv.cell cr; go_simp; first | done | with_reducible rfl | (rw [if_neg (by omega)])) ?_; simp only [Act.put, List.setIfInBounds_toArray, List.set_cons_zero, List.set_cons_succ]
      refine WQ.val (by rfl) (fun v hv => by have k0 := hv.cell x2; have hl := hlook0 v hv; go_simp; first | done | with_reducible rfl) ?_; simp only [Act.put, List.setIfInBounds_toArray, List.set_cons_zero, List.set_cons_succ]
      refine WQ.call (f := 20) (args := #[.pointer (some ⟨B.b, 0, none⟩), .agg #[.int .i64 (t : Int), .int .i64 6, .int .i64 pl], V0]) (by rfl) (fun v hv => by go_simp) (fun v hv => (hcon0' v hv).mono (fun e v' ⟨he, hb⟩ => ⟨he, hv.step hb⟩)) ?_; simp only [Act.put, List.setIfInBounds_toArray, List.set_cons_zero, List.set_cons_succ]
      refine WQ.val (by rfl) (fun v hv => by have k0 := hv.cell x2; have k1 := hv.cell cx; have k2 := hv.cell cr; go_simp; first | done | with_reducible rfl | (rw [if_neg (by omega)])) ?_; simp only [Act.put, List.setIfInBounds_toArray, List.set_cons_zero, List.set_cons_succ]
      refine WQ.val (by rfl) (fun v hv => by have k0 := hv.cell x2; have k1 := hv.cell cx; have k2 := hv.cell cr; go_simp; first | done | with_reducible rfl | (rw [if_neg (by omega)])) ?_; simp only [Act.put, List.setIfInBounds_toArray, List.set_cons_zero, List.set_cons_succ]
      refine WQ.load (by rfl) 32 (.tmp 3) rfl bx 0 (by rfl) [.int .i64 t, .int .i64 6, .int .i64 pl] _ (fun v hv => hv.range rg6) Try.underlying32 rfl (by rfl) ?_; simp only [Act.put, List.setIfInBounds_toArray, List.set_cons_zero, List.set_cons_succ]
      refine WQ.val (by rfl) (fun v hv => by have k0 := hv.cell x2; have k1 := hv.cell cx; have k2 := hv.cell cr; go_simp; first | done | with_reducible rfl | (rw [if_neg (by omega)])) ?_; simp only [Act.put, List.setIfInBounds_toArray, List.set_cons_zero, List.set_cons_succ]
      refine WQ.val (by rfl) (fun v hv => by have k0 := hv.cell x2; have k1 := hv.cell cx; have k2 := hv.cell cr; go_simp; first | done | with_reducible rfl | (rw [if_neg (by omega)])) ?_; simp only [Act.put, List.setIfInBounds_toArray, List.set_cons_zero, List.set_cons_succ]
      refine WQ.val (by rfl) (fun v hv => by have k0 := hv.cell x2; have k1 := hv.cell cx; have k2 := hv.cell cr; go_simp; first | done | with_reducible rfl | (rw [if_neg (by omega)])) ?_; simp only [Act.put, List.setIfInBounds_toArray, List.set_cons_zero, List.set_cons_succ]
      refine WQ.val (by rfl) (fun v hv => by have k0 := hv.cell x2; have k1 := hv.cell cx; have k2 := hv.cell cr; go_simp; first | done | with_reducible rfl | (rw [if_neg (by omega)])) ?_; simp only [Act.put, List.setIfInBounds_toArray, List.set_cons_zero, List.set_cons_succ]
      refine WQ.val (by rfl) (fun v hv => by have k0 := hv.cell x2; have k1 := hv.cell cx; have k2 := hv.cell cr; go_simp; first | done | with_reducible rfl | (rw [if_neg (by omega)])) ?_; simp only [Act.put, List.setIfInBounds_toArray, List.set_cons_zero, List.set_cons_succ]
      refine WQ.val (by rfl) (fun v hv => by have k0 := hv.cell x2; have k1 := hv.cell cx; have k2 := hv.cell cr; go_simp; first | done | with_reducible rfl | (rw [if_neg (by omega)])) ?_; simp only [Act.put, List.setIfInBounds_toArray, List.set_cons_zero, List.set_cons_succ]
      refine WQ.val (by rfl) (fun v hv => by have k0 := hv.cell x2; have hl := hlook1 v hv; go_simp; first | done | with_reducible rfl) ?_; simp only [Act.put, List.setIfInBounds_toArray, List.set_cons_zero, List.set_cons_succ]
      refine WQ.call (f := 20) (args := #[.pointer (some ⟨B.b, 0, none⟩), .agg #[.int .i64 (t : Int), .int .i64 6, .int .i64 pl], V1]) (by rfl) (fun v hv => by go_simp) (fun v hv => (hcon1 v hv).mono (fun e v' ⟨he, hb⟩ => ⟨he, hv.step hb⟩)) ?_; simp only [Act.put, List.setIfInBounds_toArray, List.set_cons_zero, List.set_cons_succ]
      refine WQ.val (by rfl) (fun v hv => by have k0 := hv.cell x2; have k1 := hv.cell cx; have k2 := hv.cell cr; go_simp; first | done | with_reducible rfl | (rw [if_neg (by omega)])) ?_; simp only [Act.put, List.setIfInBounds_toArray, List.set_cons_zero, List.set_cons_succ]
      refine WQ.val (by rfl) (fun v hv => by have k0 := hv.cell x2; have k1 := hv.cell cx; have k2 := hv.cell cr; go_simp; first | done | with_reducible rfl | (rw [if_neg (by omega)])) ?_; simp only [Act.put, List.setIfInBounds_toArray, List.set_cons_zero, List.set_cons_succ]
      refine WQ.done ?_
      intro w7 hw7
      have HR7 := Lib.hid (HR6.out.below hw7)
      have HT7 := Lib.hid (HT6.out.then hw7)
      go_wp2_with fail
      go_ret
      exact ⟨by (first | rw [HRB6.out rfl, HQ.out, Bool.false_or] | rw [HRB6.out trivial, HQ.out, Bool.false_or]) <;> rfl, HR7.out, HT7.out⟩
    · have hcon0' : ∀ v, Since w6 v → Calls Try.prog 20 #[.pointer (some ⟨B.b, 0, none⟩), .agg #[.int .i64 (t : Int), .int .i64 6, .int .i64 pl], V0] v fun e w' => e = .returned (.bool true) ∧ Below v.heap.size v w' := fun v hv => by
        have := hcon0 v hv
        rw [hq] at this; exact this
      have HQ := Lib.hid hq
      clear hcon0 hq
      go_wp2_with fail
      refine WQ.enter w6 (Since.refl _) (by kernel_rfl) (by kernel_rfl) ?_
      refine WQ.val (by rfl) (fun v hv => by have k0 := hv.cell x2; have k1 := hv.cell cx; go_simp; first | done | with_reducible rfl | (rw [if_neg (by omega)])) ?_; simp only [Act.put, List.setIfInBounds_toArray, List.set_cons_zero, List.set_cons_succ]
      refine WQ.load (by rfl) 32 (.tmp 3) rfl bx 0 (by rfl) [.int .i64 t, .int .i64 6, .int .i64 pl] _ (fun v hv => hv.range rg6) Try.underlying32 rfl (by rfl) ?_; simp only [Act.put, List.setIfInBounds_toArray, List.set_cons_zero, List.set_cons_succ]
      refine WQ.val (by rfl) (fun v hv => by have k0 := hv.cell x2; have k1 := hv.cell cx; go_simp; first | done | with_reducible rfl | (rw [if_neg (by omega)])) ?_; simp only [Act.put, List.setIfInBounds_toArray, List.set_cons_zero, List.set_cons_succ]
      refine WQ.val (by rfl) (fun v hv => by have k0 := hv.cell x2; have k1 := hv.cell cx; go_simp; first | done | with_reducible rfl | (rw [if_neg (by omega)])) ?_; simp only [Act.put, List.setIfInBounds_toArray, List.set_cons_zero, List.set_cons_succ]
      refine WQ.val (by rfl) (fun v hv => by have k0 := hv.cell x2; have k1 := hv.cell cx; go_simp; first | done | with_reducible rfl | (rw [if_neg (by omega)])) ?_; simp only [Act.put, List.setIfInBounds_toArray, List.set_cons_zero, List.set_cons_succ]
      refine WQ.val (by rfl) (fun v hv => by have k0 := hv.cell x2; have k1 := hv.cell cx; go_simp; first | done | with_reducible rfl | (rw [if_neg (by omega)])) ?_; simp only [Act.put, List.setIfInBounds_toArray, List.set_cons_zero, List.set_cons_succ]
      refine WQ.val (by rfl) (fun v hv => by have k0 := hv.cell x2; have k1 := hv.cell cx; go_simp; first | done | with_reducible rfl | (rw [if_neg (by omega)])) ?_; simp only [Act.put, List.setIfInBounds_toArray, List.set_cons_zero, List.set_cons_succ]
      refine WQ.val (by rfl) (fun v hv => by have k0 := hv.cell x2; have k1 := hv.cell cx; go_simp; first | done | with_reducible rfl | (rw [if_neg (by omega)])) ?_; simp only [Act.put, List.setIfInBounds_toArray, List.set_cons_zero, List.set_cons_succ]
      refine WQ.val (by rfl) (fun v hv => by have k0 := hv.cell x2; have hl := hlook0 v hv; go_simp; first | done | with_reducible rfl) ?_; simp only [Act.put, List.setIfInBounds_toArray, List.set_cons_zero, List.set_cons_succ]
      refine WQ.call (f := 20) (args := #[.pointer (some ⟨B.b, 0, none⟩), .agg #[.int .i64 (t : Int), .int .i64 6, .int .i64 pl], V0]) (by rfl) (fun v hv => by go_simp) (fun v hv => (hcon0' v hv).mono (fun e v' ⟨he, hb⟩ => ⟨he, hv.step hb⟩)) ?_; simp only [Act.put, List.setIfInBounds_toArray, List.set_cons_zero, List.set_cons_succ]
      refine WQ.val (by rfl) (fun v hv => by have k0 := hv.cell x2; have k1 := hv.cell cx; go_simp; first | done | with_reducible rfl | (rw [if_neg (by omega)])) ?_; simp only [Act.put, List.setIfInBounds_toArray, List.set_cons_zero, List.set_cons_succ]
      refine WQ.off (by rfl) ?_; simp only [Act.put, List.setIfInBounds_toArray, List.set_cons_zero, List.set_cons_succ]
      refine WQ.off (by rfl) ?_; simp only [Act.put, List.setIfInBounds_toArray, List.set_cons_zero, List.set_cons_succ]
      refine WQ.off (by rfl) ?_; simp only [Act.put, List.setIfInBounds_toArray, List.set_cons_zero, List.set_cons_succ]
      refine WQ.off (by rfl) ?_; simp only [Act.put, List.setIfInBounds_toArray, List.set_cons_zero, List.set_cons_succ]
      refine WQ.off (by rfl) ?_; simp only [Act.put, List.setIfInBounds_toArray, List.set_cons_zero, List.set_cons_succ]
      refine WQ.off (by rfl) ?_; simp only [Act.put, List.setIfInBounds_toArray, List.set_cons_zero, List.set_cons_succ]
      refine WQ.off (by rfl) ?_; simp only [Act.put, List.setIfInBounds_toArray, List.set_cons_zero, List.set_cons_succ]
      refine WQ.off (by rfl) ?_; simp only [Act.put, List.setIfInBounds_toArray, List.set_cons_zero, List.set_cons_succ]
      refine WQ.off (by rfl) ?_; simp only [Act.put, List.setIfInBounds_toArray, List.set_cons_zero, List.set_cons_succ]
      refine WQ.off (by rfl) ?_; simp only [Act.put, List.setIfInBounds_toArray, List.set_cons_zero, List.set_cons_succ]
      refine WQ.val (by rfl) (fun v hv => by have k0 := hv.cell x2; have k1 := hv.cell cx; go_simp; first | done | with_reducible rfl | (rw [if_neg (by omega)])) ?_; simp only [Act.put, List.setIfInBounds_toArray, List.set_cons_zero, List.set_cons_succ]
      refine WQ.val (by rfl) (fun v hv => by have k0 := hv.cell x2; have k1 := hv.cell cx; go_simp; first | done | with_reducible rfl | (rw [if_neg (by omega)])) ?_; simp only [Act.put, List.setIfInBounds_toArray, List.set_cons_zero, List.set_cons_succ]
      refine WQ.done ?_
      intro w7 hw7
      have HR7 := Lib.hid (HR6.out.below hw7)
      have HT7 := Lib.hid (HT6.out.then hw7)
      go_wp2_with fail
      go_ret
      exact ⟨by (first | rw [HRB6.out rfl, HQ.out, Bool.true_or] | rw [HRB6.out trivial, HQ.out, Bool.true_or]) <;> rfl, HR7.out, HT7.out⟩
  have d5 : decide (kd = 5) = false := decide_eq_false h5
  have d6 : decide (kd = 6) = false := decide_eq_false h6
  have HE := Lib.hid (step_other S ⟨t, kd, pl⟩ h5 h6)
  have H0 := Lib.hid (HRB0.out h5 h6)
  clear cr cx rg
  go_wp2_with fail
  go_ret
  exact ⟨by (rw [H0.out]) <;> rfl, by rw [← HE.out]; exact HR4.out, HT4.out⟩
end Go.Proofs.Ytccbiolgdamnpaa
