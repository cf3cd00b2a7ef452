/- The walk of (*state).hears. Printed by gen_raceb.py. -/
import Derived.Test.YtccbiolgdamnpaaRaceT
namespace Go.Proofs.Ytccbiolgdamnpaa
set_option linter.unusedSimpArgs false
set_option linter.unusedVariables false
open Go Go.RowKit

def acV (x : Ac) : Value := .agg #[.int .i64 x.th, .int .i64 x.kd, .int .i64 x.pl]
/-- No clock is further than n. -/
structure Small (S : VS) (n : Nat) : Prop where
  v : ∀ t u, S.V t u ≤ n
  l : ∀ p u, S.Lk p u ≤ n
  w : ∀ p u, S.Wd p u ≤ n
def VS.hears (S : VS) (x : Ac) : VS where
  V := fun t => if t = x.th.toNat then hearsV S x else S.V t
  Lk := fun p u => if x.kd = 2 ∧ p = x.pl then max (S.Lk p u) (hearsV S x u) else S.Lk p u
  Wd := fun p u => if x.kd = 4 ∧ p = x.pl then hearsV S x u else S.Wd p u
  Rd := S.Rd
  Wr := S.Wr
def c1 (S : VS) (t u : Nat) : Nat := if u = t then S.V t u + 1 else S.V t u
/-- The state with one clock anew. -/
def VS.at (S : VS) (t : Nat) (f : Nat → Nat) : VS := { S with V := fun s => if s = t then f else S.V s }
theorem hearsV_eq (S : VS) (t : Nat) (kd pl : Int) (u : Nat) : hearsV S ⟨t, kd, pl⟩ u = if kd = 1 then max (c1 S t u) (S.Lk pl u) else if kd = 3 ∨ kd = 4 then max (c1 S t u) (S.Wd pl u) else c1 S t u := by
  unfold hearsV c1; rfl
theorem VS.at_at (S : VS) (t : Nat) (f g : Nat → Nat) : (S.at t f).at t g = S.at t g := by
  unfold VS.at
  simp only
  congr 1
  funext s
  by_cases h : s = t
  · rw [if_pos h, if_pos h]
  · rw [if_neg h, if_neg h, if_neg h]
theorem hears_of (S : VS) (t : Nat) (kd pl : Int) {f : Nat → Nat} (hf : ∀ u, hearsV S ⟨t, kd, pl⟩ u = f u) (h2 : kd ≠ 2) (h4 : kd ≠ 4) : S.hears ⟨t, kd, pl⟩ = S.at t f := by
  unfold VS.hears VS.at
  have e1 : hearsV S ⟨t, kd, pl⟩ = f := funext hf
  simp only [e1, Int.toNat_natCast]
  congr 1
  · funext p u; rw [if_neg (fun h => h2 h.1)]
  · funext p u; rw [if_neg (fun h => h4 h.1)]
theorem hears_lock (S : VS) (t : Nat) (pl : Int) : S.hears ⟨t, 1, pl⟩ = S.at t (fun u => max (c1 S t u) (S.Lk pl u)) := hears_of S t 1 pl (fun u => by rw [hearsV_eq]; rfl) (by decide) (by decide)
theorem hears_load (S : VS) (t : Nat) (pl : Int) : S.hears ⟨t, 3, pl⟩ = S.at t (fun u => max (c1 S t u) (S.Wd pl u)) := hears_of S t 3 pl (fun u => by rw [hearsV_eq]; rfl) (by decide) (by decide)
theorem hears_none (S : VS) (t : Nat) (kd pl : Int) (h1 : kd ≠ 1) (h2 : kd ≠ 2) (h3 : kd ≠ 3) (h4 : kd ≠ 4) : S.hears ⟨t, kd, pl⟩ = S.at t (c1 S t) :=
  hears_of S t kd pl (fun u => by rw [hearsV_eq, if_neg h1, if_neg (by omega)]) h2 h4
theorem hears_store (S : VS) (t : Nat) (pl : Int) : S.hears ⟨t, 4, pl⟩ = { S.at t (fun u => max (c1 S t u) (S.Wd pl u)) with Wd := fun q u => if q = pl then max (c1 S t u) (S.Wd pl u) else S.Wd q u } := by
  have e1 : hearsV S ⟨t, 4, pl⟩ = fun u => max (c1 S t u) (S.Wd pl u) := funext fun u => by rw [hearsV_eq]; rfl
  unfold VS.hears VS.at
  simp only [e1, Int.toNat_natCast]
  congr 1
  funext p u
  simp
theorem hears_unlock (S : VS) (t : Nat) (pl : Int) : S.hears ⟨t, 2, pl⟩ = { S.at t (c1 S t) with Lk := fun q u => if q = pl then max (S.Lk pl u) (c1 S t u) else S.Lk q u } := by
  have e1 : hearsV S ⟨t, 2, pl⟩ = c1 S t := funext fun u => by rw [hearsV_eq]; rfl
  unfold VS.hears VS.at
  simp only [e1, Int.toNat_natCast]
  congr 1
  funext p u
  by_cases h : p = pl
  · subst h; simp
  · simp [h]
theorem c1_le {S : VS} {n : Nat} (h : Small S n) (t u : Nat) : c1 S t u ≤ n + 1 := by
  have := h.v t u
  unfold c1; split <;> omega

set_option maxHeartbeats 8000000 in
set_option maxRecDepth 100000 in
theorem hears_any (B : Blk) (S : VS) (x : Ac) (t : Nat) (w : World) (hR : Rep w B S) (ht : x.th = t) (ht64 : t < 64) (hp : (Lit.int .i64 x.pl).wf = true) (hS : Small S 900) :
    Calls Try.prog 18 #[.pointer (some ⟨B.b, 0, none⟩), acV x] w fun e w' => e = .returned undef ∧ Rep w' B (S.hears x) ∧ Turn B.has w w' := by
  obtain ⟨th, kd, pl⟩ := x
  simp only at ht hp
  subst ht
  unfold acV
  have HSM := Lib.hid hS
  have hvt := hS.v t t
  clear hS
  go_enter Try.func18, Try.ntmps18
  have hB1 : Below w.heap.size w (w.alloc (.cells #[.int .i64 (t : Int), .int .i64 kd, .int .i64 pl] 32)) := (Below.refl _ _).alloc (Nat.le_refl _) _
  have a0 : (w.alloc (.cells #[.int .i64 (t : Int), .int .i64 kd, .int .i64 pl] 32)).cell? ⟨w.heap.size, 0, none⟩ = some (.int .i64 t) := by simp
  have a1 : (w.alloc (.cells #[.int .i64 (t : Int), .int .i64 kd, .int .i64 pl] 32)).cell? ⟨w.heap.size, 1, none⟩ = some (.int .i64 kd) := by simp
  have a2 : (w.alloc (.cells #[.int .i64 (t : Int), .int .i64 kd, .int .i64 pl] 32)).cell? ⟨w.heap.size, 2, none⟩ = some (.int .i64 pl) := by simp
  go_wp2_with fail
  have HR1 := Lib.hid (hR.below hB1)
  have hbx : B.b ≠ w.heap.size := fun h => by have := hR.lt _ (.inl rfl); omega
  have HT1 := Lib.hid (Turn.of_below (F := B.has) hB1)
  generalize hw0 : w.alloc (.cells #[.int .i64 (t : Int), .int .i64 kd, .int .i64 pl] 32) = w1 at *
  generalize hbq : w.heap.size = bx at *
  clear hB1 hR hw0 hbq
  have ht0 : (0 : Int) ≤ (t : Int) := by omega
  have ht1 : (t : Int) < 64 := by omega
  refine WQ.enterC (Drew w1) ⟨1, rfl⟩ (by kernel_rfl) (by kernel_rfl) ?_
  refine WQ.val (by rfl) (fun v hv => by have k0 := hv.cell a0; go_simp; first | done | with_reducible rfl | (rw [if_neg (by omega)])) ?_; simp only [Act.put, List.setIfInBounds_toArray, List.set_cons_zero, List.set_cons_succ]
  refine WQ.val (by rfl) (fun v hv => by have k0 := hv.cell a0; go_simp; first | done | with_reducible rfl | (rw [if_neg (by omega)])) ?_; simp only [Act.put, List.setIfInBounds_toArray, List.set_cons_zero, List.set_cons_succ]
  refine WQ.val (by rfl) (fun v hv => by have k0 := hv.cell a0; go_simp; first | done | with_reducible rfl | (rw [if_neg (by omega)])) ?_; simp only [Act.put, List.setIfInBounds_toArray, List.set_cons_zero, List.set_cons_succ]
  refine WQ.val (by rfl) (fun v hv => by have k0 := hv.cell a0; go_simp; first | done | with_reducible rfl | (rw [if_neg (by omega)])) ?_; simp only [Act.put, List.setIfInBounds_toArray, List.set_cons_zero, List.set_cons_succ]
  refine WQ.val (by rfl) (fun v hv => by have k0 := hv.cell a0; go_simp; first | done | with_reducible rfl | (rw [if_neg (by omega)])) ?_; simp only [Act.put, List.setIfInBounds_toArray, List.set_cons_zero, List.set_cons_succ]
  refine WQ.val (by rfl) (fun v hv => by have k0 := hv.cell a0; go_simp; first | done | with_reducible rfl | (rw [if_neg (by omega)])) ?_; simp only [Act.put, List.setIfInBounds_toArray, List.set_cons_zero, List.set_cons_succ]
  refine WQ.val (by rfl) (fun v hv => by have k0 := hv.cell a0; go_simp; first | done | with_reducible rfl | (rw [if_neg (by omega)])) ?_; simp only [Act.put, List.setIfInBounds_toArray, List.set_cons_zero, List.set_cons_succ]
  refine WQ.done ?_
  intro w2 hw2
  obtain ⟨n2, rfl⟩ := hw2
  have HR2 : Hid (Rep (w1.drewN n2) B S) := Lib.hid (HR1.out.keep fun _ _ => rfl)
  have HT2 : Hid (Turn B.has w (w1.drewN n2)) := Lib.hid (HT1.out.drewN n2)
  have b0 : (w1.drewN n2).cell? ⟨bx, 0, none⟩ = some (.int .i64 t) := a0
  have b1 : (w1.drewN n2).cell? ⟨bx, 1, none⟩ = some (.int .i64 kd) := a1
  have b2 : (w1.drewN n2).cell? ⟨bx, 2, none⟩ = some (.int .i64 pl) := a2
  generalize w1.drewN n2 = w2 at *
  clear a0 a1 a2 HR1 HT1
  have c0 := ((HR2.out.v t ht64) t ht64).1
  have f0 := ((HR2.out.v t ht64) t ht64).2
  generalize hq : S.V t t = q at *
  have HQ := Lib.hid hq
  clear hq
  have hq0 : (0 : Int) ≤ (q : Int) := by omega
  have hq1 : (q : Int) ≤ 900 := by omega
  have hwq : IntKind.i64.wrap ((q : Int) + 1) = (q : Int) + 1 := IntWalk.i64_in _ (by omega)
  have hqc : (q : Int) + 1 = ((q + 1 : Nat) : Int) := by omega
  have HQC := Lib.hid hqc
  clear hqc
  go_wp2_with fail
  refine WQ.last (Drew w2) ⟨1, rfl⟩ 9 2 (by rfl) (by kernel_rfl) (by kernel_rfl) ?_; simp only [List.take_succ_cons, List.take_zero]
  refine WQ.val (by rfl) (fun v hv => by have k0 := hv.cell b0; have k1 := hv.cell c0; go_simp; first | done | with_reducible rfl | (rw [if_neg (by omega)])) ?_; simp only [Act.put, List.setIfInBounds_toArray, List.set_cons_zero, List.set_cons_succ]
  refine WQ.val (by rfl) (fun v hv => by have k0 := hv.cell b0; have k1 := hv.cell c0; go_simp; first | done | with_reducible rfl | (rw [if_neg (by omega)])) ?_; simp only [Act.put, List.setIfInBounds_toArray, List.set_cons_zero, List.set_cons_succ]
  refine WQ.val (by rfl) (fun v hv => by have k0 := hv.cell b0; have k1 := hv.cell c0; go_simp; first | done | with_reducible rfl | (rw [if_neg (by omega)])) ?_; simp only [Act.put, List.setIfInBounds_toArray, List.set_cons_zero, List.set_cons_succ]
  refine WQ.val (by rfl) (fun v hv => by have k0 := hv.cell b0; have k1 := hv.cell c0; go_simp; first | done | with_reducible rfl | (rw [if_neg (by omega)])) ?_; simp only [Act.put, List.setIfInBounds_toArray, List.set_cons_zero, List.set_cons_succ]
  refine WQ.val (by rfl) (fun v hv => by have k0 := hv.cell b0; have k1 := hv.cell c0; go_simp; first | done | with_reducible rfl | (rw [if_neg (by omega)])) ?_; simp only [Act.put, List.setIfInBounds_toArray, List.set_cons_zero, List.set_cons_succ]
  refine WQ.val (by rfl) (fun v hv => by have k0 := hv.cell b0; have k1 := hv.cell c0; go_simp; first | done | with_reducible rfl | (rw [if_neg (by omega)])) ?_; simp only [Act.put, List.setIfInBounds_toArray, List.set_cons_zero, List.set_cons_succ]
  refine WQ.val (by rfl) (fun v hv => by have k0 := hv.cell b0; have k1 := hv.cell c0; go_simp; first | done | with_reducible rfl | (rw [if_neg (by omega)])) ?_; simp only [Act.put, List.setIfInBounds_toArray, List.set_cons_zero, List.set_cons_succ]
  refine WQ.val (by rfl) (fun v hv => by have k0 := hv.cell b0; have k1 := hv.cell c0; go_simp; first | done | with_reducible rfl | (rw [if_neg (by omega)])) ?_; simp only [Act.put, List.setIfInBounds_toArray, List.set_cons_zero, List.set_cons_succ]
  refine WQ.val (by rfl) (fun v hv => by have k0 := hv.cell b0; have k1 := hv.cell c0; go_simp; first | done | with_reducible rfl | (rw [if_neg (by omega)])) ?_; simp only [Act.put, List.setIfInBounds_toArray, List.set_cons_zero, List.set_cons_succ]
  refine WQ.done ?_
  intro w3 hw3
  obtain ⟨n3, rfl⟩ := hw3
  refine wpOp_one rfl (by rfl) ?_
  intro K' hK'
  have c0' : (w2.drewN n3).cell? ⟨B.b, t * 64 + t, none⟩ = some (.int .i64 q) := c0
  have f0' : (w2.drewN n3).frozen? ⟨B.b, t * 64 + t, none⟩ = false := f0
  have HRA : Hid (Arr ((w2.drewN n3).setCell ⟨B.b, t * 64 + t, none⟩ (.int .i64 ((q : Int) + 1))) B.b (t * 64) (c1 S t)) := Lib.hid (by
    have h2 : Arr (w2.drewN n3) B.b (t * 64) (S.V t) := HR2.out.v t ht64
    have := h2.step (g := c1 S t) ht64 (fun u hu => by
      unfold c1
      by_cases e : u = t
      · subst e; simp
      · simp [e])
    have e : c1 S t t = q + 1 := by unfold c1; rw [if_pos rfl, HQ.out]
    rw [e] at this
    rw [HQC.out]
    exact this)
  have HOA : Hid (OnlyA B.b (t * 64) w2 ((w2.drewN n3).setCell ⟨B.b, t * 64 + t, none⟩ (.int .i64 ((q : Int) + 1)))) := Lib.hid ((OnlyA.drewN B.b (t * 64) w2 n3).trans (OnlyA.set B.b (t * 64) _ (by omega) _))
  go_wp2_with fail
  all_goals
    generalize (w2.drewN n3).setCell ⟨B.b, t * 64 + t, none⟩ (.int .i64 ((q : Int) + 1)) = w4 at *
    have HR4 : Hid (Rep w4 B (S.at t (c1 S t))) := Lib.hid (HR2.out.clock ht64 HOA.out HRA.out)
    have HT4 := Lib.hid (HT2.out.only HOA.out (.inl rfl))
    have d1 : w4.cell? ⟨bx, 1, none⟩ = some (.int .i64 kd) := (World.cell?_of_block (w := w2) (HOA.out.other bx (fun e => hbx e.symm))).trans b1
    have d2 : w4.cell? ⟨bx, 2, none⟩ = some (.int .i64 pl) := (World.cell?_of_block (w := w2) (HOA.out.other bx (fun e => hbx e.symm))).trans b2
    have HA4 := HRA
    have HS4 := Lib.hid (fun u (_ : u < 64) => Nat.le_trans (c1_le HSM.out t u) (by omega : 901 ≤ 1000))
    clear c0 f0 c0' f0' b0 b1 b2 HR2 HT2 HOA HRA hwq hvt hq0 hq1 HQ HQC
  · have hk : kd = 1 := by simpa using ‹(kd == 1) = true›
    subst hk
    have hlook : ∀ n, (Instr.lookup 42 (.map (some B.bl)) (.int .i64 pl) false).run Try.prog (w4.drewN n) = .ok (aggV (S.Lk pl)) (w4.drewN n) := fun n => ClockMap.look (w := w4.drewN n) (HR4.out.l.of_block rfl) hp
    have cm : w4.cell? ⟨B.b, 4096, none⟩ = some (.map (some B.bl)) := HR4.out.cl
    refine WQ.last (Drew w4) ⟨1, rfl⟩ 8 6 (by rfl) (by kernel_rfl) (by kernel_rfl) ?_; simp only [List.take_succ_cons, List.take_zero]
    refine WQ.val (by rfl) (fun v hv => by obtain ⟨nv, rfl⟩ := hv; have hl := hlook nv; have hv : Drew w4 (w4.drewN nv) := ⟨nv, rfl⟩; have k0 := hv.cell d2; have k1 := hv.cell cm; go_simp; first | done | with_reducible rfl | (rw [if_neg (by omega)])) ?_; simp only [Act.put, List.setIfInBounds_toArray, List.set_cons_zero, List.set_cons_succ]
    refine WQ.val (by rfl) (fun v hv => by obtain ⟨nv, rfl⟩ := hv; have hl := hlook nv; have hv : Drew w4 (w4.drewN nv) := ⟨nv, rfl⟩; have k0 := hv.cell d2; have k1 := hv.cell cm; go_simp; first | done | with_reducible rfl | (rw [if_neg (by omega)])) ?_; simp only [Act.put, List.setIfInBounds_toArray, List.set_cons_zero, List.set_cons_succ]
    refine WQ.val (by rfl) (fun v hv => by obtain ⟨nv, rfl⟩ := hv; have hl := hlook nv; have hv : Drew w4 (w4.drewN nv) := ⟨nv, rfl⟩; have k0 := hv.cell d2; have k1 := hv.cell cm; go_simp; first | done | with_reducible rfl | (rw [if_neg (by omega)])) ?_; simp only [Act.put, List.setIfInBounds_toArray, List.set_cons_zero, List.set_cons_succ]
    refine WQ.val (by rfl) (fun v hv => by obtain ⟨nv, rfl⟩ := hv; have hl := hlook nv; have hv : Drew w4 (w4.drewN nv) := ⟨nv, rfl⟩; have k0 := hv.cell d2; have k1 := hv.cell cm; go_simp; first | done | with_reducible rfl | (rw [if_neg (by omega)])) ?_; simp only [Act.put, List.setIfInBounds_toArray, List.set_cons_zero, List.set_cons_succ]
    refine WQ.val (by rfl) (fun v hv => by obtain ⟨nv, rfl⟩ := hv; have hl := hlook nv; have hv : Drew w4 (w4.drewN nv) := ⟨nv, rfl⟩; have k0 := hv.cell d2; have k1 := hv.cell cm; go_simp; first | done | with_reducible rfl | (rw [if_neg (by omega)])) ?_; simp only [Act.put, List.setIfInBounds_toArray, List.set_cons_zero, List.set_cons_succ]
    refine WQ.val (by rfl) (fun v hv => by obtain ⟨nv, rfl⟩ := hv; have hl := hlook nv; have hv : Drew w4 (w4.drewN nv) := ⟨nv, rfl⟩; have k0 := hv.cell d2; have k1 := hv.cell cm; go_simp; first | done | with_reducible rfl | (rw [if_neg (by omega)])) ?_; simp only [Act.put, List.setIfInBounds_toArray, List.set_cons_zero, List.set_cons_succ]
    refine WQ.val (by rfl) (fun v hv => by obtain ⟨nv, rfl⟩ := hv; have hl := hlook nv; have hv : Drew w4 (w4.drewN nv) := ⟨nv, rfl⟩; have k0 := hv.cell d2; have k1 := hv.cell cm; go_simp; first | done | with_reducible rfl | (rw [if_neg (by omega)])) ?_; simp only [Act.put, List.setIfInBounds_toArray, List.set_cons_zero, List.set_cons_succ]
    refine WQ.val (by rfl) (fun v hv => by obtain ⟨nv, rfl⟩ := hv; have hl := hlook nv; have hv : Drew w4 (w4.drewN nv) := ⟨nv, rfl⟩; have k0 := hv.cell d2; have k1 := hv.cell cm; go_simp; first | done | with_reducible rfl | (rw [if_neg (by omega)])) ?_; simp only [Act.put, List.setIfInBounds_toArray, List.set_cons_zero, List.set_cons_succ]
    refine WQ.done ?_
    intro w5 hw5
    obtain ⟨n5, rfl⟩ := hw5
    refine wpOp_one rfl (by rfl) ?_
    intro K' hK'
    go_wp2_with fail
    refine (join_any B.b (t * 64) (c1 S t) (S.Lk pl) (w4.drewN n5) HA4.out HS4.out (fun u _ => Nat.le_trans (HSM.out.l pl u) (by omega))).mono ?_
    rintro e w6 ⟨rfl, w5, hb5, ho5, ha5⟩
    have HR6 := Lib.hid ((HR4.out.keep (w' := w4.drewN n5) (fun _ _ => rfl)).below hb5 |>.clock ht64 ho5 ha5)
    have HT6 := Lib.hid (((HT4.out.drewN n5).then hb5).only ho5 (.inl rfl))
    have HA6 := Lib.hid ha5
    have HX6 : Hid (w6.cell? ⟨bx, 2, none⟩ = some (.int .i64 pl)) := Lib.hid ((World.cell?_of_block (w := w5) (ho5.other bx (fun e => hbx e.symm))).trans ((hb5.cell (p := ⟨bx, 2, none⟩) (World.block_lt_of_cell? _ _ (show (w4.drewN n5).cell? ⟨bx, 2, none⟩ = _ from d2))).trans d2))
    clear hb5 ho5 ha5 hlook cm
    go_wp2_with fail
    go_end0
    exact ⟨rfl, by rw [hears_lock, ← VS.at_at S t (c1 S t)]; exact HR6.out, HT6.out⟩
  · have hk : kd = 3 := by simpa using ‹(kd == 3) = true›
    subst hk
    have hlook : ∀ n, (Instr.lookup 42 (.map (some B.bw)) (.int .i64 pl) false).run Try.prog (w4.drewN n) = .ok (aggV (S.Wd pl)) (w4.drewN n) := fun n => ClockMap.look (w := w4.drewN n) (HR4.out.wd.of_block rfl) hp
    have cm : w4.cell? ⟨B.b, 4097, none⟩ = some (.map (some B.bw)) := HR4.out.cw
    refine WQ.last (Drew w4) ⟨1, rfl⟩ 8 6 (by rfl) (by kernel_rfl) (by kernel_rfl) ?_; simp only [List.take_succ_cons, List.take_zero]
    refine WQ.val (by rfl) (fun v hv => by obtain ⟨nv, rfl⟩ := hv; have hl := hlook nv; have hv : Drew w4 (w4.drewN nv) := ⟨nv, rfl⟩; have k0 := hv.cell d2; have k1 := hv.cell cm; go_simp; first | done | with_reducible rfl | (rw [if_neg (by omega)])) ?_; simp only [Act.put, List.setIfInBounds_toArray, List.set_cons_zero, List.set_cons_succ]
    refine WQ.val (by rfl) (fun v hv => by obtain ⟨nv, rfl⟩ := hv; have hl := hlook nv; have hv : Drew w4 (w4.drewN nv) := ⟨nv, rfl⟩; have k0 := hv.cell d2; have k1 := hv.cell cm; go_simp; first | done | with_reducible rfl | (rw [if_neg (by omega)])) ?_; simp only [Act.put, List.setIfInBounds_toArray, List.set_cons_zero, List.set_cons_succ]
    refine WQ.val (by rfl) (fun v hv => by obtain ⟨nv, rfl⟩ := hv; have hl := hlook nv; have hv : Drew w4 (w4.drewN nv) := ⟨nv, rfl⟩; have k0 := hv.cell d2; have k1 := hv.cell cm; go_simp; first | done | with_reducible rfl | (rw [if_neg (by omega)])) ?_; simp only [Act.put, List.setIfInBounds_toArray, List.set_cons_zero, List.set_cons_succ]
    refine WQ.val (by rfl) (fun v hv => by obtain ⟨nv, rfl⟩ := hv; have hl := hlook nv; have hv : Drew w4 (w4.drewN nv) := ⟨nv, rfl⟩; have k0 := hv.cell d2; have k1 := hv.cell cm; go_simp; first | done | with_reducible rfl | (rw [if_neg (by omega)])) ?_; simp only [Act.put, List.setIfInBounds_toArray, List.set_cons_zero, List.set_cons_succ]
    refine WQ.val (by rfl) (fun v hv => by obtain ⟨nv, rfl⟩ := hv; have hl := hlook nv; have hv : Drew w4 (w4.drewN nv) := ⟨nv, rfl⟩; have k0 := hv.cell d2; have k1 := hv.cell cm; go_simp; first | done | with_reducible rfl | (rw [if_neg (by omega)])) ?_; simp only [Act.put, List.setIfInBounds_toArray, List.set_cons_zero, List.set_cons_succ]
    refine WQ.val (by rfl) (fun v hv => by obtain ⟨nv, rfl⟩ := hv; have hl := hlook nv; have hv : Drew w4 (w4.drewN nv) := ⟨nv, rfl⟩; have k0 := hv.cell d2; have k1 := hv.cell cm; go_simp; first | done | with_reducible rfl | (rw [if_neg (by omega)])) ?_; simp only [Act.put, List.setIfInBounds_toArray, List.set_cons_zero, List.set_cons_succ]
    refine WQ.val (by rfl) (fun v hv => by obtain ⟨nv, rfl⟩ := hv; have hl := hlook nv; have hv : Drew w4 (w4.drewN nv) := ⟨nv, rfl⟩; have k0 := hv.cell d2; have k1 := hv.cell cm; go_simp; first | done | with_reducible rfl | (rw [if_neg (by omega)])) ?_; simp only [Act.put, List.setIfInBounds_toArray, List.set_cons_zero, List.set_cons_succ]
    refine WQ.val (by rfl) (fun v hv => by obtain ⟨nv, rfl⟩ := hv; have hl := hlook nv; have hv : Drew w4 (w4.drewN nv) := ⟨nv, rfl⟩; have k0 := hv.cell d2; have k1 := hv.cell cm; go_simp; first | done | with_reducible rfl | (rw [if_neg (by omega)])) ?_; simp only [Act.put, List.setIfInBounds_toArray, List.set_cons_zero, List.set_cons_succ]
    refine WQ.done ?_
    intro w5 hw5
    obtain ⟨n5, rfl⟩ := hw5
    refine wpOp_one rfl (by rfl) ?_
    intro K' hK'
    go_wp2_with fail
    refine (join_any B.b (t * 64) (c1 S t) (S.Wd pl) (w4.drewN n5) HA4.out HS4.out (fun u _ => Nat.le_trans (HSM.out.w pl u) (by omega))).mono ?_
    rintro e w6 ⟨rfl, w5, hb5, ho5, ha5⟩
    have HR6 := Lib.hid ((HR4.out.keep (w' := w4.drewN n5) (fun _ _ => rfl)).below hb5 |>.clock ht64 ho5 ha5)
    have HT6 := Lib.hid (((HT4.out.drewN n5).then hb5).only ho5 (.inl rfl))
    have HA6 := Lib.hid ha5
    have HX6 : Hid (w6.cell? ⟨bx, 2, none⟩ = some (.int .i64 pl)) := Lib.hid ((World.cell?_of_block (w := w5) (ho5.other bx (fun e => hbx e.symm))).trans ((hb5.cell (p := ⟨bx, 2, none⟩) (World.block_lt_of_cell? _ _ (show (w4.drewN n5).cell? ⟨bx, 2, none⟩ = _ from d2))).trans d2))
    clear hb5 ho5 ha5 hlook cm
    go_wp2_with fail
    go_end0
    exact ⟨rfl, by rw [hears_load, ← VS.at_at S t (c1 S t)]; exact HR6.out, HT6.out⟩
  · have hk : kd = 4 := by simpa using ‹(kd == 4) = true›
    subst hk
    have hlook : ∀ n, (Instr.lookup 42 (.map (some B.bw)) (.int .i64 pl) false).run Try.prog (w4.drewN n) = .ok (aggV (S.Wd pl)) (w4.drewN n) := fun n => ClockMap.look (w := w4.drewN n) (HR4.out.wd.of_block rfl) hp
    have cm : w4.cell? ⟨B.b, 4097, none⟩ = some (.map (some B.bw)) := HR4.out.cw
    refine WQ.last (Drew w4) ⟨1, rfl⟩ 8 6 (by rfl) (by kernel_rfl) (by kernel_rfl) ?_; simp only [List.take_succ_cons, List.take_zero]
    refine WQ.val (by rfl) (fun v hv => by obtain ⟨nv, rfl⟩ := hv; have hl := hlook nv; have hv : Drew w4 (w4.drewN nv) := ⟨nv, rfl⟩; have k0 := hv.cell d2; have k1 := hv.cell cm; go_simp; first | done | with_reducible rfl | (rw [if_neg (by omega)])) ?_; simp only [Act.put, List.setIfInBounds_toArray, List.set_cons_zero, List.set_cons_succ]
    refine WQ.val (by rfl) (fun v hv => by obtain ⟨nv, rfl⟩ := hv; have hl := hlook nv; have hv : Drew w4 (w4.drewN nv) := ⟨nv, rfl⟩; have k0 := hv.cell d2; have k1 := hv.cell cm; go_simp; first | done | with_reducible rfl | (rw [if_neg (by omega)])) ?_; simp only [Act.put, List.setIfInBounds_toArray, List.set_cons_zero, List.set_cons_succ]
    refine WQ.val (by rfl) (fun v hv => by obtain ⟨nv, rfl⟩ := hv; have hl := hlook nv; have hv : Drew w4 (w4.drewN nv) := ⟨nv, rfl⟩; have k0 := hv.cell d2; have k1 := hv.cell cm; go_simp; first | done | with_reducible rfl | (rw [if_neg (by omega)])) ?_; simp only [Act.put, List.setIfInBounds_toArray, List.set_cons_zero, List.set_cons_succ]
    refine WQ.val (by rfl) (fun v hv => by obtain ⟨nv, rfl⟩ := hv; have hl := hlook nv; have hv : Drew w4 (w4.drewN nv) := ⟨nv, rfl⟩; have k0 := hv.cell d2; have k1 := hv.cell cm; go_simp; first | done | with_reducible rfl | (rw [if_neg (by omega)])) ?_; simp only [Act.put, List.setIfInBounds_toArray, List.set_cons_zero, List.set_cons_succ]
    refine WQ.val (by rfl) (fun v hv => by obtain ⟨nv, rfl⟩ := hv; have hl := hlook nv; have hv : Drew w4 (w4.drewN nv) := ⟨nv, rfl⟩; have k0 := hv.cell d2; have k1 := hv.cell cm; go_simp; first | done | with_reducible rfl | (rw [if_neg (by omega)])) ?_; simp only [Act.put, List.setIfInBounds_toArray, List.set_cons_zero, List.set_cons_succ]
    refine WQ.val (by rfl) (fun v hv => by obtain ⟨nv, rfl⟩ := hv; have hl := hlook nv; have hv : Drew w4 (w4.drewN nv) := ⟨nv, rfl⟩; have k0 := hv.cell d2; have k1 := hv.cell cm; go_simp; first | done | with_reducible rfl | (rw [if_neg (by omega)])) ?_; simp only [Act.put, List.setIfInBounds_toArray, List.set_cons_zero, List.set_cons_succ]
    refine WQ.val (by rfl) (fun v hv => by obtain ⟨nv, rfl⟩ := hv; have hl := hlook nv; have hv : Drew w4 (w4.drewN nv) := ⟨nv, rfl⟩; have k0 := hv.cell d2; have k1 := hv.cell cm; go_simp; first | done | with_reducible rfl | (rw [if_neg (by omega)])) ?_; simp only [Act.put, List.setIfInBounds_toArray, List.set_cons_zero, List.set_cons_succ]
    refine WQ.val (by rfl) (fun v hv => by obtain ⟨nv, rfl⟩ := hv; have hl := hlook nv; have hv : Drew w4 (w4.drewN nv) := ⟨nv, rfl⟩; have k0 := hv.cell d2; have k1 := hv.cell cm; go_simp; first | done | with_reducible rfl | (rw [if_neg (by omega)])) ?_; simp only [Act.put, List.setIfInBounds_toArray, List.set_cons_zero, List.set_cons_succ]
    refine WQ.done ?_
    intro w5 hw5
    obtain ⟨n5, rfl⟩ := hw5
    refine wpOp_one rfl (by rfl) ?_
    intro K' hK'
    go_wp2_with fail
    refine (join_any B.b (t * 64) (c1 S t) (S.Wd pl) (w4.drewN n5) HA4.out HS4.out (fun u _ => Nat.le_trans (HSM.out.w pl u) (by omega))).mono ?_
    rintro e w6 ⟨rfl, w5, hb5, ho5, ha5⟩
    have HR6 := Lib.hid ((HR4.out.keep (w' := w4.drewN n5) (fun _ _ => rfl)).below hb5 |>.clock ht64 ho5 ha5)
    have HT6 := Lib.hid (((HT4.out.drewN n5).then hb5).only ho5 (.inl rfl))
    have HA6 := Lib.hid ha5
    have HX6 : Hid (w6.cell? ⟨bx, 2, none⟩ = some (.int .i64 pl)) := Lib.hid ((World.cell?_of_block (w := w5) (ho5.other bx (fun e => hbx e.symm))).trans ((hb5.cell (p := ⟨bx, 2, none⟩) (World.block_lt_of_cell? _ _ (show (w4.drewN n5).cell? ⟨bx, 2, none⟩ = _ from d2))).trans d2))
    clear hb5 ho5 ha5 hlook cm
    have hK := hK'
    clear hK
    go_wp2_with fail
    have e2 : w6.cell? ⟨bx, 2, none⟩ = some (.int .i64 pl) := HX6.out
    have cm : w6.cell? ⟨B.b, 4097, none⟩ = some (.map (some B.bw)) := HR6.out.cw
    have hc2 : Hid (Arr w6 B.b (t * 64) (fun u => max (c1 S t u) (S.Wd pl u))) := HA6
    obtain ⟨G, hG⟩ : ∃ G, G = (List.range 64).map (fun u => Value.int .i64 ((max (c1 S t u) (S.Wd pl u) : Nat) : Int)) := ⟨_, rfl⟩
    have hrg := hc2.out.range
    rw [← hG] at hrg
    have hgl : some 1 = some 1 := rfl
    have hgs : (Try.prog.info? 45).map (·.size) = some G.length := by rw [hG, List.length_map, List.length_range]; kernel_rfl
    have HG := Lib.hid hG
    clear hG hgl
    refine WQ.last (Drew w6) ⟨1, rfl⟩ 9 6 (by rfl) (by kernel_rfl) (by kernel_rfl) ?_; simp only [List.take_succ_cons, List.take_zero]
    refine WQ.val (by rfl) (fun v hv => by have k0 := hv.cell e2; have k1 := hv.cell cm; go_simp; first | done | with_reducible rfl | (rw [if_neg (by omega)])) ?_; simp only [Act.put, List.setIfInBounds_toArray, List.set_cons_zero, List.set_cons_succ]
    refine WQ.val (by rfl) (fun v hv => by have k0 := hv.cell e2; have k1 := hv.cell cm; go_simp; first | done | with_reducible rfl | (rw [if_neg (by omega)])) ?_; simp only [Act.put, List.setIfInBounds_toArray, List.set_cons_zero, List.set_cons_succ]
    refine WQ.val (by rfl) (fun v hv => by have k0 := hv.cell e2; have k1 := hv.cell cm; go_simp; first | done | with_reducible rfl | (rw [if_neg (by omega)])) ?_; simp only [Act.put, List.setIfInBounds_toArray, List.set_cons_zero, List.set_cons_succ]
    refine WQ.val (by rfl) (fun v hv => by have k0 := hv.cell e2; have k1 := hv.cell cm; go_simp; first | done | with_reducible rfl | (rw [if_neg (by omega)])) ?_; simp only [Act.put, List.setIfInBounds_toArray, List.set_cons_zero, List.set_cons_succ]
    refine WQ.val (by rfl) (fun v hv => by have k0 := hv.cell e2; have k1 := hv.cell cm; go_simp; first | done | with_reducible rfl | (rw [if_neg (by omega)])) ?_; simp only [Act.put, List.setIfInBounds_toArray, List.set_cons_zero, List.set_cons_succ]
    refine WQ.val (by rfl) (fun v hv => by have k0 := hv.cell e2; have k1 := hv.cell cm; go_simp; first | done | with_reducible rfl | (rw [if_neg (by omega)])) ?_; simp only [Act.put, List.setIfInBounds_toArray, List.set_cons_zero, List.set_cons_succ]
    refine WQ.val (by rfl) (fun v hv => by have k0 := hv.cell e2; have k1 := hv.cell cm; go_simp; first | done | with_reducible rfl | (rw [if_neg (by omega)])) ?_; simp only [Act.put, List.setIfInBounds_toArray, List.set_cons_zero, List.set_cons_succ]
    refine WQ.val (by rfl) (fun v hv => by have k0 := hv.cell e2; have k1 := hv.cell cm; go_simp; first | done | with_reducible rfl | (rw [if_neg (by omega)])) ?_; simp only [Act.put, List.setIfInBounds_toArray, List.set_cons_zero, List.set_cons_succ]
    refine WQ.load (by rfl) 45 (.tmp 63) rfl B.b (t * 64) (by rfl) G _ (fun v hv => hv.range hrg) Try.underlying45 rfl hgs ?_; simp only [Act.put, List.setIfInBounds_toArray, List.set_cons_zero, List.set_cons_succ]
    refine WQ.done ?_
    intro w7 hw7
    obtain ⟨n7, rfl⟩ := hw7
    obtain ⟨o6, hput, hcm⟩ := ClockMap.put (w := w6.drewN n7) (HR6.out.wd.of_block rfl) hp (fun u => max (c1 S t u) (S.Wd pl u))
    unfold aggV at hput
    rw [← HG.out] at hput
    have HR7 := Lib.hid (Rep.words (HR6.out.keep (w' := w6.drewN n7) (fun _ _ => rfl)) hcm)
    have HT7 := Lib.hid ((HT6.out.drewN n7).set B.bw o6 (.inr (.inr (.inl rfl))))
    clear hcm
    refine wpOp_one rfl (by rfl) ?_
    intro K2 hK2
    go_wp2_with fail
    go_end0
    exact ⟨rfl, by rw [hears_store, ← VS.at_at S t (c1 S t)]; exact HR7.out, HT7.out⟩
  · have hk : kd = 2 := by simpa using ‹(kd == 2) = true›
    subst hk
    have hlook : ∀ v, Since w4 v → (Instr.lookup 42 (.map (some B.bl)) (.int .i64 pl) false).run Try.prog v = .ok (aggV (S.Lk pl)) v := fun v hv => ClockMap.look (w := v) (HR4.out.l.of_block (hv.block _ HR4.out.l.lt)) hp
    have cm : w4.cell? ⟨B.b, 4096, none⟩ = some (.map (some B.bl)) := HR4.out.cl
    have HS0 : Since w4 w4.drew := (Below.refl _ _).drew
    refine WH.enter (Since w4) (by kernel_rfl) 9 rfl ?_
    refine WH.take 0 (some 67) rfl rfl (by kernel_rfl) (by kernel_rfl) (by kernel_rfl) (fun _ _ _ h => h) (by rfl) (fun v hv => by have k0 := hv.cell d2; have k1 := hv.cell cm; have hl := hlook v hv; go_simp; first | done | with_reducible rfl) HS0 ?_; simp only [Act.put, List.setIfInBounds_toArray, List.set_cons_zero, List.set_cons_succ]
    refine WH.take 1 (some 68) rfl rfl (by kernel_rfl) (by kernel_rfl) (by kernel_rfl) (fun _ _ _ h => h) (by rfl) (fun v hv => by have k0 := hv.cell d2; have k1 := hv.cell cm; have hl := hlook v hv; go_simp; first | done | with_reducible rfl) HS0 ?_; simp only [Act.put, List.setIfInBounds_toArray, List.set_cons_zero, List.set_cons_succ]
    refine WH.take 2 (some 69) rfl rfl (by kernel_rfl) (by kernel_rfl) (by kernel_rfl) (fun _ _ _ h => h) (by rfl) (fun v hv => by have k0 := hv.cell d2; have k1 := hv.cell cm; have hl := hlook v hv; go_simp; first | done | with_reducible rfl) HS0 ?_; simp only [Act.put, List.setIfInBounds_toArray, List.set_cons_zero, List.set_cons_succ]
    refine WH.take 3 (some 70) rfl rfl (by kernel_rfl) (by kernel_rfl) (by kernel_rfl) (fun _ _ _ h => h) (by rfl) (fun v hv => by have k0 := hv.cell d2; have k1 := hv.cell cm; have hl := hlook v hv; go_simp; first | done | with_reducible rfl) HS0 ?_; simp only [Act.put, List.setIfInBounds_toArray, List.set_cons_zero, List.set_cons_succ]
    refine WH.take 4 (some 71) rfl rfl (by kernel_rfl) (by kernel_rfl) (by kernel_rfl) (fun _ _ _ h => h) (by rfl) (fun v hv => by have k0 := hv.cell d2; have k1 := hv.cell cm; have hl := hlook v hv; go_simp; first | done | with_reducible rfl) HS0 ?_; simp only [Act.put, List.setIfInBounds_toArray, List.set_cons_zero, List.set_cons_succ]
    refine WH.take 5 (some 72) rfl rfl (by kernel_rfl) (by kernel_rfl) (by kernel_rfl) (fun _ _ _ h => h) (by rfl) (fun v hv => by have k0 := hv.cell d2; have k1 := hv.cell cm; have hl := hlook v hv; go_simp; first | done | with_reducible rfl) HS0 ?_; simp only [Act.put, List.setIfInBounds_toArray, List.set_cons_zero, List.set_cons_succ]
    refine WH.take 6 (some 73) rfl rfl (by kernel_rfl) (by kernel_rfl) (by kernel_rfl) (fun _ _ _ h => h) (by rfl) (fun v hv => by have k0 := hv.cell d2; have k1 := hv.cell cm; have hl := hlook v hv; go_simp; first | done | with_reducible rfl) HS0 ?_; simp only [Act.put, List.setIfInBounds_toArray, List.set_cons_zero, List.set_cons_succ]
    refine WH.one 7 (by kernel_rfl) rfl (by rfl) ?_
    refine wp_alloc_clock rfl (some 5) rfl ?_
    simp only [Act.put, List.setIfInBounds_toArray, List.set_cons_zero, List.set_cons_succ]
    have HS1 : Since w4 (w4.drew.alloc (.cells zeroC.toArray 45)) := Below.alloc HS0 HS0.size _
    refine ⟨HS1, ?_⟩
    refine WH.one 8 (by kernel_rfl) rfl (by rfl) ?_
    refine wp_store_clock (w := w4.drew) (S.Lk pl) (.tmp 5) (.tmp 73) rfl none rfl (by rfl) (by rfl) ?_
    simp only [Act.put]
    have HAP := Lib.hid (arr_put w4.drew (S.Lk pl))
    have HS2 : Since w4 ((w4.drew.alloc (.cells zeroC.toArray 45)).setCells w4.drew.heap.size 0 (clockC (S.Lk pl))) := Below.setCells HS1 (Nat.le_refl _) 0 _
    refine ⟨HS2, WH.done (by kernel_rfl) ?_⟩
    generalize hbp : w4.drew.heap.size = bp at *
    generalize hw5 : (w4.drew.alloc (.cells zeroC.toArray 45)).setCells bp 0 (clockC (S.Lk pl)) = w5 at *
    have hbp4 : w4.heap.size = bp := hbp
    have HR5 := Lib.hid (HR4.out.below HS2)
    have HS5 := Lib.hid HS2
    have d5 : w5.cell? ⟨bx, 2, none⟩ = some (.int .i64 pl) := HS2.cell d2
    have HBP := Lib.hid hbp4
    have hgd : ∃ G, G = clockC (c1 S t) := ⟨_, rfl⟩
    obtain ⟨G, hG⟩ := hgd
    have hrg : w5.rangeAt B.b (t * 64) G := by
      have h5 := HR5.out.v t ht64
      have e : (S.at t (c1 S t)).V t = c1 S t := if_pos rfl
      rw [e] at h5
      rw [hG]; exact h5.range
    have hgs : (Try.prog.info? 45).map (·.size) = some G.length := by rw [hG, clockC_length]; kernel_rfl
    have HG := Lib.hid hG
    clear hG hw5 hbp hbp4 HS0 HS1 HS2 hlook cm d1
    go_wp2_with (first | (refine wpList_load_mid_w (by rfl) 45 (.tmp 75) rfl B.b (t * 64) rfl G _ hrg Try.underlying45 rfl hgs ?_))
    have hga : Value.agg G.toArray = aggV (c1 S t) := by rw [HG.out]; rfl
    rw [hga]
    refine (join_any bp 0 (S.Lk pl) (c1 S t) w5 HAP.out (fun u _ => Nat.le_trans (HSM.out.l pl u) (by omega)) HS4.out).mono ?_
    rintro e w7 ⟨rfl, w6, hb6, ho6, ha6⟩
    have HS7 : Since w4 w7 := Below.trans (HS5.out.step hb6) (ho6.below (Nat.le_of_eq HBP.out))
    have HR7 := Lib.hid (HR4.out.below HS7)
    have HT7 := Lib.hid (HT4.out.then HS7)
    have e2 : w7.cell? ⟨bx, 2, none⟩ = some (.int .i64 pl) := HS7.cell d2
    have cm : w7.cell? ⟨B.b, 4096, none⟩ = some (.map (some B.bl)) := HR7.out.cl
    obtain ⟨G2, hG2⟩ : ∃ G2, G2 = clockC (fun u => max (S.Lk pl u) (c1 S t u)) := ⟨_, rfl⟩
    have hrg2 : w7.rangeAt bp 0 G2 := by rw [hG2]; exact ha6.range
    have hgs2 : (Try.prog.info? 45).map (·.size) = some G2.length := by rw [hG2, clockC_length]; kernel_rfl
    have HG2 := Lib.hid hG2
    clear hG2 hb6 ho6 ha6 HS7 hrg hgs hga d2 d5
    go_wp2_with fail
    refine WQ.last (Drew w7) ⟨1, rfl⟩ 7 6 (by rfl) (by kernel_rfl) (by kernel_rfl) ?_; simp only [List.take_succ_cons, List.take_zero]
    refine WQ.val (by rfl) (fun v hv => by have k0 := hv.cell e2; have k1 := hv.cell cm; go_simp; first | done | with_reducible rfl | (rw [if_neg (by omega)])) ?_; simp only [Act.put, List.setIfInBounds_toArray, List.set_cons_zero, List.set_cons_succ]
    refine WQ.val (by rfl) (fun v hv => by have k0 := hv.cell e2; have k1 := hv.cell cm; go_simp; first | done | with_reducible rfl | (rw [if_neg (by omega)])) ?_; simp only [Act.put, List.setIfInBounds_toArray, List.set_cons_zero, List.set_cons_succ]
    refine WQ.val (by rfl) (fun v hv => by have k0 := hv.cell e2; have k1 := hv.cell cm; go_simp; first | done | with_reducible rfl | (rw [if_neg (by omega)])) ?_; simp only [Act.put, List.setIfInBounds_toArray, List.set_cons_zero, List.set_cons_succ]
    refine WQ.val (by rfl) (fun v hv => by have k0 := hv.cell e2; have k1 := hv.cell cm; go_simp; first | done | with_reducible rfl | (rw [if_neg (by omega)])) ?_; simp only [Act.put, List.setIfInBounds_toArray, List.set_cons_zero, List.set_cons_succ]
    refine WQ.val (by rfl) (fun v hv => by have k0 := hv.cell e2; have k1 := hv.cell cm; go_simp; first | done | with_reducible rfl | (rw [if_neg (by omega)])) ?_; simp only [Act.put, List.setIfInBounds_toArray, List.set_cons_zero, List.set_cons_succ]
    refine WQ.val (by rfl) (fun v hv => by have k0 := hv.cell e2; have k1 := hv.cell cm; go_simp; first | done | with_reducible rfl | (rw [if_neg (by omega)])) ?_; simp only [Act.put, List.setIfInBounds_toArray, List.set_cons_zero, List.set_cons_succ]
    refine WQ.load (by rfl) 45 (.tmp 5) rfl bp 0 (by rfl) G2 _ (fun v hv => hv.range hrg2) Try.underlying45 rfl hgs2 ?_; simp only [Act.put, List.setIfInBounds_toArray, List.set_cons_zero, List.set_cons_succ]
    refine WQ.done ?_
    intro w8 hw8
    obtain ⟨n8, rfl⟩ := hw8
    obtain ⟨o8, hput, hcm⟩ := ClockMap.put (w := w7.drewN n8) (HR7.out.l.of_block rfl) hp (fun u => max (S.Lk pl u) (c1 S t u))
    rw [aggV_clock, ← HG2.out] at hput
    have HR9 := Lib.hid (Rep.locks (HR7.out.keep (w' := w7.drewN n8) (fun _ _ => rfl)) hcm)
    have HT9 := Lib.hid ((HT7.out.drewN n8).set B.bl o8 (.inr (.inl rfl)))
    clear hcm
    refine wpOp_one rfl (by rfl) ?_
    intro K2 hK2
    go_wp2_with fail
    go_end0
    exact ⟨rfl, by rw [hears_unlock]; exact HR9.out, HT9.out⟩
  · have h1 : kd ≠ 1 := by simpa using ‹(kd == 1) = false›
    have h2 : kd ≠ 2 := by simpa using ‹(kd == 2) = false›
    have h3 : kd ≠ 3 := by simpa using ‹(kd == 3) = false›
    have h4 : kd ≠ 4 := by simpa using ‹(kd == 4) = false›
    go_end0
    exact ⟨rfl, by rw [hears_none S t kd pl h1 h2 h3 h4]; exact HR4.out, HT4.out⟩
end Go.Proofs.Ytccbiolgdamnpaa
