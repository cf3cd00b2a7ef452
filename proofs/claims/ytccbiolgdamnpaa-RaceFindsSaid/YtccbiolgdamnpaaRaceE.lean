/- The walk of (*state).note. Printed by gen_racee.py. -/
import Derived.Test.YtccbiolgdamnpaaRaceN
namespace Go.Proofs.Ytccbiolgdamnpaa
set_option linter.unusedSimpArgs false
set_option linter.unusedVariables false
open Go Go.RowKit Go.Maps Go.MapKept
open Go.ChangeMaps (setBlock)

set_option maxHeartbeats 4000000 in
set_option maxRecDepth 100000 in
theorem note_any (B : Blk) (S : VS) (x : Ac) (t bm : Nat) (m : Int → Nat → Option Nat) (w : World) (hR : Rep w B S) (hbm : B.has bm) (hM : TouchMap w B.has bm m) (ht : x.th = t) (ht64 : t < 64) (hp : (Lit.int .i64 x.pl).wf = true) :
    Calls Try.prog 19 #[.pointer (some ⟨B.b, 0, none⟩), acV x, .map (some bm)] w fun e w' => e = .returned undef ∧ TouchMap w' B.has bm (fun q u => if q = x.pl then (if u = t then some (S.V t t) else m x.pl u) else m q u) ∧ Turn (fun i => i = bm) w w' := by
  obtain ⟨th, kd, pl⟩ := x
  simp only at ht hp
  subst ht
  unfold acV
  have HR := Lib.hid hR
  have ht0 : (0 : Int) ≤ (t : Int) := by omega
  have ht1 : (t : Int) < 64 := by omega
  have hB1 : Below w.heap.size w (w.alloc (.cells #[.int .i64 (t : Int), .int .i64 kd, .int .i64 pl] 32)) := (Below.refl _ _).alloc (Nat.le_refl _) _
  have hM1 : TouchMap (w.alloc (.cells #[.int .i64 (t : Int), .int .i64 kd, .int .i64 pl] 32)) B.has bm m := hM.keep (hB1.block _ hM.lt) (fun i hi _ => hB1.block i hi)
  obtain ⟨V, hlook, hV⟩ := hM1.look hp
  have HM := Lib.hid hM
  have HB1 := Lib.hid hB1
  clear hM1 hM hR hB1
  rcases hV with ⟨rfl, hnone⟩ | ⟨bi, rfl, hbi, htm⟩
  · have hq := fun w => run_eql_map_nil_sl (P := Try.prog) w 52 _ _ none Try.underlying52
    have hmm := @run_makeMap Try.prog
    go_enter Try.func19, Try.ntmps19
    go_wp2_with fail
    refine (clone_nil _).mono ?_
    rintro e w2 ⟨rfl, rfl⟩
    go_wp2_with fail
    have hB3 := HB1.out.alloc HB1.out.size (.map #[] 0)
    have htm3 := (TM.made (w.alloc (.cells #[.int .i64 (t : Int), .int .i64 kd, .int .i64 pl] 32))).congr (g' := m pl) hnone
    have hsz : (w.alloc (.cells #[.int .i64 (t : Int), .int .i64 kd, .int .i64 pl] 32)).heap.size = w.heap.size + 1 := by simp
    rw [hsz] at htm3
    have ha0 : ((w.alloc (.cells #[.int .i64 (t : Int), .int .i64 kd, .int .i64 pl] 32)).alloc (.map #[] 0)).cell? ⟨w.heap.size, 0, none⟩ = some (.int .i64 t) := by rw [World.cell?_alloc_lt _ _ _ (by simp)]; simp
    have ha2 : ((w.alloc (.cells #[.int .i64 (t : Int), .int .i64 kd, .int .i64 pl] 32)).alloc (.map #[] 0)).cell? ⟨w.heap.size, 2, none⟩ = some (.int .i64 pl) := by rw [World.cell?_alloc_lt _ _ _ (by simp)]; simp
    generalize (w.alloc (.cells #[.int .i64 (t : Int), .int .i64 kd, .int .i64 pl] 32)).alloc (.map #[] 0) = w3 at *
    have HB3 := Lib.hid hB3; have HTM3 := Lib.hid htm3; have HA0 := Lib.hid ha0; have HA2 := Lib.hid ha2
    clear hB3 htm3 ha0 ha2 hsz HB1 hlook hnone hmm hq
    have hbt : ¬ B.has (w.heap.size + 1) := fun h => by have := HR.out.lt _ h; omega
    have f0 : w3.cell? ⟨w.heap.size, 0, none⟩ = some (.int .i64 t) := HA0.out
    have f2 : w3.cell? ⟨w.heap.size, 2, none⟩ = some (.int .i64 pl) := HA2.out
    have c0 : w3.cell? ⟨B.b, t * 64 + t, none⟩ = some (.int .i64 (S.V t t : Nat)) := Since.cell (show Since w w3 from HB3.out) ((HR.out.v t ht64) t ht64).1
    generalize hqq : S.V t t = q at *
    have HQQ := Lib.hid hqq
    clear hqq
    refine WQ.last (Drew w3) ⟨1, rfl⟩ 13 8 (by rfl) (by kernel_rfl) (by kernel_rfl) ?_; simp only [List.take_succ_cons, List.take_zero]
    refine WQ.val (by rfl) (fun v hv => by have k0 := hv.cell f0; have k1 := hv.cell c0; go_simp; first | done | with_reducible rfl | (rw [if_neg (by omega)])) ?_; simp only [Act.put, List.setIfInBounds_toArray, List.set_cons_zero, List.set_cons_succ]
    refine WQ.val (by rfl) (fun v hv => by have k0 := hv.cell f0; have k1 := hv.cell c0; go_simp; first | done | with_reducible rfl | (rw [if_neg (by omega)])) ?_; simp only [Act.put, List.setIfInBounds_toArray, List.set_cons_zero, List.set_cons_succ]
    refine WQ.val (by rfl) (fun v hv => by have k0 := hv.cell f0; have k1 := hv.cell c0; go_simp; first | done | with_reducible rfl | (rw [if_neg (by omega)])) ?_; simp only [Act.put, List.setIfInBounds_toArray, List.set_cons_zero, List.set_cons_succ]
    refine WQ.val (by rfl) (fun v hv => by have k0 := hv.cell f0; have k1 := hv.cell c0; go_simp; first | done | with_reducible rfl | (rw [if_neg (by omega)])) ?_; simp only [Act.put, List.setIfInBounds_toArray, List.set_cons_zero, List.set_cons_succ]
    refine WQ.val (by rfl) (fun v hv => by have k0 := hv.cell f0; have k1 := hv.cell c0; go_simp; first | done | with_reducible rfl | (rw [if_neg (by omega)])) ?_; simp only [Act.put, List.setIfInBounds_toArray, List.set_cons_zero, List.set_cons_succ]
    refine WQ.val (by rfl) (fun v hv => by have k0 := hv.cell f0; have k1 := hv.cell c0; go_simp; first | done | with_reducible rfl | (rw [if_neg (by omega)])) ?_; simp only [Act.put, List.setIfInBounds_toArray, List.set_cons_zero, List.set_cons_succ]
    refine WQ.val (by rfl) (fun v hv => by have k0 := hv.cell f0; have k1 := hv.cell c0; go_simp; first | done | with_reducible rfl | (rw [if_neg (by omega)])) ?_; simp only [Act.put, List.setIfInBounds_toArray, List.set_cons_zero, List.set_cons_succ]
    refine WQ.val (by rfl) (fun v hv => by have k0 := hv.cell f0; have k1 := hv.cell c0; go_simp; first | done | with_reducible rfl | (rw [if_neg (by omega)])) ?_; simp only [Act.put, List.setIfInBounds_toArray, List.set_cons_zero, List.set_cons_succ]
    refine WQ.val (by rfl) (fun v hv => by have k0 := hv.cell f0; have k1 := hv.cell c0; go_simp; first | done | with_reducible rfl | (rw [if_neg (by omega)])) ?_; simp only [Act.put, List.setIfInBounds_toArray, List.set_cons_zero, List.set_cons_succ]
    refine WQ.val (by rfl) (fun v hv => by have k0 := hv.cell f0; have k1 := hv.cell c0; go_simp; first | done | with_reducible rfl | (rw [if_neg (by omega)])) ?_; simp only [Act.put, List.setIfInBounds_toArray, List.set_cons_zero, List.set_cons_succ]
    refine WQ.val (by rfl) (fun v hv => by have k0 := hv.cell f0; have k1 := hv.cell c0; go_simp; first | done | with_reducible rfl | (rw [if_neg (by omega)])) ?_; simp only [Act.put, List.setIfInBounds_toArray, List.set_cons_zero, List.set_cons_succ]
    refine WQ.val (by rfl) (fun v hv => by have k0 := hv.cell f0; have k1 := hv.cell c0; go_simp; first | done | with_reducible rfl | (rw [if_neg (by omega)])) ?_; simp only [Act.put, List.setIfInBounds_toArray, List.set_cons_zero, List.set_cons_succ]
    refine WQ.val (by rfl) (fun v hv => by have k0 := hv.cell f0; have k1 := hv.cell c0; go_simp; first | done | with_reducible rfl | (rw [if_neg (by omega)])) ?_; simp only [Act.put, List.setIfInBounds_toArray, List.set_cons_zero, List.set_cons_succ]
    refine WQ.done ?_
    intro w4 hw4
    obtain ⟨n4, rfl⟩ := hw4
    obtain ⟨o4, hput, htm4⟩ := TM.put (w := w3.drewN n4) (HTM3.out.of_block rfl) ht64 q
    have hold : ∀ i, i < w.heap.size → (setBlock (w3.drewN n4) (w.heap.size + 1) o4).heap[i]? = w.heap[i]? := fun i hi => (set_other (w3.drewN n4) (w.heap.size + 1) o4 (by omega)).trans (HB3.out.block i hi)
    have hTM5 : TouchMap (setBlock (w3.drewN n4) (w.heap.size + 1) o4) B.has bm m := HM.out.keep (hold _ HM.out.lt) (fun i hi _ => hold i hi)
    obtain ⟨o5, hput2, hM6⟩ := hTM5.put hbm hp htm4 hbt
    have e2 : (setBlock (w3.drewN n4) (w.heap.size + 1) o4).cell? ⟨w.heap.size, 2, none⟩ = some (.int .i64 pl) := (World.cell?_of_block (w := w3) (set_other (w3.drewN n4) (w.heap.size + 1) o4 (by show w.heap.size ≠ w.heap.size + 1; omega))).trans f2
    have hT5 : Turn (fun i => i = bm) w (setBlock (w3.drewN n4) (w.heap.size + 1) o4) := ⟨HB3.out.os, HB3.out.tape, HB3.out.output, by simpa [setBlock] using HB3.out.size, fun i hi _ => hold i hi⟩
    have hTu : Turn (fun i => i = bm) w (setBlock (setBlock (w3.drewN n4) (w.heap.size + 1) o4) bm o5) := hT5.set bm o5 rfl
    have HM6 := Lib.hid hM6
    have HTU := Lib.hid hTu
    clear hold hTM5 hM6 hT5 hTu htm4
    refine wpOp_one rfl (by rfl) ?_
    intro K' hK'
    go_wp2_with fail
    go_end0
    exact ⟨rfl, by first | (rw [HQQ.out]; exact HM6.out) | exact HM6.out, HTU.out⟩
  · obtain ⟨es, clock, hes, htmc⟩ := htm.copy
    have hq := fun b w => run_eql_map_nil_sl (P := Try.prog) w 52 _ _ (some b) Try.underlying52
    go_enter Try.func19, Try.ntmps19
    go_wp2_with fail
    refine (clone_any bi es clock _ hes).mono ?_
    rintro e w2 ⟨rfl, rfl⟩
    go_wp2_with fail
    have hB3 := HB1.out.alloc HB1.out.size (.map es clock)
    have htm3 := htmc
    have hsz : (w.alloc (.cells #[.int .i64 (t : Int), .int .i64 kd, .int .i64 pl] 32)).heap.size = w.heap.size + 1 := by simp
    rw [hsz] at htm3
    have ha0 : ((w.alloc (.cells #[.int .i64 (t : Int), .int .i64 kd, .int .i64 pl] 32)).alloc (.map es clock)).cell? ⟨w.heap.size, 0, none⟩ = some (.int .i64 t) := by rw [World.cell?_alloc_lt _ _ _ (by simp)]; simp
    have ha2 : ((w.alloc (.cells #[.int .i64 (t : Int), .int .i64 kd, .int .i64 pl] 32)).alloc (.map es clock)).cell? ⟨w.heap.size, 2, none⟩ = some (.int .i64 pl) := by rw [World.cell?_alloc_lt _ _ _ (by simp)]; simp
    clear htmc
    generalize (w.alloc (.cells #[.int .i64 (t : Int), .int .i64 kd, .int .i64 pl] 32)).alloc (.map es clock) = w3 at *
    have HB3 := Lib.hid hB3; have HTM3 := Lib.hid htm3; have HA0 := Lib.hid ha0; have HA2 := Lib.hid ha2
    clear hB3 htm3 ha0 ha2 hsz HB1 hlook hq htm hes hbi
    have hbt : ¬ B.has (w.heap.size + 1) := fun h => by have := HR.out.lt _ h; omega
    have f0 : w3.cell? ⟨w.heap.size, 0, none⟩ = some (.int .i64 t) := HA0.out
    have f2 : w3.cell? ⟨w.heap.size, 2, none⟩ = some (.int .i64 pl) := HA2.out
    have c0 : w3.cell? ⟨B.b, t * 64 + t, none⟩ = some (.int .i64 (S.V t t : Nat)) := Since.cell (show Since w w3 from HB3.out) ((HR.out.v t ht64) t ht64).1
    generalize hqq : S.V t t = q at *
    have HQQ := Lib.hid hqq
    clear hqq
    refine WQ.last (Drew w3) ⟨1, rfl⟩ 13 8 (by rfl) (by kernel_rfl) (by kernel_rfl) ?_; simp only [List.take_succ_cons, List.take_zero]
    refine WQ.val (by rfl) (fun v hv => by have k0 := hv.cell f0; have k1 := hv.cell c0; go_simp; first | done | with_reducible rfl | (rw [if_neg (by omega)])) ?_; simp only [Act.put, List.setIfInBounds_toArray, List.set_cons_zero, List.set_cons_succ]
    refine WQ.val (by rfl) (fun v hv => by have k0 := hv.cell f0; have k1 := hv.cell c0; go_simp; first | done | with_reducible rfl | (rw [if_neg (by omega)])) ?_; simp only [Act.put, List.setIfInBounds_toArray, List.set_cons_zero, List.set_cons_succ]
    refine WQ.val (by rfl) (fun v hv => by have k0 := hv.cell f0; have k1 := hv.cell c0; go_simp; first | done | with_reducible rfl | (rw [if_neg (by omega)])) ?_; simp only [Act.put, List.setIfInBounds_toArray, List.set_cons_zero, List.set_cons_succ]
    refine WQ.val (by rfl) (fun v hv => by have k0 := hv.cell f0; have k1 := hv.cell c0; go_simp; first | done | with_reducible rfl | (rw [if_neg (by omega)])) ?_; simp only [Act.put, List.setIfInBounds_toArray, List.set_cons_zero, List.set_cons_succ]
    refine WQ.val (by rfl) (fun v hv => by have k0 := hv.cell f0; have k1 := hv.cell c0; go_simp; first | done | with_reducible rfl | (rw [if_neg (by omega)])) ?_; simp only [Act.put, List.setIfInBounds_toArray, List.set_cons_zero, List.set_cons_succ]
    refine WQ.val (by rfl) (fun v hv => by have k0 := hv.cell f0; have k1 := hv.cell c0; go_simp; first | done | with_reducible rfl | (rw [if_neg (by omega)])) ?_; simp only [Act.put, List.setIfInBounds_toArray, List.set_cons_zero, List.set_cons_succ]
    refine WQ.val (by rfl) (fun v hv => by have k0 := hv.cell f0; have k1 := hv.cell c0; go_simp; first | done | with_reducible rfl | (rw [if_neg (by omega)])) ?_; simp only [Act.put, List.setIfInBounds_toArray, List.set_cons_zero, List.set_cons_succ]
    refine WQ.val (by rfl) (fun v hv => by have k0 := hv.cell f0; have k1 := hv.cell c0; go_simp; first | done | with_reducible rfl | (rw [if_neg (by omega)])) ?_; simp only [Act.put, List.setIfInBounds_toArray, List.set_cons_zero, List.set_cons_succ]
    refine WQ.val (by rfl) (fun v hv => by have k0 := hv.cell f0; have k1 := hv.cell c0; go_simp; first | done | with_reducible rfl | (rw [if_neg (by omega)])) ?_; simp only [Act.put, List.setIfInBounds_toArray, List.set_cons_zero, List.set_cons_succ]
    refine WQ.val (by rfl) (fun v hv => by have k0 := hv.cell f0; have k1 := hv.cell c0; go_simp; first | done | with_reducible rfl | (rw [if_neg (by omega)])) ?_; simp only [Act.put, List.setIfInBounds_toArray, List.set_cons_zero, List.set_cons_succ]
    refine WQ.val (by rfl) (fun v hv => by have k0 := hv.cell f0; have k1 := hv.cell c0; go_simp; first | done | with_reducible rfl | (rw [if_neg (by omega)])) ?_; simp only [Act.put, List.setIfInBounds_toArray, List.set_cons_zero, List.set_cons_succ]
    refine WQ.val (by rfl) (fun v hv => by have k0 := hv.cell f0; have k1 := hv.cell c0; go_simp; first | done | with_reducible rfl | (rw [if_neg (by omega)])) ?_; simp only [Act.put, List.setIfInBounds_toArray, List.set_cons_zero, List.set_cons_succ]
    refine WQ.val (by rfl) (fun v hv => by have k0 := hv.cell f0; have k1 := hv.cell c0; go_simp; first | done | with_reducible rfl | (rw [if_neg (by omega)])) ?_; simp only [Act.put, List.setIfInBounds_toArray, List.set_cons_zero, List.set_cons_succ]
    refine WQ.done ?_
    intro w4 hw4
    obtain ⟨n4, rfl⟩ := hw4
    obtain ⟨o4, hput, htm4⟩ := TM.put (w := w3.drewN n4) (HTM3.out.of_block rfl) ht64 q
    have hold : ∀ i, i < w.heap.size → (setBlock (w3.drewN n4) (w.heap.size + 1) o4).heap[i]? = w.heap[i]? := fun i hi => (set_other (w3.drewN n4) (w.heap.size + 1) o4 (by omega)).trans (HB3.out.block i hi)
    have hTM5 : TouchMap (setBlock (w3.drewN n4) (w.heap.size + 1) o4) B.has bm m := HM.out.keep (hold _ HM.out.lt) (fun i hi _ => hold i hi)
    obtain ⟨o5, hput2, hM6⟩ := hTM5.put hbm hp htm4 hbt
    have e2 : (setBlock (w3.drewN n4) (w.heap.size + 1) o4).cell? ⟨w.heap.size, 2, none⟩ = some (.int .i64 pl) := (World.cell?_of_block (w := w3) (set_other (w3.drewN n4) (w.heap.size + 1) o4 (by show w.heap.size ≠ w.heap.size + 1; omega))).trans f2
    have hT5 : Turn (fun i => i = bm) w (setBlock (w3.drewN n4) (w.heap.size + 1) o4) := ⟨HB3.out.os, HB3.out.tape, HB3.out.output, by simpa [setBlock] using HB3.out.size, fun i hi _ => hold i hi⟩
    have hTu : Turn (fun i => i = bm) w (setBlock (setBlock (w3.drewN n4) (w.heap.size + 1) o4) bm o5) := hT5.set bm o5 rfl
    have HM6 := Lib.hid hM6
    have HTU := Lib.hid hTu
    clear hold hTM5 hM6 hT5 hTu htm4
    refine wpOp_one rfl (by rfl) ?_
    intro K' hK'
    go_wp2_with fail
    go_end0
    exact ⟨rfl, by first | (rw [HQQ.out]; exact HM6.out) | exact HM6.out, HTU.out⟩
end Go.Proofs.Ytccbiolgdamnpaa
