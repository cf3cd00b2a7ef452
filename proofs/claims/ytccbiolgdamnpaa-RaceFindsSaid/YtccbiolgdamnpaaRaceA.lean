/- The walk of (*clock).join. Printed by gen_racea.py. -/
import Derived.Test.YtccbiolgdamnpaaRaceM
namespace Go.Proofs.Ytccbiolgdamnpaa
set_option linter.unusedSimpArgs false
set_option linter.unusedVariables false
open Go Go.RowKit

theorem arr_box (w : World) (d : Nat → Nat) (t : TypeId) : ∀ u, u < 64 → (w.alloc (.cells ((List.range 64).map (fun u => Value.int .i64 (d u : Nat))).toArray t)).cell? ⟨w.heap.size, u, none⟩ = some (.int .i64 (d u : Nat)) := fun u hu => by
  simp [hu]
set_option maxHeartbeats 4000000 in
set_option maxRecDepth 100000 in
theorem join_any (b o : Nat) (f d : Nat → Nat) (w : World) (hA : Arr w b o f) (hf : ∀ u, u < 64 → f u ≤ 1000) (hd : ∀ u, u < 64 → d u ≤ 1000) :
    Calls Try.prog 22 #[.pointer (some ⟨b, o, none⟩), aggV d] w fun e w' => e = .returned undef ∧ ∃ w1, Below w.heap.size w w1 ∧ OnlyA b o w1 w' ∧ Arr w' b o (fun u => max (f u) (d u)) := by
  have hlt := hA.lt
  have hbx := arr_box w d 45
  have hw1 : Below w.heap.size w (w.alloc (.cells ((List.range 64).map (fun u => Value.int .i64 (d u : Nat))).toArray 45)) := (Below.refl _ _).alloc (Nat.le_refl _) _
  unfold aggV
  generalize hL : (List.range 64).map (fun u => Value.int .i64 (d u : Nat)) = L at *
  go_enter Try.func22, Try.ntmps22
  go_wp2_with fail
  generalize hw0 : w.alloc (.cells L.toArray 45) = w1 at *
  have hA1 : Arr w1 b o f := hA.of_block (hw1.block b hlt)
  have hne : w.heap.size ≠ b := by omega
  generalize hbq : w.heap.size = bx at *
  have HBQ := Lib.hid hbq
  clear hA hL hw0 hbq
  have HA1 := Lib.hid hA1
  have HBX := Lib.hid hbx
  have HW1 := Lib.hid hw1
  have HF := Lib.hid hf
  have HD := Lib.hid hd
  clear hA1 hbx hw1 hf hd hlt
  go_loopw [5] (fun n wr => ∃ k : Nat, k ≤ 64 ∧ n = .int .i64 k ∧ Hid (OnlyA b o w1 wr) ∧ Hid (Arr wr b o (fun u => if u < k then max (f u) (d u) else f u))) (fun n _ => 64 - (intOf n).toNat)
  case atStart => exact ⟨0, by omega, rfl, Lib.hid (OnlyA.refl b o w1), Lib.hid (HA1.out.of_cells (fun _ _ => rfl) (fun _ _ => rfl) (fun u _ => by simp))⟩
  case round =>
    obtain ⟨k, hk, rfl, HO, HR⟩ := hrel
    by_cases hlt : k < 64
    · have c0 := (HR.out k hlt).1
      have f0 := (HR.out k hlt).2
      simp only [Nat.lt_irrefl, if_false] at c0
      have c1 : wr.cell? ⟨bx, k, none⟩ = some (.int .i64 (d k : Nat)) := (World.cell?_of_block (w := w1) (HO.out.other bx hne)).trans (HBX.out k hlt)
      have hfk := HF.out k hlt
      have hdk := HD.out k hlt
      have hk0 : (0 : Int) ≤ (k : Int) := by omega
      have hk1 : (k : Int) < 64 := by omega
      go_wp2_with fail
      refine WQ.last (Drew wr) ⟨1, rfl⟩ 13 2 (by rfl) (by kernel_rfl) (by kernel_rfl) ?_; simp only [List.take_succ_cons, List.take_zero]
      refine WQ.val (by rfl) (fun v hv => by have k0 := hv.cell c0; have k1 := hv.cell c1; go_simp; first | done | with_reducible rfl | (rw [if_neg (by omega)])) ?_; simp only [Act.put, List.setIfInBounds_toArray, List.set_cons_zero, List.set_cons_succ]
      refine WQ.val (by rfl) (fun v hv => by have k0 := hv.cell c0; have k1 := hv.cell c1; go_simp; first | done | with_reducible rfl | (rw [if_neg (by omega)])) ?_; simp only [Act.put, List.setIfInBounds_toArray, List.set_cons_zero, List.set_cons_succ]
      refine WQ.val (by rfl) (fun v hv => by have k0 := hv.cell c0; have k1 := hv.cell c1; go_simp; first | done | with_reducible rfl | (rw [if_neg (by omega)])) ?_; simp only [Act.put, List.setIfInBounds_toArray, List.set_cons_zero, List.set_cons_succ]
      refine WQ.val (by rfl) (fun v hv => by have k0 := hv.cell c0; have k1 := hv.cell c1; go_simp; first | done | with_reducible rfl | (rw [if_neg (by omega)])) ?_; simp only [Act.put, List.setIfInBounds_toArray, List.set_cons_zero, List.set_cons_succ]
      refine WQ.val (by rfl) (fun v hv => by have k0 := hv.cell c0; have k1 := hv.cell c1; go_simp; first | done | with_reducible rfl | (rw [if_neg (by omega)])) ?_; simp only [Act.put, List.setIfInBounds_toArray, List.set_cons_zero, List.set_cons_succ]
      refine WQ.val (by rfl) (fun v hv => by have k0 := hv.cell c0; have k1 := hv.cell c1; go_simp; first | done | with_reducible rfl | (rw [if_neg (by omega)])) ?_; simp only [Act.put, List.setIfInBounds_toArray, List.set_cons_zero, List.set_cons_succ]
      refine WQ.val (by rfl) (fun v hv => by have k0 := hv.cell c0; have k1 := hv.cell c1; go_simp; first | done | with_reducible rfl | (rw [if_neg (by omega)])) ?_; simp only [Act.put, List.setIfInBounds_toArray, List.set_cons_zero, List.set_cons_succ]
      refine WQ.val (by rfl) (fun v hv => by have k0 := hv.cell c0; have k1 := hv.cell c1; go_simp; first | done | with_reducible rfl | (rw [if_neg (by omega)])) ?_; simp only [Act.put, List.setIfInBounds_toArray, List.set_cons_zero, List.set_cons_succ]
      refine WQ.val (by rfl) (fun v hv => by have k0 := hv.cell c0; have k1 := hv.cell c1; go_simp; first | done | with_reducible rfl | (rw [if_neg (by omega)])) ?_; simp only [Act.put, List.setIfInBounds_toArray, List.set_cons_zero, List.set_cons_succ]
      refine WQ.val (by rfl) (fun v hv => by have k0 := hv.cell c0; have k1 := hv.cell c1; go_simp; first | done | with_reducible rfl | (rw [if_neg (by omega)])) ?_; simp only [Act.put, List.setIfInBounds_toArray, List.set_cons_zero, List.set_cons_succ]
      refine WQ.val (by rfl) (fun v hv => by have k0 := hv.cell c0; have k1 := hv.cell c1; go_simp; first | done | with_reducible rfl | (rw [if_neg (by omega)])) ?_; simp only [Act.put, List.setIfInBounds_toArray, List.set_cons_zero, List.set_cons_succ]
      refine WQ.val (by rfl) (fun v hv => by have k0 := hv.cell c0; have k1 := hv.cell c1; go_simp; first | done | with_reducible rfl | (rw [if_neg (by omega)])) ?_; simp only [Act.put, List.setIfInBounds_toArray, List.set_cons_zero, List.set_cons_succ]
      refine WQ.val (by rfl) (fun v hv => by have k0 := hv.cell c0; have k1 := hv.cell c1; go_simp; first | done | with_reducible rfl | (rw [if_neg (by omega)])) ?_; simp only [Act.put, List.setIfInBounds_toArray, List.set_cons_zero, List.set_cons_succ]
      refine WQ.done ?_
      intro w5 hw5
      refine wpOp_one rfl (by rfl) ?_
      intro K' hK'
      have k0 := hw5.cell c0
      have g0 := hw5.frozen f0
      clear c0 c1 f0
      have hmx : (if f k < d k then ((d k : Nat) : Int) else ((f k : Nat) : Int)) = ((max (f k) (d k) : Nat) : Int) := by split <;> omega
      rw [hmx]
      have HO5 : Hid (OnlyA b o w1 (w5.setCell ⟨b, o + k, none⟩ (.int .i64 ((max (f k) (d k) : Nat) : Int)))) := Lib.hid (by
        obtain ⟨n5, rfl⟩ := hw5
        exact (HO.out.trans (OnlyA.drewN b o wr n5)).trans (OnlyA.set b o _ (by omega) _))
      have HR5 : Hid (Arr (w5.setCell ⟨b, o + k, none⟩ (.int .i64 ((max (f k) (d k) : Nat) : Int))) b o (fun u => if u < k + 1 then max (f u) (d u) else f u)) := Lib.hid (by
        obtain ⟨n5, rfl⟩ := hw5
        have h5 : Arr (wr.drewN n5) b o _ := HR.out
        have := h5.step (g := fun u => if u < k + 1 then max (f u) (d u) else f u) hlt (fun u hu => by
          show (if u < k + 1 then max (f u) (d u) else f u) = if u = k then (if k < k + 1 then max (f k) (d k) else f k) else (if u < k then max (f u) (d u) else f u)
          by_cases e : u = k
          · subst e; simp
          · rw [if_neg e]
            by_cases e2 : u < k
            · rw [if_pos e2, if_pos (by omega)]
            · rw [if_neg e2, if_neg (by omega)])
        simp only [Nat.lt_succ_self, if_true] at this
        exact this)
      clear hw5 HO HR hmx
      generalize hmv : ((max (f k) (d k) : Nat) : Int) = mv at *
      clear hmv
      go_wp2_with fail
      go_roundw
      case rel => exact ⟨k + 1, by omega, by go_num, HO5, HR5⟩
      case measure => first | (simp [intOf]; omega) | (simp [intOf]; done)
    · obtain rfl : k = 64 := by omega
      go_wp2_with fail
      go_end0
      exact ⟨rfl, w1, by rw [HBQ.out]; exact HW1.out, HO.out, HR.out.of_cells (fun _ _ => rfl) (fun _ _ => rfl) (fun u hu => by simp [hu])⟩
end Go.Proofs.Ytccbiolgdamnpaa
