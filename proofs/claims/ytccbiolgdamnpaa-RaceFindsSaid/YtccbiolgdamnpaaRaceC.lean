/- The walks of race.known and race.start. -/
import Derived.Test.YtccbiolgdamnpaaRaceB
namespace Go.Proofs.Ytccbiolgdamnpaa
set_option linter.unusedSimpArgs false
set_option linter.unusedVariables false
open Go Go.RowKit

def knownB (x : Ac) : Bool := decide (0 ≤ x.th) && decide (x.th < 64)
set_option maxHeartbeats 400000 in
theorem known_any (x : Ac) (w : World) :
    Calls Try.prog 12 #[acV x] w fun e w' => e = .returned (.bool (knownB x)) ∧ Below w.heap.size w w' := by
  obtain ⟨th, kd, pl⟩ := x
  unfold acV
  have hb : Below w.heap.size w (w.alloc (.cells #[.int .i64 th, .int .i64 kd, .int .i64 pl] 32)) := (Below.refl _ _).alloc (Nat.le_refl _) _
  have HB := Lib.hid hb
  clear hb
  have hv : Hid (knownB ⟨th, kd, pl⟩ = (decide (0 ≤ th) && decide (th < 64))) := Lib.hid rfl
  by_cases h0 : 0 ≤ th
  · have d0 : decide (0 ≤ th) = true := decide_eq_true h0
    have D0 := Lib.hid d0
    go_enter Try.func12, Try.ntmps12
    go_wp2_with fail
    go_ret
    exact ⟨by rw [hv.out, D0.out]; first | rfl | (simp; done), HB.out⟩
  · have d0 : decide (0 ≤ th) = false := decide_eq_false h0
    have D0 := Lib.hid d0
    go_enter Try.func12, Try.ntmps12
    go_wp2_with fail
    go_ret
    exact ⟨by rw [hv.out, D0.out]; first | rfl | (simp; done), HB.out⟩
def stateL (m1 m2 m3 m4 : Value) : List Value := List.replicate 4096 (.int .i64 0) ++ [m1, m2, m3, m4]
theorem wp_build_state {o : Oper} {a : Act} {w : World} {K : Act → World → Prop} {Q : Exit → Act → World → Prop} (ho : o.op = .build 48 #[(1, .tmp 1), (2, .tmp 2), (3, .tmp 3), (4, .tmp 4)]) (m1 m2 m3 m4 : Nat)
    (h1 : a.eval (.tmp 1) = .map (some m1)) (h2 : a.eval (.tmp 2) = .map (some m2)) (h3 : a.eval (.tmp 3) = .map (some m3)) (h4 : a.eval (.tmp 4) = .map (some m4))
    (h : K (a.put o.dst (.agg (stateL (.map (some m1)) (.map (some m2)) (.map (some m3)) (.map (some m4))).toArray)) w) : o.wp Try.prog a w K Q := by
  unfold Oper.wp execOp
  simp only [ho]
  have e : (Instr.build 48 #[(1, .map (some m1)), (2, .map (some m2)), (3, .map (some m3)), (4, .map (some m4))]).run Try.prog w = .ok (.agg (stateL (.map (some m1)) (.map (some m2)) (.map (some m3)) (.map (some m4))).toArray) w := by kernel_rfl
  rw [show Array.map (fun x : Nat × Operand => (x.fst, a.eval x.snd)) #[(1, .tmp 1), (2, .tmp 2), (3, .tmp 3), (4, .tmp 4)] = #[(1, .map (some m1)), (2, .map (some m2)), (3, .map (some m3)), (4, .map (some m4))] from by simp [h1, h2, h3, h4]]
  simp only [Sem.run_bind, Sem.run_pure, e, Result.andThen_ok]
  exact h
theorem stateL_zero (m1 m2 m3 m4 : Value) {i : Nat} (h : i < 4096) : (stateL m1 m2 m3 m4)[i]? = some (.int .i64 0) := by
  unfold stateL
  rw [List.getElem?_append_left (by rw [List.length_replicate]; exact h), List.getElem?_replicate, if_pos h]
theorem stateL_map (m1 m2 m3 m4 : Value) (k : Nat) : (stateL m1 m2 m3 m4)[4096 + k]? = [m1, m2, m3, m4][k]? := by
  unfold stateL
  rw [List.getElem?_append_right (by rw [List.length_replicate]; omega), List.length_replicate, Nat.add_sub_cancel_left]
theorem stateL_length (m1 m2 m3 m4 : Value) : (stateL m1 m2 m3 m4).length = 4100 := by unfold stateL; rw [List.length_append, List.length_replicate]; rfl
theorem rep_new (w : World) (b1 b2 b3 b4 : Nat) (h1 : IsMap w Try.prog 3 b1 (fun _ => none)) (h2 : IsMap w Try.prog 3 b2 (fun _ => none)) (h3 : IsMap w Try.prog 3 b3 (fun _ => none)) (h4 : IsMap w Try.prog 3 b4 (fun _ => none))
    (n12 : b1 ≠ b2) (n13 : b1 ≠ b3) (n14 : b1 ≠ b4) (n23 : b2 ≠ b3) (n24 : b2 ≠ b4) (n34 : b3 ≠ b4) (T : TypeId) :
    Rep (w.alloc (.cells (stateL (.map (some b1)) (.map (some b2)) (.map (some b3)) (.map (some b4))).toArray T)) ⟨w.heap.size, b1, b2, b3, b4⟩ .init := by
  have hc := cells_new w (stateL (.map (some b1)) (.map (some b2)) (.map (some b3)) (.map (some b4))) T
  have ht := there_new w (stateL (.map (some b1)) (.map (some b2)) (.map (some b3)) (.map (some b4))) T
  rw [stateL_length] at ht
  have hcell : ∀ j v, (stateL (.map (some b1)) (.map (some b2)) (.map (some b3)) (.map (some b4)))[j]? = some v → (w.alloc (.cells (stateL (.map (some b1)) (.map (some b2)) (.map (some b3)) (.map (some b4))).toArray T)).cell? ⟨w.heap.size, j, none⟩ = some v := fun j v hv => by
    have := hc j v hv
    rw [Addr.add_mid, Nat.zero_add] at this; exact this
  have hfz : ∀ j, j < 4100 → (w.alloc (.cells (stateL (.map (some b1)) (.map (some b2)) (.map (some b3)) (.map (some b4))).toArray T)).frozen? ⟨w.heap.size, j, none⟩ = false := fun j hj => by
    have := (ht j hj).2
    rw [Nat.zero_add] at this; exact this
  have l1 := h1.lt; have l2 := h2.lt; have l3 := h3.lt; have l4 := h4.lt
  refine ⟨fun t ht u hu => ⟨hcell _ _ (stateL_zero _ _ _ _ (by omega)), hfz _ (by omega)⟩, hcell 4096 _ (stateL_map _ _ _ _ 0), hcell 4097 _ (stateL_map _ _ _ _ 1), hcell 4098 _ (stateL_map _ _ _ _ 2), hcell 4099 _ (stateL_map _ _ _ _ 3),
    ⟨_, h1.alloc _, fun p => .inl ⟨rfl, fun _ _ => rfl⟩⟩, ⟨_, h2.alloc _, fun p => .inl ⟨rfl, fun _ _ => rfl⟩⟩, ⟨_, h3.alloc _, fun p => .inl ⟨rfl, fun _ _ => rfl⟩⟩, ⟨_, h4.alloc _, fun p => .inl ⟨rfl, fun _ _ => rfl⟩⟩, ?_⟩
  exact ⟨by show w.heap.size ≠ b1; omega, by show w.heap.size ≠ b2; omega, by show w.heap.size ≠ b3; omega, by show w.heap.size ≠ b4; omega, n12, n13, n14, n23, n24, n34⟩
theorem rep_start (w : World) (T : TypeId) : Rep (((((w.alloc (.map #[] 0)).alloc (.map #[] 0)).alloc (.map #[] 0)).alloc (.map #[] 0)).alloc (.cells (stateL (.map (some w.heap.size)) (.map (some (w.heap.size + 1))) (.map (some (w.heap.size + 1 + 1))) (.map (some (w.heap.size + 1 + 1 + 1)))).toArray T))
    ⟨w.heap.size + 1 + 1 + 1 + 1, w.heap.size, w.heap.size + 1, w.heap.size + 1 + 1, w.heap.size + 1 + 1 + 1⟩ .init := by
  have m1 := IsMap.made w Try.prog 3
  have m2 := IsMap.made (w.alloc (.map #[] 0)) Try.prog 3
  have m3 := IsMap.made ((w.alloc (.map #[] 0)).alloc (.map #[] 0)) Try.prog 3
  have m4 := IsMap.made (((w.alloc (.map #[] 0)).alloc (.map #[] 0)).alloc (.map #[] 0)) Try.prog 3
  have s1 : (w.alloc (.map #[] 0)).heap.size = w.heap.size + 1 := by simp
  have s2 : ((w.alloc (.map #[] 0)).alloc (.map #[] 0)).heap.size = w.heap.size + 1 + 1 := by simp
  have s3 : (((w.alloc (.map #[] 0)).alloc (.map #[] 0)).alloc (.map #[] 0)).heap.size = w.heap.size + 1 + 1 + 1 := by simp
  have s4 : ((((w.alloc (.map #[] 0)).alloc (.map #[] 0)).alloc (.map #[] 0)).alloc (.map #[] 0)).heap.size = w.heap.size + 1 + 1 + 1 + 1 := by simp
  rw [s1] at m2
  rw [s2] at m3
  rw [s3] at m4
  have := rep_new _ _ _ _ _ (((m1.alloc (.map #[] 0)).alloc (.map #[] 0)).alloc (.map #[] 0)) ((m2.alloc (.map #[] 0)).alloc (.map #[] 0)) (m3.alloc (.map #[] 0)) m4 (by omega) (by omega) (by omega) (by omega) (by omega) (by omega) T
  rw [s4] at this
  exact this
set_option maxHeartbeats 400000 in
theorem start_any (w : World) :
    Calls Try.prog 13 #[] w fun e w' => ∃ B : Blk, e = .returned (.pointer (some ⟨B.b, 0, none⟩)) ∧ Rep w' B .init ∧ Below w.heap.size w w' ∧ ∀ i, B.has i → w.heap.size ≤ i := by
  have hmm := @run_makeMap Try.prog
  go_enter Try.func13, Try.ntmps13
  go_wp2_with (first | (refine wpList_plain rfl fun _ hK => wp_build_state rfl w.heap.size (w.heap.size + 1) (w.heap.size + 1 + 1) (w.heap.size + 1 + 1 + 1) (by rfl) (by rfl) (by rfl) (by rfl) (hK _ _ ?_); generalize hL : stateL (Value.map (some w.heap.size)) (Value.map (some (w.heap.size + 1))) (Value.map (some (w.heap.size + 1 + 1))) (Value.map (some (w.heap.size + 1 + 1 + 1))) = L; refine Hid.out ?_))
  refine Lib.hid ?_
  go_wp2_with fail
  go_ret
  refine ⟨⟨w.heap.size + 1 + 1 + 1 + 1, w.heap.size, w.heap.size + 1, w.heap.size + 1 + 1, w.heap.size + 1 + 1 + 1⟩, rfl, ?_, ?_, ?_⟩
  · rw [← hL]; exact rep_start w _
  · have b0 := Below.refl w.heap.size w
    have b1 := b0.alloc (Nat.le_refl _) (.map #[] 0)
    have b2 := b1.alloc b1.size (.map #[] 0)
    have b3 := b2.alloc b2.size (.map #[] 0)
    have b4 := b3.alloc b3.size (.map #[] 0)
    exact b4.alloc b4.size _
  · rintro i (rfl | rfl | rfl | rfl | rfl)
    · show w.heap.size ≤ w.heap.size + 1 + 1 + 1 + 1; omega
    · exact Nat.le_refl _
    · show w.heap.size ≤ w.heap.size + 1; omega
    · show w.heap.size ≤ w.heap.size + 1 + 1; omega
    · show w.heap.size ≤ w.heap.size + 1 + 1 + 1; omega
end Go.Proofs.Ytccbiolgdamnpaa
