/- The fixed fact of the laws of fsm, and the laws' walks. -/
import Derived.Test.YtpmhlcnnbkicaaaFsmB
import Derived.Test.YtpmhlcnnbkicaaaTraceE
import Derived.Deep.RegionHeld3
import Derived.Test.YtpmhlcnnbkicaaaReg
namespace Go.Proofs.Ytpmhlcnnbkicaaa
set_option linter.unusedSimpArgs false
set_option linter.unusedVariables false
open Go Go.RowKit

theorem fopen_val (p : Pk) (t : Int) (ok : Bool) (w : World) (h : fopenF p = (t, ok)) :
    Calls Try.prog 21 #[.agg (pkC p)] w fun e w' => e = .returned (.tuple #[.int .i64 t, .bool ok]) ∧ Below w.heap.size w w' :=
  (fopen_any p w).mono fun e w' hp => by rw [h] at hp; exact hp
theorem fnext_val (s : Int) (r : Bool) (p : Pk) (t : Int) (ok : Bool) (w : World) (hs : (Lit.int .i64 s).wf = true) (h : fnextF s r p = (t, ok)) :
    Calls Try.prog 23 #[.int .i64 s, .bool r, .agg (pkC p)] w fun e w' => e = .returned (.tuple #[.int .i64 t, .bool ok]) ∧ Below w.heap.size w w' :=
  (fnext_any s r p w hs).mono fun e w' hp => by unfold PairPost at hp; rw [h] at hp; exact hp
theorem refFopen_val (p : Pk) (t : Int) (ok : Bool) (w : World) (hf : 0 ≤ p.flags) (hf' : p.flags ≤ 255) (h : fopenF p = (t, ok)) :
    Calls Try.prog 22 #[.agg (pkC p)] w fun e w' => e = .returned (.tuple #[.int .i64 t, .bool ok]) ∧ Below w.heap.size w w' :=
  (refFopen_any p w hf hf').mono fun e w' hp => by unfold PairPost at hp; rw [h] at hp; exact hp
theorem refFnext_val (s : Int) (r : Bool) (p : Pk) (t : Int) (ok : Bool) (w : World) (hf : 0 ≤ p.flags) (hf' : p.flags ≤ 255) (h : fnextF s r p = (t, ok)) :
    Calls Try.prog 24 #[.int .i64 s, .bool r, .agg (pkC p)] w fun e w' => e = .returned (.tuple #[.int .i64 t, .bool ok]) ∧ Below w.heap.size w w' :=
  (refFnext_any s r p w hf hf').mono fun e w' hp => by unfold PairPost at hp; rw [h] at hp; exact hp
theorem until_val (ts : Nat → Int) (s c m : Int) (w : World) (h : untilF ts s c = m) :
    Calls Try.prog 26 #[.agg (arr16 ts), .int .i64 s, .int .i64 c] w fun e w' => e = .returned (.int .i64 m) ∧ Below w.heap.size w w' := by rw [← h]; exact until_any ts s c w
theorem refUntil_val (ts : Nat → Int) (s c m : Int) (w : World) (h : untilF ts s c = m) :
    Calls Try.prog 27 #[.agg (arr16 ts), .int .i64 s, .int .i64 c] w fun e w' => e = .returned (.int .i64 m) ∧ Below w.heap.size w w' := by rw [← h]; exact refUntil_any ts s c w

def ts7 : Nat → Int := fun j => if j = 3 then 7 else 0
def ts0 : Nat → Int := fun _ => 0

theorem bcell {W w1 : World} (hb : Below W.heap.size W w1) : (∀ b o, b < W.heap.size → w1.cell? ⟨b, o, none⟩ = W.cell? ⟨b, o, none⟩) ∧ (∀ b o, b < W.heap.size → w1.frozen? ⟨b, o, none⟩ = W.frozen? ⟨b, o, none⟩) :=
  ⟨fun b o h => hb.cell (p := ⟨b, o, none⟩) h, fun b o h => hb.frozen (p := ⟨b, o, none⟩) h⟩

/-- The packet of the fixed fact, in memory. -/
def PkAt (w : World) (b : Nat) (p : Pk) : Prop := ∀ o v, (pkC p)[o]? = some v → w.cell? ⟨b, o, none⟩ = some v
theorem PkAt.below {w w1 : World} {b : Nat} {p : Pk} (h : PkAt w b p) (hb : Below w.heap.size w w1) : PkAt w1 b p := fun o v hv => (hb.cell (p := ⟨b, o, none⟩) (World.block_lt_of_cell? w ⟨b, o, none⟩ (h o v hv))).trans (h o v hv)
theorem PkAt.cells {w : World} {b : Nat} {p : Pk} (h : PkAt w b p) : w.cell? ⟨b, 0, none⟩ = some (.int .u8 p.proto) ∧ w.cell? ⟨b, 1, none⟩ = some (.int .u32 p.src) ∧ w.cell? ⟨b, 2, none⟩ = some (.int .u32 p.dst) ∧
    w.cell? ⟨b, 3, none⟩ = some (.int .u16 p.sport) ∧ w.cell? ⟨b, 4, none⟩ = some (.int .u16 p.dport) ∧ w.cell? ⟨b, 5, none⟩ = some (.int .u8 p.flags) ∧ w.cell? ⟨b, 6, none⟩ = some (.int .u8 p.kind) :=
  ⟨h 0 _ rfl, h 1 _ rfl, h 2 _ rfl, h 3 _ rfl, h 4 _ rfl, h 5 _ rfl, h 6 _ rfl⟩
theorem PkAt.new (w : World) (p : Pk) (T : TypeId) : PkAt (w.alloc (.cells (pkC p) T)) w.heap.size p := fun o v hv => by
  rw [← hv]; simp

set_option maxHeartbeats 2000000 in
theorem awake17_any (w : World) :
    Calls Try.prog 25 #[] w fun e w' => e = .returned (.bool true) ∧ Below w.heap.size w w' := by
  have P0 : PkAt (w.alloc (.cells #[.int .u8 1, .int .u32 0, .int .u32 0, .int .u16 0, .int .u16 0, .int .u8 0, .int .u8 8] 32)) w.heap.size ⟨1, 0, 0, 0, 0, 0, 8⟩ := PkAt.new w ⟨1, 0, 0, 0, 0, 0, 8⟩ 32
  have B0 : Below w.heap.size w (w.alloc (.cells #[.int .u8 1, .int .u32 0, .int .u32 0, .int .u16 0, .int .u16 0, .int .u8 0, .int .u8 8] 32)) := (Below.refl _ _).alloc (Nat.le_refl _) _
  go_enter Try.func25, Try.ntmps25
  go_wp2_with fail
  refine (fopen_val ⟨1, 0, 0, 0, 0, 0, 8⟩ 8 true _ (by decide)).mono ?_
  generalize w.alloc (.cells #[.int .u8 1, .int .u32 0, .int .u32 0, .int .u16 0, .int .u16 0, .int .u8 0, .int .u8 8] 32) = w0 at *
  have HB0 := Lib.hid B0
  clear B0
  rintro e w1 ⟨rfl, h1⟩
  have P1 := P0.below h1
  have HB1 := Lib.hid (below_then HB0.out h1)
  clear h1 P0
  obtain ⟨c0, c1, c2, c3, c4, c5, c6⟩ := P1.cells
  go_wp2_with fail
  refine (fnext_val 8 true ⟨1, 0, 0, 0, 0, 0, 0⟩ 9 true _ (by decide) (by decide)).mono ?_
  rintro e w2 ⟨rfl, h2⟩
  clear c0 c1 c2 c3 c4 c5 c6
  have P2 := P1.below h2
  have HB2 := Lib.hid (below_then HB1.out h2)
  clear h2 P1
  obtain ⟨c0, c1, c2, c3, c4, c5, c6⟩ := P2.cells
  go_wp2_with fail
  refine (fnext_val 9 false ⟨1, 0, 0, 0, 0, 0, 8⟩ 9 true _ (by decide) (by decide)).mono ?_
  rintro e w3 ⟨rfl, h3⟩
  clear c0 c1 c2 c3 c4 c5 c6
  have P3 := P2.below h3
  have HB3 := Lib.hid (below_then HB2.out h3)
  clear h3 P2
  obtain ⟨c0, c1, c2, c3, c4, c5, c6⟩ := P3.cells
  go_wp2_with fail
  refine (fnext_val 9 true ⟨1, 0, 0, 0, 0, 0, 8⟩ 0 false _ (by decide) (by decide)).mono ?_
  rintro e w4 ⟨rfl, h4⟩
  clear c0 c1 c2 c3 c4 c5 c6
  have HB4 := Lib.hid (below_then HB3.out h4)
  clear h4 P3
  go_wp2_with fail
  refine (until_val ts7 3 5 12 _ (by decide)).mono ?_
  rintro e w5 ⟨rfl, h5⟩
  have HB5 := Lib.hid (below_then HB4.out h5)
  clear h5
  go_wp2_with fail
  refine (until_val ts0 3 5 6 _ (by decide)).mono ?_
  rintro e w6 ⟨rfl, h6⟩
  have HB6 := Lib.hid (below_then HB5.out h6)
  clear h6
  go_wp2_with fail
  go_ret
  exact ⟨rfl, HB6.out⟩

/-- The times in memory. -/
def TsAt (w : World) (b : Nat) (f : Nat → Int) : Prop := w.rangeAt b 0 (arr16 f).toList
theorem TsAt.below {w w1 : World} {b : Nat} {f : Nat → Int} (h : TsAt w b f) (hb : Below w.heap.size w w1) : TsAt w1 b f := fun o v hv => (hb.cell (p := ⟨b, 0 + o, none⟩) (World.block_lt_of_cell? w ⟨b, 0 + o, none⟩ (h o v hv))).trans (h o v hv)
theorem TsAt.new (w : World) (f : Nat → Int) (T : TypeId) : TsAt (w.alloc (.cells (arr16 f) T)) w.heap.size f := fun o v hv => by
  rw [← hv]; simp
theorem range_below {w w1 : World} {b : Nat} {cs : List Value} (hb : Below w.heap.size w w1) (h : w.rangeAt b 0 cs) : w1.rangeAt b 0 cs := fun o v hv => (hb.cell (p := ⟨b, 0 + o, none⟩) (World.block_lt_of_cell? w ⟨b, 0 + o, none⟩ (h o v hv))).trans (h o v hv)

theorem until_mono {w w0 : World} (h : Below w.heap.size w w0) {f : FuncId} {args : Array Value} {R : Ending → Prop} (hc : Calls Try.prog f args w0 fun e w' => R e ∧ Below w0.heap.size w0 w') : Calls Try.prog f args w0 fun e w' => R e ∧ Below w.heap.size w w' :=
  hc.mono fun e w' ⟨he, hb⟩ => ⟨he, below_then h hb⟩

def PkWf (p : Pk) : Prop := (0 ≤ p.flags ∧ p.flags ≤ 255)

set_option maxHeartbeats 4000000 in
set_option maxRecDepth 100000 in
theorem fsmMoves_walk (s : Int) (r : Bool) (p : Pk) (ts : Nat → Int) (c : Int) (w : World) (ws : (Lit.int .i64 s).wf = true) (wp : PkWf p) (wc : (Lit.int .i64 c).wf = true) :
    Calls Try.prog 6 #[.int .i64 s, .bool r, .agg (pkC p), .agg (arr16 ts), .int .i64 c] w fun e w' => e = .returned (.bool true) ∧ Below w.heap.size w w' := by
  obtain ⟨f0, f1⟩ := wp
  obtain ⟨t1, b1, e1⟩ : ∃ t b, fopenF p = (t, b) := ⟨_, _, rfl⟩
  obtain ⟨t2, b2, e2⟩ : ∃ t b, fnextF s r p = (t, b) := ⟨_, _, rfl⟩
  obtain ⟨m, e3⟩ : ∃ m, untilF ts s c = m := ⟨_, rfl⟩
  have E1 := Lib.hid e1
  have E2 := Lib.hid e2
  have E3 := Lib.hid e3
  clear e1 e2 e3
  have P0 : PkAt ((w.alloc (.cells (pkC p) 32)).alloc (.cells (arr16 ts) 33)) w.heap.size p := (PkAt.new w p 32).below ((Below.refl _ _).alloc (Nat.le_refl _) _)
  have T0 : TsAt ((w.alloc (.cells (pkC p) 32)).alloc (.cells (arr16 ts) 33)) (w.heap.size + 1) ts := by
    have := TsAt.new (w.alloc (.cells (pkC p) 32)) ts 33
    simpa using this
  have B0 : Below w.heap.size w ((w.alloc (.cells (pkC p) 32)).alloc (.cells (arr16 ts) 33)) := ((Below.refl _ _).alloc (Nat.le_refl _) _).alloc (by simp) _
  have hu := Try.underlying33
  have hi : (Try.prog.info? 33).map (·.size) = some (arr16 ts).toList.length := by kernel_rfl
  unfold pkC at *
  go_enter Try.func6, Try.ntmps6
  go_wp2_with fail
  refine (fopen_val p t1 b1 _ E1.out).mono ?_
  generalize (w.alloc (.cells _ 32)).alloc (.cells _ 33) = w0 at *
  have HB0 := Lib.hid B0
  clear B0
  rintro e w1 ⟨rfl, h1⟩
  have P1 := P0.below h1
  have T1 := T0.below h1
  have HB1 := Lib.hid (below_then HB0.out h1)
  clear h1 P0 T0
  obtain ⟨c0, c1, c2, c3, c4, c5, c6⟩ := P1.cells
  go_wp2_with fail
  refine (refFopen_val p t1 b1 _ f0 f1 E1.out).mono ?_
  rintro e w2 ⟨rfl, h2⟩
  clear c0 c1 c2 c3 c4 c5 c6
  have P2 := P1.below h2
  have T2 := T1.below h2
  have HB2 := Lib.hid (below_then HB1.out h2)
  clear h2 P1 T1
  obtain ⟨c0, c1, c2, c3, c4, c5, c6⟩ := P2.cells
  go_wp2_with fail
  refine (fnext_val s r p t2 b2 _ ws E2.out).mono ?_
  rintro e w3 ⟨rfl, h3⟩
  clear c0 c1 c2 c3 c4 c5 c6
  have P3 := P2.below h3
  have T3 := T2.below h3
  have HB3 := Lib.hid (below_then HB2.out h3)
  clear h3 P2 T2
  obtain ⟨c0, c1, c2, c3, c4, c5, c6⟩ := P3.cells
  go_wp2_with fail
  refine (refFnext_val s r p t2 b2 _ f0 f1 E2.out).mono ?_
  rintro e w4 ⟨rfl, h4⟩
  clear c0 c1 c2 c3 c4 c5 c6
  have T4 := T3.below h4
  have HB4 := Lib.hid (below_then HB3.out h4)
  clear h4 P3 T3
  go_wp2_with fail
  have he : (t1 == t1) = true := by simp
  have he2 : (t2 == t2) = true := by simp
  have he3 : (m == m) = true := by simp
  have he4 : (b1 == b1) = true := by simp
  have he5 : (b2 == b2) = true := by simp
  have T4c : w4.rangeAt (w.heap.size + 1) 0 (arr16 ts).toList := T4
  clear T4
  refine wp_region_since w4 (Since.refl _) (by kernel_rfl) (by kernel_rfl) ?_
  refine wpQ_call (f := 25) (args := #[]) (by rfl) (fun v hv => by go_simp) (fun v hv => (awake17_any v).mono (fun e v' ⟨he, hb⟩ => ⟨he, hv.step hb⟩)) ?_
  simp only [Act.put, List.setIfInBounds_toArray, List.set_cons_zero, List.set_cons_succ]
  iterate 21 (refine wpQ_val (by rfl) (fun v hv => by go_simp; first | done | with_reducible rfl) ?_; simp only [Act.put, List.setIfInBounds_toArray, List.set_cons_zero, List.set_cons_succ])
  refine wpQ_load_mid (by rfl) 33 _ rfl (w.heap.size + 1) 0 rfl (arr16 ts).toList _ (fun v hv => hv.range T4c) hu rfl hi ?_
  simp only [Act.put, List.setIfInBounds_toArray, List.set_cons_zero, List.set_cons_succ]
  iterate 2 (refine wpQ_val (by rfl) (fun v hv => by go_simp; first | done | with_reducible rfl) ?_; simp only [Act.put, List.setIfInBounds_toArray, List.set_cons_zero, List.set_cons_succ])
  refine wpQ_call (f := 26) (args := #[.agg (arr16 ts), .int .i64 s, .int .i64 c]) (by rfl) (fun v hv => by go_simp) (fun v hv => (until_val ts s c m v E3.out).mono (fun e v' ⟨he, hb⟩ => ⟨he, hv.step hb⟩)) ?_
  simp only [Act.put, List.setIfInBounds_toArray, List.set_cons_zero, List.set_cons_succ]
  refine wpQ_load_mid (by rfl) 33 _ rfl (w.heap.size + 1) 0 rfl (arr16 ts).toList _ (fun v hv => hv.range T4c) hu rfl hi ?_
  simp only [Act.put, List.setIfInBounds_toArray, List.set_cons_zero, List.set_cons_succ]
  iterate 2 (refine wpQ_val (by rfl) (fun v hv => by go_simp; first | done | with_reducible rfl) ?_; simp only [Act.put, List.setIfInBounds_toArray, List.set_cons_zero, List.set_cons_succ])
  refine wpQ_call (f := 27) (args := #[.agg (arr16 ts), .int .i64 s, .int .i64 c]) (by rfl) (fun v hv => by go_simp) (fun v hv => (refUntil_val ts s c m v E3.out).mono (fun e v' ⟨he, hb⟩ => ⟨he, hv.step hb⟩)) ?_
  simp only [Act.put, List.setIfInBounds_toArray, List.set_cons_zero, List.set_cons_succ]
  iterate 3 (refine wpQ_val (by rfl) (fun v hv => by go_simp; first | done | with_reducible rfl) ?_; simp only [Act.put, List.setIfInBounds_toArray, List.set_cons_zero, List.set_cons_succ])
  refine wpQ_done ?_
  intro w5 hw5
  go_wp2
  go_ret
  exact ⟨rfl, below_then HB4.out hw5⟩
end Go.Proofs.Ytpmhlcnnbkicaaa
