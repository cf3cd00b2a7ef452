/- The walk of Same. -/
import Derived.Test.YtpmhlcnnbkicaaaMemE
import Derived.Laws.StructEq
import Derived.LoopTactic
import Derived.RegionTactic
import Derived.Deep.QuietTactic
namespace Go.Proofs.Ytpmhlcnnbkicaaa
set_option linter.unusedSimpArgs false
set_option linter.unusedVariables false
open Go Go.RowKit

theorem below_drewN {B : Nat} {w w1 : World} (h : Below B w w1) (n : Nat) : Below B w (w1.drewN n) := ⟨h.os, h.tape, h.output, h.size, h.block⟩

theorem acc_ext {a b : Acc} : a = b ↔ a.thread = b.thread ∧ a.kind = b.kind ∧ a.place = b.place := by
  cases a; cases b; simp

/-- The three cells of an access of a log. -/
theorem logC_at : ∀ (l : List Acc) (j : Nat) (x : Acc), l[j]? = some x → (logC l)[j * 3]? = some (.int .i64 x.thread) ∧ (logC l)[j * 3 + 1]? = some (.int .i64 x.kind) ∧ (logC l)[j * 3 + 2]? = some (.int .i64 x.place)
  | [], j, x, h => by simp at h
  | y :: l, 0, x, h => by simp at h; subst h; simp [logC, accC]
  | y :: l, j + 1, x, h => by
    have := logC_at l j x (by simpa using h)
    have e : logC (y :: l) = .int .i64 y.thread :: .int .i64 y.kind :: .int .i64 y.place :: logC l := rfl
    rw [e, show (j + 1) * 3 = j * 3 + 1 + 1 + 1 by omega]
    simpa using this

theorem rd_at {w : World} {B : Nat} {a : Option Addr} {l : List Acc} (h : RdFrom w B a (logC l)) {j : Nat} (hj : j < l.length) :
    ∃ b, a = some ⟨b, 0, none⟩ ∧ w.cell? ⟨b, j * 3, none⟩ = some (.int .i64 l[j].thread) ∧ w.cell? ⟨b, j * 3 + 1, none⟩ = some (.int .i64 l[j].kind) ∧ w.cell? ⟨b, j * 3 + 2, none⟩ = some (.int .i64 l[j].place) := by
  obtain ⟨h1, h2, h3⟩ := logC_at l j l[j] (List.getElem?_eq_getElem hj)
  obtain ⟨b, rfl, c1, _⟩ := h _ _ h1
  obtain ⟨b2, e2, c2, _⟩ := h _ _ h2
  obtain ⟨b3, e3, c3, _⟩ := h _ _ h3
  cases e2; cases e3
  exact ⟨b, rfl, c1, c2, c3⟩

theorem accFields : (Try.prog.fieldsOf 49).toList.map (fun f => (f.name == "_", f.type, f.offset)) = [(false, 3, 0), (false, 3, 1), (false, 3, 2)] := by kernel_rfl

theorem acc_eqFields (d : Nat) (W : World) (a b c a' b' c' : Int) :
    (Op.eqFields (d + 1) #[.int .i64 a, .int .i64 b, .int .i64 c] #[.int .i64 a', .int .i64 b', .int .i64 c'] (Try.prog.fieldsOf 49).toList).run Try.prog W = .ok (a == a' && (b == b' && c == c')) W := by
  have h := accFields
  generalize (Try.prog.fieldsOf 49).toList = fs at h
  obtain ⟨f1, l1, rfl, e1, h⟩ := List.map_eq_cons_iff.1 h
  obtain ⟨f2, l2, rfl, e2, h⟩ := List.map_eq_cons_iff.1 h
  obtain ⟨f3, l3, rfl, e3, h⟩ := List.map_eq_cons_iff.1 h
  obtain rfl := List.map_eq_nil_iff.1 h
  simp only [Prod.mk.injEq, beq_eq_false_iff_ne] at e1 e2 e3
  obtain ⟨n1, t1, o1⟩ := e1
  obtain ⟨n2, t2, o2⟩ := e2
  obtain ⟨n3, t3, o3⟩ := e3
  have hp : ∀ (xs : Array Value) (o : Nat) (k : Int), xs[o]? = some (.int .i64 k) → (part 3 xs o).run Try.prog W = .ok (.int .i64 k) W := fun xs o k hk => by
    go_simp
  have q1 := hp #[.int .i64 a, .int .i64 b, .int .i64 c] 0 a rfl
  have q2 := hp #[.int .i64 a, .int .i64 b, .int .i64 c] 1 b rfl
  have q3 := hp #[.int .i64 a, .int .i64 b, .int .i64 c] 2 c rfl
  have q4 := hp #[.int .i64 a', .int .i64 b', .int .i64 c'] 0 a' rfl
  have q5 := hp #[.int .i64 a', .int .i64 b', .int .i64 c'] 1 b' rfl
  have q6 := hp #[.int .i64 a', .int .i64 b', .int .i64 c'] 2 c' rfl
  have he : ∀ x y : Int, (Op.equalIn (d + 1) 3 (.int .i64 x) (.int .i64 y)).run Try.prog W = .ok (x == y) W := fun x y => run_equalIn_int W d _ .i64 .i64 x y Try.underlying3
  simp only [Op.eqFields, n1, n2, n3, t1, t2, t3, o1, o2, o3, ne_eq, not_false_eq_true, if_true, Sem.run_bind, q1, q2, q3, q4, q5, q6, he, Result.andThen_ok, Sem.run_ite, Sem.run_pure]
  cases a == a' <;> cases b == b' <;> cases c == c' <;> simp

theorem acc_neq (W : World) (a b c a' b' c' : Int) :
    (Go.binOp .neq 49 (.agg #[.int .i64 a, .int .i64 b, .int .i64 c]) (.agg #[.int .i64 a', .int .i64 b', .int .i64 c'])).run Try.prog W = .ok (.bool (!(a == a' && (b == b' && c == c')))) W := by
  rw [run_neq_struct, run_equalIn_struct (P := Try.prog) W 9999 49 _ _ (by kernel_rfl) (by kernel_rfl), acc_eqFields 9998, Result.andThen_ok]

def SamePost (w : World) (l l' : List Acc) (e : Ending) (w' : World) : Prop := ∃ r, e = .returned (.bool r) ∧ (r = true ↔ l = l') ∧ Below w.heap.size w w'

theorem same_snoc {l l' : List Acc} {j : Nat} (hl : l.length = l'.length) (hj : j < l.length) (h : l.take j = l'.take j) (he : l[j] = l'[j]'(by omega)) : l.take (j + 1) = l'.take (j + 1) := by
  rw [List.take_add_one, List.take_add_one, h, List.getElem?_eq_getElem hj, List.getElem?_eq_getElem (by omega), he]

set_option maxHeartbeats 2000000 in
set_option maxRecDepth 100000 in
theorem same_any (a b : Option Addr) (ca cb : Nat) (l l' : List Acc) (w : World) (B : Nat) (ha : RdFrom w B a (logC l)) (hb : RdFrom w B b (logC l')) (hl : l.length < 1073741824) (hl' : l'.length < 1073741824) :
    Calls Try.prog 55 #[.slice a l.length ca, .slice b l'.length cb] w (SamePost w l l') := by
  have HA := Lib.hid ha
  have HB := Lib.hid hb
  clear ha hb
  go_enter Try.func55, Try.ntmps55
  by_cases he : l.length = l'.length
  case neg =>
    have hx : ((l.length : Int) == (l'.length : Int)) = false ∧ ((l.length : Int) != (l'.length : Int)) = true := by simp; omega
    obtain ⟨q1, q2⟩ := hx
    go_wp2_with fail
    go_ret
    exact ⟨false, rfl, by simp; intro e; subst e; exact he rfl, Below.refl _ _⟩
  have hx : ((l.length : Int) == (l'.length : Int)) = true ∧ ((l.length : Int) != (l'.length : Int)) = false := by simp; omega
  obtain ⟨q1, q2⟩ := hx
  go_wp2_with fail
  go_loopw [5] (fun n wr => ∃ j : Nat, j ≤ l.length ∧ n = .int .i64 j ∧ Hid (l.take j = l'.take j) ∧ Below w.heap.size w wr) (fun n _ => l.length - (intOf n).toNat)
  case atStart => exact ⟨0, Nat.zero_le _, rfl, Lib.hid (by simp), Below.refl _ _⟩
  case round =>
    obtain ⟨j, hj1, rfl, hk, hB⟩ := hrel
    by_cases hj : j < l.length
    · have hj' : j < l'.length := by omega
      obtain ⟨b1, rfl, c1, c2, c3⟩ := rd_at HA.out hj
      obtain ⟨b2, rfl, d1, d2, d3⟩ := rd_at HB.out hj'
      have k1 := (hB.cell (World.block_lt_of_cell? w _ c1)).trans c1
      have k2 := (hB.cell (World.block_lt_of_cell? w _ c2)).trans c2
      have k3 := (hB.cell (World.block_lt_of_cell? w _ c3)).trans c3
      have m1 := (hB.cell (World.block_lt_of_cell? w _ d1)).trans d1
      have m2 := (hB.cell (World.block_lt_of_cell? w _ d2)).trans d2
      have m3 := (hB.cell (World.block_lt_of_cell? w _ d3)).trans d3
      clear c1 c2 c3 d1 d2 d3
      obtain ⟨x, hx⟩ : ∃ x, l[j] = x := ⟨_, rfl⟩
      obtain ⟨y, hy⟩ : ∃ y, l'[j] = y := ⟨_, rfl⟩
      rw [hx] at k1 k2 k3
      rw [hy] at m1 m2 m3
      have HX := Lib.hid hx
      have HY := Lib.hid hy
      have HN : Hid (l'.length = l.length) := Lib.hid he.symm
      clear hx hy he
      cases hr : (x.thread == y.thread && (x.kind == y.kind && x.place == y.place)) with
      | true =>
        have hn : ∀ W : World, (Go.binOp .neq 49 (.agg #[.int .i64 x.thread, .int .i64 x.kind, .int .i64 x.place]) (.agg #[.int .i64 y.thread, .int .i64 y.kind, .int .i64 y.place])).run Try.prog W = .ok (.bool false) W := fun W => by rw [acc_neq W, hr]; rfl
        have hxy : x = y := by
          simp only [Bool.and_eq_true, beq_iff_eq] at hr
          exact acc_ext.2 hr
        have HT := Lib.hid (same_snoc HN.out.symm hj hk.out (HX.out.trans (hxy.trans HY.out.symm)))
        clear hr hxy
        go_wp2_with fail
        go_quiet (fail)
        go_wp2_with fail
        go_roundw
        case rel => exact ⟨j + 1, by omega, by go_num, HT, below_drewN hB _⟩
        case measure => simp [intOf]; omega
      | false =>
        have hn : ∀ W : World, (Go.binOp .neq 49 (.agg #[.int .i64 x.thread, .int .i64 x.kind, .int .i64 x.place]) (.agg #[.int .i64 y.thread, .int .i64 y.kind, .int .i64 y.place])).run Try.prog W = .ok (.bool true) W := fun W => by rw [acc_neq W, hr]; rfl
        have hxy : l ≠ l' := fun e => by
          subst e
          obtain rfl : x = y := HX.out.symm.trans HY.out
          simp at hr
        clear hr
        go_wp2_with fail
        go_quiet (fail)
        go_wp2_with fail
        go_ret
        exact ⟨false, rfl, by simp [hxy], below_drewN hB _⟩
    · have : j = l.length := by omega
      subst this
      go_wp2_with fail
      go_ret
      refine ⟨true, rfl, ?_, hB⟩
      simp
      have := hk.out
      rwa [List.take_length, he, List.take_length] at this
end Go.Proofs.Ytpmhlcnnbkicaaa
