/- The walk of Same. -/
import Derived.Test.YtahgapkecabnjaaC05
import Derived.Laws.StructEq
import Derived.LoopTactic
import Derived.RegionTactic
import Derived.Deep.QuietTactic
import Derived.Test.YtahgapkecabnjaaC07
namespace Go.Proofs.Ytahgapkecabnjaa
set_option linter.unusedSimpArgs false
set_option linter.unusedVariables false
open Go Go.RowKit

theorem below_drewN {B : Nat} {w w1 : World} (h : Below B w w1) (n : Nat) : Below B w (w1.drewN n) := ⟨h.os, h.tape, h.output, h.size, h.block⟩

theorem acc_ext {a b : Acc} : a = b ↔ a.thread = b.thread ∧ a.kind = b.kind ∧ a.place = b.place := by
  cases a; cases b; simp

/-- The three cells of an access of a log. -/
theorem logC_at : ∀ (l : List Acc) (j : Nat) (x : Acc), l[j]? = some x → (logC l)[j * 3]? = some (.int .i64 x.thread) ∧ (logC l)[j * 3 + 1]? = some (.int .i64 x.kind) ∧ (logC l)[j * 3 + 2]? = some (.int .i64 x.place)
  | [], j, x, h => by simp at h
  | y :: l, 0, x, h => by simp at h; subst h; simp [logC, accC]
  | y :: l, j + 1, x, h => by
    have := logC_at l j x (by simpa using h)
    have e : logC (y :: l) = .int .i64 y.thread :: .int .i64 y.kind :: .int .i64 y.place :: logC l := rfl
    rw [e, show (j + 1) * 3 = j * 3 + 1 + 1 + 1 by omega]
    simpa using this

theorem rd_at {w : World} {B : Nat} {a : Option Addr} {l : List Acc} (h : RdFrom w B a (logC l)) {j : Nat} (hj : j < l.length) :
    ∃ b, a = some ⟨b, 0, none⟩ ∧ w.cell? ⟨b, j * 3, none⟩ = some (.int .i64 l[j].thread) ∧ w.cell? ⟨b, j * 3 + 1, none⟩ = some (.int .i64 l[j].kind) ∧ w.cell? ⟨b, j * 3 + 2, none⟩ = some (.int .i64 l[j].place) := by
  obtain ⟨h1, h2, h3⟩ := logC_at l j l[j] (List.getElem?_eq_getElem hj)
  obtain ⟨b, rfl, c1, _⟩ := h _ _ h1
  obtain ⟨b2, e2, c2, _⟩ := h _ _ h2
  obtain ⟨b3, e3, c3, _⟩ := h _ _ h3
  cases e2; cases e3
  exact ⟨b, rfl, c1, c2, c3⟩

theorem accFields : (Try.prog.fieldsOf 99).toList.map (fun f => (f.name == "_", f.type, f.offset)) = [(false, 3, 0), (false, 3, 1), (false, 3, 2)] := by kernel_rfl

theorem acc_eqFields (d : Nat) (W : World) (a b c a' b' c' : Int) :
    (Op.eqFields (d + 1) #[.int .i64 a, .int .i64 b, .int .i64 c] #[.int .i64 a', .int .i64 b', .int .i64 c'] (Try.prog.fieldsOf 99).toList).run Try.prog W = .ok (a == a' && (b == b' && c == c')) W := by
  have h := accFields
  generalize (Try.prog.fieldsOf 99).toList = fs at h
  obtain ⟨f1, l1, rfl, e1, h⟩ := List.map_eq_cons_iff.1 h
  obtain ⟨f2, l2, rfl, e2, h⟩ := List.map_eq_cons_iff.1 h
  obtain ⟨f3, l3, rfl, e3, h⟩ := List.map_eq_cons_iff.1 h
  obtain rfl := List.map_eq_nil_iff.1 h
  simp only [Prod.mk.injEq, beq_eq_false_iff_ne] at e1 e2 e3
  obtain ⟨n1, t1, o1⟩ := e1
  obtain ⟨n2, t2, o2⟩ := e2
  obtain ⟨n3, t3, o3⟩ := e3
  have hp : ∀ (xs : Array Value) (o : Nat) (k : Int), xs[o]? = some (.int .i64 k) → (part 3 xs o).run Try.prog W = .ok (.int .i64 k) W := fun xs o k hk => by
    go_simp
  have q1 := hp #[.int .i64 a, .int .i64 b, .int .i64 c] 0 a rfl
  have q2 := hp #[.int .i64 a, .int .i64 b, .int .i64 c] 1 b rfl
  have q3 := hp #[.int .i64 a, .int .i64 b, .int .i64 c] 2 c rfl
  have q4 := hp #[.int .i64 a', .int .i64 b', .int .i64 c'] 0 a' rfl
  have q5 := hp #[.int .i64 a', .int .i64 b', .int .i64 c'] 1 b' rfl
  have q6 := hp #[.int .i64 a', .int .i64 b', .int .i64 c'] 2 c' rfl
  have he : ∀ x y : Int, (Op.equalIn (d + 1) 3 (.int .i64 x) (.int .i64 y)).run Try.prog W = .ok (x == y) W := fun x y => run_equalIn_int W d _ .i64 .i64 x y Try.underlying3
  simp only [Op.eqFields, n1, n2, n3, t1, t2, t3, o1, o2, o3, ne_eq, not_false_eq_true, if_true, Sem.run_bind, q1, q2, q3, q4, q5, q6, he, Result.andThen_ok, Sem.run_ite, Sem.run_pure]
  cases a == a' <;> cases b == b' <;> cases c == c' <;> simp

theorem acc_neq (W : World) (a b c a' b' c' : Int) :
    (Go.binOp .neq 99 (.agg #[.int .i64 a, .int .i64 b, .int .i64 c]) (.agg #[.int .i64 a', .int .i64 b', .int .i64 c'])).run Try.prog W = .ok (.bool (!(a == a' && (b == b' && c == c')))) W := by
  rw [run_neq_struct, run_equalIn_struct (P := Try.prog) W 9999 99 _ _ (by kernel_rfl) (by kernel_rfl), acc_eqFields 9998, Result.andThen_ok]

def SamePost (w : World) (l l' : List Acc) (e : Ending) (w' : World) : Prop := ∃ r, e = .returned (.bool r) ∧ (r = true ↔ l = l') ∧ Below w.heap.size w w'

theorem same_snoc {l l' : List Acc} {j : Nat} (hl : l.length = l'.length) (hj : j < l.length) (h : l.take j = l'.take j) (he : l[j] = l'[j]'(by omega)) : l.take (j + 1) = l'.take (j + 1) := by
  rw [List.take_add_one, List.take_add_one, h, List.getElem?_eq_getElem hj, List.getElem?_eq_getElem (by omega), he]

set_option maxHeartbeats 2000000 in
set_option maxRecDepth 100000 in
theorem same_any (a b : Option Addr) (ca cb : Nat) (l l' : List Acc) (w : World) (B : Nat) (ha : RdFrom w B a (logC l)) (hb : RdFrom w B b (logC l')) (hl : l.length < 1073741824) (hl' : l'.length < 1073741824) :
    Calls Try.prog 27 #[.slice a l.length ca, .slice b l'.length cb] w (SamePost w l l') := by
  have HA := Lib.hid ha
  have HB := Lib.hid hb
  clear ha hb
  go_enter Try.func27, Try.ntmps27
  by_cases he : l.length = l'.length
  case neg =>
    have hx : ((l.length : Int) == (l'.length : Int)) = false ∧ ((l.length : Int) != (l'.length : Int)) = true := by simp; omega
    obtain ⟨q1, q2⟩ := hx
    go_wp2_with fail
    go_ret
    exact ⟨false, rfl, by simp; intro e; subst e; exact he rfl, Below.refl _ _⟩
  have hx : ((l.length : Int) == (l'.length : Int)) = true ∧ ((l.length : Int) != (l'.length : Int)) = false := by simp; omega
  obtain ⟨q1, q2⟩ := hx
  go_wp2_with fail
  go_loopw [5] (fun n wr => ∃ j : Nat, j ≤ l.length ∧ n = .int .i64 j ∧ Hid (l.take j = l'.take j) ∧ Below w.heap.size w wr) (fun n _ => l.length - (intOf n).toNat)
  case atStart => exact ⟨0, Nat.zero_le _, rfl, Lib.hid (by simp), Below.refl _ _⟩
  case round =>
    obtain ⟨j, hj1, rfl, hk, hB⟩ := hrel
    by_cases hj : j < l.length
    · have hj' : j < l'.length := by omega
      obtain ⟨b1, rfl, c1, c2, c3⟩ := rd_at HA.out hj
      obtain ⟨b2, rfl, d1, d2, d3⟩ := rd_at HB.out hj'
      have k1 := (hB.cell (World.block_lt_of_cell? w _ c1)).trans c1
      have k2 := (hB.cell (World.block_lt_of_cell? w _ c2)).trans c2
      have k3 := (hB.cell (World.block_lt_of_cell? w _ c3)).trans c3
      have m1 := (hB.cell (World.block_lt_of_cell? w _ d1)).trans d1
      have m2 := (hB.cell (World.block_lt_of_cell? w _ d2)).trans d2
      have m3 := (hB.cell (World.block_lt_of_cell? w _ d3)).trans d3
      clear c1 c2 c3 d1 d2 d3
      obtain ⟨x, hx⟩ : ∃ x, l[j] = x := ⟨_, rfl⟩
      obtain ⟨y, hy⟩ : ∃ y, l'[j] = y := ⟨_, rfl⟩
      rw [hx] at k1 k2 k3
      rw [hy] at m1 m2 m3
      have HX := Lib.hid hx
      have HY := Lib.hid hy
      have HN : Hid (l'.length = l.length) := Lib.hid he.symm
      clear hx hy he
      cases hr : (x.thread == y.thread && (x.kind == y.kind && x.place == y.place)) with
      | true =>
        have hn : ∀ W : World, (Go.binOp .neq 99 (.agg #[.int .i64 x.thread, .int .i64 x.kind, .int .i64 x.place]) (.agg #[.int .i64 y.thread, .int .i64 y.kind, .int .i64 y.place])).run Try.prog W = .ok (.bool false) W := fun W => by rw [acc_neq W, hr]; rfl
        have hxy : x = y := by
          simp only [Bool.and_eq_true, beq_iff_eq] at hr
          exact acc_ext.2 hr
        have HT := Lib.hid (same_snoc HN.out.symm hj hk.out (HX.out.trans (hxy.trans HY.out.symm)))
        clear hr hxy
        go_wp2_with fail
        go_quiet (fail)
        go_wp2_with fail
        go_roundw
        case rel => exact ⟨j + 1, by omega, by go_num, HT, below_drewN hB _⟩
        case measure => simp [intOf]; omega
      | false =>
        have hn : ∀ W : World, (Go.binOp .neq 99 (.agg #[.int .i64 x.thread, .int .i64 x.kind, .int .i64 x.place]) (.agg #[.int .i64 y.thread, .int .i64 y.kind, .int .i64 y.place])).run Try.prog W = .ok (.bool true) W := fun W => by rw [acc_neq W, hr]; rfl
        have hxy : l ≠ l' := fun e => by
          subst e
          obtain rfl : x = y := HX.out.symm.trans HY.out
          simp at hr
        clear hr
        go_wp2_with fail
        go_quiet (fail)
        go_wp2_with fail
        go_ret
        exact ⟨false, rfl, by simp [hxy], below_drewN hB _⟩
    · have : j = l.length := by omega
      subst this
      go_wp2_with fail
      go_ret
      refine ⟨true, rfl, ?_, hB⟩
      simp
      have := hk.out
      rwa [List.take_length, he, List.take_length] at this
end Go.Proofs.Ytahgapkecabnjaa
/- The calls on one memory that a walk has made itself; the fixed fact. -/
namespace Go.Proofs.Ytahgapkecabnjaa
set_option linter.unusedSimpArgs false
set_option linter.unusedVariables false
open Go Go.RowKit

/-- Since w0 a memory m has been made at g, and nothing old has changed. -/
def On (w0 : World) (g : Nat) (m : M) (w : World) : Prop := ∃ F, Mem w g F m ∧ (∀ i, F i → w0.heap.size ≤ i) ∧ Below w0.heap.size w0 w
theorem On.below {w0 w : World} {g : Nat} {m : M} (h : On w0 g m w) : Below w0.heap.size w0 w := h.choose_spec.2.2

theorem On.post {w0 w : World} {g : Nat} {m m' : M} {f : FuncId} {args : Array Value} {r r' : Value} {m2 : M} (h : On w0 g m w) (hc : ∀ F, Mem w g F m → Calls Try.prog f args w (MemPost w g F r m')) (hr : r = r') (hm : m' = m2) :
    Calls Try.prog f args w fun e w' => e = .returned r' ∧ On w0 g m2 w' := by
  subst hr; subst hm
  obtain ⟨F, hm, hF, hb⟩ := h
  refine (hc F hm).mono ?_
  rintro e w' ⟨rfl, F', hm', ht, hx⟩
  exact ⟨rfl, F', hm', hx.base hb.size hF, hb.trans (ht.below hb.size hF)⟩
theorem On.keep {w0 w : World} {g : Nat} {m : M} {f : FuncId} {args : Array Value} {r r' : Value} (h : On w0 g m w) (hc : ∀ F, Mem w g F m → Calls Try.prog f args w (fun e w' => e = .returned r ∧ w' = w)) (hr : r = r') :
    Calls Try.prog f args w fun e w' => e = .returned r' ∧ On w0 g m w' := by
  subst hr
  obtain ⟨F, hm, hF, hb⟩ := h
  refine (hc F hm).mono ?_
  rintro e w' ⟨rfl, rfl⟩
  exact ⟨rfl, F, hm, hF, hb⟩
theorem On.step {w0 w w' : World} {g : Nat} {m : M} (h : On w0 g m w) (k : Below w.heap.size w w') : On w0 g m w' := by
  obtain ⟨F, hm, hF, hb⟩ := h
  exact ⟨F, hm.turn (Turn.of_below (F := fun _ => False) k) (fun _ _ h => h), hF, hb.trans (k.mono hb.size)⟩
theorem On.new (words locks : Int) (w0 : World) (w : World) (hb : Below w0.heap.size w0 w) {m : M} (hm : newM words locks = m) :
    Calls Try.prog 6 #[.int .i64 words, .int .i64 locks] w fun e w' => ∃ g, e = .returned (.pointer (some ⟨g, 0, none⟩)) ∧ On w0 g m w' := by
  subst hm
  refine (new_any words locks w).mono ?_
  rintro e w' ⟨g, F, rfl, hm, hb', hF⟩
  exact ⟨g, rfl, F, hm, fun i hi => Nat.le_trans hb.size (hF i hi), hb.trans (hb'.mono hb.size)⟩
theorem On.log {w0 w : World} {g : Nat} {m : M} {l : List Acc} (h : On w0 g m w) (hs : m.small) (hl : m.Lg = l) :
    Calls Try.prog 28 #[.pointer (some ⟨g, 0, none⟩)] w fun e w' => ∃ a c, e = .returned (.slice a l.length c) ∧ RdFrom w' w0.heap.size a (logC l) ∧ On w0 g m w' := by
  subst hl
  have h' := h
  obtain ⟨F, hm, hF, hb⟩ := h
  refine (log_any g F m w hm hs).mono ?_
  rintro e w' ⟨a, c, rfl, hr, hb'⟩
  exact ⟨a, c, rfl, fun j x hj => (hr j x hj).imp fun b hb2 => ⟨hb2.1, hb2.2.1, Nat.le_trans hb.size hb2.2.2⟩, h'.step hb'⟩
theorem RdFrom.below {w w' : World} {B : Nat} {a : Option Addr} {xs : List Value} (h : RdFrom w B a xs) (k : Below w.heap.size w w') : RdFrom w' B a xs := fun j x hj =>
  (h j x hj).imp fun b hb => ⟨hb.1, (k.cell (World.block_lt_of_cell? w _ hb.2.1)).trans hb.2.1, hb.2.2⟩

theorem RdFrom.zero {w : World} {B : Nat} {a : Option Addr} {xs : List Value} (h : RdFrom w B a xs) : RdFrom w 0 a xs := fun j x hj => (h j x hj).imp fun b hb => ⟨hb.1, hb.2.1, Nat.zero_le _⟩
theorem rd_new (w : World) (l : List Value) (t : TypeId) : RdFrom (w.alloc (.cells l.toArray t)) 0 (some ⟨w.heap.size, 0, none⟩) l := fun j x hj => ⟨_, rfl, by simp [hj], Nat.zero_le _⟩

def aw (W : List Int) (L : List Int) (n : Nat) : M := ⟨W, L, [⟨7, 4, 0⟩, ⟨8, 3, 0⟩, ⟨7, 1, 1⟩, ⟨7, 6, 8⟩, ⟨7, 3, 0⟩].take n⟩
theorem aw_small (W L : List Int) (n : Nat) (h1 : W.length < 1073741824) (h2 : L.length < 1073741824) : (aw W L n).small := ⟨h1, h2, by simp [aw]; omega⟩

theorem aw0 : newM 1 1 = aw [0] [-1] 0 := by rfl
theorem aw1 : (aw [0] [-1] 0).swap 7 0 0 5 = aw [5] [-1] 1 := by rfl
theorem aw2 : (aw [5] [-1] 1).swap 8 0 0 6 = aw [5] [-1] 2 := by rfl
theorem aw3 : (aw [5] [-1] 2).lock 7 0 = aw [5] [7] 3 := by rfl
theorem aw4 : (aw [5] [7] 3).lock 8 0 = aw [5] [7] 3 := by rfl
theorem aw5 : (aw [5] [7] 3).unlock 8 0 = aw [5] [7] 3 := by rfl
theorem aw6 : (aw [5] [7] 3).touch 7 6 2 = aw [5] [7] 4 := by rfl
theorem aw7 : (aw [5] [7] 4).load 7 0 = aw [5] [7] 5 := by rfl
theorem aw8 : (aw [5] [7] 5).more 9 = aw [5, 9] [7] 5 := by rfl

end Go.Proofs.Ytahgapkecabnjaa
/- The calls on one table that a walk has made itself; lists of keys beside it; the fixed fact. -/
namespace Go.Proofs.Ytahgapkecabnjaa
set_option linter.unusedSimpArgs false
set_option linter.unusedVariables false
open Go Go.RowKit Go.Maps Go.Shelf Go.Sort

/-- A list of keys in blocks from B to E. -/
def KeysIn (w : World) (B E : Nat) (v : Value) (l : List Ky) : Prop := KeysAt w B v l ∧ ∀ a n c, v = .slice a n c → ∀ g o h, a = some ⟨g, o, h⟩ → l ≠ [] → g < E
theorem KeysIn.of_at {w : World} {B : Nat} {v : Value} {l : List Ky} (h : KeysAt w B v l) : KeysIn w B w.heap.size v l := by
  refine ⟨h, fun a n c e g o hh e2 hl => ?_⟩
  cases l with
  | nil => exact absurd rfl hl
  | cons k l =>
    obtain ⟨g', e3, _, h0, _⟩ := h.cells5 e (j := 0) (k := k) rfl
    rw [e2] at e3
    injection e3 with e3
    injection e3 with e3
    subst e3
    exact World.block_lt_of_cell? w _ h0
theorem KeysIn.turn {w w' : World} {B E : Nat} {F : Nat → Prop} {v : Value} {l : List Ky} (h : KeysIn w B E v l) (t : Turn F w w') (hF : ∀ i, F i → i < B ∨ E ≤ i) : KeysIn w' B E v l := by
  refine ⟨?_, h.2⟩
  cases l with
  | nil =>
    obtain ⟨a, c, e⟩ := h.1.shape
    subst e
    exact KeysAt.nil _ _ _ _
  | cons k l =>
    obtain ⟨a, c, e, hc⟩ := h.1
    refine ⟨a, c, e, fun j x hj => ?_⟩
    obtain ⟨g, e1, e2, e3⟩ := hc j x hj
    have hlt := h.2 _ _ _ e g 0 none e1 (by simp)
    exact ⟨g, e1, e2, t.cell e3 (fun hf => (hF g hf).elim (fun q => by omega) (fun q => by omega))⟩

/-- Since w0 a table t has been made at g, on the memory bm; nothing old has changed; the blocks from B to E are not its. -/
def TOn (w0 : World) (g bm B E : Nat) (t : Tb) (w : World) : Prop := ∃ F, Tab w g bm F t ∧ (∀ i, F i → w0.heap.size ≤ i) ∧ (∀ i, F i → i < B ∨ E ≤ i) ∧ E ≤ w.heap.size ∧ Below w0.heap.size w0 w
theorem TOn.below {w0 w : World} {g bm B E : Nat} {t : Tb} (h : TOn w0 g bm B E t w) : Below w0.heap.size w0 w := h.choose_spec.2.2.2.2
/-- What a call leaves. -/
def TOnPost (w0 : World) (g bm B E : Nat) (r : Value) (t : Tb) (w : World) (e : Ending) (w' : World) : Prop := e = .returned r ∧ TOn w0 g bm B E t w' ∧ ∀ v l, KeysIn w B E v l → KeysIn w' B E v l
theorem TOn.turn {w0 w w' : World} {g bm B E : Nat} {t t' : Tb} {F F' : Nat → Prop} (hT : Tab w' g bm F' t') (h0 : ∀ i, F i → w0.heap.size ≤ i) (h1 : ∀ i, F i → i < B ∨ E ≤ i) (h2 : E ≤ w.heap.size) (h3 : Below w0.heap.size w0 w) (ht : Turn F w w') (hx : Ext w F F') :
    TOn w0 g bm B E t' w' ∧ ∀ v l, KeysIn w B E v l → KeysIn w' B E v l :=
  ⟨⟨F', hT, fun i hi => (hx i hi).elim (h0 i) (fun q => Nat.le_trans h3.size q), fun i hi => (hx i hi).elim (h1 i) (fun q => .inr (Nat.le_trans h2 q)), Nat.le_trans h2 ht.size, h3.trans (ht.below h3.size h0)⟩, fun v l hk => hk.turn ht h1⟩
theorem TOn.post {w0 w : World} {g bm B E : Nat} {t t' t2 : Tb} {f : FuncId} {args : Array Value} {r r' : Value} (h : TOn w0 g bm B E t w) (hc : ∀ F, Tab w g bm F t → Calls Try.prog f args w (TabPost w g bm F r t')) (hr : r = r') (ht : t' = t2) :
    Calls Try.prog f args w (TOnPost w0 g bm B E r' t2 w) := by
  subst hr; subst ht
  obtain ⟨F, hT, h0, h1, h2, h3⟩ := h
  refine (hc F hT).mono ?_
  rintro e w' ⟨rfl, F', hT', ht, hx⟩
  exact ⟨rfl, TOn.turn (t := t) hT' h0 h1 h2 h3 ht hx⟩
theorem TOn.step {w0 w w' : World} {g bm B E : Nat} {t : Tb} (h : TOn w0 g bm B E t w) (k : Below w.heap.size w w') : TOn w0 g bm B E t w' ∧ ∀ v l, KeysIn w B E v l → KeysIn w' B E v l := by
  obtain ⟨F, hT, h0, h1, h2, h3⟩ := h
  exact TOn.turn (t := t) (hT.below k) h0 h1 h2 h3 (Turn.of_below k) (Ext.refl _ _)
/-- A new table on a new memory. -/
theorem TOn.new {w0 w : World} {bm n : Nat} {m : M} (h : On w0 bm m w) (hn : n ∈ pows) :
    Calls Try.prog 7 #[.pointer (some ⟨bm, 0, none⟩), .int .i64 (n : Nat)] w fun e w' => ∃ g, e = .returned (.pointer (some ⟨g, 0, none⟩)) ∧ TOn w0 g bm 0 0 ⟨m, n, []⟩ w' := by
  obtain ⟨Fm, hm, h0, hb⟩ := h
  refine (tnew_any hm n).mono ?_
  rintro e w' ⟨hb', hh⟩
  rcases hh with ⟨hno, _⟩ | ⟨n', g, F, hn', en, rfl, hT, hF⟩
  · exact absurd rfl (hno n hn)
  · obtain rfl : n' = n := by omega
    exact ⟨g, rfl, F, hT, fun i hi => (hF i hi).elim (h0 i) (fun q => Nat.le_trans hb.size q), fun i _ => .inr (Nat.zero_le _), Nat.zero_le _, hb.trans (hb'.mono hb.size)⟩
/-- All, looked at anew: the list lies in blocks of its own. -/
theorem TOn.all {w0 w : World} {g bm B E : Nat} {t : Tb} (h : TOn w0 g bm B E t w) (ok : t.Ok) :
    Calls Try.prog 10 #[.pointer (some ⟨g, 0, none⟩)] w fun e w' => ∃ v, e = .returned v ∧ KeysAt w' w.heap.size v (keysL t.fl) ∧ TOn w0 g bm B E t w' ∧ (∀ v l, KeysIn w B E v l → KeysIn w' B E v l) ∧ Below w.heap.size w w' ∧ TOn w0 g bm w.heap.size w'.heap.size t w' := by
  have h' := h
  obtain ⟨F, hT, h0, h1, h2, h3⟩ := h
  refine (tball_any hT ok).mono ?_
  rintro e w' ⟨v, rfl, hk, hb⟩
  obtain ⟨q1, q2⟩ := h'.step hb
  exact ⟨v, rfl, hk, q1, q2, hb, F, hT.below hb, h0, fun i hi => .inl (hT.foot_lt i hi), Nat.le_refl _, h3.trans (hb.mono h3.size)⟩
theorem TOn.keys {w0 w : World} {g bm B E : Nat} {t : Tb} (h : TOn w0 g bm B E t w) (ok : t.Ok) (th s : Int) {r : Int} {l : List Ky} {t2 : Tb} (hr : t.may th s = r) (hl : t.keysR th s = l) (ht2 : t.keysT th s = t2) :
    Calls Try.prog 12 #[.pointer (some ⟨g, 0, none⟩), .int .i64 th, .int .i64 s] w fun e w' => ∃ v, e = .returned (.tuple #[v, .int .i64 r]) ∧ KeysAt w' w.heap.size v l ∧ TOn w0 g bm B E t2 w' ∧ (∀ v l, KeysIn w B E v l → KeysIn w' B E v l) := by
  subst hr; subst hl; subst ht2
  obtain ⟨F, hT, h0, h1, h2, h3⟩ := h
  refine (tbkeys_any hT ok th s).mono ?_
  rintro e w' ⟨v, rfl, hk, F', hT', ht, hx⟩
  obtain ⟨q1, q2⟩ := TOn.turn (t := t) hT' h0 h1 h2 h3 ht hx
  exact ⟨v, rfl, hk, q1, q2⟩
theorem TOn.log {w0 w : World} {g bm B E : Nat} {t : Tb} (h : TOn w0 g bm B E t w) (hs : t.m.small) {n : Nat} (hn : t.m.Lg.length = n) :
    Calls Try.prog 28 #[.pointer (some ⟨bm, 0, none⟩)] w fun e w' => ∃ a c, e = .returned (.slice a n c) ∧ TOn w0 g bm B E t w' ∧ (∀ v l, KeysIn w B E v l → KeysIn w' B E v l) ∧ Below w.heap.size w w' := by
  subst hn
  have h' := h
  obtain ⟨F, hT, h0, h1, h2, h3⟩ := h
  obtain ⟨Fm, hm⟩ := hT.mem
  refine (log_any bm Fm t.m w hm hs).mono ?_
  rintro e w' ⟨a, c, rfl, _, hb⟩
  exact ⟨a, c, rfl, (h'.step hb).1, (h'.step hb).2, hb⟩
end Go.Proofs.Ytahgapkecabnjaa
/- The fixed fact of layer 20. Printed by gen_tabg.py. -/
namespace Go.Proofs.Ytahgapkecabnjaa
set_option linter.unusedSimpArgs false
set_option linter.unusedVariables false
open Go Go.RowKit Go.Maps Go.Shelf Go.Sort

theorem WH.two {P : Program} {Q : Exit → Act → World → Prop} {ops : Array Oper} {S : World → Prop} (i j : Nat) {oi oj : Oper} {fuel : Nat} {listed : Array Bool} {a : Act} {w : World} (hr : Region.ready .any ops listed = [i, j]) (hi : ops[i]? = some oi) (hj : ops[j]? = some oj)
    (hwi : Region.wanted oi (yielded ops a.tmps) = true) (hwj : Region.wanted oj (yielded ops a.tmps) = true)
    (h1 : oi.wp P a w (fun a' w' => S w' ∧ WH P ops Q S fuel (listed.setIfInBounds i true) a' w') Q)
    (h2 : oj.wp P a w (fun a' w' => S w' ∧ WH P ops Q S fuel (listed.setIfInBounds j true) a' w') Q) : WH P ops Q S (fuel + 1) listed a w :=
  ⟨wpAnyH_all hr (by simp) (fun k hk => by
    rcases List.mem_cons.1 hk with rfl | hk
    · unfold wpOp
      rw [hi]
      simp only [hwi, if_true]
      exact .inl (Oper.wp_mono (fun a' w' h' => ⟨h'.1, h'.2.out⟩) h1)
    · obtain rfl := List.mem_singleton.1 hk
      unfold wpOp
      rw [hj]
      simp only [hwj, if_true]
      exact .inl (Oper.wp_mono (fun a' w' h' => ⟨h'.1, h'.2.out⟩) h2))⟩
theorem TOn.guard {w0 w w' : World} {g bm B E : Nat} {t : Tb} (h : TOn w0 g bm B E t w) (hb : Below w.heap.size w w') : TOn w0 g bm w.heap.size w'.heap.size t w' := by
  obtain ⟨F, hT, h0, h1, h2, h3⟩ := h
  exact ⟨F, hT.below hb, h0, fun i hi => .inl (hT.foot_lt i hi), Nat.le_refl _, h3.trans (hb.mono h3.size)⟩
theorem TOn.mem_post {w0 w : World} {g bm B E : Nat} {t t2 : Tb} {f : FuncId} {args : Array Value} {r r' : Value} {m' : M} (h : TOn w0 g bm B E t w) (hc : ∀ Fm, Mem w bm Fm t.m → Calls Try.prog f args w (MemPost w bm Fm r m')) (hr : r = r') (ht : ({ t with m := m' } : Tb) = t2) :
    Calls Try.prog f args w (TOnPost w0 g bm B E r' t2 w) := h.post (fun F hT => hT.mem_post hc) hr ht
theorem TOn.new3 {w0 w : World} {g bm B E : Nat} {t : Tb} (h : TOn w0 g bm B E t w) : Calls Try.prog 7 #[.pointer (some ⟨bm, 0, none⟩), .int .i64 3] w fun e w' => e = .returned (.pointer none) ∧ Below w.heap.size w w' := by
  obtain ⟨F, hT, _⟩ := h
  obtain ⟨Fm, hm⟩ := hT.mem
  refine (tnew_any hm 3).mono ?_
  rintro e w' ⟨hb, hh⟩
  rcases hh with ⟨_, rfl⟩ | ⟨n, _, _, hn, en, _⟩
  · exact ⟨rfl, hb⟩
  · obtain rfl : n = 3 := by omega
    exact absurd hn (by decide)
def k6 : Ky := ⟨0, 0, 0, 0, 6⟩
theorem KeysIn.key5 {w : World} {B E b : Nat} {k : Ky} (h : KeysIn w B E (.slice (some ⟨b, 0, none⟩) 1 1) [k]) : w.cell? ⟨b, 0, none⟩ = some (.int .u32 k.a0) ∧ w.cell? ⟨b, 1, none⟩ = some (.int .u32 k.a1) ∧ w.cell? ⟨b, 2, none⟩ = some (.int .u16 k.p0) ∧ w.cell? ⟨b, 3, none⟩ = some (.int .u16 k.p1) ∧ w.cell? ⟨b, 4, none⟩ = some (.int .u8 k.pr) := by
  obtain ⟨g, e, _, h0, h1, h2, h3, h4⟩ := h.1.cells5 rfl (j := 0) (k := k) rfl
  cases e
  exact ⟨by simpa using h0, by simpa using h1, by simpa using h2, by simpa using h3, by simpa using h4⟩
theorem k6_five {w : World} {B E b : Nat} (h : KeysIn w B E (.slice (some ⟨b, 0, none⟩) 1 1) [k6]) : w.cell? ⟨b, 0, none⟩ = some (.int .u32 0) ∧ w.cell? ⟨b, 1, none⟩ = some (.int .u32 0) ∧ w.cell? ⟨b, 2, none⟩ = some (.int .u16 0) ∧ w.cell? ⟨b, 3, none⟩ = some (.int .u16 0) ∧ w.cell? ⟨b, 4, none⟩ = some (.int .u8 6) := h.key5
theorem k6_in : k6.In := ⟨by decide, by decide, by decide, by decide, by decide⟩
theorem key_new (w : World) (k : Ky) : KeysAt (w.alloc (.cells (kyC k) 28)) w.heap.size (.slice (some ⟨w.heap.size, 0, none⟩) 1 1) [k] := ⟨_, _, rfl, fun j x hj => ⟨_, rfl, Nat.le_refl _, by
  have e : kysL [k] = kyL k := by simp [kysL]
  rw [e] at hj
  unfold kyL at hj
  rw [Array.getElem?_toList] at hj
  simp [hj]⟩⟩
/-- The states of the fixed fact. -/
def a20 (L : List Int) (n : Nat) (fl : Kl (Int × Bool)) : Tb := ⟨⟨[], L, [⟨7, 1, 1⟩, ⟨7, 6, 2⟩, ⟨7, 5, 2⟩].take n⟩, 1, fl⟩
theorem a20_ok (L : List Int) (n : Nat) (fl : Kl (Int × Bool)) (hL : L.length < 1073741824) (hf : fl = [] ∨ fl = [(k6, (3, true))]) : (a20 L n fl).Ok := by
  refine ⟨(by decide : 1 ∈ pows), ?_, ?_, ?_, ⟨(by decide : (0 : Nat) < 1073741824), hL, by simp [a20]; omega⟩⟩
  · rcases hf with rfl | rfl
    · exact List.Pairwise.nil
    · exact List.pairwise_singleton _ _
  · rcases hf with rfl | rfl
    · intro k hk; cases hk
    · intro k hk
      obtain rfl := List.mem_singleton.1 hk
      exact k6_in
  · rcases hf with rfl | rfl <;> simp [a20]
theorem of_one (t : Tb) (h : t.n = 1) (k : Ky) : t.of k = 0 := by unfold Tb.of stripeF; rw [h, Nat.mod_one]
theorem a20_may1 : (a20 [-1] 0 []).may 7 ((a20 [-1] 0 []).of k6 : Nat) = 13 := by rw [of_one _ rfl]; decide
theorem a20_may2 (n : Nat) (fl) : (a20 [7] n fl).may 7 ((a20 [7] n fl).of k6 : Nat) = 0 := by rw [of_one _ rfl]; rfl
theorem a20_may3 (n : Nat) (fl) : (a20 [7] n fl).may 8 ((a20 [7] n fl).of k6 : Nat) = 13 := by rw [of_one _ rfl]; rfl
theorem a20_put1 : (a20 [-1] 0 []).put 7 k6 3 true = a20 [-1] 0 [] := by unfold Tb.put; rw [a20_may1]; rfl
theorem a20_put2 : (a20 [7] 1 []).put 7 k6 3 true = a20 [7] 2 [(k6, (3, true))] := by unfold Tb.put; rw [a20_may2, if_pos rfl, of_one _ rfl]; rfl
theorem a20_find1 : (a20 [7] 2 [(k6, (3, true))]).find 7 k6 = a20 [7] 3 [(k6, (3, true))] := by unfold Tb.find; rw [a20_may2, if_pos rfl, of_one _ rfl]; rfl
theorem a20_find1R : (a20 [7] 2 [(k6, (3, true))]).findR 7 k6 = .tuple #[.int .i64 3, .bool true, .bool true, .int .i64 0] := by unfold Tb.findR; rw [a20_may2, if_pos rfl]; rfl
theorem a20_find2 : (a20 [7] 3 [(k6, (3, true))]).find 8 k6 = a20 [7] 3 [(k6, (3, true))] := by unfold Tb.find; rw [a20_may3]; rfl
theorem a20_find2R : (a20 [7] 3 [(k6, (3, true))]).findR 8 k6 = .tuple #[.int .i64 0, .bool false, .bool false, .int .i64 13] := by unfold Tb.findR; rw [a20_may3]; rfl
theorem a20_lock : ({ a20 [-1] 0 [] with m := (a20 [-1] 0 []).m.lock 7 0 } : Tb) = a20 [7] 1 [] := by rfl
theorem lockV20 : (Value.bool ((a20 [-1] 0 []).m.lockOk 7 0)) = .bool true := by rfl
set_option maxHeartbeats 8000000 in
set_option maxRecDepth 100000 in
theorem awake20_any (w : World) : Calls Try.prog 15 #[] w fun e w' => e = .returned (.bool true) ∧ Below w.heap.size w w' := by
  go_enter Try.func15, Try.ntmps15
  go_wp2_with fail
  refine (On.new 0 1 w w (Below.refl _ _) (m := (a20 [-1] 0 []).m) rfl).mono ?_
  rintro e w1 ⟨bm, rfl, h⟩
  go_wp2_with fail
  refine (show Calls _ _ _ _ _ from TOn.new h (n := 1) (by decide)).mono ?_
  rintro e w2 ⟨g, rfl, h2⟩
  have H2 : Hid (TOn w g bm 0 0 (a20 [-1] 0 []) w2) := Lib.hid h2
  clear h h2
  go_wp2_with fail
  have hb3 : Below w2.heap.size w2 (w2.alloc (.cells #[.int .u32 0, .int .u32 0, .int .u16 0, .int .u16 0, .int .u8 6] 28)) := (Below.refl _ w2).alloc (Nat.le_refl _) _
  have H3 := Lib.hid (H2.out.guard hb3)
  have KI3 : Hid (KeysIn (w2.alloc (.cells #[.int .u32 0, .int .u32 0, .int .u16 0, .int .u16 0, .int .u8 6] 28)) w2.heap.size (w2.alloc (.cells #[.int .u32 0, .int .u32 0, .int .u16 0, .int .u16 0, .int .u8 6] 28)).heap.size (.slice (some ⟨w2.heap.size, 0, none⟩) 1 1) [k6]) := Lib.hid (KeysIn.of_at (key_new w2 k6))
  have c0 : True := trivial
  have c1 : True := trivial
  have c2 : True := trivial
  have c3 : True := trivial
  have c4 : True := trivial
  generalize (w2.alloc (.cells #[.int .u32 0, .int .u32 0, .int .u16 0, .int .u16 0, .int .u8 6] 28)) = w3 at *
  clear hb3 H2
  refine (H3.out.post (fun F hT => tbput_any hT (a20_ok [-1] 0 [] (by decide) (.inl rfl)) k6_in 7 3 true) (congrArg (Value.int .i64) a20_may1) a20_put1).mono ?_
  rintro e w4 ⟨rfl, h4, q4⟩
  have H4 := Lib.hid h4
  have KI4 := Lib.hid (q4 _ _ KI3.out)
  clear h4 q4 c0 c1 c2 c3 c4
  obtain ⟨c0, c1, c2, c3, c4⟩ := k6_five KI4.out
  go_wp2_with fail
  refine (H4.out.post (fun F hT => hT.mem_post (fun Fm hm => lock_any bm Fm _ 7 0 _ hm (a20_ok [-1] 0 [] (by decide) (.inl rfl)).sm)) lockV20 a20_lock).mono ?_
  rintro e w5 ⟨rfl, h5, q5⟩
  have H5 := Lib.hid h5
  have KI5 := Lib.hid (q5 _ _ KI4.out)
  clear h5 q5 c0 c1 c2 c3 c4
  obtain ⟨c0, c1, c2, c3, c4⟩ := k6_five KI5.out
  go_wp2_with fail
  refine (H5.out.post (fun F hT => tbput_any hT (a20_ok [7] 1 [] (by decide) (.inl rfl)) k6_in 7 3 true) (congrArg (Value.int .i64) (a20_may2 1 [])) a20_put2).mono ?_
  rintro e w6 ⟨rfl, h6, q6⟩
  have H6 := Lib.hid h6
  have KI6 := Lib.hid (q6 _ _ KI5.out)
  clear h6 q6 c0 c1 c2 c3 c4
  obtain ⟨c0, c1, c2, c3, c4⟩ := k6_five KI6.out
  go_wp2_with fail
  refine (H6.out.post (fun F hT => tbfind_any hT (a20_ok [7] 2 _ (by decide) (.inr rfl)) k6_in 7) a20_find1R a20_find1).mono ?_
  rintro e w7 ⟨rfl, h7, q7⟩
  have H7 := Lib.hid h7
  have KI7 := Lib.hid (q7 _ _ KI6.out)
  clear h7 q7 c0 c1 c2 c3 c4
  obtain ⟨c0, c1, c2, c3, c4⟩ := k6_five KI7.out
  go_wp2_with fail
  refine (H7.out.post (fun F hT => tbfind_any hT (a20_ok [7] 3 _ (by decide) (.inr rfl)) k6_in 8) a20_find2R a20_find2).mono ?_
  rintro e w8 ⟨rfl, h8, q8⟩
  have H8 := Lib.hid h8
  have KI8 := Lib.hid (q8 _ _ KI7.out)
  clear h8 q8 c0 c1 c2 c3 c4
  obtain ⟨c0, c1, c2, c3, c4⟩ := k6_five KI8.out
  go_wp2_with fail
  have HS0 : Hid (Since w8 w8.drew) := Lib.hid ((Below.refl _ w8).trans ⟨rfl, rfl, rfl, Nat.le_refl _, fun _ _ => rfl⟩)
  refine WH.enter (Since w8) (by kernel_rfl) 43 rfl ?_
  refine WH.take 0 (some 42) rfl rfl (by kernel_rfl) (by kernel_rfl) (by kernel_rfl) (fun _ _ _ h => h) (by rfl) (fun v hv => by have k0 := hv.cell c0; have k1 := hv.cell c1; have k2 := hv.cell c2; have k3 := hv.cell c3; have k4 := hv.cell c4; go_simp; first | done | with_reducible rfl | (rw [if_neg (by omega)])) HS0.out ?_; simp only [Act.put, List.setIfInBounds_toArray, List.set_cons_zero, List.set_cons_succ]
  refine WH.take 1 (some 43) rfl rfl (by kernel_rfl) (by kernel_rfl) (by kernel_rfl) (fun _ _ _ h => h) (by rfl) (fun v hv => by have k0 := hv.cell c0; have k1 := hv.cell c1; have k2 := hv.cell c2; have k3 := hv.cell c3; have k4 := hv.cell c4; go_simp; first | done | with_reducible rfl | (rw [if_neg (by omega)])) HS0.out ?_; simp only [Act.put, List.setIfInBounds_toArray, List.set_cons_zero, List.set_cons_succ]
  refine WH.take 2 (some 44) rfl rfl (by kernel_rfl) (by kernel_rfl) (by kernel_rfl) (fun _ _ _ h => h) (by rfl) (fun v hv => by have k0 := hv.cell c0; have k1 := hv.cell c1; have k2 := hv.cell c2; have k3 := hv.cell c3; have k4 := hv.cell c4; go_simp; first | done | with_reducible rfl | (rw [if_neg (by omega)])) HS0.out ?_; simp only [Act.put, List.setIfInBounds_toArray, List.set_cons_zero, List.set_cons_succ]
  refine WH.take 3 (some 45) rfl rfl (by kernel_rfl) (by kernel_rfl) (by kernel_rfl) (fun _ _ _ h => h) (by rfl) (fun v hv => by have k0 := hv.cell c0; have k1 := hv.cell c1; have k2 := hv.cell c2; have k3 := hv.cell c3; have k4 := hv.cell c4; go_simp; first | done | with_reducible rfl | (rw [if_neg (by omega)])) HS0.out ?_; simp only [Act.put, List.setIfInBounds_toArray, List.set_cons_zero, List.set_cons_succ]
  refine WH.take 4 (some 46) rfl rfl (by kernel_rfl) (by kernel_rfl) (by kernel_rfl) (fun _ _ _ h => h) (by rfl) (fun v hv => by have k0 := hv.cell c0; have k1 := hv.cell c1; have k2 := hv.cell c2; have k3 := hv.cell c3; have k4 := hv.cell c4; go_simp; first | done | with_reducible rfl | (rw [if_neg (by omega)])) HS0.out ?_; simp only [Act.put, List.setIfInBounds_toArray, List.set_cons_zero, List.set_cons_succ]
  refine WH.take 5 (some 47) rfl rfl (by kernel_rfl) (by kernel_rfl) (by kernel_rfl) (fun _ _ _ h => h) (by rfl) (fun v hv => by have k0 := hv.cell c0; have k1 := hv.cell c1; have k2 := hv.cell c2; have k3 := hv.cell c3; have k4 := hv.cell c4; go_simp; first | done | with_reducible rfl | (rw [if_neg (by omega)])) HS0.out ?_; simp only [Act.put, List.setIfInBounds_toArray, List.set_cons_zero, List.set_cons_succ]
  refine WH.take 6 (some 48) rfl rfl (by kernel_rfl) (by kernel_rfl) (by kernel_rfl) (fun _ _ _ h => h) (by rfl) (fun v hv => by have k0 := hv.cell c0; have k1 := hv.cell c1; have k2 := hv.cell c2; have k3 := hv.cell c3; have k4 := hv.cell c4; go_simp; first | done | with_reducible rfl | (rw [if_neg (by omega)])) HS0.out ?_; simp only [Act.put, List.setIfInBounds_toArray, List.set_cons_zero, List.set_cons_succ]
  refine WH.take 7 (some 49) rfl rfl (by kernel_rfl) (by kernel_rfl) (by kernel_rfl) (fun _ _ _ h => h) (by rfl) (fun v hv => by have k0 := hv.cell c0; have k1 := hv.cell c1; have k2 := hv.cell c2; have k3 := hv.cell c3; have k4 := hv.cell c4; go_simp; first | done | with_reducible rfl | (rw [if_neg (by omega)])) HS0.out ?_; simp only [Act.put, List.setIfInBounds_toArray, List.set_cons_zero, List.set_cons_succ]
  refine WH.take 8 (some 50) rfl rfl (by kernel_rfl) (by kernel_rfl) (by kernel_rfl) (fun _ _ _ h => h) (by rfl) (fun v hv => by have k0 := hv.cell c0; have k1 := hv.cell c1; have k2 := hv.cell c2; have k3 := hv.cell c3; have k4 := hv.cell c4; go_simp; first | done | with_reducible rfl | (rw [if_neg (by omega)])) HS0.out ?_; simp only [Act.put, List.setIfInBounds_toArray, List.set_cons_zero, List.set_cons_succ]
  refine WH.take 9 (some 51) rfl rfl (by kernel_rfl) (by kernel_rfl) (by kernel_rfl) (fun _ _ _ h => h) (by rfl) (fun v hv => by have k0 := hv.cell c0; have k1 := hv.cell c1; have k2 := hv.cell c2; have k3 := hv.cell c3; have k4 := hv.cell c4; go_simp; first | done | with_reducible rfl | (rw [if_neg (by omega)])) HS0.out ?_; simp only [Act.put, List.setIfInBounds_toArray, List.set_cons_zero, List.set_cons_succ]
  refine WH.take 10 (some 52) rfl rfl (by kernel_rfl) (by kernel_rfl) (by kernel_rfl) (fun _ _ _ h => h) (by rfl) (fun v hv => by have k0 := hv.cell c0; have k1 := hv.cell c1; have k2 := hv.cell c2; have k3 := hv.cell c3; have k4 := hv.cell c4; go_simp; first | done | with_reducible rfl | (rw [if_neg (by omega)])) HS0.out ?_; simp only [Act.put, List.setIfInBounds_toArray, List.set_cons_zero, List.set_cons_succ]
  refine WH.take 11 (some 53) rfl rfl (by kernel_rfl) (by kernel_rfl) (by kernel_rfl) (fun _ _ _ h => h) (by rfl) (fun v hv => by have k0 := hv.cell c0; have k1 := hv.cell c1; have k2 := hv.cell c2; have k3 := hv.cell c3; have k4 := hv.cell c4; go_simp; first | done | with_reducible rfl | (rw [if_neg (by omega)])) HS0.out ?_; simp only [Act.put, List.setIfInBounds_toArray, List.set_cons_zero, List.set_cons_succ]
  refine WH.take 12 (some 54) rfl rfl (by kernel_rfl) (by kernel_rfl) (by kernel_rfl) (fun _ _ _ h => h) (by rfl) (fun v hv => by have k0 := hv.cell c0; have k1 := hv.cell c1; have k2 := hv.cell c2; have k3 := hv.cell c3; have k4 := hv.cell c4; go_simp; first | done | with_reducible rfl | (rw [if_neg (by omega)])) HS0.out ?_; simp only [Act.put, List.setIfInBounds_toArray, List.set_cons_zero, List.set_cons_succ]
  refine WH.take 13 (some 55) rfl rfl (by kernel_rfl) (by kernel_rfl) (by kernel_rfl) (fun _ _ _ h => h) (by rfl) (fun v hv => by have k0 := hv.cell c0; have k1 := hv.cell c1; have k2 := hv.cell c2; have k3 := hv.cell c3; have k4 := hv.cell c4; go_simp; first | done | with_reducible rfl | (rw [if_neg (by omega)])) HS0.out ?_; simp only [Act.put, List.setIfInBounds_toArray, List.set_cons_zero, List.set_cons_succ]
  refine WH.take 14 (some 56) rfl rfl (by kernel_rfl) (by kernel_rfl) (by kernel_rfl) (fun _ _ _ h => h) (by rfl) (fun v hv => by have k0 := hv.cell c0; have k1 := hv.cell c1; have k2 := hv.cell c2; have k3 := hv.cell c3; have k4 := hv.cell c4; go_simp; first | done | with_reducible rfl | (rw [if_neg (by omega)])) HS0.out ?_; simp only [Act.put, List.setIfInBounds_toArray, List.set_cons_zero, List.set_cons_succ]
  refine WH.take 15 (some 57) rfl rfl (by kernel_rfl) (by kernel_rfl) (by kernel_rfl) (fun _ _ _ h => h) (by rfl) (fun v hv => by have k0 := hv.cell c0; have k1 := hv.cell c1; have k2 := hv.cell c2; have k3 := hv.cell c3; have k4 := hv.cell c4; go_simp; first | done | with_reducible rfl | (rw [if_neg (by omega)])) HS0.out ?_; simp only [Act.put, List.setIfInBounds_toArray, List.set_cons_zero, List.set_cons_succ]
  refine WH.take 16 (some 58) rfl rfl (by kernel_rfl) (by kernel_rfl) (by kernel_rfl) (fun _ _ _ h => h) (by rfl) (fun v hv => by have k0 := hv.cell c0; have k1 := hv.cell c1; have k2 := hv.cell c2; have k3 := hv.cell c3; have k4 := hv.cell c4; go_simp; first | done | with_reducible rfl | (rw [if_neg (by omega)])) HS0.out ?_; simp only [Act.put, List.setIfInBounds_toArray, List.set_cons_zero, List.set_cons_succ]
  refine WH.take 17 (some 59) rfl rfl (by kernel_rfl) (by kernel_rfl) (by kernel_rfl) (fun _ _ _ h => h) (by rfl) (fun v hv => by have k0 := hv.cell c0; have k1 := hv.cell c1; have k2 := hv.cell c2; have k3 := hv.cell c3; have k4 := hv.cell c4; go_simp; first | done | with_reducible rfl | (rw [if_neg (by omega)])) HS0.out ?_; simp only [Act.put, List.setIfInBounds_toArray, List.set_cons_zero, List.set_cons_succ]
  refine WH.take 18 (some 60) rfl rfl (by kernel_rfl) (by kernel_rfl) (by kernel_rfl) (fun _ _ _ h => h) (by rfl) (fun v hv => by have k0 := hv.cell c0; have k1 := hv.cell c1; have k2 := hv.cell c2; have k3 := hv.cell c3; have k4 := hv.cell c4; go_simp; first | done | with_reducible rfl | (rw [if_neg (by omega)])) HS0.out ?_; simp only [Act.put, List.setIfInBounds_toArray, List.set_cons_zero, List.set_cons_succ]
  refine WH.take 19 (some 61) rfl rfl (by kernel_rfl) (by kernel_rfl) (by kernel_rfl) (fun _ _ _ h => h) (by rfl) (fun v hv => by have k0 := hv.cell c0; have k1 := hv.cell c1; have k2 := hv.cell c2; have k3 := hv.cell c3; have k4 := hv.cell c4; go_simp; first | done | with_reducible rfl | (rw [if_neg (by omega)])) HS0.out ?_; simp only [Act.put, List.setIfInBounds_toArray, List.set_cons_zero, List.set_cons_succ]
  refine WH.take 20 (some 62) rfl rfl (by kernel_rfl) (by kernel_rfl) (by kernel_rfl) (fun _ _ _ h => h) (by rfl) (fun v hv => by have k0 := hv.cell c0; have k1 := hv.cell c1; have k2 := hv.cell c2; have k3 := hv.cell c3; have k4 := hv.cell c4; go_simp; first | done | with_reducible rfl | (rw [if_neg (by omega)])) HS0.out ?_; simp only [Act.put, List.setIfInBounds_toArray, List.set_cons_zero, List.set_cons_succ]
  refine WH.take 21 (some 63) rfl rfl (by kernel_rfl) (by kernel_rfl) (by kernel_rfl) (fun _ _ _ h => h) (by rfl) (fun v hv => by have k0 := hv.cell c0; have k1 := hv.cell c1; have k2 := hv.cell c2; have k3 := hv.cell c3; have k4 := hv.cell c4; go_simp; first | done | with_reducible rfl | (rw [if_neg (by omega)])) HS0.out ?_; simp only [Act.put, List.setIfInBounds_toArray, List.set_cons_zero, List.set_cons_succ]
  refine WH.take 22 (some 64) rfl rfl (by kernel_rfl) (by kernel_rfl) (by kernel_rfl) (fun _ _ _ h => h) (by rfl) (fun v hv => by have k0 := hv.cell c0; have k1 := hv.cell c1; have k2 := hv.cell c2; have k3 := hv.cell c3; have k4 := hv.cell c4; go_simp; first | done | with_reducible rfl | (rw [if_neg (by omega)])) HS0.out ?_; simp only [Act.put, List.setIfInBounds_toArray, List.set_cons_zero, List.set_cons_succ]
  refine WH.take 23 (some 65) rfl rfl (by kernel_rfl) (by kernel_rfl) (by kernel_rfl) (fun _ _ _ h => h) (by rfl) (fun v hv => by have k0 := hv.cell c0; have k1 := hv.cell c1; have k2 := hv.cell c2; have k3 := hv.cell c3; have k4 := hv.cell c4; go_simp; first | done | with_reducible rfl | (rw [if_neg (by omega)])) HS0.out ?_; simp only [Act.put, List.setIfInBounds_toArray, List.set_cons_zero, List.set_cons_succ]
  refine WH.take 24 (some 66) rfl rfl (by kernel_rfl) (by kernel_rfl) (by kernel_rfl) (fun _ _ _ h => h) (by rfl) (fun v hv => by have k0 := hv.cell c0; have k1 := hv.cell c1; have k2 := hv.cell c2; have k3 := hv.cell c3; have k4 := hv.cell c4; go_simp; first | done | with_reducible rfl | (rw [if_neg (by omega)])) HS0.out ?_; simp only [Act.put, List.setIfInBounds_toArray, List.set_cons_zero, List.set_cons_succ]
  refine WH.take 25 (some 67) rfl rfl (by kernel_rfl) (by kernel_rfl) (by kernel_rfl) (fun _ _ _ h => h) (by rfl) (fun v hv => by have k0 := hv.cell c0; have k1 := hv.cell c1; have k2 := hv.cell c2; have k3 := hv.cell c3; have k4 := hv.cell c4; go_simp; first | done | with_reducible rfl | (rw [if_neg (by omega)])) HS0.out ?_; simp only [Act.put, List.setIfInBounds_toArray, List.set_cons_zero, List.set_cons_succ]
  refine WH.take 27 (some 69) rfl rfl (by kernel_rfl) (by kernel_rfl) (by kernel_rfl) (fun _ _ _ h => h) (by rfl) (fun v hv => by have k0 := hv.cell c0; have k1 := hv.cell c1; have k2 := hv.cell c2; have k3 := hv.cell c3; have k4 := hv.cell c4; go_simp; first | done | with_reducible rfl | (rw [if_neg (by omega)])) HS0.out ?_; simp only [Act.put, List.setIfInBounds_toArray, List.set_cons_zero, List.set_cons_succ]
  refine WH.two 26 28 (by kernel_rfl) rfl rfl (by rfl) (by rfl) ?_ ?_
  · go_wp2_with fail
    refine ((H8.out.step HS0.out).1.all (a20_ok [7] 3 [(k6, (3, true))] (by decide) (.inr rfl))).mono ?_
    rintro e wA ⟨vA, rfl, kA, tA, -, bA, -⟩
    have HSA : Hid (Since w8 wA) := Lib.hid (Since.step HS0.out bA)
    obtain ⟨aA, cA, rfl⟩ := kA.shape
    have KA := Lib.hid kA
    have TA := Lib.hid tA
    clear kA tA bA
    go_wp2_with fail
    refine ⟨HSA.out, ?_⟩
    refine WH.one 28 (by kernel_rfl) rfl (by rfl) ?_
    have HSB : Hid (Since w8 (wA.alloc (.cells #[.int .u32 0, .int .u32 0, .int .u16 0, .int .u16 0, .int .u8 6] 28))) := Lib.hid (Below.alloc HSA.out HSA.out.size _)
    have KB : Hid (KeysAt (wA.alloc (.cells #[.int .u32 0, .int .u32 0, .int .u16 0, .int .u16 0, .int .u8 6] 28)) wA.heap.size (.slice (some ⟨wA.heap.size, 0, none⟩) 1 1) [k6]) := Lib.hid (key_new wA k6)
    have KA2 := Lib.hid (KA.out.below ((Below.refl _ wA).alloc (Nat.le_refl _) (.cells #[.int .u32 0, .int .u32 0, .int .u16 0, .int .u16 0, .int .u8 6] 28)))
    go_wp2_with fail
    refine ⟨HSB.out, ?_⟩
    refine WH.one 29 (by kernel_rfl) rfl (by rfl) ?_
    go_wp2_with fail
    refine (sameKeys_any KA2.out KB.out (by decide) (fun k hk => by obtain rfl := List.mem_singleton.1 hk; exact k6_in)).mono ?_
    rintro e wC ⟨rfl, bC⟩
    have HSC : Hid (Since w8 wC) := Lib.hid (Since.step HSB.out bC)
    clear bC
    go_wp2_with fail
    refine ⟨HSC.out, ?_⟩
    refine WH.take 30 (some 72) rfl rfl (by kernel_rfl) (by kernel_rfl) (by kernel_rfl) (fun _ _ _ h => h) (by rfl) (fun v hv => by have k0 := hv.cell c0; have k1 := hv.cell c1; have k2 := hv.cell c2; have k3 := hv.cell c3; have k4 := hv.cell c4; go_simp; first | done | with_reducible rfl | (rw [if_neg (by omega)])) HSC.out ?_; simp only [Act.put, List.setIfInBounds_toArray, List.set_cons_zero, List.set_cons_succ]
    refine WH.take 31 (some 73) rfl rfl (by kernel_rfl) (by kernel_rfl) (by kernel_rfl) (fun _ _ _ h => h) (by rfl) (fun v hv => by have k0 := hv.cell c0; have k1 := hv.cell c1; have k2 := hv.cell c2; have k3 := hv.cell c3; have k4 := hv.cell c4; go_simp; first | done | with_reducible rfl | (rw [if_neg (by omega)])) HSC.out ?_; simp only [Act.put, List.setIfInBounds_toArray, List.set_cons_zero, List.set_cons_succ]
    refine WH.take 32 (some 74) rfl rfl (by kernel_rfl) (by kernel_rfl) (by kernel_rfl) (fun _ _ _ h => h) (by rfl) (fun v hv => by have k0 := hv.cell c0; have k1 := hv.cell c1; have k2 := hv.cell c2; have k3 := hv.cell c3; have k4 := hv.cell c4; go_simp; first | done | with_reducible rfl | (rw [if_neg (by omega)])) HSC.out ?_; simp only [Act.put, List.setIfInBounds_toArray, List.set_cons_zero, List.set_cons_succ]
    refine WH.one 33 (by kernel_rfl) rfl (by rfl) ?_
    go_wp2_with fail
    refine ((H8.out.step HSC.out).1.log (a20_ok [7] 3 [(k6, (3, true))] (by decide) (.inr rfl)).sm (n := 3) rfl).mono ?_
    rintro e wD ⟨aD, cD, rfl, tD, -, bD⟩
    have HSD : Hid (Since w8 wD) := Lib.hid (Since.step HSC.out bD)
    clear tD bD
    go_wp2_with fail
    refine ⟨HSD.out, ?_⟩
    refine WH.take 34 (some 76) rfl rfl (by kernel_rfl) (by kernel_rfl) (by kernel_rfl) (fun _ _ _ h => h) (by rfl) (fun v hv => by have k0 := hv.cell c0; have k1 := hv.cell c1; have k2 := hv.cell c2; have k3 := hv.cell c3; have k4 := hv.cell c4; go_simp; first | done | with_reducible rfl | (rw [if_neg (by omega)])) HSD.out ?_; simp only [Act.put, List.setIfInBounds_toArray, List.set_cons_zero, List.set_cons_succ]
    refine WH.take 35 (some 77) rfl rfl (by kernel_rfl) (by kernel_rfl) (by kernel_rfl) (fun _ _ _ h => h) (by rfl) (fun v hv => by have k0 := hv.cell c0; have k1 := hv.cell c1; have k2 := hv.cell c2; have k3 := hv.cell c3; have k4 := hv.cell c4; go_simp; first | done | with_reducible rfl | (rw [if_neg (by omega)])) HSD.out ?_; simp only [Act.put, List.setIfInBounds_toArray, List.set_cons_zero, List.set_cons_succ]
    refine WH.take 36 (some 78) rfl rfl (by kernel_rfl) (by kernel_rfl) (by kernel_rfl) (fun _ _ _ h => h) (by rfl) (fun v hv => by have k0 := hv.cell c0; have k1 := hv.cell c1; have k2 := hv.cell c2; have k3 := hv.cell c3; have k4 := hv.cell c4; go_simp; first | done | with_reducible rfl | (rw [if_neg (by omega)])) HSD.out ?_; simp only [Act.put, List.setIfInBounds_toArray, List.set_cons_zero, List.set_cons_succ]
    refine WH.take 37 (some 79) rfl rfl (by kernel_rfl) (by kernel_rfl) (by kernel_rfl) (fun _ _ _ h => h) (by rfl) (fun v hv => by have k0 := hv.cell c0; have k1 := hv.cell c1; have k2 := hv.cell c2; have k3 := hv.cell c3; have k4 := hv.cell c4; go_simp; first | done | with_reducible rfl | (rw [if_neg (by omega)])) HSD.out ?_; simp only [Act.put, List.setIfInBounds_toArray, List.set_cons_zero, List.set_cons_succ]
    refine WH.take 38 (some 80) rfl rfl (by kernel_rfl) (by kernel_rfl) (by kernel_rfl) (fun _ _ _ h => h) (by rfl) (fun v hv => by have k0 := hv.cell c0; have k1 := hv.cell c1; have k2 := hv.cell c2; have k3 := hv.cell c3; have k4 := hv.cell c4; go_simp; first | done | with_reducible rfl | (rw [if_neg (by omega)])) HSD.out ?_; simp only [Act.put, List.setIfInBounds_toArray, List.set_cons_zero, List.set_cons_succ]
    refine WH.one 39 (by kernel_rfl) rfl (by rfl) ?_
    go_wp2_with fail
    refine ((H8.out.step HSD.out).1.new3).mono ?_
    rintro e wE ⟨rfl, bE⟩
    have HSE : Hid (Since w8 wE) := Lib.hid (Since.step HSD.out bE)
    clear bE
    go_wp2_with fail
    refine ⟨HSE.out, ?_⟩
    refine WH.take 40 (some 82) rfl rfl (by kernel_rfl) (by kernel_rfl) (by kernel_rfl) (fun _ _ _ h => h) (by rfl) (fun v hv => by have k0 := hv.cell c0; have k1 := hv.cell c1; have k2 := hv.cell c2; have k3 := hv.cell c3; have k4 := hv.cell c4; go_simp; first | done | with_reducible rfl | (rw [if_neg (by omega)])) HSE.out ?_; simp only [Act.put, List.setIfInBounds_toArray, List.set_cons_zero, List.set_cons_succ]
    refine WH.take 41 (some 83) rfl rfl (by kernel_rfl) (by kernel_rfl) (by kernel_rfl) (fun _ _ _ h => h) (by rfl) (fun v hv => by have k0 := hv.cell c0; have k1 := hv.cell c1; have k2 := hv.cell c2; have k3 := hv.cell c3; have k4 := hv.cell c4; go_simp; first | done | with_reducible rfl | (rw [if_neg (by omega)])) HSE.out ?_; simp only [Act.put, List.setIfInBounds_toArray, List.set_cons_zero, List.set_cons_succ]
    refine WH.take 42 (some 0) rfl rfl (by kernel_rfl) (by kernel_rfl) (by kernel_rfl) (fun _ _ _ h => h) (by rfl) (fun v hv => by have k0 := hv.cell c0; have k1 := hv.cell c1; have k2 := hv.cell c2; have k3 := hv.cell c3; have k4 := hv.cell c4; go_simp; first | done | with_reducible rfl | (rw [if_neg (by omega)])) HSE.out ?_; simp only [Act.put, List.setIfInBounds_toArray, List.set_cons_zero, List.set_cons_succ]
    refine WH.done (by kernel_rfl) ?_
    go_wp2_with fail
    go_ret
    exact ⟨rfl, H8.out.below.trans (Below.mono HSE.out H8.out.below.size)⟩
  · have HSA : Hid (Since w8 (w8.drew.alloc (.cells #[.int .u32 0, .int .u32 0, .int .u16 0, .int .u16 0, .int .u8 6] 28))) := Lib.hid (Below.alloc HS0.out (Nat.le_refl _) _)
    have KB0 : Hid (KeysAt (w8.drew.alloc (.cells #[.int .u32 0, .int .u32 0, .int .u16 0, .int .u16 0, .int .u8 6] 28)) w8.drew.heap.size (.slice (some ⟨w8.drew.heap.size, 0, none⟩) 1 1) [k6]) := Lib.hid (key_new w8.drew k6)
    go_wp2_with fail
    refine ⟨HSA.out, ?_⟩
    refine WH.one 26 (by kernel_rfl) rfl (by rfl) ?_
    go_wp2_with fail
    refine ((H8.out.step HSA.out).1.all (a20_ok [7] 3 [(k6, (3, true))] (by decide) (.inr rfl))).mono ?_
    rintro e wB ⟨vA, rfl, kA, tA, -, bA, -⟩
    have HSB : Hid (Since w8 wB) := Lib.hid (Since.step HSA.out bA)
    obtain ⟨aA, cA, rfl⟩ := kA.shape
    have KA2 := Lib.hid kA
    have KB := Lib.hid (KB0.out.below bA)
    clear kA tA bA
    go_wp2_with fail
    refine ⟨HSB.out, ?_⟩
    refine WH.one 29 (by kernel_rfl) rfl (by rfl) ?_
    go_wp2_with fail
    refine (sameKeys_any KA2.out KB.out (by decide) (fun k hk => by obtain rfl := List.mem_singleton.1 hk; exact k6_in)).mono ?_
    rintro e wC ⟨rfl, bC⟩
    have HSC : Hid (Since w8 wC) := Lib.hid (Since.step HSB.out bC)
    clear bC
    go_wp2_with fail
    refine ⟨HSC.out, ?_⟩
    refine WH.take 30 (some 72) rfl rfl (by kernel_rfl) (by kernel_rfl) (by kernel_rfl) (fun _ _ _ h => h) (by rfl) (fun v hv => by have k0 := hv.cell c0; have k1 := hv.cell c1; have k2 := hv.cell c2; have k3 := hv.cell c3; have k4 := hv.cell c4; go_simp; first | done | with_reducible rfl | (rw [if_neg (by omega)])) HSC.out ?_; simp only [Act.put, List.setIfInBounds_toArray, List.set_cons_zero, List.set_cons_succ]
    refine WH.take 31 (some 73) rfl rfl (by kernel_rfl) (by kernel_rfl) (by kernel_rfl) (fun _ _ _ h => h) (by rfl) (fun v hv => by have k0 := hv.cell c0; have k1 := hv.cell c1; have k2 := hv.cell c2; have k3 := hv.cell c3; have k4 := hv.cell c4; go_simp; first | done | with_reducible rfl | (rw [if_neg (by omega)])) HSC.out ?_; simp only [Act.put, List.setIfInBounds_toArray, List.set_cons_zero, List.set_cons_succ]
    refine WH.take 32 (some 74) rfl rfl (by kernel_rfl) (by kernel_rfl) (by kernel_rfl) (fun _ _ _ h => h) (by rfl) (fun v hv => by have k0 := hv.cell c0; have k1 := hv.cell c1; have k2 := hv.cell c2; have k3 := hv.cell c3; have k4 := hv.cell c4; go_simp; first | done | with_reducible rfl | (rw [if_neg (by omega)])) HSC.out ?_; simp only [Act.put, List.setIfInBounds_toArray, List.set_cons_zero, List.set_cons_succ]
    refine WH.one 33 (by kernel_rfl) rfl (by rfl) ?_
    go_wp2_with fail
    refine ((H8.out.step HSC.out).1.log (a20_ok [7] 3 [(k6, (3, true))] (by decide) (.inr rfl)).sm (n := 3) rfl).mono ?_
    rintro e wD ⟨aD, cD, rfl, tD, -, bD⟩
    have HSD : Hid (Since w8 wD) := Lib.hid (Since.step HSC.out bD)
    clear tD bD
    go_wp2_with fail
    refine ⟨HSD.out, ?_⟩
    refine WH.take 34 (some 76) rfl rfl (by kernel_rfl) (by kernel_rfl) (by kernel_rfl) (fun _ _ _ h => h) (by rfl) (fun v hv => by have k0 := hv.cell c0; have k1 := hv.cell c1; have k2 := hv.cell c2; have k3 := hv.cell c3; have k4 := hv.cell c4; go_simp; first | done | with_reducible rfl | (rw [if_neg (by omega)])) HSD.out ?_; simp only [Act.put, List.setIfInBounds_toArray, List.set_cons_zero, List.set_cons_succ]
    refine WH.take 35 (some 77) rfl rfl (by kernel_rfl) (by kernel_rfl) (by kernel_rfl) (fun _ _ _ h => h) (by rfl) (fun v hv => by have k0 := hv.cell c0; have k1 := hv.cell c1; have k2 := hv.cell c2; have k3 := hv.cell c3; have k4 := hv.cell c4; go_simp; first | done | with_reducible rfl | (rw [if_neg (by omega)])) HSD.out ?_; simp only [Act.put, List.setIfInBounds_toArray, List.set_cons_zero, List.set_cons_succ]
    refine WH.take 36 (some 78) rfl rfl (by kernel_rfl) (by kernel_rfl) (by kernel_rfl) (fun _ _ _ h => h) (by rfl) (fun v hv => by have k0 := hv.cell c0; have k1 := hv.cell c1; have k2 := hv.cell c2; have k3 := hv.cell c3; have k4 := hv.cell c4; go_simp; first | done | with_reducible rfl | (rw [if_neg (by omega)])) HSD.out ?_; simp only [Act.put, List.setIfInBounds_toArray, List.set_cons_zero, List.set_cons_succ]
    refine WH.take 37 (some 79) rfl rfl (by kernel_rfl) (by kernel_rfl) (by kernel_rfl) (fun _ _ _ h => h) (by rfl) (fun v hv => by have k0 := hv.cell c0; have k1 := hv.cell c1; have k2 := hv.cell c2; have k3 := hv.cell c3; have k4 := hv.cell c4; go_simp; first | done | with_reducible rfl | (rw [if_neg (by omega)])) HSD.out ?_; simp only [Act.put, List.setIfInBounds_toArray, List.set_cons_zero, List.set_cons_succ]
    refine WH.take 38 (some 80) rfl rfl (by kernel_rfl) (by kernel_rfl) (by kernel_rfl) (fun _ _ _ h => h) (by rfl) (fun v hv => by have k0 := hv.cell c0; have k1 := hv.cell c1; have k2 := hv.cell c2; have k3 := hv.cell c3; have k4 := hv.cell c4; go_simp; first | done | with_reducible rfl | (rw [if_neg (by omega)])) HSD.out ?_; simp only [Act.put, List.setIfInBounds_toArray, List.set_cons_zero, List.set_cons_succ]
    refine WH.one 39 (by kernel_rfl) rfl (by rfl) ?_
    go_wp2_with fail
    refine ((H8.out.step HSD.out).1.new3).mono ?_
    rintro e wE ⟨rfl, bE⟩
    have HSE : Hid (Since w8 wE) := Lib.hid (Since.step HSD.out bE)
    clear bE
    go_wp2_with fail
    refine ⟨HSE.out, ?_⟩
    refine WH.take 40 (some 82) rfl rfl (by kernel_rfl) (by kernel_rfl) (by kernel_rfl) (fun _ _ _ h => h) (by rfl) (fun v hv => by have k0 := hv.cell c0; have k1 := hv.cell c1; have k2 := hv.cell c2; have k3 := hv.cell c3; have k4 := hv.cell c4; go_simp; first | done | with_reducible rfl | (rw [if_neg (by omega)])) HSE.out ?_; simp only [Act.put, List.setIfInBounds_toArray, List.set_cons_zero, List.set_cons_succ]
    refine WH.take 41 (some 83) rfl rfl (by kernel_rfl) (by kernel_rfl) (by kernel_rfl) (fun _ _ _ h => h) (by rfl) (fun v hv => by have k0 := hv.cell c0; have k1 := hv.cell c1; have k2 := hv.cell c2; have k3 := hv.cell c3; have k4 := hv.cell c4; go_simp; first | done | with_reducible rfl | (rw [if_neg (by omega)])) HSE.out ?_; simp only [Act.put, List.setIfInBounds_toArray, List.set_cons_zero, List.set_cons_succ]
    refine WH.take 42 (some 0) rfl rfl (by kernel_rfl) (by kernel_rfl) (by kernel_rfl) (fun _ _ _ h => h) (by rfl) (fun v hv => by have k0 := hv.cell c0; have k1 := hv.cell c1; have k2 := hv.cell c2; have k3 := hv.cell c3; have k4 := hv.cell c4; go_simp; first | done | with_reducible rfl | (rw [if_neg (by omega)])) HSE.out ?_; simp only [Act.put, List.setIfInBounds_toArray, List.set_cons_zero, List.set_cons_succ]
    refine WH.done (by kernel_rfl) ?_
    go_wp2_with fail
    go_ret
    exact ⟨rfl, H8.out.below.trans (Below.mono HSE.out H8.out.below.size)⟩
end Go.Proofs.Ytahgapkecabnjaa
