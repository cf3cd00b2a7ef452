/- The reference's Put. Printed by gen_tabn.py. -/
import Derived.Test.YtahgapkecabnjaaC11
namespace Go.Proofs.Ytahgapkecabnjaa
set_option linter.unusedSimpArgs false
set_option linter.unusedVariables false
open Go Go.RowKit Go.Maps Go.Shelf Go.Sort

theorem wpList_valx {P : Program} {ops : Array Oper} {rest : List Oper} {op : Oper} {a : Act} {w : World} {Q : Exit → Act → World → Prop} (hw : Region.wanted op (yielded ops a.tmps) = true) {v : Value} (hr : (execOp a.eval op).run P w = .ok (.value v) w)
    (h : wpList P ops Q rest (a.put op.dst v) w) : wpList P ops Q (op :: rest) a w :=
  wpList_step fun K hK => by
    rw [if_pos hw]
    unfold Oper.wp
    rw [hr]
    exact hK _ _ h
/-- Where the tail of a row of flows begins. -/
def fromA (A : Option Addr) (c n : Nat) : Option Addr := A.map (fun ad => if c = n then ad else ⟨ad.block, ad.off + n * 7, none⟩)
set_option maxHeartbeats 1000000 in
theorem exec_from {o : Oper} {ev : Operand → Value} (x y : Operand) (ho : o.op = .slice 90 x (some y) none none) {A : Option Addr} {m c n : Nat} (hx : ev x = .slice A m c) (hy : ev y = .int .i64 (n : Nat)) (hn : n ≤ m) (hm : m ≤ c)
    (hA : A = none → m = 0 ∧ c = 0) (hp : ∀ ad, A = some ad → ∃ g q, ad = ⟨g, q, none⟩) (w : World) : (execOp ev o).run Try.prog w = .ok (.value (.slice (fromA A c n) (m - n) (c - n))) w := by
  cases A with
  | none =>
    obtain ⟨rfl, rfl⟩ := hA rfl
    obtain rfl : n = 0 := by omega
    unfold execOp
    simp only [ho, hx, hy]
    go_simp
    rfl
  | some ad =>
    obtain ⟨g, q, rfl⟩ := hp ad rfl
    unfold execOp fromA
    have h1 : (0 : Int) ≤ (n : Int) := by omega
    have h2 : (n : Int) ≤ (m : Int) := by omega
    have h3 : (m : Int) ≤ (c : Int) := by omega
    simp only [ho, hx, hy]
    go_simp
    split <;> rfl
theorem fromA_plain {A : Option Addr} {c n : Nat} (hp : ∀ ad, A = some ad → ∃ g q, ad = (⟨g, q, none⟩ : Addr)) : ∀ ad, fromA A c n = some ad → ∃ g q, ad = (⟨g, q, none⟩ : Addr) := by
  intro ad h
  cases A with
  | none => cases h
  | some a =>
    obtain ⟨g, q, rfl⟩ := hp a rfl
    unfold fromA at h
    simp only [Option.map_some, Option.some.injEq] at h
    subst h
    split
    · exact ⟨_, _, rfl⟩
    · exact ⟨_, _, rfl⟩
theorem fromA_nil {A : Option Addr} {c n : Nat} (h : fromA A c n = none) : A = none := by
  cases A with
  | none => rfl
  | some a => cases h
set_option maxHeartbeats 1000000 in
theorem exec_upto {o : Oper} {ev : Operand → Value} {w : World} (x y : Operand) (ho : o.op = .slice 90 x none (some y) none) {A : Option Addr} {m c n : Nat} (hx : ev x = .slice A m c) (hy : ev y = .int .i64 (n : Nat)) (hn : n ≤ c)
    (hA : A = none → m = 0 ∧ c = 0) (hp : ∀ ad, A = some ad → ∃ g q, ad = ⟨g, q, none⟩) : (execOp ev o).run Try.prog w = .ok (.value (.slice A n c)) w := by
  cases A with
  | none =>
    obtain ⟨rfl, rfl⟩ := hA rfl
    obtain rfl : n = 0 := by omega
    unfold execOp
    simp only [ho, hx, hy]
    go_simp
  | some ad =>
    obtain ⟨g, q, rfl⟩ := hp ad rfl
    unfold execOp
    have h1 : (0 : Int) ≤ (n : Int) := by omega
    have h2 : (n : Int) ≤ (c : Int) := by omega
    simp only [ho, hx, hy]
    go_simp
theorem toper_append_any {P : Program} {o : Oper} {a : Act} {w : World} {K : Act → World → Prop} {Q : Exit → Act → World → Prop} (s x : Operand) (t : TypeId)
    (ho : o.op = .call { callee := .builtin .append, args := #[s, x], argTypes := #[t, t] })
    (base : Nat) (e : TypeId) (i : TypeInfo) (z : Value) (size bytes : Nat) (ht : P.underlying t = some (.slice e)) (hi : P.info? e = some i) (hz : i.zero = some z)
    (hsize : i.size = size) (hby : i.bytes = bytes) (hzs : z.cells.size = size) (hsz : 0 < size)
    (v : Value) (n : Nat) (xs : List Value) (hs : a.eval s = v) (hown : w.ownsRow base e size v n xs)
    (A : Option Addr) (m c : Nat) (news : List Value) (hx : a.eval x = .slice A m c) (hl : news.length = m * size) (hnews : ∀ ad, A = some ad → ∀ j u, news[j]? = some u → w.cell? (ad.add j) = some u) (hnil : A = none → m = 0 ∧ c = 0) (h1 : ∀ u ∈ news, u.oneCell' = true)
    (h63 : n + m ≤ maxLen) (hbytes : (n + m) * bytes ≤ 140737488355328) (hbase : base ≤ w.heap.size)
    (h : ∀ v' w', w'.ownsRow base e size v' (n + m) (xs ++ news) → w.grownBy w' v.ownBlock → K (a.put o.dst v') w') :
    o.wp P a w K Q := by
  cases A with
  | some ad => exact toper_append s x t ho base e i z size bytes ht hi hz hsize hby hzs hsz v n xs hs hown ad m c news hx hl (hnews ad rfl) h1 h63 hbytes hbase (fun v' w' h2 h3 _ _ => h v' w' h2 h3)
  | none =>
    obtain ⟨rfl, rfl⟩ := hnil rfl
    have hn0 : news = [] := List.eq_nil_of_length_eq_zero (by simpa using hl)
    subst hn0
    obtain ⟨va, vc, rfl, hvc⟩ := owns_cap hown
    unfold Oper.wp execOp
    simp only [ho, resolve, invoke, builtin, Sem.run_bind, Sem.run_pure, Result.andThen_ok, List.map_toArray, List.map_cons, List.map_nil, hs, hx, run_append_nilx ht hi va n vc 0 hvc]
    exact h _ w (by simpa using hown) ⟨rfl, rfl, rfl, Nat.le_refl _, fun _ _ _ => rfl⟩
def ReadsAt (W : World) (A : Option Addr) (l : List Value) : Prop := ∀ ad, A = some ad → ∀ j u, l[j]? = some u → W.cell? (ad.add j) = some u
theorem reads_from {W : World} {A : Option Addr} {l : List Value} {m c n : Nat} (h : ReadsAt W A l) (hp : ∀ ad, A = some ad → ∃ g q, ad = (⟨g, q, none⟩ : Addr)) (hl : l.length = m * 7) (hn : n ≤ m) (hm : m ≤ c) : ReadsAt W (fromA A c n) (l.drop (n * 7)) := by
  cases A with
  | none => intro ad e; cases e
  | some a =>
    obtain ⟨g, q, rfl⟩ := hp a rfl
    intro ad e j u hj
    have hl2 := (List.getElem?_eq_some_iff.1 hj).1
    rw [List.length_drop] at hl2
    rw [List.getElem?_drop] at hj
    have h2 := h _ rfl _ _ hj
    unfold fromA at e
    simp only [Option.map_some, Option.some.injEq] at e
    subst e
    split
    · omega
    · rw [tadd_plain] at h2 ⊢
      rw [Nat.add_assoc]
      exact h2
theorem flowsT_drop (l : Kl (Int × Bool)) (n : Nat) (hn : n ≤ l.length) : flowsT (l.drop n) = (flowsT l).drop (n * 7) := by
  have e : flowsT l = flowsT (l.take n) ++ flowsT (l.drop n) := by rw [← flowsT_append, List.take_append_drop]
  have hl : (flowsT (l.take n)).length = n * 7 := by rw [flowsT_len, List.length_take]; congr 1; omega
  rw [e, ← hl, List.drop_left]
theorem own_alloc {w : World} {base : Nat} {e : TypeId} {size : Nat} {v : Value} {n : Nat} {xs : List Value} (h : w.ownsRow base e size v n xs) (o : Obj) : (w.alloc o).ownsRow base e size v n xs := by
  refine ⟨h.1, h.2.imp id ?_⟩
  rintro ⟨g, cap, cur, h1, h2, h3, h4⟩
  refine ⟨g, cap, cur, h1, h2, ?_, h4⟩
  have hlt : g < w.heap.size := by
    rcases Nat.lt_or_ge g w.heap.size with h | h
    · exact h
    · rw [Array.getElem?_eq_none h] at h3; cases h3
  rw [← h3]
  exact (((Below.refl w.heap.size w).alloc (Nat.le_refl _) o).block g hlt)
/-- What the literal of one flow holds. -/
theorem built_read (W : World) (p : Ky × (Int × Bool)) (j : Nat) (u : Value) (h : (flowT p)[j]? = some u) : (W.alloc (.cells (flowT p).toArray 97)).cell? ⟨W.heap.size, j, none⟩ = some u := by
  obtain ⟨hj, rfl⟩ := List.getElem?_eq_some_iff.1 h
  simp only [flowT, List.length_cons, List.length_nil] at hj
  match j, hj with
  | 0, _ => simp [flowT]
  | 1, _ => simp [flowT]
  | 2, _ => simp [flowT]
  | 3, _ => simp [flowT]
  | 4, _ => simp [flowT]
  | 5, _ => simp [flowT]
  | 6, _ => simp [flowT]
theorem reads_grown {w w' : World} {b : Nat} {row : Option Nat} {l : List Value} (h : ∀ j u, l[j]? = some u → w.cell? ⟨b, j, none⟩ = some u) (hg : w.grownBy w' row) (hr : some b ≠ row) : ∀ j u, l[j]? = some u → w'.cell? ⟨b, j, none⟩ = some u := fun j u hj =>
  (World.cell?_of_block (w := w) (hg.block b (World.block_lt_of_cell? w _ (h j u hj)) hr)).trans (h j u hj)
theorem reads_at {w : World} {b : Nat} {l : List Value} (h : ∀ j u, l[j]? = some u → w.cell? ⟨b, j, none⟩ = some u) : ∀ ad, some (⟨b, 0, none⟩ : Addr) = some ad → ∀ j u, l[j]? = some u → w.cell? (ad.add j) = some u := fun ad e j u hj => by
  cases e
  rw [tadd_plain, Nat.zero_add]
  exact h j u hj
theorem flowT_one (p : Ky × (Int × Bool)) : ∀ u ∈ flowT p, u.oneCell' = true := fun u hu => by
  simp [flowT] at hu
  rcases hu with h | h | h | h | h | h | h <;> subst h <;> rfl
set_option maxHeartbeats 8000000 in
set_option maxRecDepth 100000 in
theorem rtput_any {w : World} {u rm : Nat} {F : Nat → Prop} {t : Tb} (h : RTab w u rm F t) (ok : t.Ok) (hrm : t.m.Lg.length + 1 < 1073741824) (hh : t.m.held) {k : Ky} (hk : k.In) (th : Int) (x : Int) (tu : Bool) :
    Calls Try.prog 21 #[.pointer (some ⟨u, 0, none⟩), .int .i64 th, kyV k, .int .i64 x, .bool tu] w (RTabPost w u rm F (.int .i64 (t.may th (t.of k : Nat))) (t.put th k x tu)) := by
  have HB1 : Hid (Below w.heap.size w (w.alloc (.cells (kyC k) 28))) := Lib.hid ((Below.refl _ w).alloc (Nat.le_refl _) _)
  have HNF : Hid (¬ F w.heap.size) := Lib.hid (fun hf => Nat.lt_irrefl _ (h.foot_lt _ hf))
  have d0 : (w.alloc (.cells (kyC k) 28)).cell? ⟨w.heap.size, 0, none⟩ = some (.int .u32 k.a0) := by simp [kyC]
  have d1 : (w.alloc (.cells (kyC k) 28)).cell? ⟨w.heap.size, 1, none⟩ = some (.int .u32 k.a1) := by simp [kyC]
  have d2 : (w.alloc (.cells (kyC k) 28)).cell? ⟨w.heap.size, 2, none⟩ = some (.int .u16 k.p0) := by simp [kyC]
  have d3 : (w.alloc (.cells (kyC k) 28)).cell? ⟨w.heap.size, 3, none⟩ = some (.int .u16 k.p1) := by simp [kyC]
  have d4 : (w.alloc (.cells (kyC k) 28)).cell? ⟨w.heap.size, 4, none⟩ = some (.int .u8 k.pr) := by simp [kyC]
  have HOF := Lib.hid (fun (W : World) (h : RTab W u rm F t) => rtof_any h ok hk)
  have HMY := Lib.hid (fun (W : World) (h : RTab W u rm F t) => rtmay_any h ok hh th (t.of k : Nat))
  have HMM := Lib.hid (fun (W : World) (h : RTab W u rm F t) => h.mem_post (fun Fm hm => rtouch_any rm Fm t.m th 6 (t.of k : Nat) _ hm ok.sm))
  have hol := ok.of_lt k
  have hle := ok.le
  have HTW := Lib.hid h
  have HOK := Lib.hid ok
  have HK := Lib.hid hk
  have HRI := Lib.hid ok.rise
  have HRM := Lib.hid hrm
  clear hrm
  have HD0 : Hid (t.put th k x tu = if t.may th (t.of k : Nat) = 0 then ⟨t.m.touch th 6 (t.of k : Nat), t.n, putL t.fl k (x, tu)⟩ else t) := Lib.hid rfl
  generalize t.put th k x tu = t' at *
  clear h ok hk hh
  generalize hof : t.of k = sf at *
  generalize hmy : t.may th (sf : Nat) = my at *
  clear hof
  go_enter Try.func21, Try.ntmps21
  go_wp2_with fail
  have HT1 := Lib.hid (HTW.out.below HB1.out)
  generalize w.alloc (.cells (kyC k) 28) = w1 at *
  refine (HOF.out _ HT1.out).mono ?_
  rintro e w2 ⟨rfl, h2⟩
  have HB2 := Lib.hid (below_then HB1.out h2)
  have HT2 := Lib.hid (HTW.out.below HB2.out)
  have e0 := Since.cell h2 d0
  have e1 := Since.cell h2 d1
  have e2 := Since.cell h2 d2
  have e3 := Since.cell h2 d3
  have e4 := Since.cell h2 d4
  clear d0 d1 d2 d3 d4 h2
  go_wp2_with fail
  refine (HMY.out _ HT2.out).mono ?_
  rintro e w2' ⟨rfl, hw2'⟩
  subst w2'
  by_cases hz : my = 0
  · subst hz
    have q0 : ((0 : Int) != 0) = false := by decide
    obtain ⟨Fm, fv, hw, hF⟩ := id HT2.out
    have HS : Hid (RCells u rm w.heap.size k w2) := Lib.hid ⟨hw.cells.1, e0, e1, e2, e3, e4⟩
    clear hw hF e0 e1 e2 e3 e4
    go_wp2_with fail
    have HBD : Hid (Below w2.heap.size w2 w2.drew) := Lib.hid (Below.drew (Below.refl w2.heap.size w2))
    have HS0 := Lib.hid (HS.out.below HBD.out)
    have HT3 := Lib.hid (HT2.out.below HBD.out)
    refine WH.enter (RCells u rm w.heap.size k) (by kernel_rfl) 9 rfl ?_
    refine WH.take 0 (some 24) rfl rfl (by kernel_rfl) (by kernel_rfl) (by kernel_rfl) (fun _ _ _ h => h) (by rfl) (fun v hv => by obtain ⟨k0, k1, k2, k3, k4, k5⟩ := hv; go_simp; first | done | with_reducible rfl | (rw [if_neg (by omega)])) HS0.out ?_; simp only [Act.put, List.setIfInBounds_toArray, List.set_cons_zero, List.set_cons_succ]
    refine WH.take 1 (some 25) rfl rfl (by kernel_rfl) (by kernel_rfl) (by kernel_rfl) (fun _ _ _ h => h) (by rfl) (fun v hv => by obtain ⟨k0, k1, k2, k3, k4, k5⟩ := hv; go_simp; first | done | with_reducible rfl | (rw [if_neg (by omega)])) HS0.out ?_; simp only [Act.put, List.setIfInBounds_toArray, List.set_cons_zero, List.set_cons_succ]
    refine WH.take 2 (some 26) rfl rfl (by kernel_rfl) (by kernel_rfl) (by kernel_rfl) (fun _ _ _ h => h) (by rfl) (fun v hv => by obtain ⟨k0, k1, k2, k3, k4, k5⟩ := hv; go_simp; first | done | with_reducible rfl | (rw [if_neg (by omega)])) HS0.out ?_; simp only [Act.put, List.setIfInBounds_toArray, List.set_cons_zero, List.set_cons_succ]
    refine WH.take 3 (some 27) rfl rfl (by kernel_rfl) (by kernel_rfl) (by kernel_rfl) (fun _ _ _ h => h) (by rfl) (fun v hv => by obtain ⟨k0, k1, k2, k3, k4, k5⟩ := hv; go_simp; first | done | with_reducible rfl | (rw [if_neg (by omega)])) HS0.out ?_; simp only [Act.put, List.setIfInBounds_toArray, List.set_cons_zero, List.set_cons_succ]
    refine WH.take 4 (some 28) rfl rfl (by kernel_rfl) (by kernel_rfl) (by kernel_rfl) (fun _ _ _ h => h) (by rfl) (fun v hv => by obtain ⟨k0, k1, k2, k3, k4, k5⟩ := hv; go_simp; first | done | with_reducible rfl | (rw [if_neg (by omega)])) HS0.out ?_; simp only [Act.put, List.setIfInBounds_toArray, List.set_cons_zero, List.set_cons_succ]
    refine WH.take 5 (some 29) rfl rfl (by kernel_rfl) (by kernel_rfl) (by kernel_rfl) (fun _ _ _ h => h) (by rfl) (fun v hv => by obtain ⟨k0, k1, k2, k3, k4, k5⟩ := hv; go_simp; first | done | with_reducible rfl | (rw [if_neg (by omega)])) HS0.out ?_; simp only [Act.put, List.setIfInBounds_toArray, List.set_cons_zero, List.set_cons_succ]
    refine WH.take 6 (some 30) rfl rfl (by kernel_rfl) (by kernel_rfl) (by kernel_rfl) (fun _ _ _ h => h) (by rfl) (fun v hv => by obtain ⟨k0, k1, k2, k3, k4, k5⟩ := hv; go_simp; first | done | with_reducible rfl | (rw [if_neg (by omega)])) HS0.out ?_; simp only [Act.put, List.setIfInBounds_toArray, List.set_cons_zero, List.set_cons_succ]
    refine WH.one 7 (by kernel_rfl) rfl (by rfl) ?_
    go_wp2_with fail
    refine (HOF.out _ HT3.out).mono ?_
    rintro e w4 ⟨rfl, h4⟩
    have HT4 := Lib.hid (HT3.out.below h4)
    have HS4 := Lib.hid (HS0.out.below h4)
    have HB4 := Lib.hid (HBD.out.trans (Below.mono h4 HBD.out.size))
    clear h4
    go_wp2_with fail
    refine ⟨HS4.out, ?_⟩
    refine WH.one 8 (by kernel_rfl) rfl (by rfl) ?_
    go_wp2_with fail
    refine (HMM.out _ HT4.out).mono ?_
    rintro e w5 ⟨rfl, F5, h5, t5, x5⟩
    have HT5 := Lib.hid h5
    have HU5 : Hid (Turn F w w5) := Lib.hid (((Turn.of_below (F := F) HB2.out).trans (Turn.of_below (F := F) HB4.out) (fun i hi => .inl hi)).trans t5 (fun i hi => .inl hi))
    have HX5 : Hid (Ext w F F5) := Lib.hid (fun i hi => (x5 i hi).imp id (fun hle => Nat.le_trans HB2.out.size (Nat.le_trans HB4.out.size hle)))
    obtain ⟨Fm5, fv5, hw5, hF5⟩ := id h5
    have HS5 : Hid (RCells u rm w.heap.size k w5) := Lib.hid ⟨hw5.cells.1, t5.cell HS4.out.2.1 HNF.out, t5.cell HS4.out.2.2.1 HNF.out, t5.cell HS4.out.2.2.2.1 HNF.out, t5.cell HS4.out.2.2.2.2.1 HNF.out, t5.cell HS4.out.2.2.2.2.2 HNF.out⟩
    clear hw5 hF5 h5 t5 x5
    go_wp2_with fail
    refine ⟨HS5.out, ?_⟩
    refine WH.done (by kernel_rfl) ?_
    obtain ⟨-, d0, d1, d2, d3, d4⟩ := HS5.out
    have ok5 : (⟨t.m.touch th 6 (sf : Nat), t.n, t.fl⟩ : Tb).Ok := ⟨HOK.out.pow, HOK.out.rise, HOK.out.kin, HOK.out.few, M.touch_small HOK.out.sm _ _ _ (by have := HRM.out; omega)⟩
    have HPL := Lib.hid (rplace_any HT5.out ok5 HK.out)
    clear ok5
    go_wp2_with fail
    refine HPL.out.mono ?_
    rintro e w6 ⟨n, rfl, hst, h6⟩
    have HST := Lib.hid hst
    have HT6 := Lib.hid (HT5.out.below h6)
    have HU6 : Hid (Turn F w w6) := Lib.hid (HU5.out.trans (Turn.of_below (F := fun _ => False) h6) (fun _ h => h.elim))
    have f0 := Since.cell h6 d0
    have f1 := Since.cell h6 d1
    have f2 := Since.cell h6 d2
    have f3 := Since.cell h6 d3
    have f4 := Since.cell h6 d4
    have HZ6 : Hid (w.heap.size ≤ w6.heap.size) := Lib.hid HU6.out.size
    clear hst h6 d0 d1 d2 d3 d4 HPL HMM HMY HOF
    have HD : Hid (t' = ⟨t.m.touch th 6 (sf : Nat), t.n, putL t.fl k (x, tu)⟩) := Lib.hid (HD0.out.trans (if_pos trivial))
    clear HD0
    -- the list behind the place
    obtain ⟨s1, hs1, hpt⟩ : ∃ s1 : Nat, (s1 = if hasL t.fl k = true then 1 else 0) ∧ putL t.fl k (x, tu) = t.fl.take n ++ (k, (x, tu)) :: t.fl.drop (n + s1) ∧ n + s1 ≤ t.fl.length := by
      rcases stands_has HRI.out HST.out with ⟨y, hx1, hx2, hx3⟩ | ⟨hn1, hn2, hn3, hn4⟩
      · refine ⟨1, by rw [hx2]; rfl, ?_, (List.getElem?_eq_some_iff.1 hx1).1⟩
        rw [putL_at HRI.out hx1, List.set_eq_take_append_cons_drop, if_pos (List.getElem?_eq_some_iff.1 hx1).1]
      · exact ⟨0, by rw [hn2]; rfl, hn4 _, HST.out.1⟩
    obtain ⟨hpt, hsl⟩ := hpt
    have hnl := HST.out.1
    obtain ⟨Fm6, fv6, hw6, hF6⟩ := id HT6.out
    have HF6 := Lib.hid hF6
    obtain ⟨-, -, c2, hfz⟩ := hw6.cells
    obtain ⟨A, c, hfv, -⟩ := hw6.flows
    obtain ⟨-, hc1, hc2, hAn, hAp⟩ := hw6.fcap hfv
    simp only at hc1 hAn hfv
    have hAp2 : ∀ ad, A = some ad → ∃ g q, ad = (⟨g, q, none⟩ : Addr) := fun ad h => by obtain ⟨g, e⟩ := hAp ad h; exact ⟨g, 0, e⟩
    have HTL : Hid ((t.fl.take n).length = n) := Lib.hid (by rw [List.length_take]; omega)
    have HDL : Hid ((t.fl.drop (n + s1)).length = t.fl.length - (n + s1)) := Lib.hid List.length_drop
    have hsm := HOK.out.few
    have HRW := Lib.hid hw6
    have d0 : w6.cell? ⟨u, 2, none⟩ = some fv6 := c2
    rw [hfv] at d0
    have HFV := Lib.hid hfv
    have HPT := Lib.hid hpt
    have HRD : Hid (∀ g, A = some ⟨g, 0, none⟩ → ∀ W, Since w6 W → ∀ j v, (flowsT t.fl)[j]? = some v → W.cell? ⟨g, j, none⟩ = some v) := Lib.hid (fun g e W hW j v hj => Since.cell hW (flowsT_read HRW.out (by rw [HFV.out, e]) hj))
    unfold maxLen at hc2
    have HA0 : Hid (∀ g q, A = some ⟨g, q, none⟩ → q = 0) := Lib.hid (fun g q e => by obtain ⟨g', e2⟩ := hAp _ e; cases e2; rfl)
    have HAN := Lib.hid hAn
    have HAP := Lib.hid hAp2
    clear hw6 hF6 c2 hfv hpt hAp hAn hAp2 HST
    generalize hasL t.fl k = hs at *
    generalize hfl2 : t.fl.length = m at *
    have HM := Lib.hid hfl2
    clear hfl2
    have hmc : m ≤ c := hc1
    have hnm : n ≤ m := by omega
    have HP6 := Lib.hid (fromA_plain (c := c) (n := n) HAP.out)
    have HN6 : Hid (fromA A c n = none → m - n = 0 ∧ c - n = 0) := Lib.hid (fun e => by obtain ⟨h1, h2⟩ := HAN.out (fromA_nil e); omega)
    have HR6 : Hid (∀ W, Since w6 W → ReadsAt W A (flowsT t.fl)) := Lib.hid (fun W hW ad e j v hj => by
      obtain ⟨g, q, rfl⟩ := HAP.out ad e
      obtain rfl := HA0.out g q e
      rw [tadd_plain, Nat.zero_add]
      exact HRD.out g e W hW j v hj)
    have HR7 : Hid (∀ W, Since w6 W → ReadsAt W (fromA A c n) (flowsT (t.fl.drop n))) := Lib.hid (fun W hW => by
      rw [flowsT_drop _ _ (by have := HM.out; omega)]
      exact reads_from (HR6.out W hW) HAP.out (by rw [flowsT_len, HM.out]) (by omega) hmc)
    obtain ⟨i0, hi, hz0, hz1, hz2⟩ := info_parts flowTInfo
    generalize hs = b at *
    cases b with
    | true =>
      have hs2 : s1 = 1 := hs1
      subst hs2
      clear hs1
      have h1 : 1 ≤ m - n := by omega
      have h2 : m - n ≤ c - n := by omega
      have HNX : Hid (fromA (fromA A c n) (c - n) 1 = none → m - n - 1 = 0 ∧ c - n - 1 = 0) := Lib.hid (fun e => by obtain ⟨h1, h2⟩ := HN6.out (fromA_nil e); omega)
      have HRX : Hid (∀ W, Since w6 W → ReadsAt W (fromA (fromA A c n) (c - n) 1) (flowsT (t.fl.drop (n + 1)))) := Lib.hid (fun W hW => by
        have h := reads_from (n := 1) (HR7.out W hW) HP6.out (m := m - n) (by rw [flowsT_len, List.length_drop, HM.out]) h1 h2
        rw [← flowsT_drop _ _ (by rw [List.length_drop, HM.out]; omega), List.drop_drop] at h
        exact h)
      go_wp2_with (first
        | ((with_reducible show wpList _ _ _ _ _ _); refine wpList_valx (v := .slice (fromA A c n) (m - n) (c - n)) ?_ (exec_from (.tmp 42) (.tmp 43) ?_ (A := A) (m := m) (c := c) (n := n) ?_ ?_ hnm hmc HAN.out HAP.out _) ?_; rfl; rfl; rfl; rfl)
        | ((with_reducible show wpList _ _ _ _ _ _); refine wpList_valx (v := .slice (fromA (fromA A c n) (c - n) 1) (m - n - 1) (c - n - 1)) ?_ (exec_from (.tmp 46) (.const (.int .i64 1)) ?_ (A := fromA A c n) (m := m - n) (c := c - n) (n := 1) ?_ ?_ h1 h2 HN6.out HP6.out _) ?_; rfl; rfl; rfl; rfl))
      have HS0 : Hid (Since w6 w6.drew) := Lib.hid ((Below.refl _ w6).trans ⟨rfl, rfl, rfl, Nat.le_refl _, fun _ _ => rfl⟩)
      refine WG.enter (Since w6) 19 (by kernel_rfl) 20 rfl ?_
      refine WG.take 0 (some 48) rfl rfl (by kernel_rfl) (by kernel_rfl) (by kernel_rfl) (by kernel_rfl) (fun _ _ _ h => h) (by rfl) (fun v hv => by go_simp; first | done | with_reducible rfl | (rw [if_neg (by omega)])) HS0.out ?_; simp only [Act.put, List.setIfInBounds_toArray, List.set_cons_zero, List.set_cons_succ]
      refine WG.take 2 (some 50) rfl rfl (by kernel_rfl) (by kernel_rfl) (by kernel_rfl) (by kernel_rfl) (fun _ _ _ h => h) (by rfl) (fun v hv => by go_simp; first | done | with_reducible rfl | (rw [if_neg (by omega)])) HS0.out ?_; simp only [Act.put, List.setIfInBounds_toArray, List.set_cons_zero, List.set_cons_succ]
      refine WG.take 3 (some 51) rfl rfl (by kernel_rfl) (by kernel_rfl) (by kernel_rfl) (by kernel_rfl) (fun _ _ _ h => h) (by rfl) (fun v hv => by go_simp; first | done | with_reducible rfl | (rw [if_neg (by omega)])) HS0.out ?_; simp only [Act.put, List.setIfInBounds_toArray, List.set_cons_zero, List.set_cons_succ]
      refine WG.take 4 (some 52) rfl rfl (by kernel_rfl) (by kernel_rfl) (by kernel_rfl) (by kernel_rfl) (fun _ _ _ h => h) (by rfl) (fun v hv => by go_simp; first | done | with_reducible rfl | (rw [if_neg (by omega)])) HS0.out ?_; simp only [Act.put, List.setIfInBounds_toArray, List.set_cons_zero, List.set_cons_succ]
      refine WG.take 5 (some 53) rfl rfl (by kernel_rfl) (by kernel_rfl) (by kernel_rfl) (by kernel_rfl) (fun _ _ _ h => h) (by rfl) (fun v hv => by have k0 := Since.cell hv d0; go_simp; first | done | with_reducible rfl | (rw [if_neg (by omega)])) HS0.out ?_; simp only [Act.put, List.setIfInBounds_toArray, List.set_cons_zero, List.set_cons_succ]
      refine WG.take 6 (some 54) rfl rfl (by kernel_rfl) (by kernel_rfl) (by kernel_rfl) (by kernel_rfl) (fun _ _ _ h => h) (by rfl) (fun v hv => by go_simp; first | done | with_reducible rfl | (rw [if_neg (by omega)])) HS0.out ?_; simp only [Act.put, List.setIfInBounds_toArray, List.set_cons_zero, List.set_cons_succ]
      refine WG.take 7 (some 55) (v := .slice A n c) rfl rfl (by kernel_rfl) (by kernel_rfl) (by kernel_rfl) (by kernel_rfl) (fun _ _ _ h => h) (by rfl) (fun v hv => exec_upto (.tmp 53) (.tmp 54) rfl rfl rfl (by omega) HAN.out HAP.out) HS0.out ?_; simp only [Act.put, List.setIfInBounds_toArray, List.set_cons_zero, List.set_cons_succ]
      refine WG.take 9 (some 57) rfl rfl (by kernel_rfl) (by kernel_rfl) (by kernel_rfl) (by kernel_rfl) (fun _ _ _ h => h) (by rfl) (fun v hv => by have k0 := Since.cell hv f0; have k1 := Since.cell hv f1; have k2 := Since.cell hv f2; have k3 := Since.cell hv f3; have k4 := Since.cell hv f4; go_simp; first | done | with_reducible rfl) HS0.out ?_; simp only [Act.put, List.setIfInBounds_toArray, List.set_cons_zero, List.set_cons_succ]
      refine WG.take 10 (some 58) rfl rfl (by kernel_rfl) (by kernel_rfl) (by kernel_rfl) (by kernel_rfl) (fun _ _ _ h => h) (by rfl) (fun v hv => by go_simp; first | done | with_reducible rfl | (rw [if_neg (by omega)])) HS0.out ?_; simp only [Act.put, List.setIfInBounds_toArray, List.set_cons_zero, List.set_cons_succ]
      refine WG.take 11 (some 59) rfl rfl (by kernel_rfl) (by kernel_rfl) (by kernel_rfl) (by kernel_rfl) (fun _ _ _ h => h) (by rfl) (fun v hv => by go_simp; first | done | with_reducible rfl | (rw [if_neg (by omega)])) HS0.out ?_; simp only [Act.put, List.setIfInBounds_toArray, List.set_cons_zero, List.set_cons_succ]
      refine WG.take 12 (some 60) rfl rfl (by kernel_rfl) (by kernel_rfl) (by kernel_rfl) (by kernel_rfl) (fun _ _ _ h => h) (by rfl) (fun v hv => by go_simp; first | done | with_reducible rfl | (rw [if_neg (by omega)])) HS0.out ?_; simp only [Act.put, List.setIfInBounds_toArray, List.set_cons_zero, List.set_cons_succ]
      refine WG.take 15 (some 63) rfl rfl (by kernel_rfl) (by kernel_rfl) (by kernel_rfl) (by kernel_rfl) (fun _ _ _ h => h) (by rfl) (fun v hv => by go_simp; first | done | with_reducible rfl | (rw [if_neg (by omega)])) HS0.out ?_; simp only [Act.put, List.setIfInBounds_toArray, List.set_cons_zero, List.set_cons_succ]
      have HAT : Hid (A = none → n = 0 ∧ c = 0) := Lib.hid (fun e => by obtain ⟨h1, h2⟩ := HAN.out e; omega)
      have HS1 : Hid (Since w6 (w6.drew.alloc (.cells #[] 97))) := Lib.hid (Below.alloc HS0.out (Nat.le_refl _) _)
      have HB1 : Hid (Since w6 (w6.drew.alloc (.cells (flowT (k, (x, tu))).toArray 97))) := Lib.hid (Below.alloc HS0.out (Nat.le_refl _) _)
      have HB2 : Hid (Since w6 ((w6.drew.alloc (.cells #[] 97)).alloc (.cells (flowT (k, (x, tu))).toArray 97))) := Lib.hid (Below.alloc HS1.out (Below.size HS1.out) _)
      have HB3 : Hid (Since w6 ((w6.drew.alloc (.cells (flowT (k, (x, tu))).toArray 97)).alloc (.cells #[] 97))) := Lib.hid (Below.alloc HB1.out (Below.size HB1.out) _)
      have HM3 : Hid (((w6.drew.alloc (.cells (flowT (k, (x, tu))).toArray 97)).alloc (.cells #[] 97)).ownsRow w6.heap.size 97 7 (.slice (some ⟨w6.heap.size + 1, 0, none⟩) 0 0) 0 []) := Lib.hid (by
        have h := World.ownsRow_made (base := w6.heap.size) (e := 97) (size := 7) (w6.drew.alloc (.cells (flowT (k, (x, tu))).toArray 97)) #[] 0 (Below.size HB1.out) (Nat.zero_le _) rfl
        have e : (w6.drew.alloc (.cells (flowT (k, (x, tu))).toArray 97)).heap.size = w6.heap.size + 1 := by simp
        rw [e] at h
        exact h)
      have HX2 : Hid (∀ j v, (flowT (k, (x, tu)))[j]? = some v → ((w6.drew.alloc (.cells #[] 97)).alloc (.cells (flowT (k, (x, tu))).toArray 97)).cell? ⟨w6.heap.size + 1, j, none⟩ = some v) := Lib.hid (fun j v h => by
        have h2 := built_read (w6.drew.alloc (.cells #[] 97)) (k, (x, tu)) j v h
        have e : (w6.drew.alloc (.cells #[] 97)).heap.size = w6.heap.size + 1 := by simp
        rw [e] at h2
        exact h2)
      have HX3 : Hid (∀ j v, (flowT (k, (x, tu)))[j]? = some v → ((w6.drew.alloc (.cells (flowT (k, (x, tu))).toArray 97)).alloc (.cells #[] 97)).cell? ⟨w6.heap.size, j, none⟩ = some v) := Lib.hid (reads_grown (built_read w6.drew (k, (x, tu))) (World.grownBy_alloc _ _ none) (fun h => nomatch h))
      refine WG.two 1 13 (by kernel_rfl) rfl rfl (by rfl) (by rfl) ?_ ?_
      · go_wp2_with fail
        refine ⟨HS1.out, ?_⟩
        refine WG.two 8 13 (by kernel_rfl) rfl rfl (by rfl) (by rfl) ?_ ?_
        · refine toper_append_any _ _ 90 rfl w6.heap.size 97 i0 _ 7 32 Try.underlying90 hi hz0 hz1 hz2 rfl (by decide) (.slice (some ⟨w6.heap.size, 0, none⟩) 0 0) 0 [] rfl (World.ownsRow_made w6.drew #[] 0 (Nat.le_refl _) (Nat.zero_le _) rfl) A n c (flowsT (t.fl.take n)) rfl (by rw [flowsT_len, HTL.out]) (fun ad e j u hj => HR6.out _ HS1.out ad e j u (take_flowsT _ _ _ hj)) HAT.out (flowsT_one _) (by unfold maxLen; omega) (by omega) (Below.size HS1.out) ?_
          intro v1 w7 hown hgrow
          rw [Nat.zero_add, List.nil_append] at hown
          have HS4 : Hid (Since w6 w7) := Lib.hid (Below.grown HS1.out hgrow (Below.size HS1.out) (fun b hb => by have h : w6.heap.size = b := Option.some.inj hb; (try have := Below.size HB1.out); omega))
          refine ⟨fun _ => HS4.out, ?_⟩
          simp only [Act.put, List.setIfInBounds_toArray, List.set_cons_zero, List.set_cons_succ]
          have HS7 : Hid (Since w6 (w7.alloc (.cells (flowT (k, (x, tu))).toArray 97))) := Lib.hid (Below.alloc HS4.out (Below.size HS4.out) _)
          have HOW := Lib.hid (own_alloc hown (.cells (flowT (k, (x, tu))).toArray 97))
          have HBU := Lib.hid (built_read w7 (k, (x, tu)))
          clear hgrow hown
          obtain ⟨va, vc, rfl, _⟩ := owns_cap HOW.out
          refine WG.one 13 (by kernel_rfl) rfl (by rfl) ?_
          go_wp2_with fail
          refine ⟨HS7.out, ?_⟩
          refine WG.one 14 (by kernel_rfl) rfl (by rfl) ?_
          refine toper_append_any _ _ 90 rfl w6.heap.size 97 i0 _ 7 32 Try.underlying90 hi hz0 hz1 hz2 rfl (by decide) _ n (flowsT (t.fl.take n)) rfl HOW.out _ 1 1 (flowT (k, (x, tu))) rfl rfl (reads_at HBU.out) (fun h => nomatch h) (flowT_one _) (by unfold maxLen; omega) (by omega) (Below.size HS7.out) ?_
          intro v2 w9 hown2 hgrow2
          have hvb : ∀ b, (Value.slice va n vc).ownBlock = some b → w6.heap.size ≤ b := fun b hb => own_base HOW.out hb
          have HS9 : Hid (Since w6 w9) := Lib.hid (Below.grown HS7.out hgrow2 (Below.size HS7.out) (fun b hb => hvb b hb))
          refine ⟨fun _ => HS9.out, ?_⟩
          simp only [Act.put, List.setIfInBounds_toArray, List.set_cons_zero, List.set_cons_succ]
          obtain ⟨vb, vd, rfl, _⟩ := owns_cap hown2
          have HO2 := Lib.hid hown2
          clear hown2 hgrow2 hvb
          refine WG.one 16 (by kernel_rfl) rfl (by rfl) ?_
          refine toper_append_any _ _ 90 rfl w6.heap.size 97 i0 _ 7 32 Try.underlying90 hi hz0 hz1 hz2 rfl (by decide) _ (n + 1) (flowsT (t.fl.take n) ++ flowT (k, (x, tu))) rfl HO2.out (fromA (fromA A c n) (c - n) 1) (m - n - 1) (c - n - 1) (flowsT (t.fl.drop (n + 1))) rfl (by rw [flowsT_len, HDL.out, show m - (n + 1) = m - n - 1 from by omega]) (HRX.out w9 HS9.out) HNX.out (flowsT_one _) (by unfold maxLen; omega) (by omega) (Below.size HS9.out) ?_
          intro v3 w8 hown3 hgrow3
          have hvb : ∀ b, (Value.slice vb (n + 1) vd).ownBlock = some b → w6.heap.size ≤ b := fun b hb => own_base HO2.out hb
          have HS5 : Hid (Since w6 w8) := Lib.hid (Below.grown HS9.out hgrow3 (Below.size HS9.out) (fun b hb => hvb b hb))
          refine ⟨fun _ => HS5.out, ?_⟩
          simp only [Act.put, List.setIfInBounds_toArray, List.set_cons_zero, List.set_cons_succ]
          have hown4 : w8.ownsRow w6.heap.size 97 7 v3 (putL t.fl k (x, tu)).length (flowsT (putL t.fl k (x, tu))) := by
            have e1 : (putL t.fl k (x, tu)).length = n + 1 + (m - n - 1) := by rw [HPT.out, List.length_append, List.length_cons, HTL.out, HDL.out]; omega
            have e2 : flowsT (putL t.fl k (x, tu)) = flowsT (t.fl.take n) ++ flowT (k, (x, tu)) ++ flowsT (t.fl.drop (n + 1)) := by rw [HPT.out, flowsT_append, List.append_assoc]; rfl
            rw [e1, e2]
            exact hown3
          obtain ⟨q, hq⟩ : ∃ q, (putL t.fl k (x, tu)).length = q := ⟨_, rfl⟩
          have hown5 := hown4
          rw [hq] at hown5
          obtain ⟨vf, vg, rfl, _⟩ := owns_cap hown5
          have HRF := Lib.hid (HRW.out.reflow HS5.out hown4 (t2 := ⟨t.m.touch th 6 (sf : Nat), t.n, putL t.fl k (x, tu)⟩) rfl)
          have hR5 := HRW.out.below HS5.out
          have k0 : w8.cell? ⟨u, 2, none⟩ = some fv6 := hR5.cells.2.2.1
          have k1 := hR5.cells.2.2.2 2
          have HT8 : Hid (Turn F w (w8.setCell ⟨u, 2, none⟩ (.slice vf q vg))) := Lib.hid ((HU6.out.trans (Turn.of_below (F := fun _ => False) HS5.out) (fun _ h => h.elim)).trans ((Turn.refl (fun i => i = u) w8).setCell _ _ (.inl rfl)) (fun i hi => by subst hi; exact HX5.out i (by rw [HF6.out]; exact .inr (.inl rfl))))
          have HX8 : Hid (Ext w F (rtabFoot u Fm6 (.slice vf q vg))) := Lib.hid (fun i hi => by
            rcases HRF.out.2 i hi with h | h
            · rw [← HF6.out] at h; exact HX5.out i h
            · exact .inr (Nat.le_trans HZ6.out h))
          clear hown3 hown4 hown5 hgrow3 hvb hR5 hq
          refine WG.one 17 (by kernel_rfl) rfl (by rfl) ?_
          go_wp2_with fail
          refine ⟨HS5.out, ?_⟩
          refine WG.one 18 (by kernel_rfl) rfl (by rfl) ?_
          go_wp2_with fail
          refine ⟨HS5.out, ?_⟩
          refine WG.one 19 (by kernel_rfl) rfl (by rfl) ?_
          go_wp2_with fail
          refine WG.done (by kernel_rfl) ?_
          go_wp2_with fail
          go_ret
          exact ⟨rfl, by (rw [HD.out]); exact ⟨_, HRF.out.1, HT8.out, HX8.out⟩⟩
        · go_wp2_with fail
          refine ⟨HB2.out, ?_⟩
          refine WG.one 8 (by kernel_rfl) rfl (by rfl) ?_
          refine toper_append_any _ _ 90 rfl w6.heap.size 97 i0 _ 7 32 Try.underlying90 hi hz0 hz1 hz2 rfl (by decide) (.slice (some ⟨w6.heap.size, 0, none⟩) 0 0) 0 [] rfl (own_alloc (World.ownsRow_made w6.drew #[] 0 (Nat.le_refl _) (Nat.zero_le _) rfl) _) A n c (flowsT (t.fl.take n)) rfl (by rw [flowsT_len, HTL.out]) (fun ad e j u hj => HR6.out _ HB2.out ad e j u (take_flowsT _ _ _ hj)) HAT.out (flowsT_one _) (by unfold maxLen; omega) (by omega) (Below.size HB2.out) ?_
          intro v1 w7 hown hgrow
          rw [Nat.zero_add, List.nil_append] at hown
          have HS4 : Hid (Since w6 w7) := Lib.hid (Below.grown HB2.out hgrow (Below.size HB2.out) (fun b hb => by have h : w6.heap.size = b := Option.some.inj hb; (try have := Below.size HB1.out); omega))
          refine ⟨fun _ => HS4.out, ?_⟩
          simp only [Act.put, List.setIfInBounds_toArray, List.set_cons_zero, List.set_cons_succ]
          have HBU := Lib.hid (reads_grown HX2.out hgrow (by intro h; have h2 : w6.heap.size + 1 = w6.heap.size := Option.some.inj h; omega))
          have HS7 := HS4
          have HOW := Lib.hid hown
          clear hgrow hown
          obtain ⟨va, vc, rfl, _⟩ := owns_cap HOW.out
          refine WG.one 14 (by kernel_rfl) rfl (by rfl) ?_
          refine toper_append_any _ _ 90 rfl w6.heap.size 97 i0 _ 7 32 Try.underlying90 hi hz0 hz1 hz2 rfl (by decide) _ n (flowsT (t.fl.take n)) rfl HOW.out _ 1 1 (flowT (k, (x, tu))) rfl rfl (reads_at HBU.out) (fun h => nomatch h) (flowT_one _) (by unfold maxLen; omega) (by omega) (Below.size HS7.out) ?_
          intro v2 w9 hown2 hgrow2
          have hvb : ∀ b, (Value.slice va n vc).ownBlock = some b → w6.heap.size ≤ b := fun b hb => own_base HOW.out hb
          have HS9 : Hid (Since w6 w9) := Lib.hid (Below.grown HS7.out hgrow2 (Below.size HS7.out) (fun b hb => hvb b hb))
          refine ⟨fun _ => HS9.out, ?_⟩
          simp only [Act.put, List.setIfInBounds_toArray, List.set_cons_zero, List.set_cons_succ]
          obtain ⟨vb, vd, rfl, _⟩ := owns_cap hown2
          have HO2 := Lib.hid hown2
          clear hown2 hgrow2 hvb
          refine WG.one 16 (by kernel_rfl) rfl (by rfl) ?_
          refine toper_append_any _ _ 90 rfl w6.heap.size 97 i0 _ 7 32 Try.underlying90 hi hz0 hz1 hz2 rfl (by decide) _ (n + 1) (flowsT (t.fl.take n) ++ flowT (k, (x, tu))) rfl HO2.out (fromA (fromA A c n) (c - n) 1) (m - n - 1) (c - n - 1) (flowsT (t.fl.drop (n + 1))) rfl (by rw [flowsT_len, HDL.out, show m - (n + 1) = m - n - 1 from by omega]) (HRX.out w9 HS9.out) HNX.out (flowsT_one _) (by unfold maxLen; omega) (by omega) (Below.size HS9.out) ?_
          intro v3 w8 hown3 hgrow3
          have hvb : ∀ b, (Value.slice vb (n + 1) vd).ownBlock = some b → w6.heap.size ≤ b := fun b hb => own_base HO2.out hb
          have HS5 : Hid (Since w6 w8) := Lib.hid (Below.grown HS9.out hgrow3 (Below.size HS9.out) (fun b hb => hvb b hb))
          refine ⟨fun _ => HS5.out, ?_⟩
          simp only [Act.put, List.setIfInBounds_toArray, List.set_cons_zero, List.set_cons_succ]
          have hown4 : w8.ownsRow w6.heap.size 97 7 v3 (putL t.fl k (x, tu)).length (flowsT (putL t.fl k (x, tu))) := by
            have e1 : (putL t.fl k (x, tu)).length = n + 1 + (m - n - 1) := by rw [HPT.out, List.length_append, List.length_cons, HTL.out, HDL.out]; omega
            have e2 : flowsT (putL t.fl k (x, tu)) = flowsT (t.fl.take n) ++ flowT (k, (x, tu)) ++ flowsT (t.fl.drop (n + 1)) := by rw [HPT.out, flowsT_append, List.append_assoc]; rfl
            rw [e1, e2]
            exact hown3
          obtain ⟨q, hq⟩ : ∃ q, (putL t.fl k (x, tu)).length = q := ⟨_, rfl⟩
          have hown5 := hown4
          rw [hq] at hown5
          obtain ⟨vf, vg, rfl, _⟩ := owns_cap hown5
          have HRF := Lib.hid (HRW.out.reflow HS5.out hown4 (t2 := ⟨t.m.touch th 6 (sf : Nat), t.n, putL t.fl k (x, tu)⟩) rfl)
          have hR5 := HRW.out.below HS5.out
          have k0 : w8.cell? ⟨u, 2, none⟩ = some fv6 := hR5.cells.2.2.1
          have k1 := hR5.cells.2.2.2 2
          have HT8 : Hid (Turn F w (w8.setCell ⟨u, 2, none⟩ (.slice vf q vg))) := Lib.hid ((HU6.out.trans (Turn.of_below (F := fun _ => False) HS5.out) (fun _ h => h.elim)).trans ((Turn.refl (fun i => i = u) w8).setCell _ _ (.inl rfl)) (fun i hi => by subst hi; exact HX5.out i (by rw [HF6.out]; exact .inr (.inl rfl))))
          have HX8 : Hid (Ext w F (rtabFoot u Fm6 (.slice vf q vg))) := Lib.hid (fun i hi => by
            rcases HRF.out.2 i hi with h | h
            · rw [← HF6.out] at h; exact HX5.out i h
            · exact .inr (Nat.le_trans HZ6.out h))
          clear hown3 hown4 hown5 hgrow3 hvb hR5 hq
          refine WG.one 17 (by kernel_rfl) rfl (by rfl) ?_
          go_wp2_with fail
          refine ⟨HS5.out, ?_⟩
          refine WG.one 18 (by kernel_rfl) rfl (by rfl) ?_
          go_wp2_with fail
          refine ⟨HS5.out, ?_⟩
          refine WG.one 19 (by kernel_rfl) rfl (by rfl) ?_
          go_wp2_with fail
          refine WG.done (by kernel_rfl) ?_
          go_wp2_with fail
          go_ret
          exact ⟨rfl, by (rw [HD.out]); exact ⟨_, HRF.out.1, HT8.out, HX8.out⟩⟩
      · go_wp2_with fail
        refine ⟨HB1.out, ?_⟩
        refine WG.one 1 (by kernel_rfl) rfl (by rfl) ?_
        go_wp2_with fail
        refine ⟨HB3.out, ?_⟩
        refine WG.one 8 (by kernel_rfl) rfl (by rfl) ?_
        refine toper_append_any _ _ 90 rfl w6.heap.size 97 i0 _ 7 32 Try.underlying90 hi hz0 hz1 hz2 rfl (by decide) (.slice (some ⟨w6.heap.size + 1, 0, none⟩) 0 0) 0 [] rfl (HM3.out) A n c (flowsT (t.fl.take n)) rfl (by rw [flowsT_len, HTL.out]) (fun ad e j u hj => HR6.out _ HB3.out ad e j u (take_flowsT _ _ _ hj)) HAT.out (flowsT_one _) (by unfold maxLen; omega) (by omega) (Below.size HB3.out) ?_
        intro v1 w7 hown hgrow
        rw [Nat.zero_add, List.nil_append] at hown
        have HS4 : Hid (Since w6 w7) := Lib.hid (Below.grown HB3.out hgrow (Below.size HB3.out) (fun b hb => by have h : w6.heap.size + 1 = b := Option.some.inj hb; (try have := Below.size HB1.out); omega))
        refine ⟨fun _ => HS4.out, ?_⟩
        simp only [Act.put, List.setIfInBounds_toArray, List.set_cons_zero, List.set_cons_succ]
        have HBU := Lib.hid (reads_grown HX3.out hgrow (by intro h; have h2 : w6.heap.size = w6.heap.size + 1 := Option.some.inj h; omega))
        have HS7 := HS4
        have HOW := Lib.hid hown
        clear hgrow hown
        obtain ⟨va, vc, rfl, _⟩ := owns_cap HOW.out
        refine WG.one 14 (by kernel_rfl) rfl (by rfl) ?_
        refine toper_append_any _ _ 90 rfl w6.heap.size 97 i0 _ 7 32 Try.underlying90 hi hz0 hz1 hz2 rfl (by decide) _ n (flowsT (t.fl.take n)) rfl HOW.out _ 1 1 (flowT (k, (x, tu))) rfl rfl (reads_at HBU.out) (fun h => nomatch h) (flowT_one _) (by unfold maxLen; omega) (by omega) (Below.size HS7.out) ?_
        intro v2 w9 hown2 hgrow2
        have hvb : ∀ b, (Value.slice va n vc).ownBlock = some b → w6.heap.size ≤ b := fun b hb => own_base HOW.out hb
        have HS9 : Hid (Since w6 w9) := Lib.hid (Below.grown HS7.out hgrow2 (Below.size HS7.out) (fun b hb => hvb b hb))
        refine ⟨fun _ => HS9.out, ?_⟩
        simp only [Act.put, List.setIfInBounds_toArray, List.set_cons_zero, List.set_cons_succ]
        obtain ⟨vb, vd, rfl, _⟩ := owns_cap hown2
        have HO2 := Lib.hid hown2
        clear hown2 hgrow2 hvb
        refine WG.one 16 (by kernel_rfl) rfl (by rfl) ?_
        refine toper_append_any _ _ 90 rfl w6.heap.size 97 i0 _ 7 32 Try.underlying90 hi hz0 hz1 hz2 rfl (by decide) _ (n + 1) (flowsT (t.fl.take n) ++ flowT (k, (x, tu))) rfl HO2.out (fromA (fromA A c n) (c - n) 1) (m - n - 1) (c - n - 1) (flowsT (t.fl.drop (n + 1))) rfl (by rw [flowsT_len, HDL.out, show m - (n + 1) = m - n - 1 from by omega]) (HRX.out w9 HS9.out) HNX.out (flowsT_one _) (by unfold maxLen; omega) (by omega) (Below.size HS9.out) ?_
        intro v3 w8 hown3 hgrow3
        have hvb : ∀ b, (Value.slice vb (n + 1) vd).ownBlock = some b → w6.heap.size ≤ b := fun b hb => own_base HO2.out hb
        have HS5 : Hid (Since w6 w8) := Lib.hid (Below.grown HS9.out hgrow3 (Below.size HS9.out) (fun b hb => hvb b hb))
        refine ⟨fun _ => HS5.out, ?_⟩
        simp only [Act.put, List.setIfInBounds_toArray, List.set_cons_zero, List.set_cons_succ]
        have hown4 : w8.ownsRow w6.heap.size 97 7 v3 (putL t.fl k (x, tu)).length (flowsT (putL t.fl k (x, tu))) := by
          have e1 : (putL t.fl k (x, tu)).length = n + 1 + (m - n - 1) := by rw [HPT.out, List.length_append, List.length_cons, HTL.out, HDL.out]; omega
          have e2 : flowsT (putL t.fl k (x, tu)) = flowsT (t.fl.take n) ++ flowT (k, (x, tu)) ++ flowsT (t.fl.drop (n + 1)) := by rw [HPT.out, flowsT_append, List.append_assoc]; rfl
          rw [e1, e2]
          exact hown3
        obtain ⟨q, hq⟩ : ∃ q, (putL t.fl k (x, tu)).length = q := ⟨_, rfl⟩
        have hown5 := hown4
        rw [hq] at hown5
        obtain ⟨vf, vg, rfl, _⟩ := owns_cap hown5
        have HRF := Lib.hid (HRW.out.reflow HS5.out hown4 (t2 := ⟨t.m.touch th 6 (sf : Nat), t.n, putL t.fl k (x, tu)⟩) rfl)
        have hR5 := HRW.out.below HS5.out
        have k0 : w8.cell? ⟨u, 2, none⟩ = some fv6 := hR5.cells.2.2.1
        have k1 := hR5.cells.2.2.2 2
        have HT8 : Hid (Turn F w (w8.setCell ⟨u, 2, none⟩ (.slice vf q vg))) := Lib.hid ((HU6.out.trans (Turn.of_below (F := fun _ => False) HS5.out) (fun _ h => h.elim)).trans ((Turn.refl (fun i => i = u) w8).setCell _ _ (.inl rfl)) (fun i hi => by subst hi; exact HX5.out i (by rw [HF6.out]; exact .inr (.inl rfl))))
        have HX8 : Hid (Ext w F (rtabFoot u Fm6 (.slice vf q vg))) := Lib.hid (fun i hi => by
          rcases HRF.out.2 i hi with h | h
          · rw [← HF6.out] at h; exact HX5.out i h
          · exact .inr (Nat.le_trans HZ6.out h))
        clear hown3 hown4 hown5 hgrow3 hvb hR5 hq
        refine WG.one 17 (by kernel_rfl) rfl (by rfl) ?_
        go_wp2_with fail
        refine ⟨HS5.out, ?_⟩
        refine WG.one 18 (by kernel_rfl) rfl (by rfl) ?_
        go_wp2_with fail
        refine ⟨HS5.out, ?_⟩
        refine WG.one 19 (by kernel_rfl) rfl (by rfl) ?_
        go_wp2_with fail
        refine WG.done (by kernel_rfl) ?_
        go_wp2_with fail
        go_ret
        exact ⟨rfl, by (rw [HD.out]); exact ⟨_, HRF.out.1, HT8.out, HX8.out⟩⟩
    | false =>
      have hs2 : s1 = 0 := hs1
      subst hs2
      clear hs1
      go_wp2_with ((with_reducible show wpList _ _ _ _ _ _); refine wpList_valx (v := .slice (fromA A c n) (m - n) (c - n)) ?_ (exec_from (.tmp 42) (.tmp 43) ?_ (A := A) (m := m) (c := c) (n := n) ?_ ?_ hnm hmc HAN.out HAP.out _) ?_; rfl; rfl; rfl; rfl)
      have HS0 : Hid (Since w6 w6.drew) := Lib.hid ((Below.refl _ w6).trans ⟨rfl, rfl, rfl, Nat.le_refl _, fun _ _ => rfl⟩)
      refine WG.enter (Since w6) 19 (by kernel_rfl) 20 rfl ?_
      refine WG.take 0 (some 48) rfl rfl (by kernel_rfl) (by kernel_rfl) (by kernel_rfl) (by kernel_rfl) (fun _ _ _ h => h) (by rfl) (fun v hv => by go_simp; first | done | with_reducible rfl | (rw [if_neg (by omega)])) HS0.out ?_; simp only [Act.put, List.setIfInBounds_toArray, List.set_cons_zero, List.set_cons_succ]
      refine WG.take 2 (some 50) rfl rfl (by kernel_rfl) (by kernel_rfl) (by kernel_rfl) (by kernel_rfl) (fun _ _ _ h => h) (by rfl) (fun v hv => by go_simp; first | done | with_reducible rfl | (rw [if_neg (by omega)])) HS0.out ?_; simp only [Act.put, List.setIfInBounds_toArray, List.set_cons_zero, List.set_cons_succ]
      refine WG.take 3 (some 51) rfl rfl (by kernel_rfl) (by kernel_rfl) (by kernel_rfl) (by kernel_rfl) (fun _ _ _ h => h) (by rfl) (fun v hv => by go_simp; first | done | with_reducible rfl | (rw [if_neg (by omega)])) HS0.out ?_; simp only [Act.put, List.setIfInBounds_toArray, List.set_cons_zero, List.set_cons_succ]
      refine WG.take 4 (some 52) rfl rfl (by kernel_rfl) (by kernel_rfl) (by kernel_rfl) (by kernel_rfl) (fun _ _ _ h => h) (by rfl) (fun v hv => by go_simp; first | done | with_reducible rfl | (rw [if_neg (by omega)])) HS0.out ?_; simp only [Act.put, List.setIfInBounds_toArray, List.set_cons_zero, List.set_cons_succ]
      refine WG.take 5 (some 53) rfl rfl (by kernel_rfl) (by kernel_rfl) (by kernel_rfl) (by kernel_rfl) (fun _ _ _ h => h) (by rfl) (fun v hv => by have k0 := Since.cell hv d0; go_simp; first | done | with_reducible rfl | (rw [if_neg (by omega)])) HS0.out ?_; simp only [Act.put, List.setIfInBounds_toArray, List.set_cons_zero, List.set_cons_succ]
      refine WG.take 6 (some 54) rfl rfl (by kernel_rfl) (by kernel_rfl) (by kernel_rfl) (by kernel_rfl) (fun _ _ _ h => h) (by rfl) (fun v hv => by go_simp; first | done | with_reducible rfl | (rw [if_neg (by omega)])) HS0.out ?_; simp only [Act.put, List.setIfInBounds_toArray, List.set_cons_zero, List.set_cons_succ]
      refine WG.take 7 (some 55) (v := .slice A n c) rfl rfl (by kernel_rfl) (by kernel_rfl) (by kernel_rfl) (by kernel_rfl) (fun _ _ _ h => h) (by rfl) (fun v hv => exec_upto (.tmp 53) (.tmp 54) rfl rfl rfl (by omega) HAN.out HAP.out) HS0.out ?_; simp only [Act.put, List.setIfInBounds_toArray, List.set_cons_zero, List.set_cons_succ]
      refine WG.take 9 (some 57) rfl rfl (by kernel_rfl) (by kernel_rfl) (by kernel_rfl) (by kernel_rfl) (fun _ _ _ h => h) (by rfl) (fun v hv => by have k0 := Since.cell hv f0; have k1 := Since.cell hv f1; have k2 := Since.cell hv f2; have k3 := Since.cell hv f3; have k4 := Since.cell hv f4; go_simp; first | done | with_reducible rfl) HS0.out ?_; simp only [Act.put, List.setIfInBounds_toArray, List.set_cons_zero, List.set_cons_succ]
      refine WG.take 10 (some 58) rfl rfl (by kernel_rfl) (by kernel_rfl) (by kernel_rfl) (by kernel_rfl) (fun _ _ _ h => h) (by rfl) (fun v hv => by go_simp; first | done | with_reducible rfl | (rw [if_neg (by omega)])) HS0.out ?_; simp only [Act.put, List.setIfInBounds_toArray, List.set_cons_zero, List.set_cons_succ]
      refine WG.take 11 (some 59) rfl rfl (by kernel_rfl) (by kernel_rfl) (by kernel_rfl) (by kernel_rfl) (fun _ _ _ h => h) (by rfl) (fun v hv => by go_simp; first | done | with_reducible rfl | (rw [if_neg (by omega)])) HS0.out ?_; simp only [Act.put, List.setIfInBounds_toArray, List.set_cons_zero, List.set_cons_succ]
      refine WG.take 12 (some 60) rfl rfl (by kernel_rfl) (by kernel_rfl) (by kernel_rfl) (by kernel_rfl) (fun _ _ _ h => h) (by rfl) (fun v hv => by go_simp; first | done | with_reducible rfl | (rw [if_neg (by omega)])) HS0.out ?_; simp only [Act.put, List.setIfInBounds_toArray, List.set_cons_zero, List.set_cons_succ]
      refine WG.take 15 (some 63) rfl rfl (by kernel_rfl) (by kernel_rfl) (by kernel_rfl) (by kernel_rfl) (fun _ _ _ h => h) (by rfl) (fun v hv => by go_simp; first | done | with_reducible rfl | (rw [if_neg (by omega)])) HS0.out ?_; simp only [Act.put, List.setIfInBounds_toArray, List.set_cons_zero, List.set_cons_succ]
      have HAT : Hid (A = none → n = 0 ∧ c = 0) := Lib.hid (fun e => by obtain ⟨h1, h2⟩ := HAN.out e; omega)
      have HS1 : Hid (Since w6 (w6.drew.alloc (.cells #[] 97))) := Lib.hid (Below.alloc HS0.out (Nat.le_refl _) _)
      have HB1 : Hid (Since w6 (w6.drew.alloc (.cells (flowT (k, (x, tu))).toArray 97))) := Lib.hid (Below.alloc HS0.out (Nat.le_refl _) _)
      have HB2 : Hid (Since w6 ((w6.drew.alloc (.cells #[] 97)).alloc (.cells (flowT (k, (x, tu))).toArray 97))) := Lib.hid (Below.alloc HS1.out (Below.size HS1.out) _)
      have HB3 : Hid (Since w6 ((w6.drew.alloc (.cells (flowT (k, (x, tu))).toArray 97)).alloc (.cells #[] 97))) := Lib.hid (Below.alloc HB1.out (Below.size HB1.out) _)
      have HM3 : Hid (((w6.drew.alloc (.cells (flowT (k, (x, tu))).toArray 97)).alloc (.cells #[] 97)).ownsRow w6.heap.size 97 7 (.slice (some ⟨w6.heap.size + 1, 0, none⟩) 0 0) 0 []) := Lib.hid (by
        have h := World.ownsRow_made (base := w6.heap.size) (e := 97) (size := 7) (w6.drew.alloc (.cells (flowT (k, (x, tu))).toArray 97)) #[] 0 (Below.size HB1.out) (Nat.zero_le _) rfl
        have e : (w6.drew.alloc (.cells (flowT (k, (x, tu))).toArray 97)).heap.size = w6.heap.size + 1 := by simp
        rw [e] at h
        exact h)
      have HX2 : Hid (∀ j v, (flowT (k, (x, tu)))[j]? = some v → ((w6.drew.alloc (.cells #[] 97)).alloc (.cells (flowT (k, (x, tu))).toArray 97)).cell? ⟨w6.heap.size + 1, j, none⟩ = some v) := Lib.hid (fun j v h => by
        have h2 := built_read (w6.drew.alloc (.cells #[] 97)) (k, (x, tu)) j v h
        have e : (w6.drew.alloc (.cells #[] 97)).heap.size = w6.heap.size + 1 := by simp
        rw [e] at h2
        exact h2)
      have HX3 : Hid (∀ j v, (flowT (k, (x, tu)))[j]? = some v → ((w6.drew.alloc (.cells (flowT (k, (x, tu))).toArray 97)).alloc (.cells #[] 97)).cell? ⟨w6.heap.size, j, none⟩ = some v) := Lib.hid (reads_grown (built_read w6.drew (k, (x, tu))) (World.grownBy_alloc _ _ none) (fun h => nomatch h))
      refine WG.two 1 13 (by kernel_rfl) rfl rfl (by rfl) (by rfl) ?_ ?_
      · go_wp2_with fail
        refine ⟨HS1.out, ?_⟩
        refine WG.two 8 13 (by kernel_rfl) rfl rfl (by rfl) (by rfl) ?_ ?_
        · refine toper_append_any _ _ 90 rfl w6.heap.size 97 i0 _ 7 32 Try.underlying90 hi hz0 hz1 hz2 rfl (by decide) (.slice (some ⟨w6.heap.size, 0, none⟩) 0 0) 0 [] rfl (World.ownsRow_made w6.drew #[] 0 (Nat.le_refl _) (Nat.zero_le _) rfl) A n c (flowsT (t.fl.take n)) rfl (by rw [flowsT_len, HTL.out]) (fun ad e j u hj => HR6.out _ HS1.out ad e j u (take_flowsT _ _ _ hj)) HAT.out (flowsT_one _) (by unfold maxLen; omega) (by omega) (Below.size HS1.out) ?_
          intro v1 w7 hown hgrow
          rw [Nat.zero_add, List.nil_append] at hown
          have HS4 : Hid (Since w6 w7) := Lib.hid (Below.grown HS1.out hgrow (Below.size HS1.out) (fun b hb => by have h : w6.heap.size = b := Option.some.inj hb; (try have := Below.size HB1.out); omega))
          refine ⟨fun _ => HS4.out, ?_⟩
          simp only [Act.put, List.setIfInBounds_toArray, List.set_cons_zero, List.set_cons_succ]
          have HS7 : Hid (Since w6 (w7.alloc (.cells (flowT (k, (x, tu))).toArray 97))) := Lib.hid (Below.alloc HS4.out (Below.size HS4.out) _)
          have HOW := Lib.hid (own_alloc hown (.cells (flowT (k, (x, tu))).toArray 97))
          have HBU := Lib.hid (built_read w7 (k, (x, tu)))
          clear hgrow hown
          obtain ⟨va, vc, rfl, _⟩ := owns_cap HOW.out
          refine WG.one 13 (by kernel_rfl) rfl (by rfl) ?_
          go_wp2_with fail
          refine ⟨HS7.out, ?_⟩
          refine WG.one 14 (by kernel_rfl) rfl (by rfl) ?_
          refine toper_append_any _ _ 90 rfl w6.heap.size 97 i0 _ 7 32 Try.underlying90 hi hz0 hz1 hz2 rfl (by decide) _ n (flowsT (t.fl.take n)) rfl HOW.out _ 1 1 (flowT (k, (x, tu))) rfl rfl (reads_at HBU.out) (fun h => nomatch h) (flowT_one _) (by unfold maxLen; omega) (by omega) (Below.size HS7.out) ?_
          intro v2 w9 hown2 hgrow2
          have hvb : ∀ b, (Value.slice va n vc).ownBlock = some b → w6.heap.size ≤ b := fun b hb => own_base HOW.out hb
          have HS9 : Hid (Since w6 w9) := Lib.hid (Below.grown HS7.out hgrow2 (Below.size HS7.out) (fun b hb => hvb b hb))
          refine ⟨fun _ => HS9.out, ?_⟩
          simp only [Act.put, List.setIfInBounds_toArray, List.set_cons_zero, List.set_cons_succ]
          obtain ⟨vb, vd, rfl, _⟩ := owns_cap hown2
          have HO2 := Lib.hid hown2
          clear hown2 hgrow2 hvb
          refine WG.one 16 (by kernel_rfl) rfl (by rfl) ?_
          refine toper_append_any _ _ 90 rfl w6.heap.size 97 i0 _ 7 32 Try.underlying90 hi hz0 hz1 hz2 rfl (by decide) _ (n + 1) (flowsT (t.fl.take n) ++ flowT (k, (x, tu))) rfl HO2.out (fromA A c n) (m - n) (c - n) (flowsT (t.fl.drop (n + 0))) rfl (by rw [flowsT_len, HDL.out, show m - (n + 0) = m - n from by omega]) (HR7.out w9 HS9.out) HN6.out (flowsT_one _) (by unfold maxLen; omega) (by omega) (Below.size HS9.out) ?_
          intro v3 w8 hown3 hgrow3
          have hvb : ∀ b, (Value.slice vb (n + 1) vd).ownBlock = some b → w6.heap.size ≤ b := fun b hb => own_base HO2.out hb
          have HS5 : Hid (Since w6 w8) := Lib.hid (Below.grown HS9.out hgrow3 (Below.size HS9.out) (fun b hb => hvb b hb))
          refine ⟨fun _ => HS5.out, ?_⟩
          simp only [Act.put, List.setIfInBounds_toArray, List.set_cons_zero, List.set_cons_succ]
          have hown4 : w8.ownsRow w6.heap.size 97 7 v3 (putL t.fl k (x, tu)).length (flowsT (putL t.fl k (x, tu))) := by
            have e1 : (putL t.fl k (x, tu)).length = n + 1 + (m - n) := by rw [HPT.out, List.length_append, List.length_cons, HTL.out, HDL.out]; omega
            have e2 : flowsT (putL t.fl k (x, tu)) = flowsT (t.fl.take n) ++ flowT (k, (x, tu)) ++ flowsT (t.fl.drop (n + 0)) := by rw [HPT.out, flowsT_append, List.append_assoc]; rfl
            rw [e1, e2]
            exact hown3
          obtain ⟨q, hq⟩ : ∃ q, (putL t.fl k (x, tu)).length = q := ⟨_, rfl⟩
          have hown5 := hown4
          rw [hq] at hown5
          obtain ⟨vf, vg, rfl, _⟩ := owns_cap hown5
          have HRF := Lib.hid (HRW.out.reflow HS5.out hown4 (t2 := ⟨t.m.touch th 6 (sf : Nat), t.n, putL t.fl k (x, tu)⟩) rfl)
          have hR5 := HRW.out.below HS5.out
          have k0 : w8.cell? ⟨u, 2, none⟩ = some fv6 := hR5.cells.2.2.1
          have k1 := hR5.cells.2.2.2 2
          have HT8 : Hid (Turn F w (w8.setCell ⟨u, 2, none⟩ (.slice vf q vg))) := Lib.hid ((HU6.out.trans (Turn.of_below (F := fun _ => False) HS5.out) (fun _ h => h.elim)).trans ((Turn.refl (fun i => i = u) w8).setCell _ _ (.inl rfl)) (fun i hi => by subst hi; exact HX5.out i (by rw [HF6.out]; exact .inr (.inl rfl))))
          have HX8 : Hid (Ext w F (rtabFoot u Fm6 (.slice vf q vg))) := Lib.hid (fun i hi => by
            rcases HRF.out.2 i hi with h | h
            · rw [← HF6.out] at h; exact HX5.out i h
            · exact .inr (Nat.le_trans HZ6.out h))
          clear hown3 hown4 hown5 hgrow3 hvb hR5 hq
          refine WG.one 17 (by kernel_rfl) rfl (by rfl) ?_
          go_wp2_with fail
          refine ⟨HS5.out, ?_⟩
          refine WG.one 18 (by kernel_rfl) rfl (by rfl) ?_
          go_wp2_with fail
          refine ⟨HS5.out, ?_⟩
          refine WG.one 19 (by kernel_rfl) rfl (by rfl) ?_
          go_wp2_with fail
          refine WG.done (by kernel_rfl) ?_
          go_wp2_with fail
          go_ret
          exact ⟨rfl, by (rw [HD.out]); exact ⟨_, HRF.out.1, HT8.out, HX8.out⟩⟩
        · go_wp2_with fail
          refine ⟨HB2.out, ?_⟩
          refine WG.one 8 (by kernel_rfl) rfl (by rfl) ?_
          refine toper_append_any _ _ 90 rfl w6.heap.size 97 i0 _ 7 32 Try.underlying90 hi hz0 hz1 hz2 rfl (by decide) (.slice (some ⟨w6.heap.size, 0, none⟩) 0 0) 0 [] rfl (own_alloc (World.ownsRow_made w6.drew #[] 0 (Nat.le_refl _) (Nat.zero_le _) rfl) _) A n c (flowsT (t.fl.take n)) rfl (by rw [flowsT_len, HTL.out]) (fun ad e j u hj => HR6.out _ HB2.out ad e j u (take_flowsT _ _ _ hj)) HAT.out (flowsT_one _) (by unfold maxLen; omega) (by omega) (Below.size HB2.out) ?_
          intro v1 w7 hown hgrow
          rw [Nat.zero_add, List.nil_append] at hown
          have HS4 : Hid (Since w6 w7) := Lib.hid (Below.grown HB2.out hgrow (Below.size HB2.out) (fun b hb => by have h : w6.heap.size = b := Option.some.inj hb; (try have := Below.size HB1.out); omega))
          refine ⟨fun _ => HS4.out, ?_⟩
          simp only [Act.put, List.setIfInBounds_toArray, List.set_cons_zero, List.set_cons_succ]
          have HBU := Lib.hid (reads_grown HX2.out hgrow (by intro h; have h2 : w6.heap.size + 1 = w6.heap.size := Option.some.inj h; omega))
          have HS7 := HS4
          have HOW := Lib.hid hown
          clear hgrow hown
          obtain ⟨va, vc, rfl, _⟩ := owns_cap HOW.out
          refine WG.one 14 (by kernel_rfl) rfl (by rfl) ?_
          refine toper_append_any _ _ 90 rfl w6.heap.size 97 i0 _ 7 32 Try.underlying90 hi hz0 hz1 hz2 rfl (by decide) _ n (flowsT (t.fl.take n)) rfl HOW.out _ 1 1 (flowT (k, (x, tu))) rfl rfl (reads_at HBU.out) (fun h => nomatch h) (flowT_one _) (by unfold maxLen; omega) (by omega) (Below.size HS7.out) ?_
          intro v2 w9 hown2 hgrow2
          have hvb : ∀ b, (Value.slice va n vc).ownBlock = some b → w6.heap.size ≤ b := fun b hb => own_base HOW.out hb
          have HS9 : Hid (Since w6 w9) := Lib.hid (Below.grown HS7.out hgrow2 (Below.size HS7.out) (fun b hb => hvb b hb))
          refine ⟨fun _ => HS9.out, ?_⟩
          simp only [Act.put, List.setIfInBounds_toArray, List.set_cons_zero, List.set_cons_succ]
          obtain ⟨vb, vd, rfl, _⟩ := owns_cap hown2
          have HO2 := Lib.hid hown2
          clear hown2 hgrow2 hvb
          refine WG.one 16 (by kernel_rfl) rfl (by rfl) ?_
          refine toper_append_any _ _ 90 rfl w6.heap.size 97 i0 _ 7 32 Try.underlying90 hi hz0 hz1 hz2 rfl (by decide) _ (n + 1) (flowsT (t.fl.take n) ++ flowT (k, (x, tu))) rfl HO2.out (fromA A c n) (m - n) (c - n) (flowsT (t.fl.drop (n + 0))) rfl (by rw [flowsT_len, HDL.out, show m - (n + 0) = m - n from by omega]) (HR7.out w9 HS9.out) HN6.out (flowsT_one _) (by unfold maxLen; omega) (by omega) (Below.size HS9.out) ?_
          intro v3 w8 hown3 hgrow3
          have hvb : ∀ b, (Value.slice vb (n + 1) vd).ownBlock = some b → w6.heap.size ≤ b := fun b hb => own_base HO2.out hb
          have HS5 : Hid (Since w6 w8) := Lib.hid (Below.grown HS9.out hgrow3 (Below.size HS9.out) (fun b hb => hvb b hb))
          refine ⟨fun _ => HS5.out, ?_⟩
          simp only [Act.put, List.setIfInBounds_toArray, List.set_cons_zero, List.set_cons_succ]
          have hown4 : w8.ownsRow w6.heap.size 97 7 v3 (putL t.fl k (x, tu)).length (flowsT (putL t.fl k (x, tu))) := by
            have e1 : (putL t.fl k (x, tu)).length = n + 1 + (m - n) := by rw [HPT.out, List.length_append, List.length_cons, HTL.out, HDL.out]; omega
            have e2 : flowsT (putL t.fl k (x, tu)) = flowsT (t.fl.take n) ++ flowT (k, (x, tu)) ++ flowsT (t.fl.drop (n + 0)) := by rw [HPT.out, flowsT_append, List.append_assoc]; rfl
            rw [e1, e2]
            exact hown3
          obtain ⟨q, hq⟩ : ∃ q, (putL t.fl k (x, tu)).length = q := ⟨_, rfl⟩
          have hown5 := hown4
          rw [hq] at hown5
          obtain ⟨vf, vg, rfl, _⟩ := owns_cap hown5
          have HRF := Lib.hid (HRW.out.reflow HS5.out hown4 (t2 := ⟨t.m.touch th 6 (sf : Nat), t.n, putL t.fl k (x, tu)⟩) rfl)
          have hR5 := HRW.out.below HS5.out
          have k0 : w8.cell? ⟨u, 2, none⟩ = some fv6 := hR5.cells.2.2.1
          have k1 := hR5.cells.2.2.2 2
          have HT8 : Hid (Turn F w (w8.setCell ⟨u, 2, none⟩ (.slice vf q vg))) := Lib.hid ((HU6.out.trans (Turn.of_below (F := fun _ => False) HS5.out) (fun _ h => h.elim)).trans ((Turn.refl (fun i => i = u) w8).setCell _ _ (.inl rfl)) (fun i hi => by subst hi; exact HX5.out i (by rw [HF6.out]; exact .inr (.inl rfl))))
          have HX8 : Hid (Ext w F (rtabFoot u Fm6 (.slice vf q vg))) := Lib.hid (fun i hi => by
            rcases HRF.out.2 i hi with h | h
            · rw [← HF6.out] at h; exact HX5.out i h
            · exact .inr (Nat.le_trans HZ6.out h))
          clear hown3 hown4 hown5 hgrow3 hvb hR5 hq
          refine WG.one 17 (by kernel_rfl) rfl (by rfl) ?_
          go_wp2_with fail
          refine ⟨HS5.out, ?_⟩
          refine WG.one 18 (by kernel_rfl) rfl (by rfl) ?_
          go_wp2_with fail
          refine ⟨HS5.out, ?_⟩
          refine WG.one 19 (by kernel_rfl) rfl (by rfl) ?_
          go_wp2_with fail
          refine WG.done (by kernel_rfl) ?_
          go_wp2_with fail
          go_ret
          exact ⟨rfl, by (rw [HD.out]); exact ⟨_, HRF.out.1, HT8.out, HX8.out⟩⟩
      · go_wp2_with fail
        refine ⟨HB1.out, ?_⟩
        refine WG.one 1 (by kernel_rfl) rfl (by rfl) ?_
        go_wp2_with fail
        refine ⟨HB3.out, ?_⟩
        refine WG.one 8 (by kernel_rfl) rfl (by rfl) ?_
        refine toper_append_any _ _ 90 rfl w6.heap.size 97 i0 _ 7 32 Try.underlying90 hi hz0 hz1 hz2 rfl (by decide) (.slice (some ⟨w6.heap.size + 1, 0, none⟩) 0 0) 0 [] rfl (HM3.out) A n c (flowsT (t.fl.take n)) rfl (by rw [flowsT_len, HTL.out]) (fun ad e j u hj => HR6.out _ HB3.out ad e j u (take_flowsT _ _ _ hj)) HAT.out (flowsT_one _) (by unfold maxLen; omega) (by omega) (Below.size HB3.out) ?_
        intro v1 w7 hown hgrow
        rw [Nat.zero_add, List.nil_append] at hown
        have HS4 : Hid (Since w6 w7) := Lib.hid (Below.grown HB3.out hgrow (Below.size HB3.out) (fun b hb => by have h : w6.heap.size + 1 = b := Option.some.inj hb; (try have := Below.size HB1.out); omega))
        refine ⟨fun _ => HS4.out, ?_⟩
        simp only [Act.put, List.setIfInBounds_toArray, List.set_cons_zero, List.set_cons_succ]
        have HBU := Lib.hid (reads_grown HX3.out hgrow (by intro h; have h2 : w6.heap.size = w6.heap.size + 1 := Option.some.inj h; omega))
        have HS7 := HS4
        have HOW := Lib.hid hown
        clear hgrow hown
        obtain ⟨va, vc, rfl, _⟩ := owns_cap HOW.out
        refine WG.one 14 (by kernel_rfl) rfl (by rfl) ?_
        refine toper_append_any _ _ 90 rfl w6.heap.size 97 i0 _ 7 32 Try.underlying90 hi hz0 hz1 hz2 rfl (by decide) _ n (flowsT (t.fl.take n)) rfl HOW.out _ 1 1 (flowT (k, (x, tu))) rfl rfl (reads_at HBU.out) (fun h => nomatch h) (flowT_one _) (by unfold maxLen; omega) (by omega) (Below.size HS7.out) ?_
        intro v2 w9 hown2 hgrow2
        have hvb : ∀ b, (Value.slice va n vc).ownBlock = some b → w6.heap.size ≤ b := fun b hb => own_base HOW.out hb
        have HS9 : Hid (Since w6 w9) := Lib.hid (Below.grown HS7.out hgrow2 (Below.size HS7.out) (fun b hb => hvb b hb))
        refine ⟨fun _ => HS9.out, ?_⟩
        simp only [Act.put, List.setIfInBounds_toArray, List.set_cons_zero, List.set_cons_succ]
        obtain ⟨vb, vd, rfl, _⟩ := owns_cap hown2
        have HO2 := Lib.hid hown2
        clear hown2 hgrow2 hvb
        refine WG.one 16 (by kernel_rfl) rfl (by rfl) ?_
        refine toper_append_any _ _ 90 rfl w6.heap.size 97 i0 _ 7 32 Try.underlying90 hi hz0 hz1 hz2 rfl (by decide) _ (n + 1) (flowsT (t.fl.take n) ++ flowT (k, (x, tu))) rfl HO2.out (fromA A c n) (m - n) (c - n) (flowsT (t.fl.drop (n + 0))) rfl (by rw [flowsT_len, HDL.out, show m - (n + 0) = m - n from by omega]) (HR7.out w9 HS9.out) HN6.out (flowsT_one _) (by unfold maxLen; omega) (by omega) (Below.size HS9.out) ?_
        intro v3 w8 hown3 hgrow3
        have hvb : ∀ b, (Value.slice vb (n + 1) vd).ownBlock = some b → w6.heap.size ≤ b := fun b hb => own_base HO2.out hb
        have HS5 : Hid (Since w6 w8) := Lib.hid (Below.grown HS9.out hgrow3 (Below.size HS9.out) (fun b hb => hvb b hb))
        refine ⟨fun _ => HS5.out, ?_⟩
        simp only [Act.put, List.setIfInBounds_toArray, List.set_cons_zero, List.set_cons_succ]
        have hown4 : w8.ownsRow w6.heap.size 97 7 v3 (putL t.fl k (x, tu)).length (flowsT (putL t.fl k (x, tu))) := by
          have e1 : (putL t.fl k (x, tu)).length = n + 1 + (m - n) := by rw [HPT.out, List.length_append, List.length_cons, HTL.out, HDL.out]; omega
          have e2 : flowsT (putL t.fl k (x, tu)) = flowsT (t.fl.take n) ++ flowT (k, (x, tu)) ++ flowsT (t.fl.drop (n + 0)) := by rw [HPT.out, flowsT_append, List.append_assoc]; rfl
          rw [e1, e2]
          exact hown3
        obtain ⟨q, hq⟩ : ∃ q, (putL t.fl k (x, tu)).length = q := ⟨_, rfl⟩
        have hown5 := hown4
        rw [hq] at hown5
        obtain ⟨vf, vg, rfl, _⟩ := owns_cap hown5
        have HRF := Lib.hid (HRW.out.reflow HS5.out hown4 (t2 := ⟨t.m.touch th 6 (sf : Nat), t.n, putL t.fl k (x, tu)⟩) rfl)
        have hR5 := HRW.out.below HS5.out
        have k0 : w8.cell? ⟨u, 2, none⟩ = some fv6 := hR5.cells.2.2.1
        have k1 := hR5.cells.2.2.2 2
        have HT8 : Hid (Turn F w (w8.setCell ⟨u, 2, none⟩ (.slice vf q vg))) := Lib.hid ((HU6.out.trans (Turn.of_below (F := fun _ => False) HS5.out) (fun _ h => h.elim)).trans ((Turn.refl (fun i => i = u) w8).setCell _ _ (.inl rfl)) (fun i hi => by subst hi; exact HX5.out i (by rw [HF6.out]; exact .inr (.inl rfl))))
        have HX8 : Hid (Ext w F (rtabFoot u Fm6 (.slice vf q vg))) := Lib.hid (fun i hi => by
          rcases HRF.out.2 i hi with h | h
          · rw [← HF6.out] at h; exact HX5.out i h
          · exact .inr (Nat.le_trans HZ6.out h))
        clear hown3 hown4 hown5 hgrow3 hvb hR5 hq
        refine WG.one 17 (by kernel_rfl) rfl (by rfl) ?_
        go_wp2_with fail
        refine ⟨HS5.out, ?_⟩
        refine WG.one 18 (by kernel_rfl) rfl (by rfl) ?_
        go_wp2_with fail
        refine ⟨HS5.out, ?_⟩
        refine WG.one 19 (by kernel_rfl) rfl (by rfl) ?_
        go_wp2_with fail
        refine WG.done (by kernel_rfl) ?_
        go_wp2_with fail
        go_ret
        exact ⟨rfl, by (rw [HD.out]); exact ⟨_, HRF.out.1, HT8.out, HX8.out⟩⟩
  · have q0 : (my != 0) = true := by simp [hz]
    have HD : Hid (t' = t) := Lib.hid (by rw [HD0.out, if_neg hz])
    clear HD0
    clear HMM e0 e1 e2 e3 e4
    go_wp2_with fail
    go_ret
    exact ⟨rfl, by (rw [HD.out]); exact ⟨F, HT2.out, Turn.of_below HB2.out, Ext.refl _ _⟩⟩
end Go.Proofs.Ytahgapkecabnjaa
