/- What a list of things that threads do holds; the walk of MemSwaps. -/
import Derived.Test.YtpmhlcnnbkicaaaMemJ
import Derived.Test.YtpmhlcnnbkicaaaReadS
import Derived.Deep.RegionHeld3
namespace Go.Proofs.Ytpmhlcnnbkicaaa
set_option linter.unusedSimpArgs false
set_option linter.unusedVariables false
open Go Go.RowKit

/-- Something that a thread does. -/
structure Doing where
  kind : Int
  thread : Int
  at_ : Int
  old : Int
  now : Int

theorem wf_u8d {z : Int} (h : (Lit.int .u8 z).wf = true) : 0 ≤ z ∧ z ≤ 255 := by
  have h2 : IntKind.u8.min ≤ z ∧ z ≤ IntKind.u8.max := by simpa [Lit.wf] using h
  exact ⟨(show IntKind.u8.min = 0 from rfl) ▸ h2.1, (show IntKind.u8.max = 255 from rfl) ▸ h2.2⟩

def DoOk (x : Doing) : Prop := (0 ≤ x.kind ∧ x.kind ≤ 255) ∧ (Lit.int .i64 x.thread).wf = true ∧ (Lit.int .i64 x.at_).wf = true ∧ (Lit.int .u64 x.old).wf = true ∧ (Lit.int .u64 x.now).wf = true
def DoAt (w : World) (ad : Addr) (x : Doing) : Prop := w.cell? ad = some (.int .u8 x.kind) ∧ w.cell? (ad.add 1) = some (.int .i64 x.thread) ∧ w.cell? (ad.add 2) = some (.int .i64 x.at_) ∧ w.cell? (ad.add 3) = some (.int .u64 x.old) ∧ w.cell? (ad.add 4) = some (.int .u64 x.now)
def RdDos (w : World) (a : Option Addr) (len : Nat) : Prop := len ≤ maxLen ∧ ∀ j, j < len → ∃ ad x, a = some ad ∧ DoAt w (ad.add (j * 5)) x ∧ DoOk x

theorem DoAt.below {w w' : World} {ad : Addr} {x : Doing} (h : DoAt w ad x) {B : Nat} (k : Below B w w') (hB : w.heap.size ≤ B) : DoAt w' ad x := by
  have f : ∀ {a v}, w.cell? a = some v → w'.cell? a = some v := fun hc => (k.cell (Nat.lt_of_lt_of_le (World.block_lt_of_cell? w _ hc) hB)).trans hc
  exact ⟨f h.1, f h.2.1, f h.2.2.1, f h.2.2.2.1, f h.2.2.2.2⟩

set_option maxRecDepth 100000 in
theorem open_dos {H : Type} {enc : TypeId × Value → H} {W : World} {base b : Nat} {held : Bool} {v : Value} {x : DataW H} {ps : List MemPlace}
    (hv : Value.okWide Try.prog W .any base 53 v) (h : DataW.Trod enc Try.prog W b (fun _ => true) held 53 v x ps) :
    ∃ a len cap, v = .slice a len cap ∧ RdDos W a len := by
  obtain ⟨a, len, cap, rfl, hm, hx⟩ := open_slice_leafs (d := 3) (ts := [5, 3, 3, 51, 51]) Try.underlying53 (by kernel_rfl) (by kernel_rfl) hv h
  refine ⟨a, len, cap, rfl, hm, fun j hj => ?_⟩
  obtain ⟨ad, cs, rfl, h1, h2, h3⟩ := hx j hj
  match cs, h2 with
  | [c0, c1, c2, c3, c4], _ =>
    obtain ⟨l0, l1, l2, l3, l4, _⟩ := h3
    obtain ⟨n0, rfl, w0⟩ := l0.int Try.underlying5
    obtain ⟨n1, rfl, w1⟩ := l1.int Try.underlying3
    obtain ⟨n2, rfl, w2⟩ := l2.int Try.underlying3
    obtain ⟨n3, rfl, w3⟩ := l3.int Try.underlying51
    obtain ⟨n4, rfl, w4⟩ := l4.int Try.underlying51
    have e0 := h1 0 (by decide)
    have hz : ∀ a : Addr, a.add 0 = a := fun a => by simp [Addr.add]
    rw [hz] at e0
    exact ⟨ad, ⟨n0, n1, n2, n3, n4⟩, rfl, ⟨e0, h1 1 (by decide), h1 2 (by decide), h1 3 (by decide), h1 4 (by decide)⟩, wf_u8d w0, w1, w2, w3, w4⟩

/-- A memory made since w0, and a block b besides. -/
def OnB (w0 : World) (b : Nat) (g : Nat) (m : M) (w : World) : Prop := ∃ F, Mem w g F m ∧ (∀ i, F i → w0.heap.size ≤ i) ∧ ¬ F b ∧ b < w.heap.size ∧ w0.heap.size ≤ b ∧ Below w0.heap.size w0 w
theorem OnB.on {w0 w : World} {b g : Nat} {m : M} (h : OnB w0 b g m w) : On w0 g m w := h.imp fun F hF => ⟨hF.1, hF.2.1, hF.2.2.2.2.2⟩
theorem On.onB {w0 w : World} {g : Nat} {m : M} (h : On w0 g m w) (o : Obj) : OnB w0 w.heap.size g m (w.alloc o) := by
  have h2 := h.step ((Below.refl _ w).alloc (Nat.le_refl _) o)
  obtain ⟨F, hm, hF, hb⟩ := h
  exact ⟨F, hm.turn (Turn.of_below (F := fun _ => False) ((Below.refl _ w).alloc (Nat.le_refl _) o)) (fun _ _ h => h), hF, fun hf => Nat.lt_irrefl _ (hm.foot_lt _ hf), by simp, hb.size, hb.alloc hb.size o⟩
theorem OnB.post {w0 w : World} {b g : Nat} {m m' : M} {f : FuncId} {args : Array Value} {r r' : Value} {m2 : M} (h : OnB w0 b g m w) (hc : ∀ F, Mem w g F m → Calls Try.prog f args w (MemPost w g F r m')) (hr : r = r') (hm : m' = m2) :
    Calls Try.prog f args w fun e w' => e = .returned r' ∧ OnB w0 b g m2 w' ∧ w'.heap[b]? = w.heap[b]? := by
  subst hr; subst hm
  obtain ⟨F, hm, hF, hfb, hlt, hle, hb⟩ := h
  refine (hc F hm).mono ?_
  rintro e w' ⟨rfl, F', hm', ht, hx⟩
  exact ⟨rfl, ⟨F', hm', hx.base hb.size hF, fun hf => (hx b hf).elim hfb (fun h => by omega), Nat.lt_of_lt_of_le hlt ht.size, hle, hb.trans (ht.below hb.size hF)⟩, ht.block b hlt hfb⟩
theorem OnB.set {w0 w : World} {b g : Nat} {m : M} (h : OnB w0 b g m w) (o : Nat) (v : Value) : OnB w0 b g m (w.setCell ⟨b, o, none⟩ v) := by
  obtain ⟨F, hm, hF, hfb, hlt, hle, hb⟩ := h
  have t : Turn (fun i => i = b) w (w.setCell ⟨b, o, none⟩ v) := (Turn.refl _ w).setCell _ _ (.inl rfl)
  exact ⟨F, hm.turn t (fun i hi e => by subst e; exact hfb hi), hF, hfb, Nat.lt_of_lt_of_le hlt t.size, hle, hb.trans (t.below hb.size (fun i e => by subst e; exact hle))⟩
theorem OnB.drewN {w0 w : World} {b g : Nat} {m : M} (h : OnB w0 b g m w) (n : Nat) : OnB w0 b g m (w.drewN n) := by
  obtain ⟨F, hm, hF, hfb, hlt, hle, hb⟩ := h
  exact ⟨F, hm.turn ((Turn.refl (fun _ => False) w).drewN n) (fun _ _ h => h), hF, hfb, hlt, hle, below_drewN hb n⟩

theorem OnB.drew {w0 w : World} {b g : Nat} {m : M} (h : OnB w0 b g m w) : OnB w0 b g m w.drew := h.drewN 1

theorem sw0 : newM 1 0 = ⟨[0], [], []⟩ := by rfl
theorem sw_small (W : List Int) (Lg : List Acc) (h : W.length ≤ 1) (h2 : Lg.length ≤ 1000) : (⟨W, [], Lg⟩ : M).small := ⟨by show W.length < _; omega, by show (0 : Nat) < _; decide, by show Lg.length < _; omega⟩
theorem sw_load (k t : Int) (Lg : List Acc) : (⟨[k], [], Lg⟩ : M).load t 0 = ⟨[k], [], Lg ++ [⟨t, 3, 0⟩]⟩ := by rfl
theorem sw_look (k : Int) (Lg : List Acc) : (⟨[k], [], Lg⟩ : M).look 0 = k := by rfl
theorem sw_ok (k old : Int) (Lg : List Acc) : (⟨[k], [], Lg⟩ : M).swapOk 0 old = decide (k = old) := by simp [M.swapOk, M.has]
theorem sw_hit (k t now : Int) (Lg : List Acc) : (⟨[k], [], Lg⟩ : M).swap t 0 k now = ⟨[now], [], Lg ++ [⟨t, 4, 0⟩]⟩ := by simp [M.swap, M.has, M.note]
theorem sw_miss (k t old now : Int) (Lg : List Acc) (h : k ≠ old) : (⟨[k], [], Lg⟩ : M).swap t 0 old now = ⟨[k], [], Lg ++ [⟨t, 3, 0⟩]⟩ := by simp [M.swap, M.has, M.note, h]

/-- The four numbers of block b. -/
def Four (w : World) (b : Nat) (k : Int) : Prop := ∃ xs : List Int, w.heap[b]? = some (.cells (xs.map (Value.int .u64)).toArray 63 (0, 0)) ∧ xs.length = 4 ∧ ∀ x ∈ xs, 0 ≤ x ∧ x ≤ k

theorem four_new (w : World) : Four (w.alloc (.cells #[.int .u64 0, .int .u64 0, .int .u64 0, .int .u64 0] 63)) w.heap.size 0 :=
  ⟨[0, 0, 0, 0], (MapKept.heap_alloc w _).1, rfl, by decide⟩
theorem Four.at_ {w : World} {b : Nat} {k : Int} (h : Four w b k) (t : Nat) (ht : t < 4) : ∃ x, w.cell? ⟨b, t, none⟩ = some (.int .u64 x) ∧ w.frozen? ⟨b, t, none⟩ = false ∧ 0 ≤ x ∧ x ≤ k := by
  obtain ⟨xs, h1, h2, h3⟩ := h
  have hl : t < xs.length := by omega
  refine ⟨xs[t], ?_, ?_, h3 _ (List.getElem_mem hl)⟩
  · simp [World.cell?, h1, hl]
  · simp [World.frozen?, h1]
theorem Four.block {w w' : World} {b : Nat} {k k' : Int} (h : Four w b k) (e : w'.heap[b]? = w.heap[b]?) (hk : k ≤ k') : Four w' b k' := by
  obtain ⟨xs, h1, h2, h3⟩ := h
  exact ⟨xs, e.trans h1, h2, fun x hx => ⟨(h3 x hx).1, Int.le_trans (h3 x hx).2 hk⟩⟩
theorem Four.set {w : World} {b : Nat} {k : Int} (h : Four w b k) (t : Nat) (x : Int) (h0 : 0 ≤ x) (hx : x ≤ k) : Four (w.setCell ⟨b, t, none⟩ (.int .u64 x)) b k := by
  obtain ⟨xs, h1, h2, h3⟩ := h
  refine ⟨xs.set t x, ?_, by simpa using h2, fun y hy => ?_⟩
  · rw [set_heap_row h1]
    simp [List.map_set]
  · rcases List.mem_or_eq_of_mem_set hy with hy | rfl
    · exact h3 y hy
    · exact ⟨h0, hx⟩

set_option maxHeartbeats 4000000 in
set_option maxRecDepth 100000 in
theorem memSwaps_walk (a : Option Addr) (len cap : Nat) (w : World) (hz : RdDos w a len) :
    Calls Try.prog 13 #[.slice a len cap] w fun e w' => e = .returned (.bool true) ∧ Below w.heap.size w w' := by
  have hlen : len ≤ 9223372036854775807 := hz.1
  have HZ := Lib.hid hz
  clear hz
  go_enter Try.func13, Try.ntmps13
  go_wp2_with fail
  refine (On.new 1 0 w w (Below.refl _ _) sw0).mono ?_
  rintro e w1 ⟨g, rfl, h⟩
  go_wp2_with fail
  have hb0 : OnB w w1.heap.size g ⟨[0], [], []⟩ (w1.alloc (.cells #[.int .u64 0, .int .u64 0, .int .u64 0, .int .u64 0] 63)) := h.onB _
  have hf0 := four_new w1
  generalize w1.heap.size = b at *
  generalize w1.alloc (.cells #[.int .u64 0, .int .u64 0, .int .u64 0, .int .u64 0] 63) = w2 at *
  clear h
  go_loopw [5, 6] (fun d n wr => ∃ (j : Nat) (k : Nat) (Lg : List Acc), j ≤ len ∧ j ≤ 120 ∧ k ≤ j ∧ d = .int .u64 k ∧ n = .int .i64 j ∧ Lg.length ≤ j ∧ OnB w b g ⟨[(k : Int)], [], Lg⟩ wr ∧ Four wr b k) (fun _ n _ => len - (intOf n).toNat)
  case atStart => exact ⟨0, 0, [], by omega, by omega, by omega, rfl, rfl, by simp, hb0, hf0⟩
  case round =>
    clear hb0 hf0
    obtain ⟨j, k, Lg, hj, hj2, hk, rfl, rfl, hL, hO, hF⟩ := hrel
    by_cases hl1 : j < len
    · by_cases hl2 : j < 120
      · obtain ⟨ad, x, rfl, hx, hok⟩ := HZ.out.2 j hl1
        have hx' := hx.below hO.on.below (Nat.le_refl _)
        obtain ⟨c0, _⟩ := hx'
        obtain ⟨⟨z0, z1⟩, _⟩ := hok
        generalize x.kind = z at c0 z0 z1
        obtain ⟨z, rfl⟩ := Int.eq_ofNat_of_zero_le z0
        clear hx
        obtain ⟨t, ht, ht4⟩ : ∃ t : Nat, (z : Int).tmod 4 = t ∧ t < 4 := ⟨z % 4, by rw [Int.tmod_eq_emod_of_nonneg (by omega)]; omega, Nat.mod_lt _ (by decide)⟩
        obtain ⟨y, hy, hyf, hy0, hy1⟩ := hF.at_ t ht4
        have HO := Lib.hid hO
        have HF := Lib.hid hF
        clear hO hF
        have hsm := sw_small [(k : Int)] Lg (by simp) (by omega)
        have HS := Lib.hid hsm
        clear hsm
        by_cases hz8 : (z : Int) % 8 < 4
        · go_wp2_with fail
          refine (HO.out.post (fun F hm => load_any g F _ t 0 _ hm HS.out) (show Value.int .u64 _ = .int .u64 k from rfl) (sw_load k t Lg)).mono ?_
          rintro e w3 ⟨rfl, hO3, he3⟩
          have hF3 := HF.out.block he3 (Int.le_refl _)
          obtain ⟨y3, hy3, hyf3, _, _⟩ := hF3.at_ t ht4
          have HO4 := Lib.hid (hO3.set t (.int .u64 k))
          have HF4 := Lib.hid (hF3.set t k (by omega) (Int.le_refl _))
          clear hO3 hF3 he3 hy hyf c0
          go_wp2_with fail
          go_roundw
          case rel => exact ⟨j + 1, k, _, by omega, by omega, by omega, rfl, by go_num, by simp; omega, HO4.out, HF4.out⟩
          case measure => simp [intOf]; omega
        · have hwy : IntKind.u64.wrap (y + 1) = y + 1 := by simp [IntKind.wrap, IntKind.bits, IntKind.signed]; omega
          have hwk : IntKind.u64.wrap ((k : Int) + 1) = k + 1 := by simp [IntKind.wrap, IntKind.bits, IntKind.signed]; omega
          have ht0 : (0 : Int) ≤ (t : Int) := by omega
          have htI : (t : Int) < 4 := by omega
          by_cases hyk : y = k
          · subst hyk
            clear hwy
            go_wp2_with fail
            go_region_held3 (fun w' => w'.cell? ⟨b, t, none⟩ = some (.int .u64 (k : Int))) (first | exact hy | exact hy3)
              (first | (go_at_call 41; refine (HO.out.drew.post (fun F hm => swap_any g F _ t 0 k (k + 1) _ hm HS.out) (show Value.bool _ = .bool true from by rw [sw_ok]; simp) (sw_hit k t (k + 1) Lg)).mono ?_; rintro e w3 ⟨rfl, hO3, he3⟩; have hF3 := Lib.hid (HF.out.block (k' := k + 1) he3 (by omega)); have hy3 := (World.cell?_of_block (w := wr) (w' := w3) (a := ⟨b, t, none⟩) he3).trans hy; have HO3 := Lib.hid hO3; clear hO3 he3))
            go_wp2_with fail
            go_roundw
            case rel => exact ⟨j + 1, k + 1, _, by omega, by omega, by omega, by go_num, by go_num, by simp; omega, HO3.out, hF3.out⟩
            case measure => simp [intOf]; omega
          · have hyk2 : ((y : Int) == (k : Int)) = false := beq_eq_false_iff_ne.2 hyk
            go_wp2_with fail
            go_region_held3 (fun w' => w'.cell? ⟨b, t, none⟩ = some (.int .u64 y)) (first | exact hy | exact hy3)
              (first | (go_at_call 41; refine (HO.out.drew.post (fun F hm => swap_any g F _ t 0 y (y + 1) _ hm HS.out) (show Value.bool _ = .bool false from by rw [sw_ok]; simp; omega) (sw_miss k t y (y + 1) Lg (Ne.symm hyk))).mono ?_; rintro e w3 ⟨rfl, hO3, he3⟩; have hF3 := Lib.hid (HF.out.block (k' := k) he3 (by omega)); have hy3 := (World.cell?_of_block (w := wr) (w' := w3) (a := ⟨b, t, none⟩) he3).trans hy; have HO3 := Lib.hid hO3; clear hO3 he3))
            go_wp2_with fail
            go_roundw
            case rel => exact ⟨j + 1, k, _, by omega, by omega, by omega, rfl, by go_num, by simp; omega, HO3.out, hF3.out⟩
            case measure => simp [intOf]; omega
      · obtain rfl : j = 120 := by omega
        go_wp2_with fail
        refine (awake19_any _).mono ?_
        rintro e w3 ⟨rfl, hb3⟩
        go_wp2_with fail
        refine ((hO.on.step hb3).post (fun F hm => load_any g F _ 9 0 _ hm (sw_small _ _ (by simp) (by omega))) (show Value.int .u64 _ = .int .u64 k from rfl) (sw_load k 9 Lg)).mono ?_
        rintro e w4 ⟨rfl, hO4⟩
        go_wp2_with fail
        go_ret
        exact ⟨by simp, hO4.below⟩
    · go_wp2_with fail
      refine (awake19_any _).mono ?_
      rintro e w3 ⟨rfl, hb3⟩
      go_wp2_with fail
      refine ((hO.on.step hb3).post (fun F hm => load_any g F _ 9 0 _ hm (sw_small _ _ (by simp) (by omega))) (show Value.int .u64 _ = .int .u64 k from rfl) (sw_load k 9 Lg)).mono ?_
      rintro e w4 ⟨rfl, hO4⟩
      go_wp2_with fail
      go_ret
      exact ⟨by simp, hO4.below⟩
end Go.Proofs.Ytpmhlcnnbkicaaa
