/- The calls on one memory that a walk has made itself; the fixed fact. -/
import Derived.Test.YtpmhlcnnbkicaaaMemH
import Derived.Test.YtpmhlcnnbkicaaaMemI
namespace Go.Proofs.Ytpmhlcnnbkicaaa
set_option linter.unusedSimpArgs false
set_option linter.unusedVariables false
open Go Go.RowKit

/-- Since w0 a memory m has been made at g, and nothing old has changed. -/
def On (w0 : World) (g : Nat) (m : M) (w : World) : Prop := ∃ F, Mem w g F m ∧ (∀ i, F i → w0.heap.size ≤ i) ∧ Below w0.heap.size w0 w
theorem On.below {w0 w : World} {g : Nat} {m : M} (h : On w0 g m w) : Below w0.heap.size w0 w := h.choose_spec.2.2

theorem On.post {w0 w : World} {g : Nat} {m m' : M} {f : FuncId} {args : Array Value} {r r' : Value} {m2 : M} (h : On w0 g m w) (hc : ∀ F, Mem w g F m → Calls Try.prog f args w (MemPost w g F r m')) (hr : r = r') (hm : m' = m2) :
    Calls Try.prog f args w fun e w' => e = .returned r' ∧ On w0 g m2 w' := by
  subst hr; subst hm
  obtain ⟨F, hm, hF, hb⟩ := h
  refine (hc F hm).mono ?_
  rintro e w' ⟨rfl, F', hm', ht, hx⟩
  exact ⟨rfl, F', hm', hx.base hb.size hF, hb.trans (ht.below hb.size hF)⟩
theorem On.keep {w0 w : World} {g : Nat} {m : M} {f : FuncId} {args : Array Value} {r r' : Value} (h : On w0 g m w) (hc : ∀ F, Mem w g F m → Calls Try.prog f args w (fun e w' => e = .returned r ∧ w' = w)) (hr : r = r') :
    Calls Try.prog f args w fun e w' => e = .returned r' ∧ On w0 g m w' := by
  subst hr
  obtain ⟨F, hm, hF, hb⟩ := h
  refine (hc F hm).mono ?_
  rintro e w' ⟨rfl, rfl⟩
  exact ⟨rfl, F, hm, hF, hb⟩
theorem On.step {w0 w w' : World} {g : Nat} {m : M} (h : On w0 g m w) (k : Below w.heap.size w w') : On w0 g m w' := by
  obtain ⟨F, hm, hF, hb⟩ := h
  exact ⟨F, hm.turn (Turn.of_below (F := fun _ => False) k) (fun _ _ h => h), hF, hb.trans (k.mono hb.size)⟩
theorem On.new (words locks : Int) (w0 : World) (w : World) (hb : Below w0.heap.size w0 w) {m : M} (hm : newM words locks = m) :
    Calls Try.prog 34 #[.int .i64 words, .int .i64 locks] w fun e w' => ∃ g, e = .returned (.pointer (some ⟨g, 0, none⟩)) ∧ On w0 g m w' := by
  subst hm
  refine (new_any words locks w).mono ?_
  rintro e w' ⟨g, F, rfl, hm, hb', hF⟩
  exact ⟨g, rfl, F, hm, fun i hi => Nat.le_trans hb.size (hF i hi), hb.trans (hb'.mono hb.size)⟩
theorem On.log {w0 w : World} {g : Nat} {m : M} {l : List Acc} (h : On w0 g m w) (hs : m.small) (hl : m.Lg = l) :
    Calls Try.prog 37 #[.pointer (some ⟨g, 0, none⟩)] w fun e w' => ∃ a c, e = .returned (.slice a l.length c) ∧ RdFrom w' w0.heap.size a (logC l) ∧ On w0 g m w' := by
  subst hl
  have h' := h
  obtain ⟨F, hm, hF, hb⟩ := h
  refine (log_any g F m w hm hs).mono ?_
  rintro e w' ⟨a, c, rfl, hr, hb'⟩
  exact ⟨a, c, rfl, fun j x hj => (hr j x hj).imp fun b hb2 => ⟨hb2.1, hb2.2.1, Nat.le_trans hb.size hb2.2.2⟩, h'.step hb'⟩
theorem RdFrom.below {w w' : World} {B : Nat} {a : Option Addr} {xs : List Value} (h : RdFrom w B a xs) (k : Below w.heap.size w w') : RdFrom w' B a xs := fun j x hj =>
  (h j x hj).imp fun b hb => ⟨hb.1, (k.cell (World.block_lt_of_cell? w _ hb.2.1)).trans hb.2.1, hb.2.2⟩

theorem RdFrom.zero {w : World} {B : Nat} {a : Option Addr} {xs : List Value} (h : RdFrom w B a xs) : RdFrom w 0 a xs := fun j x hj => (h j x hj).imp fun b hb => ⟨hb.1, hb.2.1, Nat.zero_le _⟩
theorem rd_new (w : World) (l : List Value) (t : TypeId) : RdFrom (w.alloc (.cells l.toArray t)) 0 (some ⟨w.heap.size, 0, none⟩) l := fun j x hj => ⟨_, rfl, by simp [hj], Nat.zero_le _⟩

def aw (W : List Int) (L : List Int) (n : Nat) : M := ⟨W, L, [⟨7, 4, 0⟩, ⟨8, 3, 0⟩, ⟨7, 1, 1⟩, ⟨7, 6, 8⟩, ⟨7, 3, 0⟩].take n⟩
theorem aw_small (W L : List Int) (n : Nat) (h1 : W.length < 1073741824) (h2 : L.length < 1073741824) : (aw W L n).small := ⟨h1, h2, by simp [aw]; omega⟩

theorem aw0 : newM 1 1 = aw [0] [-1] 0 := by rfl
theorem aw1 : (aw [0] [-1] 0).swap 7 0 0 5 = aw [5] [-1] 1 := by rfl
theorem aw2 : (aw [5] [-1] 1).swap 8 0 0 6 = aw [5] [-1] 2 := by rfl
theorem aw3 : (aw [5] [-1] 2).lock 7 0 = aw [5] [7] 3 := by rfl
theorem aw4 : (aw [5] [7] 3).lock 8 0 = aw [5] [7] 3 := by rfl
theorem aw5 : (aw [5] [7] 3).unlock 8 0 = aw [5] [7] 3 := by rfl
theorem aw6 : (aw [5] [7] 3).touch 7 6 2 = aw [5] [7] 4 := by rfl
theorem aw7 : (aw [5] [7] 4).load 7 0 = aw [5] [7] 5 := by rfl
theorem aw8 : (aw [5] [7] 5).more 9 = aw [5, 9] [7] 5 := by rfl

set_option maxHeartbeats 4000000 in
set_option maxRecDepth 100000 in
theorem awake19_any (w : World) :
    Calls Try.prog 39 #[] w fun e w' => e = .returned (.bool true) ∧ Below w.heap.size w w' := by
  go_enter Try.func39, Try.ntmps39
  go_wp2_with fail
  refine (On.new 1 1 w w (Below.refl _ _) aw0).mono ?_
  rintro e w1 ⟨g, rfl, h⟩
  go_wp2_with fail
  refine (h.post (fun F hm => swap_any g F _ 7 0 0 5 _ hm (aw_small _ _ _ (by decide) (by decide))) (show Value.bool _ = .bool true from rfl) aw1).mono ?_
  rintro e w2 ⟨rfl, h2⟩
  clear h
  go_wp2_with fail
  refine (h2.post (fun F hm => swap_any g F _ 8 0 0 6 _ hm (aw_small _ _ _ (by decide) (by decide))) (show Value.bool _ = .bool false from rfl) aw2).mono ?_
  rintro e w3 ⟨rfl, h3⟩
  clear h2
  go_wp2_with fail
  refine (h3.post (fun F hm => lock_any g F _ 7 0 _ hm (aw_small _ _ _ (by decide) (by decide))) (show Value.bool _ = .bool true from rfl) aw3).mono ?_
  rintro e w4 ⟨rfl, h4⟩
  clear h3
  go_wp2_with fail
  refine (h4.post (fun F hm => lock_any g F _ 8 0 _ hm (aw_small _ _ _ (by decide) (by decide))) (show Value.bool _ = .bool false from rfl) aw4).mono ?_
  rintro e w5 ⟨rfl, h5⟩
  clear h4
  go_wp2_with fail
  refine (h5.post (fun F hm => unlock_any g F _ 8 0 _ hm (aw_small _ _ _ (by decide) (by decide))) (show Value.int .i64 _ = .int .i64 13 from rfl) aw5).mono ?_
  rintro e w6 ⟨rfl, h6⟩
  clear h5
  go_wp2_with fail
  refine (h6.post (fun F hm => write_any g F _ 7 2 _ hm (aw_small _ _ _ (by decide) (by decide))) (show Value.tuple _ = .tuple _ from rfl) aw6).mono ?_
  rintro e w7 ⟨rfl, h7⟩
  clear h6
  go_wp2_with fail
  refine (h7.keep (fun F hm => holder_any g F _ 0 _ hm (aw_small _ _ _ (by decide) (by decide))) (show Value.int .i64 _ = .int .i64 7 from rfl)).mono ?_
  rintro e w8 ⟨rfl, h8⟩
  clear h7
  go_wp2_with fail
  refine (h8.log (l := [⟨7, 4, 0⟩, ⟨8, 3, 0⟩, ⟨7, 1, 1⟩, ⟨7, 6, 8⟩]) (aw_small _ _ _ (by decide) (by decide)) rfl).mono ?_
  rintro e w9 ⟨a, c, rfl, hr, h9⟩
  clear h8
  go_wp2_with fail
  have R1 := (hr.below ((Below.refl _ w9).alloc (Nat.le_refl _) (.cells #[.int .i64 7, .int .i64 4, .int .i64 0, .int .i64 8, .int .i64 3, .int .i64 0, .int .i64 7, .int .i64 1, .int .i64 1, .int .i64 7, .int .i64 6, .int .i64 8] 49))).zero
  have R2 := rd_new w9 (logC [⟨7, 4, 0⟩, ⟨8, 3, 0⟩, ⟨7, 1, 1⟩, ⟨7, 6, 8⟩]) 49
  have h10 := h9.step ((Below.refl _ w9).alloc (Nat.le_refl _) (.cells #[.int .i64 7, .int .i64 4, .int .i64 0, .int .i64 8, .int .i64 3, .int .i64 0, .int .i64 7, .int .i64 1, .int .i64 1, .int .i64 7, .int .i64 6, .int .i64 8] 49))
  clear hr h9
  refine (same_any a (some ⟨w9.heap.size, 0, none⟩) c 4 _ _ _ 0 R1 R2 (by decide) (by decide)).mono ?_
  rintro e w10 ⟨r, rfl, hr, hb⟩
  have h11 := h10.step hb
  obtain rfl : r = true := hr.2 rfl
  clear R1 R2 h10 hb hr
  go_wp2_with fail
  refine (h11.post (fun F hm => load_any g F _ 7 0 _ hm (aw_small _ _ _ (by decide) (by decide))) (show Value.int .u64 _ = .int .u64 5 from rfl) aw7).mono ?_
  rintro e w12 ⟨rfl, h12⟩
  clear h11
  go_wp2_with fail
  refine (h12.post (fun F hm => more_any g F _ 9 _ hm (aw_small _ _ _ (by decide) (by decide))) (show Value.int .i64 _ = .int .i64 1 from rfl) aw8).mono ?_
  rintro e w13 ⟨rfl, h13⟩
  clear h12
  go_wp2_with fail
  refine (h13.keep (fun F hm => words_any g F _ _ hm) (show Value.int .i64 _ = .int .i64 2 from rfl)).mono ?_
  rintro e w14 ⟨rfl, h14⟩
  clear h13
  go_wp2_with fail
  go_ret
  exact ⟨rfl, h14.below⟩
end Go.Proofs.Ytpmhlcnnbkicaaa
