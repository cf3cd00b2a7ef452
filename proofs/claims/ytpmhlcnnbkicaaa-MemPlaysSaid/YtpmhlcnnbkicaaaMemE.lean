/- The walks of slices.Clone and slices.Clip at accesses, and of Log. -/
import Derived.Test.YtpmhlcnnbkicaaaMemD
import Derived.WalkSpells
namespace Go.Proofs.Ytpmhlcnnbkicaaa
set_option linter.unusedSimpArgs false
set_option linter.unusedVariables false
open Go Go.RowKit

/-- The slice .slice a n _ reads as the cells xs, in a block from B on. -/
def RdFrom (w : World) (B : Nat) (a : Option Addr) (xs : List Value) : Prop := ∀ j x, xs[j]? = some x → ∃ b, a = some ⟨b, 0, none⟩ ∧ w.cell? ⟨b, j, none⟩ = some x ∧ B ≤ b

def ClonePost (w : World) (n : Nat) (xs : List Value) (e : Ending) (w' : World) : Prop := ∃ a c, e = .returned (.slice a n c) ∧ n ≤ c ∧ (a = none → n = 0 ∧ c = 0) ∧ (∀ ad, a = some ad → ∃ b, ad = ⟨b, 0, none⟩) ∧ RdFrom w' w.heap.size a xs ∧ Below w.heap.size w w'

theorem clone_end {w w1 : World} {v' : Value} {n : Nat} {xs : List Value} {o : Obj} (hown : w1.ownsRow 0 49 3 v' (0 + n) ([] ++ xs)) (hg : (w.alloc o).grownBy w1 (some w.heap.size))
    (hnil : v' = .slice none 0 0 ↔ (.slice (some ⟨w.heap.size, 0, none⟩) 0 0 : Value) = .slice none 0 0 ∧ n = 0) (hloc : v'.ownBlock = some w.heap.size ∨ v'.ownBlock = some (w.alloc o).heap.size) :
    ClonePost w n xs (.returned v') w1 := by
  rw [Nat.zero_add, List.nil_append] at hown
  have hb : Below w.heap.size w w1 := (((Below.refl _ w).alloc (Nat.le_refl _) o)).grown hg (by simp) (fun k hk => by cases hk; exact Nat.le_refl _)
  have hfr : ∀ b, v'.ownBlock = some b → w.heap.size ≤ b := fun b e => by
    rcases hloc with e2 | e2 <;> rw [e] at e2 <;> cases e2 <;> simp
  obtain ⟨a, c, rfl, hf⟩ := row_form hown
  have ha : a ≠ none := by
    rintro rfl
    rcases hloc with e2 | e2 <;> cases e2
  obtain ⟨ad, rfl⟩ := Option.ne_none_iff_exists'.1 ha
  rcases hown.2 with ⟨e1, _⟩ | ⟨g, cap, cur, e1, h2, h3, h4, h5, h6, h7⟩
  · cases e1
  · cases e1
    exact ⟨_, _, rfl, h4, (fun e => by cases e), (fun _ e => by cases e; exact ⟨_, rfl⟩), (fun j x hj => by
      obtain ⟨b, e2, hc, _⟩ := hf j x hj
      exact ⟨b, e2, hc, hfr b (by rw [e2]; rfl)⟩), hb⟩

set_option maxHeartbeats 2000000 in
set_option maxRecDepth 100000 in
theorem cloneAcc_any (v : Value) (n : Nat) (xs : List Value) (w : World) (h : Row w 49 3 v n xs) (hn : n < 1073741824) (hones : ∀ u ∈ xs, u.oneCell' = true) :
    Calls Try.prog 71 #[v] w (ClonePost w n xs) := by
  have he := fun (W : World) (a : Option Addr) (n c : Nat) => Lib.run_eql_slice_nil (P := Try.prog) W (t := 40) 49 a n c 0 0 Try.underlying40
  rcases h.2 with ⟨rfl, rfl⟩ | ⟨g, cap, cur, rfl, h2, h3, h4, h5, h6, h7⟩
  · have hx : xs = [] := List.eq_nil_of_length_eq_zero h.1
    subst hx
    clear h
    go_enter Try.func71, Try.ntmps71
    go_wp2
    go_ret
    exact ⟨none, 0, rfl, Nat.le_refl _, (fun _ => ⟨rfl, rfl⟩), (fun _ e => by cases e), (fun j x hj => by simp at hj), Below.refl _ _⟩
  · obtain ⟨i0, hi, hz0, hz1, hz2⟩ := info_parts accInfo
    have hown : Row (w.alloc (.cells #[] 49)) 49 3 (.slice (some ⟨w.heap.size, 0, none⟩) 0 0) 0 [] :=
      ⟨by simp, .inr ⟨w.heap.size, 0, #[], rfl, Nat.zero_le _, (MapKept.heap_alloc w _).1, by simp, by simp, by simp, by simp⟩⟩
    have hnews : ∀ j u, xs[j]? = some u → (w.alloc (.cells #[] 49)).cell? ((⟨g, 0, none⟩ : Addr).add j) = some u := by
      intro j u hj
      have e : (⟨g, 0, none⟩ : Addr).add j = ⟨g, j, none⟩ := by unfold Addr.add; split <;> simp_all
      obtain ⟨a, c, e1, hf⟩ := row_form h
      cases e1
      obtain ⟨b, e2, hc, _⟩ := hf j u hj
      cases e2
      rw [e]
      exact (World.cell?_of_block (w := w) (Below.heap_alloc w _ _ (World.block_lt_of_cell? w _ hc))).trans hc
    have hone : ∀ u ∈ xs, u.oneCell' = true := hones
    have hlen := h.1
    have HR := Lib.hid h
    have HL := Lib.hid hlen
    clear h h3 h6 h7 hlen
    go_enter Try.func71, Try.ntmps71
    go_wp2_with (at_builtin; refine wpList_append_own_at _ rfl _ _ 40 rfl 0 49 i0 (.agg #[.int .i64 0, .int .i64 0, .int .i64 0]) 3 24 Try.underlying40 hi hz0 hz1 hz2 rfl (by decide) _ _ _ rfl hown ⟨g, 0, none⟩ n cap xs rfl HL.out hnews hone (by unfold maxLen; omega) (by omega) (Nat.zero_le _) ?_; intro v' w1 hown1 hgrow hnil hloc)
    go_ret
    exact clone_end hown1 hgrow hnil hloc

set_option maxHeartbeats 1000000 in
theorem clipAcc_any (a : Option Addr) (n c : Nat) (w : World) (hn : n < 1073741824) (hc : n ≤ c) (ha : a = none → n = 0 ∧ c = 0) (hb : ∀ ad, a = some ad → ∃ b, ad = ⟨b, 0, none⟩) :
    Calls Try.prog 70 #[.slice a n c] w fun e w' => e = .returned (.slice a n n) ∧ w' = w := by
  cases a with
  | none =>
    obtain ⟨rfl, rfl⟩ := ha rfl
    go_enter Try.func70, Try.ntmps70
    go_wp2
    go_ret
    exact ⟨rfl, rfl⟩
  | some ad =>
    obtain ⟨b, rfl⟩ := hb ad rfl
    clear ha hb
    go_enter Try.func70, Try.ntmps70
    go_wp2
    go_ret
    exact ⟨rfl, rfl⟩

def LogPost (w : World) (l : List Acc) (e : Ending) (w' : World) : Prop := ∃ a c, e = .returned (.slice a l.length c) ∧ RdFrom w' w.heap.size a (logC l) ∧ Below w.heap.size w w'

theorem logC_one (l : List Acc) : ∀ u ∈ logC l, u.oneCell' = true := by
  intro u hu
  obtain ⟨a, _, h⟩ := List.mem_flatMap.1 hu
  exact accC_one a u h

set_option maxHeartbeats 1000000 in
theorem log_any (g : Nat) (F : Nat → Prop) (m : M) (w : World) (h : Mem w g F m) (hs : m.small) :
    Calls Try.prog 37 #[.pointer (some ⟨g, 0, none⟩)] w (LogPost w m.Lg) := by
  obtain ⟨vw, vl, vg, hm, rfl⟩ := h
  obtain ⟨c0, c1, c2, _⟩ := hm.cells
  have hl := hm.log
  have HL := Lib.hid hl
  have HS := Lib.hid hs
  clear hm hl hs
  go_enter Try.func37, Try.ntmps37
  go_wp2_with fail
  refine (cloneAcc_any vg _ _ _ HL.out (by have := HS.out.2.2; omega) (logC_one _)).mono ?_
  rintro e w1 ⟨a, c, rfl, h1, h2, h3, h4, h5⟩
  have H4 := Lib.hid h4
  have H5 := Lib.hid h5
  have H2 := Lib.hid h2
  have H3 := Lib.hid h3
  clear h4 h5 h2 h3
  go_wp2_with fail
  refine (clipAcc_any a m.Lg.length c _ (by have := HS.out.2.2; omega) h1 H2.out H3.out).mono ?_
  rintro e w2 ⟨rfl, rfl⟩
  go_wp2_with fail
  go_ret
  exact ⟨a, _, rfl, H4.out, H5.out⟩
end Go.Proofs.Ytpmhlcnnbkicaaa
