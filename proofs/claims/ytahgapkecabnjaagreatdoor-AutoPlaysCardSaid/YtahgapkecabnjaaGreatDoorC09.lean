/- Walks of match.First and of the reference's First. Printed by gen_matchd.py. -/
import Derived.Test.YtahgapkecabnjaaGreatDoorC08
import Derived.Test.YtahgapkecabnjaaGreatDoorC07
import Derived.Test.YtahgapkecabnjaaGreatDoorC03
import Derived.Shelf.SlicesE.Clone
import Derived.Maps.RangeWalk
import Derived.Sort.MapsRangeIn
import Derived.RangeFuncSeq
namespace Go.Proofs.YtahgapkecabnjaaGreatDoor
set_option linter.unusedSimpArgs false
set_option linter.unusedVariables false
open Go Go.RowKit

set_option maxHeartbeats 4000000 in
theorem idx_nil (a : Option Addr) (c B : Nat) (w : World) :
    Calls Tryz.prog 93 #[.slice a 0 c, .func (.func 109) #[] #[.pointer (some ⟨B, 0, none⟩)]] w fun e w' => e = .returned (.int .i64 (-1)) ∧ Below w.heap.size w w' := by
  go_enter Tryz.func93, Tryz.ntmps93
  go_wp2_with fail
  go_loopw [8] (fun n wr => n = .int .i64 0 ∧ Hid (Below w.heap.size w wr)) (fun n _ => 0)
  case atStart => exact ⟨rfl, Lib.hid (Below.refl _ _)⟩
  case round =>
    obtain ⟨rfl, hB⟩ := hrel
    go_wp2_with fail
    go_ret
    exact ⟨rfl, hB.out⟩
/-- The address of rules that are there. -/
theorem rulesAt_ad {w : World} {a : Option Addr} {rs : List Rl} (h : RulesAt w a rs) (hne : rs ≠ []) : ∃ b o, a = some ⟨b, o, none⟩ ∧ b < w.heap.size := by
  cases rs with
  | nil => exact absurd rfl hne
  | cons r rs =>
    obtain ⟨_, ad, rfl, c0, _⟩ := h 0 r rfl
    rw [Nat.zero_mul] at c0
    have e0 : ad.add 0 = ad := by unfold Addr.add; simp
    rw [e0] at c0
    obtain ⟨b, o, x⟩ := ad
    cases x with
    | none => exact ⟨b, o, rfl, World.block_lt_of_cell? w _ c0⟩
    | some y =>
      exfalso
      unfold World.cell? at c0
      split at c0
      · simp at c0
      · cases c0
theorem idx_any (p : Pk) (a : Option Addr) (B c : Nat) (rs : List Rl) (w : World) (hp : PkIn p) (hB : PkBox w B p) (hR : RulesAt w a rs) (hl : rs.length ≤ maxLen) :
    Calls Tryz.prog 93 #[.slice a rs.length c, .func (.func 109) #[] #[.pointer (some ⟨B, 0, none⟩)]] w fun e w' => e = .returned (.int .i64 (idxR rs p)) ∧ Below w.heap.size w w' := by
  by_cases hne : rs = []
  · subst hne; exact idx_nil a c B w
  · obtain ⟨b, o, rfl, hb⟩ := rulesAt_ad hR hne
    exact idx_rules p B b o c rs w hp hB hb hR hl
set_option maxHeartbeats 4000000 in
set_option maxRecDepth 100000 in
theorem first_any (p : Pk) (a : Option Addr) (c : Nat) (rs : List Rl) (w : World) (hp : PkIn p) (hR : RulesAt w a rs) (hl : rs.length ≤ maxLen) :
    Calls Tryz.prog 85 #[.slice a rs.length c, .agg (pkC p)] w fun e w' => e = .returned (.tuple #[.int .i64 (idxR rs p), .bool (letIn rs p)]) ∧ Below w.heap.size w w' := by
  have HB0 : Hid (Below w.heap.size w (w.alloc (.cells (pkC p) 41))) := Lib.hid ((Below.refl _ _).alloc (Nat.le_refl _) _)
  have HPB : PkBox (w.alloc (.cells (pkC p) 41)) w.heap.size p := fun o v hv => by simp [hv]
  have HI := Lib.hid (idx_any p a w.heap.size c rs _ hp HPB (hR.below HB0.out) hl)
  have HL := Lib.hid (letIn_idx rs p)
  have HR := Lib.hid (hR.below HB0.out)
  clear hp hR HPB
  have HX : Hid (idxR rs p = match rs.findIdx? (fun r => matchF r p) with | some i => (i : Int) | none => -1) := Lib.hid rfl
  have HF := Lib.hid (fun i (h : rs.findIdx? (fun r => matchF r p) = some i) => List.findIdx?_eq_some_iff_getElem.1 h)
  generalize rs.findIdx? (fun r => matchF r p) = fi at *
  generalize letIn rs p = res at *
  generalize idxR rs p = ix at *
  obtain ⟨proto, src, dst, sport, dport, flags, kind⟩ := p
  unfold pkC at *
  dsimp only at *
  cases fi with
  | none =>
    have hx : ix = -1 := HX.out
    have hr : res = false := HL.out
    subst hx hr
    clear HX HL HF
    go_enter Tryz.func85, Tryz.ntmps85
    go_wp2_with fail
    refine HI.out.mono ?_
    rintro e w1 ⟨rfl, h1⟩
    have HB1 := Lib.hid (below_then HB0.out h1)
    clear h1 HI
    go_wp2_with fail
    refine WQ.enter w1 (Since.refl _) (by kernel_rfl) (by kernel_rfl) ?_
    refine WQ.val (by rfl) (fun v hv => by go_simp; first | done | with_reducible rfl | (rw [if_neg (by omega)])) ?_; simp only [Act.put, List.setIfInBounds_toArray, List.set_cons_zero, List.set_cons_succ]
    refine WQ.val (by rfl) (fun v hv => by go_simp; first | done | with_reducible rfl | (rw [if_neg (by omega)])) ?_; simp only [Act.put, List.setIfInBounds_toArray, List.set_cons_zero, List.set_cons_succ]
    refine WQ.val (by rfl) (fun v hv => by go_simp; first | done | with_reducible rfl | (rw [if_neg (by omega)])) ?_; simp only [Act.put, List.setIfInBounds_toArray, List.set_cons_zero, List.set_cons_succ]
    refine WQ.val (by rfl) (fun v hv => by go_simp; first | done | with_reducible rfl | (rw [if_neg (by omega)])) ?_; simp only [Act.put, List.setIfInBounds_toArray, List.set_cons_zero, List.set_cons_succ]
    refine WQ.off (by rfl) ?_; simp only [Act.put, List.setIfInBounds_toArray, List.set_cons_zero, List.set_cons_succ]
    refine WQ.off (by rfl) ?_; simp only [Act.put, List.setIfInBounds_toArray, List.set_cons_zero, List.set_cons_succ]
    refine WQ.off (by rfl) ?_; simp only [Act.put, List.setIfInBounds_toArray, List.set_cons_zero, List.set_cons_succ]
    refine WQ.off (by rfl) ?_; simp only [Act.put, List.setIfInBounds_toArray, List.set_cons_zero, List.set_cons_succ]
    refine WQ.off (by rfl) ?_; simp only [Act.put, List.setIfInBounds_toArray, List.set_cons_zero, List.set_cons_succ]
    refine WQ.val (by rfl) (fun v hv => by go_simp; first | done | with_reducible rfl | (rw [if_neg (by omega)])) ?_; simp only [Act.put, List.setIfInBounds_toArray, List.set_cons_zero, List.set_cons_succ]
    refine WQ.val (by rfl) (fun v hv => by go_simp; first | done | with_reducible rfl | (rw [if_neg (by omega)])) ?_; simp only [Act.put, List.setIfInBounds_toArray, List.set_cons_zero, List.set_cons_succ]
    refine WQ.val (by rfl) (fun v hv => by go_simp; first | done | with_reducible rfl | (rw [if_neg (by omega)])) ?_; simp only [Act.put, List.setIfInBounds_toArray, List.set_cons_zero, List.set_cons_succ]
    refine WQ.done ?_
    intro w5 hw5
    have HBE := Lib.hid (below_then HB1.out hw5)
    clear hw5
    go_wp2_with fail
    go_ret2
    exact ⟨rfl, HBE.out⟩
  | some i =>
    have hx : ix = (i : Int) := HX.out
    obtain ⟨hi, -⟩ := HF.out i rfl
    have hri : rs[i]? = some rs[i] := List.getElem?_eq_getElem hi
    have hr : res = rs[i].acc := by rw [HL.out]; simp [hri]
    obtain ⟨-, ad, rfl, c0, -⟩ := HR.out i rs[i] hri
    generalize rs[i].acc = ac at *
    subst hx hr
    have hlen : (i : Int) < (rs.length : Int) := by omega
    clear HX HL HF hri
    go_enter Tryz.func85, Tryz.ntmps85
    go_wp2_with fail
    refine HI.out.mono ?_
    rintro e w1 ⟨rfl, h1⟩
    have HB1 := Lib.hid (below_then HB0.out h1)
    have k1 := Since.cell h1 c0
    clear h1 HI c0
    go_wp2_with fail
    refine WQ.enter w1 (Since.refl _) (by kernel_rfl) (by kernel_rfl) ?_
    refine WQ.val (by rfl) (fun v hv => by have k0 := hv.cell k1; go_simp; first | done | with_reducible rfl | (rw [if_neg (by omega)])) ?_; simp only [Act.put, List.setIfInBounds_toArray, List.set_cons_zero, List.set_cons_succ]
    refine WQ.val (by rfl) (fun v hv => by have k0 := hv.cell k1; go_simp; first | done | with_reducible rfl | (rw [if_neg (by omega)])) ?_; simp only [Act.put, List.setIfInBounds_toArray, List.set_cons_zero, List.set_cons_succ]
    refine WQ.val (by rfl) (fun v hv => by have k0 := hv.cell k1; go_simp; first | done | with_reducible rfl | (rw [if_neg (by omega)])) ?_; simp only [Act.put, List.setIfInBounds_toArray, List.set_cons_zero, List.set_cons_succ]
    refine WQ.val (by rfl) (fun v hv => by have k0 := hv.cell k1; go_simp; first | done | with_reducible rfl | (rw [if_neg (by omega)])) ?_; simp only [Act.put, List.setIfInBounds_toArray, List.set_cons_zero, List.set_cons_succ]
    refine WQ.val (by rfl) (fun v hv => by have k0 := hv.cell k1; go_simp; first | done | with_reducible rfl | (rw [if_neg (by omega)])) ?_; simp only [Act.put, List.setIfInBounds_toArray, List.set_cons_zero, List.set_cons_succ]
    refine WQ.val (by rfl) (fun v hv => by have k0 := hv.cell k1; go_simp; first | done | with_reducible rfl | (rw [if_neg (by omega)])) ?_; simp only [Act.put, List.setIfInBounds_toArray, List.set_cons_zero, List.set_cons_succ]
    refine WQ.val (by rfl) (fun v hv => by have k0 := hv.cell k1; go_simp; first | done | with_reducible rfl | (rw [if_neg (by omega)])) ?_; simp only [Act.put, List.setIfInBounds_toArray, List.set_cons_zero, List.set_cons_succ]
    refine WQ.val (by rfl) (fun v hv => by have k0 := hv.cell k1; go_simp; first | done | with_reducible rfl | (rw [if_neg (by omega)])) ?_; simp only [Act.put, List.setIfInBounds_toArray, List.set_cons_zero, List.set_cons_succ]
    refine WQ.val (by rfl) (fun v hv => by have k0 := hv.cell k1; go_simp; first | done | with_reducible rfl | (rw [if_neg (by omega)])) ?_; simp only [Act.put, List.setIfInBounds_toArray, List.set_cons_zero, List.set_cons_succ]
    refine WQ.val (by rfl) (fun v hv => by have k0 := hv.cell k1; go_simp; first | done | with_reducible rfl | (rw [if_neg (by omega)])) ?_; simp only [Act.put, List.setIfInBounds_toArray, List.set_cons_zero, List.set_cons_succ]
    refine WQ.val (by rfl) (fun v hv => by have k0 := hv.cell k1; go_simp; first | done | with_reducible rfl | (rw [if_neg (by omega)])) ?_; simp only [Act.put, List.setIfInBounds_toArray, List.set_cons_zero, List.set_cons_succ]
    refine WQ.val (by rfl) (fun v hv => by have k0 := hv.cell k1; go_simp; first | done | with_reducible rfl | (rw [if_neg (by omega)])) ?_; simp only [Act.put, List.setIfInBounds_toArray, List.set_cons_zero, List.set_cons_succ]
    refine WQ.done ?_
    intro w5 hw5
    have HBE := Lib.hid (below_then HB1.out hw5)
    clear hw5
    go_wp2_with fail
    go_ret2
    exact ⟨rfl, HBE.out⟩
set_option maxHeartbeats 8000000 in
set_option maxRecDepth 100000 in
theorem refFirst_any (p : Pk) (a : Option Addr) (c : Nat) (rs : List Rl) (w : World) (hp : PkIn p) (hR : RulesAt w a rs) (hl : rs.length ≤ maxLen) :
    Calls Tryz.prog 74 #[.slice a rs.length c, .agg (pkC p)] w fun e w' => (∃ n, e = .returned (.tuple #[.int .i64 n, .bool (letIn rs p)])) ∧ Below w.heap.size w w' := by
  have hmax : rs.length ≤ 9223372036854775807 := Nat.le_trans hl (by decide)
  have HB0 : Hid (Below w.heap.size w (w.alloc (.cells (pkC p) 41))) := Lib.hid ((Below.refl _ _).alloc (Nat.le_refl _) _)
  have HPB : Hid (PkBox (w.alloc (.cells (pkC p) 41)) w.heap.size p) := Lib.hid (fun o v hv => by simp [hv])
  have HR := Lib.hid (hR.below HB0.out)
  have HM := Lib.hid (fun r W (h : r.In) => refMatches_any r p W h hp)
  have HL : Hid (∀ j r, rs[j]? = some r → letIn (rs.drop j) p = if matchF r p = true then r.acc else letIn (rs.drop (j + 1)) p) := Lib.hid (fun j r hj => by
    have hlt := (List.getElem?_eq_some_iff.1 hj).1
    rw [List.drop_eq_getElem_cons hlt]
    rw [List.getElem?_eq_getElem hlt] at hj
    injection hj with hj
    rw [hj]
    unfold letIn
    rw [List.find?_cons]
    by_cases h : matchF r p = true
    · simp [h]
    · rw [if_neg h]; simp [h])
  have HL0 : Hid (letIn rs p = letIn (rs.drop 0) p) := Lib.hid rfl
  have HLE : Hid (letIn (rs.drop rs.length) p = false) := Lib.hid (by rw [List.drop_length]; rfl)
  clear hR
  generalize letIn rs p = res at *
  obtain ⟨proto, src, dst, sport, dport, flags, kind⟩ := p
  go_enter Tryz.func74, Tryz.ntmps74
  unfold pkC at HB0 HPB HR HM ⊢
  dsimp only at HB0 HPB HR HM ⊢
  go_wp2_with fail
  generalize hw0 : w.alloc (.cells #[.int .u8 proto, .int .u32 src, .int .u32 dst, .int .u16 sport, .int .u16 dport, .int .u8 flags, .int .u8 kind] 41) = w0 at *
  go_loopw [6] (fun n wr => ∃ j : Nat, n = .int .i64 j ∧ j ≤ rs.length ∧ Hid (res = letIn (rs.drop j) ⟨proto, src, dst, sport, dport, flags, kind⟩) ∧ Hid (Since w0 wr)) (fun n _ => rs.length - (intOf n).toNat)
  case atStart => exact ⟨0, rfl, by omega, HL0, Lib.hid (Since.refl _)⟩
  case round =>
    obtain ⟨j, rfl, hj, hres, hS⟩ := hrel
    by_cases hlt : j < rs.length
    · obtain ⟨r, hrj⟩ : ∃ r, rs[j]? = some r := ⟨rs[j], List.getElem?_eq_getElem hlt⟩
      have HLJ := Lib.hid (HL.out j r hrj)
      have hRw := HR.out.below hS.out
      obtain ⟨hrIn, ad, rfl, c0, c1, c2, c3, c4, c5, c6, c7, c8, c9⟩ := hRw j r hrj
      have HMr := Lib.hid (fun W => HM.out r W hrIn)
      have p0 : wr.cell? ⟨w.heap.size, 0, none⟩ = some (.int .u8 proto) := Since.cell hS.out (HPB.out 0 _ rfl)
      have p1 : wr.cell? ⟨w.heap.size, 1, none⟩ = some (.int .u32 src) := Since.cell hS.out (HPB.out 1 _ rfl)
      have p2 : wr.cell? ⟨w.heap.size, 2, none⟩ = some (.int .u32 dst) := Since.cell hS.out (HPB.out 2 _ rfl)
      have p3 : wr.cell? ⟨w.heap.size, 3, none⟩ = some (.int .u16 sport) := Since.cell hS.out (HPB.out 3 _ rfl)
      have p4 : wr.cell? ⟨w.heap.size, 4, none⟩ = some (.int .u16 dport) := Since.cell hS.out (HPB.out 4 _ rfl)
      have p5 : wr.cell? ⟨w.heap.size, 5, none⟩ = some (.int .u8 flags) := Since.cell hS.out (HPB.out 5 _ rfl)
      have p6 : wr.cell? ⟨w.heap.size, 6, none⟩ = some (.int .u8 kind) := Since.cell hS.out (HPB.out 6 _ rfl)
      obtain ⟨acc, pr, sa, sb, da, db, sl, sh, dl, dh⟩ := r
      simp only at c0 c1 c2 c3 c4 c5 c6 c7 c8 c9
      have hlen : (j : Int) < (rs.length : Int) := by omega
      generalize hmf : matchF ⟨acc, pr, sa, sb, da, db, sl, sh, dl, dh⟩ ⟨proto, src, dst, sport, dport, flags, kind⟩ = mb at *
      have HMF := Lib.hid hmf
      clear hrj hmf hRw hrIn
      go_wp2_with fail
      refine WQ.enter wr (Since.refl _) (by kernel_rfl) (by kernel_rfl) ?_
      refine WQ.val (by rfl) (fun v hv => by have k0 := hv.cell c0; have k1 := hv.cell c1; have k2 := hv.cell c2; have k3 := hv.cell c3; have k4 := hv.cell c4; have k5 := hv.cell c5; have k6 := hv.cell c6; have k7 := hv.cell c7; have k8 := hv.cell c8; have k9 := hv.cell c9; have k10 := hv.cell p0; have k11 := hv.cell p1; have k12 := hv.cell p2; have k13 := hv.cell p3; have k14 := hv.cell p4; have k15 := hv.cell p5; have k16 := hv.cell p6; go_simp; first | done | with_reducible rfl | (rw [if_neg (by omega)])) ?_; simp only [Act.put, List.setIfInBounds_toArray, List.set_cons_zero, List.set_cons_succ]
      refine WQ.val (by rfl) (fun v hv => by have k0 := hv.cell c0; have k1 := hv.cell c1; have k2 := hv.cell c2; have k3 := hv.cell c3; have k4 := hv.cell c4; have k5 := hv.cell c5; have k6 := hv.cell c6; have k7 := hv.cell c7; have k8 := hv.cell c8; have k9 := hv.cell c9; have k10 := hv.cell p0; have k11 := hv.cell p1; have k12 := hv.cell p2; have k13 := hv.cell p3; have k14 := hv.cell p4; have k15 := hv.cell p5; have k16 := hv.cell p6; go_simp; first | done | with_reducible rfl | (rw [if_neg (by omega)])) ?_; simp only [Act.put, List.setIfInBounds_toArray, List.set_cons_zero, List.set_cons_succ]
      refine WQ.val (by rfl) (fun v hv => by have k0 := hv.cell c0; have k1 := hv.cell c1; have k2 := hv.cell c2; have k3 := hv.cell c3; have k4 := hv.cell c4; have k5 := hv.cell c5; have k6 := hv.cell c6; have k7 := hv.cell c7; have k8 := hv.cell c8; have k9 := hv.cell c9; have k10 := hv.cell p0; have k11 := hv.cell p1; have k12 := hv.cell p2; have k13 := hv.cell p3; have k14 := hv.cell p4; have k15 := hv.cell p5; have k16 := hv.cell p6; go_simp; first | done | with_reducible rfl | (rw [if_neg (by omega)])) ?_; simp only [Act.put, List.setIfInBounds_toArray, List.set_cons_zero, List.set_cons_succ]
      refine WQ.val (by rfl) (fun v hv => by have k0 := hv.cell c0; have k1 := hv.cell c1; have k2 := hv.cell c2; have k3 := hv.cell c3; have k4 := hv.cell c4; have k5 := hv.cell c5; have k6 := hv.cell c6; have k7 := hv.cell c7; have k8 := hv.cell c8; have k9 := hv.cell c9; have k10 := hv.cell p0; have k11 := hv.cell p1; have k12 := hv.cell p2; have k13 := hv.cell p3; have k14 := hv.cell p4; have k15 := hv.cell p5; have k16 := hv.cell p6; go_simp; first | done | with_reducible rfl | (rw [if_neg (by omega)])) ?_; simp only [Act.put, List.setIfInBounds_toArray, List.set_cons_zero, List.set_cons_succ]
      refine WQ.val (by rfl) (fun v hv => by have k0 := hv.cell c0; have k1 := hv.cell c1; have k2 := hv.cell c2; have k3 := hv.cell c3; have k4 := hv.cell c4; have k5 := hv.cell c5; have k6 := hv.cell c6; have k7 := hv.cell c7; have k8 := hv.cell c8; have k9 := hv.cell c9; have k10 := hv.cell p0; have k11 := hv.cell p1; have k12 := hv.cell p2; have k13 := hv.cell p3; have k14 := hv.cell p4; have k15 := hv.cell p5; have k16 := hv.cell p6; go_simp; first | done | with_reducible rfl | (rw [if_neg (by omega)])) ?_; simp only [Act.put, List.setIfInBounds_toArray, List.set_cons_zero, List.set_cons_succ]
      refine WQ.call (f := 101) (args := #[ruleW ⟨acc, pr, sa, sb, da, db, sl, sh, dl, dh⟩, .agg #[.int .u8 proto, .int .u32 src, .int .u32 dst, .int .u16 sport, .int .u16 dport, .int .u8 flags, .int .u8 kind]]) (by rfl) (fun v hv => by go_simp) (fun v hv => (HMr.out v).mono (fun e v' ⟨he, hb⟩ => ⟨he, hv.step hb⟩)) ?_; simp only [Act.put, List.setIfInBounds_toArray, List.set_cons_zero, List.set_cons_succ]
      refine WQ.done ?_
      intro w5 hw5
      have HS5 := Lib.hid (Since.step hS.out hw5)
      have d0 := Since.cell hw5 c0
      clear hw5 c0 c1 c2 c3 c4 c5 c6 c7 c8 c9 p0 p1 p2 p3 p4 p5 p6
      cases mb with
      | true =>
        have hv : Hid (res = acc) := Lib.hid (by rw [hres.out, HLJ.out]; simp)
        go_wp2_with fail
        refine WQ.enter w5 (Since.refl _) (by kernel_rfl) (by kernel_rfl) ?_
        refine WQ.val (by rfl) (fun v hv => by have k0 := hv.cell d0; go_simp; first | done | with_reducible rfl | (rw [if_neg (by omega)])) ?_; simp only [Act.put, List.setIfInBounds_toArray, List.set_cons_zero, List.set_cons_succ]
        refine WQ.val (by rfl) (fun v hv => by have k0 := hv.cell d0; go_simp; first | done | with_reducible rfl | (rw [if_neg (by omega)])) ?_; simp only [Act.put, List.setIfInBounds_toArray, List.set_cons_zero, List.set_cons_succ]
        refine WQ.val (by rfl) (fun v hv => by have k0 := hv.cell d0; go_simp; first | done | with_reducible rfl | (rw [if_neg (by omega)])) ?_; simp only [Act.put, List.setIfInBounds_toArray, List.set_cons_zero, List.set_cons_succ]
        refine WQ.val (by rfl) (fun v hv => by have k0 := hv.cell d0; go_simp; first | done | with_reducible rfl | (rw [if_neg (by omega)])) ?_; simp only [Act.put, List.setIfInBounds_toArray, List.set_cons_zero, List.set_cons_succ]
        refine WQ.val (by rfl) (fun v hv => by have k0 := hv.cell d0; go_simp; first | done | with_reducible rfl | (rw [if_neg (by omega)])) ?_; simp only [Act.put, List.setIfInBounds_toArray, List.set_cons_zero, List.set_cons_succ]
        refine WQ.val (by rfl) (fun v hv => by have k0 := hv.cell d0; go_simp; first | done | with_reducible rfl | (rw [if_neg (by omega)])) ?_; simp only [Act.put, List.setIfInBounds_toArray, List.set_cons_zero, List.set_cons_succ]
        refine WQ.val (by rfl) (fun v hv => by have k0 := hv.cell d0; go_simp; first | done | with_reducible rfl | (rw [if_neg (by omega)])) ?_; simp only [Act.put, List.setIfInBounds_toArray, List.set_cons_zero, List.set_cons_succ]
        refine WQ.val (by rfl) (fun v hv => by have k0 := hv.cell d0; go_simp; first | done | with_reducible rfl | (rw [if_neg (by omega)])) ?_; simp only [Act.put, List.setIfInBounds_toArray, List.set_cons_zero, List.set_cons_succ]
        refine WQ.done ?_
        intro w6 hw6
        have HS6 := Lib.hid (Since.step HS5.out hw6)
        clear hw6
        go_wp2_with fail
        go_ret2
        exact ⟨⟨_, by (rw [hv.out]) <;> rfl⟩, below_then HB0.out HS6.out⟩
      | false =>
        have HN : Hid (res = letIn (rs.drop (j + 1)) ⟨proto, src, dst, sport, dport, flags, kind⟩) := Lib.hid (by rw [hres.out, HLJ.out]; simp)
        clear d0
        go_wp2_with fail
        go_roundw
        case rel => exact ⟨j + 1, by go_num, by omega, HN, HS5⟩
        case measure => simp [intOf]; omega
    · obtain rfl : j = rs.length := by omega
      have hv : Hid (res = false) := Lib.hid (by rw [hres.out, HLE.out])
      go_wp2_with fail
      go_ret2
      exact ⟨⟨_, by (rw [hv.out]) <;> rfl⟩, below_then HB0.out hS.out⟩
end Go.Proofs.YtahgapkecabnjaaGreatDoor
/- Walks of auto.fits and Check and of the reference's Fits and Check. -/
namespace Go.Proofs.YtahgapkecabnjaaGreatDoor
set_option linter.unusedSimpArgs false
set_option linter.unusedVariables false
open Go Go.RowKit Go.Shelf Go.Lib

/-- May rules be? -/
def fitsF (rs : List Rl) : Int := if 64 < rs.length then 14 else if rs.all goodR then 0 else 1
set_option maxHeartbeats 4000000 in
set_option maxRecDepth 100000 in
/-- The closure of fits. -/
theorem fitsC_any (r : Rl) (W : World) (hr : r.In) (hT : Tabs W) :
    Calls Tryz.prog 63 #[ruleW r] W fun e w' => e = .returned (.bool (!goodR r)) ∧ Below W.heap.size W w' := by
  have HM := Lib.hid (fun W (h : Tabs W) => good_any r W hr h)
  have HB0 : Hid (Below W.heap.size W (W.alloc (.cells (ruleC r).toArray 79))) := Lib.hid ((Below.refl _ _).alloc (Nat.le_refl _) _)
  have HT := Lib.hid (hT.below HB0.out)
  generalize goodR r = res at *
  obtain ⟨acc, pr, sa, sb, da, db, sl, sh, dl, dh⟩ := r
  clear hr hT
  unfold ruleW
  dsimp only
  go_enter Tryz.func63, Tryz.ntmps63
  go_wp2_with fail
  refine (HM.out _ HT.out).mono ?_
  rintro e w2 ⟨rfl, h2⟩
  have HB2 := Lib.hid (below_then HB0.out h2)
  clear h2
  go_wp2_with fail
  go_ret
  exact ⟨rfl, HB2.out⟩
theorem idxv_nil (a : Option Addr) (c : Nat) (fv : Value) (w : World) :
    Calls Tryz.prog 93 #[.slice a 0 c, fv] w fun e w' => e = .returned (.int .i64 (-1)) ∧ Below w.heap.size w w' := by
  go_enter Tryz.func93, Tryz.ntmps93
  go_wp2_with fail
  go_loopw [8] (fun n wr => n = .int .i64 0 ∧ Hid (Below w.heap.size w wr)) (fun n _ => 0)
  case atStart => exact ⟨rfl, Lib.hid (Below.refl _ _)⟩
  case round =>
    obtain ⟨rfl, hB⟩ := hrel
    go_wp2_with fail
    go_ret
    exact ⟨rfl, hB.out⟩
theorem any_bad (rs : List Rl) : rs.any (fun r => !goodR r) = !rs.all goodR := by
  induction rs with
  | nil => rfl
  | cons r rs ih => simp only [List.any_cons, List.all_cons, ih]; cases goodR r <;> simp
set_option maxHeartbeats 1000000 in
theorem contains_any (a : Option Addr) (c : Nat) (rs : List Rl) (w : World) (hR : RulesAt w a rs) (hl : rs.length ≤ maxLen) (hT : Tabs w) :
    Calls Tryz.prog 62 #[.slice a rs.length c, .func (.func 63) #[] #[]] w fun e w' => e = .returned (.bool (!rs.all goodR)) ∧ Below w.heap.size w w' := by
  by_cases hne : rs = []
  · subst hne
    have HI := fun W => idxv_nil a c (.func (.func 63) #[] #[]) W
    go_enter Tryz.func62, Tryz.ntmps62
    go_wp2_with (go_at_call 93; refine (HI _).mono ?_; rintro e w' ⟨rfl, hb⟩)
    go_ret
    exact ⟨rfl, hb⟩
  · obtain ⟨b, o, rfl, hb⟩ := rulesAt_ad hR hne
    obtain ⟨zs, rfl⟩ := lift_rules rs (rulesAt_in hR)
    have eg : ∀ args w, (callFunc 63 args).run Tryz.prog w = .ok (.enter 63 args) w := enters_of Tryz.func63 (by kernel_rfl) rfl
    have hp : PredBelow Tryz.prog 63 #[] (fun x : RlIn => .agg (encR x).toArray) (fun x => !goodR x.1) w := fun W x hb =>
      (fitsC_any x.1 W x.2 (hT.below hb)).mono fun e w' h => ⟨h.1, hb.trans (h.2.mono hb.size)⟩
    have hcon := AnyQ.slices_ContainsFunc Tryz.conF 10 isAgg_rule sizeOf_rule encR encR_len (fun x => !goodR x.1) 63 #[] eg b o zs.length c zs w hp (Nat.le_refl _) (by rw [List.length_map] at hl; exact Nat.le_trans hl (by decide)) hb (rulesAt_cells hR)
    change Calls Tryz.prog 62 _ _ _ at hcon
    rw [List.take_length] at hcon
    rw [List.length_map, ← any_bad, List.any_map]
    exact hcon
set_option maxHeartbeats 1000000 in
theorem fits_any (a : Option Addr) (c : Nat) (rs : List Rl) (w : World) (hR : RulesAt w a rs) (hl : rs.length ≤ maxLen) (hT : Tabs w) :
    Calls Tryz.prog 31 #[.slice a rs.length c] w fun e w' => e = .returned (.int .i64 (fitsF rs)) ∧ Below w.heap.size w w' := by
  have HC := Lib.hid (fun n (h : n = rs.length) => (by subst h; exact contains_any a c rs w hR hl hT : Calls Tryz.prog 62 #[.slice a n c, .func (.func 63) #[] #[]] w fun e w' => e = .returned (.bool (!rs.all goodR)) ∧ Below w.heap.size w w'))
  have HV : Hid (fitsF rs = if 64 < rs.length then 14 else if rs.all goodR then 0 else 1) := Lib.hid rfl
  have hl2 : rs.length ≤ 9223372036854775807 := Nat.le_trans hl (by decide)
  clear hR hl
  generalize rs.all goodR = g at *
  generalize fitsF rs = res at *
  generalize rs.length = m at *
  by_cases h64 : 64 < m
  · have HV2 : Hid (res = 14) := Lib.hid (by rw [HV.out, if_pos h64])
    go_enter Tryz.func31, Tryz.ntmps31
    go_wp2_with fail
    go_ret
    exact ⟨by (rw [HV2.out]) <;> rfl, Below.refl _ _⟩
  · have HV2 : Hid (res = if g = true then 0 else 1) := Lib.hid (by rw [HV.out, if_neg h64])
    cases g with
    | true =>
      go_enter Tryz.func31, Tryz.ntmps31
      go_wp2_with (go_at_call 62; refine (HC.out _ rfl).mono ?_; rintro e w' ⟨rfl, hb⟩)
      go_ret
      exact ⟨by (rw [HV2.out]) <;> rfl, hb⟩
    | false =>
      go_enter Tryz.func31, Tryz.ntmps31
      go_wp2_with (go_at_call 62; refine (HC.out _ rfl).mono ?_; rintro e w' ⟨rfl, hb⟩)
      go_ret
      exact ⟨by (rw [HV2.out]) <;> rfl, hb⟩
set_option maxHeartbeats 4000000 in
set_option maxRecDepth 100000 in
theorem refFits_any (s : Option Addr) (cap : Nat) (rs : List Rl) (w : World) (hL : RulesAt w s rs) (hmax : rs.length ≤ maxLen) :
    Calls Tryz.prog 61 #[.slice s rs.length cap] w fun e w' => e = .returned (.int .i64 (fitsF rs)) ∧ Below w.heap.size w w' := by
  have hmax2 : rs.length ≤ 9223372036854775807 := Nat.le_trans hmax (by decide)
  by_cases h64 : 64 < rs.length
  · have HV : Hid (fitsF rs = 14) := Lib.hid (by unfold fitsF; rw [if_pos h64])
    go_enter Tryz.func61, Tryz.ntmps61
    go_wp2_with fail
    go_ret
    exact ⟨by (rw [HV.out]) <;> rfl, Below.refl _ _⟩
  have hle : rs.length ≤ 64 := by omega
  have HL := Lib.hid hL
  clear hL
  go_enter Tryz.func61, Tryz.ntmps61
  go_wp2_with fail
  go_loopw [3] (fun n wr => ∃ (j : Nat), n = .int .i64 j ∧ j ≤ rs.length ∧ Hid (∀ i r, i < j → rs[i]? = some r → goodR r = true) ∧ Hid (Below w.heap.size w wr)) (fun n _ => rs.length - (intOf n).toNat)
  case atStart => exact ⟨0, rfl, by omega, Lib.hid (fun i r hi => absurd hi (Nat.not_lt_zero _)), Lib.hid (Below.refl _ _)⟩
  case round =>
    obtain ⟨j, rfl, hj, hgood, hB⟩ := hrel
    by_cases hl : j < rs.length
    · obtain ⟨r, hrj⟩ : ∃ r, rs[j]? = some r := ⟨rs[j], List.getElem?_eq_getElem hl⟩
      obtain ⟨hr, ad, rfl, hR⟩ := HL.out.below hB.out j r hrj
      have HG := Lib.hid (fun W => refGood_any r W hr)
      have HRJ := Lib.hid hrj
      clear hrj hr
      generalize hgr : goodR r = gr at *
      obtain ⟨acc, pr, sa, sb, da, db, sl, sh, dl, dh⟩ := r
      obtain ⟨c0, c1, c2, c3, c4, c5, c6, c7, c8, c9⟩ := hR
      simp only at c0 c1 c2 c3 c4 c5 c6 c7 c8 c9
      have HGR := Lib.hid hgr
      clear hgr
      go_wp2_with fail
      clear c0 c1 c2 c3 c4 c5 c6 c7 c8 c9
      refine (HG.out _).mono ?_
      rintro e w2 ⟨rfl, h2⟩
      have HB2 := Lib.hid (below_then hB.out h2)
      cases gr with
      | false =>
        have HV : Hid (fitsF rs = 1) := Lib.hid (by
          unfold fitsF
          rw [if_neg h64, if_neg]
          intro h
          have h3 := List.all_eq_true.1 h _ (List.mem_of_getElem? HRJ.out)
          rw [HGR.out] at h3; cases h3)
        clear h2
        go_wp2_with fail
        go_ret
        exact ⟨by (rw [HV.out]) <;> rfl, HB2.out⟩
      | true =>
        clear h2
        go_wp2_with fail
        go_roundw
        case rel =>
          refine ⟨j + 1, by go_num, by omega, Lib.hid (fun i r hi hri => ?_), HB2⟩
          rcases Nat.lt_or_eq_of_le (Nat.le_of_lt_succ hi) with h | rfl
          · exact hgood.out i r h hri
          · rw [HRJ.out] at hri; injection hri with hri; rw [← hri]; exact HGR.out
        case measure => simp [intOf]; omega
    · obtain rfl : j = rs.length := by omega
      have HV : Hid (fitsF rs = 0) := Lib.hid (by
        unfold fitsF
        rw [if_neg h64, if_pos]
        refine List.all_eq_true.2 fun r hr => ?_
        obtain ⟨i, hi, e⟩ := List.getElem_of_mem hr
        exact hgood.out i r hi (by rw [List.getElem?_eq_getElem hi, e]))
      clear hgood
      go_wp2_with fail
      go_ret
      exact ⟨by (rw [HV.out]) <;> rfl, hB.out⟩
end Go.Proofs.YtahgapkecabnjaaGreatDoor
/- Walks of auto.Check and of the reference's Check. -/
namespace Go.Proofs.YtahgapkecabnjaaGreatDoor
set_option linter.unusedSimpArgs false
set_option linter.unusedVariables false
open Go Go.RowKit Go.Shelf Go.Lib

/-- A config. -/
structure Cf where
  st : Int
  cap : Int
  ts : Nat → Int
def cfC (c : Cf) : Array Value := #[.int .i64 c.st, .int .i64 c.cap, .int .i64 (c.ts 0), .int .i64 (c.ts 1), .int .i64 (c.ts 2), .int .i64 (c.ts 3), .int .i64 (c.ts 4), .int .i64 (c.ts 5), .int .i64 (c.ts 6), .int .i64 (c.ts 7), .int .i64 (c.ts 8), .int .i64 (c.ts 9), .int .i64 (c.ts 10), .int .i64 (c.ts 11), .int .i64 (c.ts 12), .int .i64 (c.ts 13), .int .i64 (c.ts 14), .int .i64 (c.ts 15)]
/-- Is it a power of two that may be? -/
def powN (s : Nat) : Bool := decide (1 ≤ s) && decide (s ≤ 4096) && (s &&& (s - 1) == 0)
def powF (st : Int) : Bool := decide (1 ≤ st) && powN st.toNat
def powUp (k s : Nat) : Bool := (List.range k).any fun j => decide (2 ^ j = s)
def powChk : Nat → Bool
  | 0 => powN 0 == powUp 13 0
  | n + 1 => (powN (n + 1) == powUp 13 (n + 1)) && powChk n
theorem powChk_all : powChk 4096 = true := by decide +kernel
theorem powChk_at : ∀ {n s : Nat}, powChk n = true → s ≤ n → powN s = powUp 13 s
  | 0, s, h, hs => by obtain rfl : s = 0 := by omega
                      simpa [powChk] using h
  | n + 1, s, h, hs => by
    unfold powChk at h
    rw [Bool.and_eq_true] at h
    rcases Nat.lt_or_eq_of_le hs with h1 | rfl
    · exact powChk_at h.2 (by omega)
    · simpa using h.1
theorem powUp_big {k s : Nat} (hk : k ≤ 13) (hs : 4096 < s) : powUp k s = false := by
  unfold powUp
  rw [List.any_eq_false]
  intro j hj
  have hj := List.mem_range.1 hj
  have := Nat.pow_le_pow_right (n := 2) (by omega) (show j ≤ 12 by omega)
  simp
  omega
theorem powN_up (s : Nat) : powN s = powUp 13 s := by
  by_cases h : s ≤ 4096
  · exact powChk_at powChk_all h
  · rw [powUp_big (by omega) (by omega)]
    unfold powN
    simp [show ¬ s ≤ 4096 by omega]
/-- May a firewall be made so? -/
def checkF (c : Cf) (rs : List Rl) : Int := if powF c.st = true ∧ 1 ≤ c.cap ∧ c.cap ≤ 4095 then fitsF rs else 1
theorem band_less (s : Nat) (h1 : 1 ≤ s) (h2 : s ≤ 4096) : bits .and .i64 (s : Int) ((s : Int) - 1) = ((s &&& (s - 1) : Nat) : Int) := by
  have hx : s &&& (s - 1) ≤ s := Nat.and_le_left
  have e : ((s : Int) - 1) = ((s - 1 : Nat) : Int) := by omega
  rw [e]
  show IntKind.i64.wrap ((BitVec.ofInt 64 (s : Int) &&& BitVec.ofInt 64 ((s - 1 : Nat) : Int)).toNat : Int) = _
  rw [BitVec.toNat_and, ofInt_u64 s (by omega), ofInt_u64 (s - 1) (by omega)]
  generalize s &&& (s - 1) = q at *
  simp [IntKind.wrap, IntKind.bits, IntKind.signed]
  omega
set_option maxHeartbeats 4000000 in
set_option maxRecDepth 100000 in
theorem check_any (c : Cf) (a : Option Addr) (k : Nat) (rs : List Rl) (w : World) (hR : RulesAt w a rs) (hl : rs.length ≤ maxLen) (hT : Tabs w) :
    Calls Tryz.prog 12 #[.agg (cfC c), .slice a rs.length k] w fun e w' => e = .returned (.int .i64 (checkF c rs)) ∧ Below w.heap.size w w' := by
  have HB0 : Hid (Below w.heap.size w (w.alloc (.cells (cfC c) 24))) := Lib.hid ((Below.refl _ w).alloc (Nat.le_refl _) _)
  have HF := Lib.hid (fits_any a k rs _ (hR.below HB0.out) hl (hT.below HB0.out))
  have x0 : (w.alloc (.cells (cfC c) 24)).cell? ⟨w.heap.size, 0, none⟩ = some (.int .i64 c.st) := by simp [cfC]
  have x1 : (w.alloc (.cells (cfC c) 24)).cell? ⟨w.heap.size, 1, none⟩ = some (.int .i64 c.cap) := by simp [cfC]
  have HV : Hid (checkF c rs = if powF c.st = true ∧ 1 ≤ c.cap ∧ c.cap ≤ 4095 then fitsF rs else 1) := Lib.hid rfl
  generalize checkF c rs = res at *
  generalize fitsF rs = fr at *
  generalize rs.length = m at *
  generalize cfC c = X at *
  obtain ⟨st, cap, ts⟩ := c
  simp only at x0 x1 HV
  clear hR hT hl
  by_cases h1 : st < 1
  · have HV2 : Hid (res = 1) := Lib.hid (by rw [HV.out, if_neg]; rintro ⟨h, _⟩; unfold powF at h; simp at h; omega)
    go_enter Tryz.func12, Tryz.ntmps12
    go_wp2_with fail
    go_ret
    exact ⟨by (rw [HV2.out]) <;> rfl, HB0.out⟩
  by_cases h2 : 4096 < st
  · have HV2 : Hid (res = 1) := Lib.hid (by rw [HV.out, if_neg]; rintro ⟨h, _⟩; unfold powF powN at h; simp at h; omega)
    go_enter Tryz.func12, Tryz.ntmps12
    go_wp2_with fail
    go_ret
    exact ⟨by (rw [HV2.out]) <;> rfl, HB0.out⟩
  obtain ⟨s, rfl⟩ := Int.eq_ofNat_of_zero_le (show 0 ≤ st by omega)
  have hb := band_less s (by omega) (by omega)
  have hp : Hid (powF (s : Int) = (s &&& (s - 1) == 0)) := Lib.hid (by unfold powF powN; simp [show 1 ≤ s by omega, show s ≤ 4096 by omega]; omega)
  generalize hq : s &&& (s - 1) = q at *
  clear hq
  by_cases hq0 : q = 0
  · subst hq0
    have hq2 : bits .and .i64 (s : Int) ((s : Int) - 1) = 0 := by rw [hb]; rfl
    clear hb
    by_cases h3 : cap < 1
    · have HV2 : Hid (res = 1) := Lib.hid (by rw [HV.out, if_neg]; omega)
      go_enter Tryz.func12, Tryz.ntmps12
      go_wp2_with fail
      go_ret
      exact ⟨by (rw [HV2.out]) <;> rfl, HB0.out⟩
    by_cases h4 : 4095 < cap
    · have HV2 : Hid (res = 1) := Lib.hid (by rw [HV.out, if_neg]; omega)
      go_enter Tryz.func12, Tryz.ntmps12
      go_wp2_with fail
      go_ret
      exact ⟨by (rw [HV2.out]) <;> rfl, HB0.out⟩
    have HV2 : Hid (res = fr) := Lib.hid (by rw [HV.out, if_pos]; exact ⟨by rw [hp.out]; rfl, by omega, by omega⟩)
    go_enter Tryz.func12, Tryz.ntmps12
    go_wp2_with (go_at_call 31; refine HF.out.mono ?_; rintro e w' ⟨rfl, hbb⟩)
    go_ret
    exact ⟨by (rw [HV2.out]) <;> rfl, below_then HB0.out hbb⟩
  · have hq1 : bits .and .i64 (s : Int) ((s : Int) - 1) ≠ 0 := by rw [hb]; omega
    have HV2 : Hid (res = 1) := Lib.hid (by rw [HV.out, if_neg]; rintro ⟨h, _⟩; rw [hp.out] at h; simp at h; exact hq0 h)
    generalize hz : bits .and .i64 (s : Int) ((s : Int) - 1) = z at *
    go_enter Tryz.func12, Tryz.ntmps12
    go_wp2_with fail
    go_ret
    exact ⟨by (rw [HV2.out]) <;> rfl, HB0.out⟩
theorem powUp_snoc (k s : Nat) : powUp (k + 1) s = (powUp k s || decide (2 ^ k = s)) := by
  unfold powUp
  rw [List.range_succ, List.any_append]
  simp
theorem powZ (k : Nat) (st : Int) : ((2 ^ k : Nat) : Int) = st ↔ 0 ≤ st ∧ 2 ^ k = st.toNat := by
  have h : ∀ q : Nat, (q : Int) = st ↔ 0 ≤ st ∧ q = st.toNat := fun q => by omega
  exact h _
set_option maxHeartbeats 4000000 in
set_option maxRecDepth 100000 in
theorem refCheck_any (c : Cf) (a : Option Addr) (k : Nat) (rs : List Rl) (w : World) (hR : RulesAt w a rs) (hl : rs.length ≤ maxLen) :
    Calls Tryz.prog 29 #[.agg (cfC c), .slice a rs.length k] w fun e w' => e = .returned (.int .i64 (checkF c rs)) ∧ Below w.heap.size w w' := by
  have HB0 : Hid (Below w.heap.size w (w.alloc (.cells (cfC c) 24))) := Lib.hid ((Below.refl _ w).alloc (Nat.le_refl _) _)
  have HF := Lib.hid (fun W (h : Below w.heap.size w W) => refFits_any a k rs W (hR.below h) hl)
  have x0 : (w.alloc (.cells (cfC c) 24)).cell? ⟨w.heap.size, 0, none⟩ = some (.int .i64 c.st) := by simp [cfC]
  have x1 : (w.alloc (.cells (cfC c) 24)).cell? ⟨w.heap.size, 1, none⟩ = some (.int .i64 c.cap) := by simp [cfC]
  have HV : Hid (checkF c rs = if powF c.st = true ∧ 1 ≤ c.cap ∧ c.cap ≤ 4095 then fitsF rs else 1) := Lib.hid rfl
  generalize checkF c rs = res at *
  generalize fitsF rs = fr at *
  generalize rs.length = m at *
  generalize cfC c = X at *
  obtain ⟨st, cap, ts⟩ := c
  simp only at x0 x1 HV
  clear hR hl
  have hpow : Hid (powF st = (decide (0 ≤ st) && powUp 13 st.toNat)) := Lib.hid (by
    unfold powF
    rw [← powN_up]
    by_cases h : 1 ≤ st
    · simp [h, show 0 ≤ st by omega]
    · have : st.toNat = 0 := by omega
      rw [this]
      simp [h, powN])
  go_enter Tryz.func29, Tryz.ntmps29
  go_wp2_with fail
  go_loopw [5, 6] (fun p n wr => ∃ (j : Nat), n = .int .i64 ((2 ^ j : Nat) : Int) ∧ j ≤ 13 ∧ p = .bool (decide (0 ≤ st) && powUp j st.toNat) ∧ wr = w.alloc (.cells X 24)) (fun _ n _ => 8192 - (intOf n).toNat)
  case atStart => exact ⟨0, rfl, by omega, by simp [powUp], rfl⟩
  case round =>
    obtain ⟨j, rfl, hj, rfl, rfl⟩ := hrel
    have hs := Lib.hid (powUp_snoc j st.toNat)
    have hz := Lib.hid (powZ j st)
    by_cases hl : j < 13
    · have h2 : 2 ^ j ≤ 4096 := by have := Nat.pow_le_pow_right (n := 2) (by omega) (show j ≤ 12 by omega); simpa using this
      have h1 : 1 ≤ 2 ^ j := Nat.one_le_two_pow
      have hsucc : Hid (2 ^ (j + 1) = 2 ^ j * 2) := Lib.hid (Nat.pow_succ 2 j)
      generalize hpj : powUp j st.toNat = pj at *
      generalize 2 ^ j = q at *
      cases hd : decide (0 ≤ st) && pj with
      | true =>
        go_wp2_with fail
        go_roundw
        case rel => exact ⟨j + 1, by rw [hsucc.out]; go_num, by omega, by rw [hs.out]; simp at hd; simp [hd], by first | rfl | trivial⟩
        case measure => simp [intOf]; omega
      | false =>
        by_cases he : (q : Int) = st
        · go_wp2_with fail
          go_roundw
          case rel => exact ⟨j + 1, by rw [hsucc.out]; go_num, by omega, by have := hz.out.1 he; rw [hs.out]; simp [this.1, this.2], by first | rfl | trivial⟩
          case measure => simp [intOf]; omega
        · go_wp2_with fail
          go_roundw
          case rel => exact ⟨j + 1, by rw [hsucc.out]; go_num, by omega, by
            have hn := fun h => he (hz.out.2 h)
            rw [hs.out]
            by_cases h0 : 0 ≤ st
            · have : ¬ q = st.toNat := fun e => hn ⟨h0, e⟩
              simp [h0] at hd
              simp [h0, this, hd, he]
            · simp [h0, he], by first | rfl | trivial⟩
          case measure => simp [intOf]; omega
    · obtain rfl : j = 13 := by omega
      have hpw : Hid ((decide (0 ≤ st) && powUp 13 st.toNat) = powF st) := Lib.hid hpow.out.symm
      generalize (decide (0 ≤ st) && powUp 13 st.toNat) = b at *
      cases b with
      | false =>
        have HV2 : Hid (res = 1) := Lib.hid (by rw [HV.out, if_neg]; rintro ⟨h, _⟩; rw [← hpw.out] at h; cases h)
        go_wp2_with fail
        go_ret
        exact ⟨by (rw [HV2.out]) <;> rfl, HB0.out⟩
      | true =>
        by_cases h3 : cap < 1
        · have HV2 : Hid (res = 1) := Lib.hid (by rw [HV.out, if_neg]; omega)
          go_wp2_with fail
          go_ret
          exact ⟨by (rw [HV2.out]) <;> rfl, HB0.out⟩
        by_cases h4 : 4095 < cap
        · have HV2 : Hid (res = 1) := Lib.hid (by rw [HV.out, if_neg]; omega)
          go_wp2_with fail
          go_ret
          exact ⟨by (rw [HV2.out]) <;> rfl, HB0.out⟩
        have HV2 : Hid (res = fr) := Lib.hid (by rw [HV.out, if_pos]; exact ⟨hpw.out.symm, by omega, by omega⟩)
        go_wp2_with fail
        refine (HF.out _ HB0.out).mono ?_
        rintro e w2 ⟨rfl, hbb⟩
        have HB2 := Lib.hid (below_then HB0.out hbb)
        clear hbb
        go_wp2_with fail
        go_ret
        exact ⟨by (rw [HV2.out]) <;> rfl, HB2.out⟩
end Go.Proofs.YtahgapkecabnjaaGreatDoor
/- slices.Clone at rules. -/
namespace Go.Proofs.YtahgapkecabnjaaGreatDoor
set_option linter.unusedSimpArgs false
set_option linter.unusedVariables false
open Go Go.RowKit Go.Shelf Go.Lib

/-- A place, if any, is not in a part of a block. -/
def Plain (a : Option Addr) : Prop := ∀ ad, a = some ad → ∃ b o, ad = ⟨b, o, none⟩
theorem rowsC_len (rs : List Rl) : (rowsC rs).length = rs.length * 10 := by
  induction rs with
  | nil => rfl
  | cons r rs ih => simp only [rowsC, List.flatMap_cons, List.length_append, List.length_cons] at *; rw [ih]; simp [ruleC]; omega
theorem rowsC_cell (rs : List Rl) : ∀ u ∈ rowsC rs, u.oneCell' = true := fun u hu => by
  obtain ⟨r, hr, h⟩ := List.mem_flatMap.1 hu
  exact ruleC_cell r u h
theorem rowsC_read {w : World} {b o : Nat} {rs : List Rl} (h : RulesAt w (some ⟨b, o, none⟩) rs) : ∀ j u, (rowsC rs)[j]? = some u → w.cell? ⟨b, o + j, none⟩ = some u := fun j u hj => by
  have hlt : j < rs.length * 10 := by rw [← rowsC_len]; exact (List.getElem?_eq_some_iff.1 hj).1
  have hq : j / 10 < rs.length := by omega
  obtain ⟨zs, rfl⟩ := lift_rules rs (rulesAt_in h)
  have e : (zs.map (·.1))[j / 10]? = some ((zs[j / 10]!).1) := by
    rw [List.length_map] at hq
    rw [List.getElem?_map, List.getElem?_eq_getElem hq, List.getElem!_eq_getElem?_getD, List.getElem?_eq_getElem hq]; rfl
  have h2 := rowsC_get (zs.map (·.1)) (j / 10) (j % 10) _ e (by omega)
  rw [show j / 10 * 10 + j % 10 = j by omega, hj] at h2
  have := rulesAt_cells h (j / 10) (by simpa using hq) (j % 10) u h2.symm
  rwa [show o + j / 10 * 10 + j % 10 = o + j by omega] at this
theorem rowsC_add {w : World} {ad : Addr} {rs : List Rl} (h : RulesAt w (some ad) rs) : ∀ j u, (rowsC rs)[j]? = some u → w.cell? (ad.add j) = some u := fun j u hj => by
  have hlt : j < rs.length * 10 := by rw [← rowsC_len]; exact (List.getElem?_eq_some_iff.1 hj).1
  have h0 : 0 < rs.length := by omega
  obtain ⟨_, ad', e, hc, _⟩ := h 0 rs[0] (List.getElem?_eq_getElem h0)
  cases e
  obtain ⟨b, o, sp⟩ := ad
  have hsp : sp = none := by
    cases sp with
    | none => rfl
    | some x => simp [Addr.add, World.cell?] at hc; split at hc <;> simp at hc
  subst hsp
  have := rowsC_read h j u hj
  unfold Addr.add
  split
  · rename_i hz; subst hz; exact this
  · exact this
set_option maxHeartbeats 1000000 in
theorem cloneRules_any (a : Option Addr) (c : Nat) (rs : List Rl) (w : World) (hR : RulesAt w a rs) (hl : rs.length ≤ 1000000) :
    Calls Tryz.prog 28 #[.slice a rs.length c] w fun e w' => ∃ v', e = .returned v' ∧ w'.ownsRow w.heap.size 79 10 v' rs.length (rowsC rs) ∧ Below w.heap.size w w' := by
  cases a with
  | none =>
    have hrs : rs = [] := by
      cases rs with
      | nil => rfl
      | cons r rs => obtain ⟨_, ad, e, _⟩ := hR 0 r rfl; cases e
    subst hrs
    refine (show Calls Tryz.prog 28 #[.slice none 0 c] w _ from AnyE.slices_Clone_nil (P := Tryz.prog) (ρ := Tryz.cloneR_ren) Tryz.cloneR 0 c w).mono ?_
    rintro e w' ⟨rfl, rfl⟩
    exact ⟨_, rfl, World.ownsRow_nil _ _ _ _, Below.refl _ _⟩
  | some ad =>
    obtain ⟨i0, hi, hz0, hz1, hz2⟩ := info_parts ruleInfo
    have hm : (1000000 : Nat) ≤ maxLen := by decide
    have A : Aside (∀ j u, (rowsC rs)[j]? = some u → w.cell? (ad.add j) = some u) := rowsC_add hR
    have HL := Lib.hid (rowsC_len rs)
    have H1 := Lib.hid (rowsC_cell rs)
    have q22 : ∀ (w : World) (a : Option Addr) (n c n' c' : Nat), (binOp .eql 25 (.slice a n c) (.slice none n' c')).run Tryz.prog w = .ok (.bool a.isNone) w := fun w a n c n' c' => Lib.run_eql_slice_nil w _ _ a n c n' c' Tryz.underlying25
    clear hR
    generalize rowsC rs = news at *
    generalize rs.length = n at *
    go_enter Tryz.func28, Tryz.ntmps28
    go_wp2_with (at_builtin; refine wpList_append_own _ rfl _ _ 25 rfl w.heap.size 79 i0 _ 10 48 Tryz.underlying25 hi hz0 hz1 hz2 rfl (by decide) _ _ _ rfl (World.ownsRow_made w #[] 0 (Nat.le_refl _) (Nat.zero_le _) (by simp)) ad n c news rfl ?qc1 ?qc2 ?qc3 ?qc4 ?qc5 ?qc6 ?_)
    case qc1 => exact HL.out
    case qc2 =>
      intro j u hj
      exact Lib.cell?_alloc_some _ (A.out j u hj)
    case qc3 => exact H1.out
    case qc4 => omega
    case qc5 => omega
    case qc6 => simp
    intro v' w1 hown hgrow hnil
    go_wp2
    go_ret
    exact ⟨v', rfl, by simpa using hown, ((Below.refl _ w).alloc (Nat.le_refl _) _).grown hgrow (by simp) (by intro k hk; simp [Value.ownBlock] at hk; omega)⟩
end Go.Proofs.YtahgapkecabnjaaGreatDoor
/- Maps as functions: delete, len, and a range over the keys, each once in some order; inside a fence and outside. After Derived/Maps/Range.lean. -/
namespace Go.Proofs.YtahgapkecabnjaaGreatDoor
set_option linter.unusedSimpArgs false
set_option linter.unusedVariables false
open Go Go.RowKit Go.Maps Go.MapKept
open Go.ChangeMaps (setBlock)

section
variable {P : Program} {k : TypeId} {w : World} {b r : Nat} {f : Value → Option Value} {t e : TypeId}

theorem MapIs.apart {es : Array MapEntry} {clock : Nat} (M : MapIs P k es clock f) : es.toList.Pairwise (fun x y => x.key ≠ y.key) := ((stamped_iff es clock).1 M.stamped).2.2
/-- 'delete(m, k)'. -/
theorem IsMap.delete (h : IsMap w P k b f) (K : Keyed P k) (ht : P.underlying t = some (.map k e)) {key : Value} {kl : Lit} (hkey : keyOf P k key = some kl) (ty : TypeId) :
    ∃ o, (Builtin.delete_ #[t, k] ty #[.map (some b), key]).run P w = .ok (.tuple #[]) (setBlock w b o) ∧ IsMap (setBlock w b o) P k b (upd f key none) := by
  have hlt := h.lt
  obtain ⟨es, clock, hb, M⟩ := h
  rcases K.find w hkey es.toList M.keys with ⟨h1, h2⟩ | ⟨j, e0, h1, h2, h3⟩
  · refine ⟨.map es clock, ?_, es, clock, set_heap_same hlt, M.stamped, M.keys, fun x hx => ?_, fun v x hv => ?_⟩
    · simp [Builtin.delete_, run_underlying ht, MapKept.run_getObj_map hb, K.check w _ hkey, h1, MapKept.run_setObj_map _ hb, Result.andThen, setBlock]
    · rw [upd_other _ _ (h2 x hx)]; exact M.has x hx
    · by_cases hvk : v = key
      · subst hvk; rw [upd_same] at hv; cases hv
      · rw [upd_other _ _ hvk] at hv; exact M.only v x hv
  · have hjl : j < es.toList.length := (List.getElem?_eq_some_iff.1 h2).1
    have hjs : j < es.size := by simpa using hjl
    have hsub : (es.eraseIdxIfInBounds j).toList = es.toList.eraseIdx j := by
      unfold Array.eraseIdxIfInBounds
      rw [dif_pos hjs]
      simp
    have hpw := M.apart
    have who : ∀ x, x ∈ (es.eraseIdxIfInBounds j).toList ↔ (x ∈ es.toList ∧ x.key ≠ key) := fun x => by
      rw [hsub, List.mem_eraseIdx_iff_getElem?]
      constructor
      · rintro ⟨i, hne, hi⟩
        refine ⟨List.mem_of_getElem? hi, fun ek => ?_⟩
        have hil := (List.getElem?_eq_some_iff.1 hi)
        have hjj := (List.getElem?_eq_some_iff.1 h2)
        obtain ⟨hi1, hi2⟩ := hil
        obtain ⟨hj1, hj2⟩ := hjj
        have ee : es.toList[i].key = es.toList[j].key := by rw [hi2, hj2, h3, ek]
        rcases Nat.lt_or_gt_of_ne hne with hl | hg
        · exact List.pairwise_iff_getElem.1 hpw i j hi1 hj1 hl ee
        · exact List.pairwise_iff_getElem.1 hpw j i hj1 hi1 hg ee.symm
      · rintro ⟨hx, hne⟩
        obtain ⟨i, hi⟩ := List.getElem?_of_mem hx
        refine ⟨i, fun e1 => hne ?_, hi⟩
        rw [e1, h2] at hi
        cases hi
        exact h3
    refine ⟨.map (es.eraseIdxIfInBounds j) clock, ?_, es.eraseIdxIfInBounds j, clock, set_heap_same hlt, stamped_erase M.stamped j, fun x hx => M.keys x ((who x).1 hx).1, fun x hx => ?_, fun v x hv => ?_⟩
    · simp [Builtin.delete_, run_underlying ht, MapKept.run_getObj_map hb, K.check w _ hkey, h1, MapKept.run_setObj_map _ hb, Result.andThen, setBlock]
    · rw [upd_other _ _ ((who x).1 hx).2]; exact M.has x ((who x).1 hx).1
    · by_cases hvk : v = key
      · subst hvk; rw [upd_same] at hv; cases hv
      · rw [upd_other _ _ hvk] at hv
        obtain ⟨x1, hx1, hk1, hv1⟩ := M.only v x hv
        exact ⟨x1, (who x1).2 ⟨hx1, by rw [hk1]; exact hvk⟩, hk1, hv1⟩

/-- A range over block b's map by iterator r; 'pre': the keys that have come. -/
def Ranging (w : World) (P : Program) (k : TypeId) (b r : Nat) (f : Value → Option Value) (pre : List Value) : Prop :=
  ∃ es clock since seen c0, w.heap[b]? = some (.map es clock) ∧ MapIs P k es clock f ∧ w.heap[r]? = some (.mapIter (some b) since seen c0) ∧ (∀ x ∈ es.toList, x.born < since) ∧ since ≤ c0 ∧ since ≤ clock ∧
    pre.Nodup ∧ (∀ x ∈ es.toList, seen.contains x.born = true ↔ x.key ∈ pre) ∧ (∀ v ∈ pre, ∃ x ∈ es.toList, x.key = v)
theorem Ranging.is {pre : List Value} (h : Ranging w P k b r f pre) : IsMap w P k b f := by
  obtain ⟨es, clock, _, _, _, hb, M, _⟩ := h
  exact ⟨es, clock, hb, M⟩
theorem Ranging.ne {pre : List Value} (h : Ranging w P k b r f pre) : r ≠ b := fun e => by
  obtain ⟨es, clock, _, _, _, hb, _, hr, _⟩ := h
  rw [e, hb] at hr; cases hr
theorem Ranging.sub {pre : List Value} (h : Ranging w P k b r f pre) : ∀ v ∈ pre, ∃ x, f v = some x := by
  obtain ⟨es, clock, _, _, _, hb, M, hr, _, _, _, _, _, hp⟩ := h
  intro v hv
  obtain ⟨x, hx, rfl⟩ := hp v hv
  exact ⟨_, M.has x hx⟩
theorem Ranging.of_walks {w' : World} {pre : List Value} (h : Ranging w P k b r f pre) (hk : KeepsWalks w w') : Ranging w' P k b r f pre := by
  obtain ⟨es, clock, since, seen, c0, hb, M, hr, rest⟩ := h
  exact ⟨es, clock, since, seen, c0, hk.same b _ hb rfl, M, hk.same r _ hr rfl, rest⟩
theorem Ranging.iter_walk {pre : List Value} (h : Ranging w P k b r f pre) : ∃ o : Obj, w.heap[r]? = some o ∧ o.isWalk = true := by
  obtain ⟨es, clock, since, seen, c0, hb, M, hr, rest⟩ := h
  exact ⟨_, hr, rfl⟩
theorem Ranging.left_walks {w' : World} {pre : List Value} (h : Ranging w P k b r f pre) (hk : KeepsWalks w w') : w'.rangeLeft b r = w.rangeLeft b r := by
  obtain ⟨es, clock, since, seen, c0, hb, M, hr, rest⟩ := h
  simp only [World.rangeLeft, hb, hr, hk.same b _ hb rfl, hk.same r _ hr rfl]
theorem IsMap.range (h : IsMap w P k b f) (ht : P.underlying t = some (.map k e)) :
    ∃ w', (Instr.range t (.map (some b))).run P w = .ok (.pointer (some ⟨w.heap.size, 0, none⟩)) w' ∧ Ranging w' P k b w.heap.size f [] ∧ w.grownBy w' none ∧ w'.heap.size = w.heap.size + 1 := by
  have hlt := h.lt
  obtain ⟨es, clock, hb, M⟩ := h
  refine ⟨_, run_range_map w t k e b es clock ht hb, ⟨es, clock, clock, #[], clock, ((MapKept.heap_alloc w _).2 b hlt).trans hb, M, (MapKept.heap_alloc w _).1, M.stamped.1, Nat.le_refl _, Nat.le_refl _, List.nodup_nil, ?_, ?_⟩, World.grownBy_alloc w _ none, by simp⟩
  · intro x hx; simp
  · intro v hv; cases hv
theorem Ranging.next {pre : List Value} (h : Ranging w P k b r f pre) (ty : TypeId) :
    ((∀ v x, f v = some x → v ∈ pre) ∧ (Instr.next (.pointer (some ⟨r, 0, none⟩)) false ty).run P w = .ok (.tuple #[.bool false]) w) ∨
    ∃ key v w', f key = some v ∧ key ∉ pre ∧ (∃ kl, keyOf P k key = some kl) ∧ (Instr.next (.pointer (some ⟨r, 0, none⟩)) false ty).run P w = .ok (.tuple #[.bool true, key, v]) w' ∧
      Ranging w' P k b r f (pre ++ [key]) ∧ w'.rangeLeft b r < w.rangeLeft b r ∧ w.grownBy w' (some r) ∧ w'.heap.size = w.heap.size ∧ (Instr.entry (.pointer (some ⟨r, 0, none⟩))).run P w' = .ok (.tuple #[key, v]) w' := by
  have hne := h.ne
  obtain ⟨es, clock, since, seen, c0, hb, M, hr, hold, hsc, hsk, hnd, hseen, hpre⟩ := h
  rcases run_next_at (P := P) w ty r b since c0 seen es clock hr hb hold hsc with ⟨h0, hrun⟩ | ⟨e, he, w1, hal, hrun⟩
  · refine Or.inl ⟨fun v x hv => ?_, hrun⟩
    obtain ⟨e1, he1, rfl, _⟩ := M.only v x hv
    exact (hseen e1 he1).1 (all_seen es seen h0 e1 he1)
  · obtain ⟨hem, hes⟩ := mem_left he
    have hr1 : w1.heap[r]? = some (.mapIter (some b) since seen c0) := by rcases hal with rfl | rfl <;> exact hr
    have hb1 : w1.heap[b]? = some (.map es clock) := by rcases hal with rfl | rfl <;> exact hb
    have hset := heap_set (o' := .mapIter (some b) since (seen.push e.born) clock) hr1
    have hb' : (setBlock w1 r (.mapIter (some b) since (seen.push e.born) clock)).heap[b]? = some (.map es clock) := (hset.2 b (fun e1 => hne e1.symm)).trans hb1
    have hnew : e.key ∉ pre := fun hp => by
      have := (hseen e hem).2 hp
      rw [hes] at this; cases this
    have hst := (stamped_iff es clock).1 M.stamped
    refine Or.inr ⟨e.key, e.val, _, M.has e hem, hnew, M.keys e hem, hrun,
      ⟨es, clock, since, seen.push e.born, clock, hb', M, hset.1, hold, hsk, hsk, ?_, fun x hx => ?_, fun v hv => ?_⟩, ?_, ?_, ?_,
      run_entry_at _ r b since seen es clock e hset.1 hb' hem hst.2.1⟩
    · exact List.nodup_append.2 ⟨hnd, by simp, fun a ha c hc => by simp at hc; subst hc; exact fun e1 => hnew (e1 ▸ ha)⟩
    · rw [contains_push, Bool.or_eq_true, List.mem_append, List.mem_singleton, hseen x hx, beq_iff_eq]
      constructor
      · rintro (h1 | h1)
        · exact .inl h1
        · exact .inr (congrArg MapEntry.key (born_inj hst.2.1 hx hem h1))
      · rintro (h1 | h1)
        · exact .inl h1
        · exact .inr (congrArg MapEntry.born (entry_eq_of_key hst.2.2 hx hem h1))
    · rcases List.mem_append.1 hv with h1 | h1
      · exact hpre v h1
      · rw [List.mem_singleton.1 h1]; exact ⟨e, hem, rfl⟩
    · have hr' : (setBlock w1 r (.mapIter (some b) since (seen.push e.born) clock)).heap[r]? = some (.mapIter (some b) since (seen.push e.born) clock) := hset.1
      have e1 : (setBlock w1 r (.mapIter (some b) since (seen.push e.born) clock)).rangeLeft b r = (leftOf es (seen.push e.born)).size := by simp only [World.rangeLeft, hb', hr']
      have e2 : w.rangeLeft b r = (leftOf es seen).size := by simp only [World.rangeLeft, hb, hr]
      rw [e1, e2]
      exact left_shrinks es seen e he
    · rcases hal with rfl | rfl <;> exact ⟨rfl, rfl, rfl, by simp [setBlock], fun i _ hi => hset.2 i (fun e1 => hi (by rw [e1]))⟩
    · rcases hal with rfl | rfl <;> simp [setBlock]
end

section
variable {F : Fence} {n : Nat} {P : Program} {w : World} {ops : Array Oper} {rest : List Oper} {o : Oper} {a : Act} {Q : Exit → Act → World → Prop}
/-- 'range m'. -/
theorem wpListIn_range_map (hg : o.guard = none) (m : Operand) (t : TypeId) (hop : o.op = Op.range t m) (k e : TypeId) (ht : P.underlying t = some (.map k e)) (b : Nat) (f : Value → Option Value)
    (hm : a.eval m = .map (some b)) (his : IsMap w P k b f)
    (hK : ∀ w', Ranging w' P k b w.heap.size f [] → w.grownBy w' none → w'.heap.size = w.heap.size + 1 → wpListIn F n P ops Q rest (a.put o.dst (.pointer (some ⟨w.heap.size, 0, none⟩))) w') :
    wpListIn F n P ops Q (o :: rest) a w := by
  refine wpListIn_plain hg fun K' hK' => ?_
  obtain ⟨w', hrun, r1, r2, r3⟩ := his.range ht
  unfold Oper.wpIn
  refine ⟨?_, ?_⟩
  · simp [Oper.about, hop]
  · rw [Oper.semAt_plain F _ _ (by rw [hop]; intro c hc'; cases hc')]
    simp [execOp, hop, hm, hrun, Result.andThen]
    exact hK' _ _ (hK w' r1 r2 r3)
/-- The step. -/
theorem wpListIn_next_map {α : Type} (hg : o.guard = none) (it : Operand) (hop : o.op = Op.next it false) (k : TypeId) (mkK : α → Value) (b r : Nat) (f : Value → Option Value) (invK : ∀ key v, f key = some v → ∃ x, key = mkK x) (pre : List Value)
    (hit : a.eval it = .pointer (some ⟨r, 0, none⟩)) (h : Ranging w P k b r f pre)
    (hDone : (∀ v x, f v = some x → v ∈ pre) → wpListIn F n P ops Q rest (a.put o.dst (.tuple #[.bool false])) w)
    (hMore : ∀ (x : α) (c : Value) (w' : World), f (mkK x) = some c → mkK x ∉ pre → Ranging w' P k b r f (pre ++ [mkK x]) → w'.rangeLeft b r < w.rangeLeft b r →
      w.grownBy w' (some r) → w'.heap.size = w.heap.size → (Instr.entry (.pointer (some ⟨r, 0, none⟩))).run P w' = .ok (.tuple #[mkK x, c]) w' → wpListIn F n P ops Q rest (a.put o.dst (.tuple #[.bool true, mkK x, c])) w') :
    wpListIn F n P ops Q (o :: rest) a w := by
  refine wpListIn_plain hg fun K' hK' => ?_
  unfold Oper.wpIn
  refine ⟨by simp [Oper.about, hop], ?_⟩
  rw [Oper.semAt_plain F _ _ (by rw [hop]; intro c hc'; cases hc')]
  rcases h.next o.type with ⟨h0, hrun⟩ | ⟨key, v, w', hf, hnew, ⟨kl, hkl⟩, hrun, hrg, hlt, hgr, hsz, hen⟩
  · simp [execOp, hop, hit, hrun, Result.andThen]
    exact hK' _ _ (hDone h0)
  · obtain ⟨x, rfl⟩ := invK key v hf
    simp [execOp, hop, hit, hrun, Result.andThen]
    exact hK' _ _ (hMore x v w' hf hnew hrg hlt hgr hsz hen)
end
end Go.Proofs.YtahgapkecabnjaaGreatDoor
