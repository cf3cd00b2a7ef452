/- Walks of match.in, match.Matches and the reference's Matches. Printed by gen_matcha.py. -/
import Derived.Test.YtahgapkecabnjaaGreatDoorC05
import Derived.Test.YtahgapkecabnjaaGreatDoorC07
import Derived.Test.YtahgapkecabnjaaGreatDoorC04
import Derived.Test.YtahgapkecabnjaaGreatDoorC02
import Derived.Laws.ResultCell
import Derived.Deep.MidRow
import Derived.Maps.AppendAt
import Derived.Shelf.SlicesQ.IndexFunc
import Derived.Lib.SliceRun
namespace Go.Proofs.YtahgapkecabnjaaGreatDoor
set_option linter.unusedSimpArgs false
set_option linter.unusedVariables false
open Go Go.RowKit

def inF (lo hi p : Int) : Bool := decide (lo ≤ p ∧ p ≤ hi)
/-- Does a packet match a rule? -/
def matchF (r : Rl) (p : Pk) : Bool :=
  decide ((r.pr : Int) = 0 ∨ (r.pr : Int) = p.proto) && hasNet r.sa r.sb p.src.toNat && hasNet r.da r.db p.dst.toNat && inF r.sl r.sh p.sport && inF r.dl r.dh p.dport
set_option maxHeartbeats 2000000 in
theorem min_any (lo hi p : Int) (b : Bool) (w : World) (h : inF lo hi p = b) :
    Calls Tryz.prog 133 #[.agg #[.int .u16 lo, .int .u16 hi], .int .u16 p] w fun e w' => e = .returned (.bool b) ∧ Below w.heap.size w w' := by
  have HV : Hid (b = true ↔ lo ≤ p ∧ p ≤ hi) := Lib.hid (by rw [← h]; unfold inF; rw [decide_eq_true_iff])
  clear h
  go_enter Tryz.func133, Tryz.ntmps133
  go_wp2
  all_goals
    go_ret
    refine ⟨?_, (Below.refl _ _).alloc (Nat.le_refl _) _⟩
    refine congrArg (fun b => Ending.returned (.bool b)) ?_
    rw [Bool.eq_iff_iff, HV.out]
    simp [*]
    try omega
set_option maxHeartbeats 16000000 in
set_option maxRecDepth 100000 in
theorem matches_any (r : Rl) (p : Pk) (w : World) (hr : r.In) (hp : PkIn p) :
    Calls Tryz.prog 110 #[ruleW r, .agg (pkC p)] w fun e w' => e = .returned (.bool (matchF r p)) ∧ Below w.heap.size w w' := by
  obtain ⟨acc, pr, sa, sb, da, db, sl, sh, dl, dh⟩ := r
  obtain ⟨proto, src, dst, sport, dport, flags, kind⟩ := p
  obtain ⟨_, s1, s2, _, _, _, _⟩ := hr
  obtain ⟨h1, h2, h3, h4, h5, h6, h7⟩ := hp
  simp only at s1 s2 h1 h2 h3 h4 h5 h6 h7
  obtain ⟨src, rfl⟩ := Int.eq_ofNat_of_zero_le h2.1
  obtain ⟨dst, rfl⟩ := Int.eq_ofNat_of_zero_le h3.1
  have HH1 := Lib.hid (fun b (h : hasNet sa sb src = b) W => (has_any sa sb src W s1 (by omega)).mono fun e w' hh => (show e = .returned (.bool b) ∧ Below W.heap.size W w' from ⟨by rw [← h]; exact hh.1, hh.2⟩))
  have HH2 := Lib.hid (fun b (h : hasNet da db dst = b) W => (has_any da db dst W s2 (by omega)).mono fun e w' hh => (show e = .returned (.bool b) ∧ Below W.heap.size W w' from ⟨by rw [← h]; exact hh.1, hh.2⟩))
  have HV : Hid (matchF ⟨acc, pr, sa, sb, da, db, sl, sh, dl, dh⟩ ⟨proto, src, dst, sport, dport, flags, kind⟩ = (decide ((pr : Int) = 0 ∨ (pr : Int) = proto) && hasNet sa sb src && hasNet da db dst && inF sl sh sport && inF dl dh dport)) := Lib.hid rfl
  clear s1 s2 h1 h2 h3 h4 h5 h6 h7
  unfold ruleW pkC
  dsimp only
  generalize hasNet sa sb src = q1 at *
  generalize hasNet da db dst = q2 at *
  have HH1 := Lib.hid (HH1.out q1 rfl)
  have HH2 := Lib.hid (HH2.out q2 rfl)
  generalize matchF ⟨acc, pr, sa, sb, da, db, sl, sh, dl, dh⟩ ⟨proto, src, dst, sport, dport, flags, kind⟩ = res at *
  generalize (pr : Int) = pr at *
  generalize (src : Int) = src at *
  generalize (dst : Int) = dst at *
  generalize (sa : Int) = sa at *
  generalize (da : Int) = da at *
  generalize (sl : Int) = sl at *
  generalize (sh : Int) = sh at *
  generalize (dl : Int) = dl at *
  generalize (dh : Int) = dh at *
  have HS1 := Lib.hid (fun b h W => min_any sl sh sport b W h)
  have HS2 := Lib.hid (fun b h W => min_any dl dh dport b W h)
  generalize inF sl sh sport = q3 at *
  generalize inF dl dh dport = q4 at *
  have HS1 := Lib.hid (HS1.out q3 rfl)
  have HS2 := Lib.hid (HS2.out q4 rfl)
  by_cases c1 : pr = 0
  · subst c1
    go_enter Tryz.func110, Tryz.ntmps110
    go_wp2_with fail
    have r4_0 : ((w.alloc (.cells #[.bool acc, .int .u8 0, .int .u32 sa, .int .i64 sb, .int .u32 da, .int .i64 db, .int .u16 sl, .int .u16 sh, .int .u16 dl, .int .u16 dh] 79)).alloc (.cells #[.int .u8 proto, .int .u32 src, .int .u32 dst, .int .u16 sport, .int .u16 dport, .int .u8 flags, .int .u8 kind] 41)).cell? ⟨w.heap.size, 4, none⟩ = some (.int .u32 da) := by simp
    have r5_0 : ((w.alloc (.cells #[.bool acc, .int .u8 0, .int .u32 sa, .int .i64 sb, .int .u32 da, .int .i64 db, .int .u16 sl, .int .u16 sh, .int .u16 dl, .int .u16 dh] 79)).alloc (.cells #[.int .u8 proto, .int .u32 src, .int .u32 dst, .int .u16 sport, .int .u16 dport, .int .u8 flags, .int .u8 kind] 41)).cell? ⟨w.heap.size, 5, none⟩ = some (.int .i64 db) := by simp
    have r6_0 : ((w.alloc (.cells #[.bool acc, .int .u8 0, .int .u32 sa, .int .i64 sb, .int .u32 da, .int .i64 db, .int .u16 sl, .int .u16 sh, .int .u16 dl, .int .u16 dh] 79)).alloc (.cells #[.int .u8 proto, .int .u32 src, .int .u32 dst, .int .u16 sport, .int .u16 dport, .int .u8 flags, .int .u8 kind] 41)).cell? ⟨w.heap.size, 6, none⟩ = some (.int .u16 sl) := by simp
    have r7_0 : ((w.alloc (.cells #[.bool acc, .int .u8 0, .int .u32 sa, .int .i64 sb, .int .u32 da, .int .i64 db, .int .u16 sl, .int .u16 sh, .int .u16 dl, .int .u16 dh] 79)).alloc (.cells #[.int .u8 proto, .int .u32 src, .int .u32 dst, .int .u16 sport, .int .u16 dport, .int .u8 flags, .int .u8 kind] 41)).cell? ⟨w.heap.size, 7, none⟩ = some (.int .u16 sh) := by simp
    have r8_0 : ((w.alloc (.cells #[.bool acc, .int .u8 0, .int .u32 sa, .int .i64 sb, .int .u32 da, .int .i64 db, .int .u16 sl, .int .u16 sh, .int .u16 dl, .int .u16 dh] 79)).alloc (.cells #[.int .u8 proto, .int .u32 src, .int .u32 dst, .int .u16 sport, .int .u16 dport, .int .u8 flags, .int .u8 kind] 41)).cell? ⟨w.heap.size, 8, none⟩ = some (.int .u16 dl) := by simp
    have r9_0 : ((w.alloc (.cells #[.bool acc, .int .u8 0, .int .u32 sa, .int .i64 sb, .int .u32 da, .int .i64 db, .int .u16 sl, .int .u16 sh, .int .u16 dl, .int .u16 dh] 79)).alloc (.cells #[.int .u8 proto, .int .u32 src, .int .u32 dst, .int .u16 sport, .int .u16 dport, .int .u8 flags, .int .u8 kind] 41)).cell? ⟨w.heap.size, 9, none⟩ = some (.int .u16 dh) := by simp
    have m2_0 : ((w.alloc (.cells #[.bool acc, .int .u8 0, .int .u32 sa, .int .i64 sb, .int .u32 da, .int .i64 db, .int .u16 sl, .int .u16 sh, .int .u16 dl, .int .u16 dh] 79)).alloc (.cells #[.int .u8 proto, .int .u32 src, .int .u32 dst, .int .u16 sport, .int .u16 dport, .int .u8 flags, .int .u8 kind] 41)).cell? ⟨w.heap.size + 1, 2, none⟩ = some (.int .u32 dst) := by simp
    have m3_0 : ((w.alloc (.cells #[.bool acc, .int .u8 0, .int .u32 sa, .int .i64 sb, .int .u32 da, .int .i64 db, .int .u16 sl, .int .u16 sh, .int .u16 dl, .int .u16 dh] 79)).alloc (.cells #[.int .u8 proto, .int .u32 src, .int .u32 dst, .int .u16 sport, .int .u16 dport, .int .u8 flags, .int .u8 kind] 41)).cell? ⟨w.heap.size + 1, 3, none⟩ = some (.int .u16 sport) := by simp
    have m4_0 : ((w.alloc (.cells #[.bool acc, .int .u8 0, .int .u32 sa, .int .i64 sb, .int .u32 da, .int .i64 db, .int .u16 sl, .int .u16 sh, .int .u16 dl, .int .u16 dh] 79)).alloc (.cells #[.int .u8 proto, .int .u32 src, .int .u32 dst, .int .u16 sport, .int .u16 dport, .int .u8 flags, .int .u8 kind] 41)).cell? ⟨w.heap.size + 1, 4, none⟩ = some (.int .u16 dport) := by simp
    have HB0 : Hid (Below w.heap.size w ((w.alloc (.cells #[.bool acc, .int .u8 0, .int .u32 sa, .int .i64 sb, .int .u32 da, .int .i64 db, .int .u16 sl, .int .u16 sh, .int .u16 dl, .int .u16 dh] 79)).alloc (.cells #[.int .u8 proto, .int .u32 src, .int .u32 dst, .int .u16 sport, .int .u16 dport, .int .u8 flags, .int .u8 kind] 41))) := Lib.hid (((Below.refl _ w).alloc (Nat.le_refl _) _).alloc (by simp) _)
    generalize ((w.alloc (.cells #[.bool acc, .int .u8 0, .int .u32 sa, .int .i64 sb, .int .u32 da, .int .i64 db, .int .u16 sl, .int .u16 sh, .int .u16 dl, .int .u16 dh] 79)).alloc (.cells #[.int .u8 proto, .int .u32 src, .int .u32 dst, .int .u16 sport, .int .u16 dport, .int .u8 flags, .int .u8 kind] 41)) = wx at *
    refine (HH1.out _).mono ?_
    rintro e w1 ⟨rfl, h1⟩
    have HB1 := Lib.hid (below_then HB0.out h1)
    have r4_1 := Since.cell h1 r4_0
    have r5_1 := Since.cell h1 r5_0
    have r6_1 := Since.cell h1 r6_0
    have r7_1 := Since.cell h1 r7_0
    have r8_1 := Since.cell h1 r8_0
    have r9_1 := Since.cell h1 r9_0
    have m2_1 := Since.cell h1 m2_0
    have m3_1 := Since.cell h1 m3_0
    have m4_1 := Since.cell h1 m4_0
    clear h1 r4_0 r5_0 r6_0 r7_0 r8_0 r9_0 m2_0 m3_0 m4_0
    cases q1 with
    | false =>
      go_wp2_with fail
      go_ret
      exact ⟨by (rw [HV.out]) <;> first | rfl | (simp; done) | (simp [c1, c2]; done), HB1.out⟩
    | true =>
      go_wp2_with fail
      refine (HH2.out _).mono ?_
      rintro e w2 ⟨rfl, h2⟩
      have HB2 := Lib.hid (below_then HB1.out h2)
      have r4_2 := Since.cell h2 r4_1
      have r5_2 := Since.cell h2 r5_1
      have r6_2 := Since.cell h2 r6_1
      have r7_2 := Since.cell h2 r7_1
      have r8_2 := Since.cell h2 r8_1
      have r9_2 := Since.cell h2 r9_1
      have m2_2 := Since.cell h2 m2_1
      have m3_2 := Since.cell h2 m3_1
      have m4_2 := Since.cell h2 m4_1
      clear h2 r4_1 r5_1 r6_1 r7_1 r8_1 r9_1 m2_1 m3_1 m4_1
      cases q2 with
      | false =>
        go_wp2_with fail
        go_ret
        exact ⟨by (rw [HV.out]) <;> first | rfl | (simp; done) | (simp [c1, c2]; done), HB2.out⟩
      | true =>
        go_wp2_with fail
        refine (HS1.out _).mono ?_
        rintro e w3 ⟨rfl, h3⟩
        have HB3 := Lib.hid (below_then HB2.out h3)
        have r4_3 := Since.cell h3 r4_2
        have r5_3 := Since.cell h3 r5_2
        have r6_3 := Since.cell h3 r6_2
        have r7_3 := Since.cell h3 r7_2
        have r8_3 := Since.cell h3 r8_2
        have r9_3 := Since.cell h3 r9_2
        have m2_3 := Since.cell h3 m2_2
        have m3_3 := Since.cell h3 m3_2
        have m4_3 := Since.cell h3 m4_2
        clear h3 r4_2 r5_2 r6_2 r7_2 r8_2 r9_2 m2_2 m3_2 m4_2
        cases q3 with
        | false =>
          go_wp2_with fail
          go_ret
          exact ⟨by (rw [HV.out]) <;> first | rfl | (simp; done) | (simp [c1, c2]; done), HB3.out⟩
        | true =>
          go_wp2_with fail
          refine (HS2.out _).mono ?_
          rintro e w4 ⟨rfl, h4⟩
          have HB4 := Lib.hid (below_then HB3.out h4)
          have r4_4 := Since.cell h4 r4_3
          have r5_4 := Since.cell h4 r5_3
          have r6_4 := Since.cell h4 r6_3
          have r7_4 := Since.cell h4 r7_3
          have r8_4 := Since.cell h4 r8_3
          have r9_4 := Since.cell h4 r9_3
          have m2_4 := Since.cell h4 m2_3
          have m3_4 := Since.cell h4 m3_3
          have m4_4 := Since.cell h4 m4_3
          clear h4 r4_3 r5_3 r6_3 r7_3 r8_3 r9_3 m2_3 m3_3 m4_3
          go_wp2_with fail
          go_ret
          exact ⟨by (rw [HV.out]) <;> first | rfl | (simp; done) | (simp [c1, c2]; done), HB4.out⟩
  · by_cases c2 : pr = proto
    · subst c2
      go_enter Tryz.func110, Tryz.ntmps110
      go_wp2_with fail
      have r4_0 : ((w.alloc (.cells #[.bool acc, .int .u8 pr, .int .u32 sa, .int .i64 sb, .int .u32 da, .int .i64 db, .int .u16 sl, .int .u16 sh, .int .u16 dl, .int .u16 dh] 79)).alloc (.cells #[.int .u8 pr, .int .u32 src, .int .u32 dst, .int .u16 sport, .int .u16 dport, .int .u8 flags, .int .u8 kind] 41)).cell? ⟨w.heap.size, 4, none⟩ = some (.int .u32 da) := by simp
      have r5_0 : ((w.alloc (.cells #[.bool acc, .int .u8 pr, .int .u32 sa, .int .i64 sb, .int .u32 da, .int .i64 db, .int .u16 sl, .int .u16 sh, .int .u16 dl, .int .u16 dh] 79)).alloc (.cells #[.int .u8 pr, .int .u32 src, .int .u32 dst, .int .u16 sport, .int .u16 dport, .int .u8 flags, .int .u8 kind] 41)).cell? ⟨w.heap.size, 5, none⟩ = some (.int .i64 db) := by simp
      have r6_0 : ((w.alloc (.cells #[.bool acc, .int .u8 pr, .int .u32 sa, .int .i64 sb, .int .u32 da, .int .i64 db, .int .u16 sl, .int .u16 sh, .int .u16 dl, .int .u16 dh] 79)).alloc (.cells #[.int .u8 pr, .int .u32 src, .int .u32 dst, .int .u16 sport, .int .u16 dport, .int .u8 flags, .int .u8 kind] 41)).cell? ⟨w.heap.size, 6, none⟩ = some (.int .u16 sl) := by simp
      have r7_0 : ((w.alloc (.cells #[.bool acc, .int .u8 pr, .int .u32 sa, .int .i64 sb, .int .u32 da, .int .i64 db, .int .u16 sl, .int .u16 sh, .int .u16 dl, .int .u16 dh] 79)).alloc (.cells #[.int .u8 pr, .int .u32 src, .int .u32 dst, .int .u16 sport, .int .u16 dport, .int .u8 flags, .int .u8 kind] 41)).cell? ⟨w.heap.size, 7, none⟩ = some (.int .u16 sh) := by simp
      have r8_0 : ((w.alloc (.cells #[.bool acc, .int .u8 pr, .int .u32 sa, .int .i64 sb, .int .u32 da, .int .i64 db, .int .u16 sl, .int .u16 sh, .int .u16 dl, .int .u16 dh] 79)).alloc (.cells #[.int .u8 pr, .int .u32 src, .int .u32 dst, .int .u16 sport, .int .u16 dport, .int .u8 flags, .int .u8 kind] 41)).cell? ⟨w.heap.size, 8, none⟩ = some (.int .u16 dl) := by simp
      have r9_0 : ((w.alloc (.cells #[.bool acc, .int .u8 pr, .int .u32 sa, .int .i64 sb, .int .u32 da, .int .i64 db, .int .u16 sl, .int .u16 sh, .int .u16 dl, .int .u16 dh] 79)).alloc (.cells #[.int .u8 pr, .int .u32 src, .int .u32 dst, .int .u16 sport, .int .u16 dport, .int .u8 flags, .int .u8 kind] 41)).cell? ⟨w.heap.size, 9, none⟩ = some (.int .u16 dh) := by simp
      have m2_0 : ((w.alloc (.cells #[.bool acc, .int .u8 pr, .int .u32 sa, .int .i64 sb, .int .u32 da, .int .i64 db, .int .u16 sl, .int .u16 sh, .int .u16 dl, .int .u16 dh] 79)).alloc (.cells #[.int .u8 pr, .int .u32 src, .int .u32 dst, .int .u16 sport, .int .u16 dport, .int .u8 flags, .int .u8 kind] 41)).cell? ⟨w.heap.size + 1, 2, none⟩ = some (.int .u32 dst) := by simp
      have m3_0 : ((w.alloc (.cells #[.bool acc, .int .u8 pr, .int .u32 sa, .int .i64 sb, .int .u32 da, .int .i64 db, .int .u16 sl, .int .u16 sh, .int .u16 dl, .int .u16 dh] 79)).alloc (.cells #[.int .u8 pr, .int .u32 src, .int .u32 dst, .int .u16 sport, .int .u16 dport, .int .u8 flags, .int .u8 kind] 41)).cell? ⟨w.heap.size + 1, 3, none⟩ = some (.int .u16 sport) := by simp
      have m4_0 : ((w.alloc (.cells #[.bool acc, .int .u8 pr, .int .u32 sa, .int .i64 sb, .int .u32 da, .int .i64 db, .int .u16 sl, .int .u16 sh, .int .u16 dl, .int .u16 dh] 79)).alloc (.cells #[.int .u8 pr, .int .u32 src, .int .u32 dst, .int .u16 sport, .int .u16 dport, .int .u8 flags, .int .u8 kind] 41)).cell? ⟨w.heap.size + 1, 4, none⟩ = some (.int .u16 dport) := by simp
      have HB0 : Hid (Below w.heap.size w ((w.alloc (.cells #[.bool acc, .int .u8 pr, .int .u32 sa, .int .i64 sb, .int .u32 da, .int .i64 db, .int .u16 sl, .int .u16 sh, .int .u16 dl, .int .u16 dh] 79)).alloc (.cells #[.int .u8 pr, .int .u32 src, .int .u32 dst, .int .u16 sport, .int .u16 dport, .int .u8 flags, .int .u8 kind] 41))) := Lib.hid (((Below.refl _ w).alloc (Nat.le_refl _) _).alloc (by simp) _)
      generalize ((w.alloc (.cells #[.bool acc, .int .u8 pr, .int .u32 sa, .int .i64 sb, .int .u32 da, .int .i64 db, .int .u16 sl, .int .u16 sh, .int .u16 dl, .int .u16 dh] 79)).alloc (.cells #[.int .u8 pr, .int .u32 src, .int .u32 dst, .int .u16 sport, .int .u16 dport, .int .u8 flags, .int .u8 kind] 41)) = wx at *
      refine (HH1.out _).mono ?_
      rintro e w1 ⟨rfl, h1⟩
      have HB1 := Lib.hid (below_then HB0.out h1)
      have r4_1 := Since.cell h1 r4_0
      have r5_1 := Since.cell h1 r5_0
      have r6_1 := Since.cell h1 r6_0
      have r7_1 := Since.cell h1 r7_0
      have r8_1 := Since.cell h1 r8_0
      have r9_1 := Since.cell h1 r9_0
      have m2_1 := Since.cell h1 m2_0
      have m3_1 := Since.cell h1 m3_0
      have m4_1 := Since.cell h1 m4_0
      clear h1 r4_0 r5_0 r6_0 r7_0 r8_0 r9_0 m2_0 m3_0 m4_0
      cases q1 with
      | false =>
        go_wp2_with fail
        go_ret
        exact ⟨by (rw [HV.out]) <;> first | rfl | (simp; done) | (simp [c1, c2]; done), HB1.out⟩
      | true =>
        go_wp2_with fail
        refine (HH2.out _).mono ?_
        rintro e w2 ⟨rfl, h2⟩
        have HB2 := Lib.hid (below_then HB1.out h2)
        have r4_2 := Since.cell h2 r4_1
        have r5_2 := Since.cell h2 r5_1
        have r6_2 := Since.cell h2 r6_1
        have r7_2 := Since.cell h2 r7_1
        have r8_2 := Since.cell h2 r8_1
        have r9_2 := Since.cell h2 r9_1
        have m2_2 := Since.cell h2 m2_1
        have m3_2 := Since.cell h2 m3_1
        have m4_2 := Since.cell h2 m4_1
        clear h2 r4_1 r5_1 r6_1 r7_1 r8_1 r9_1 m2_1 m3_1 m4_1
        cases q2 with
        | false =>
          go_wp2_with fail
          go_ret
          exact ⟨by (rw [HV.out]) <;> first | rfl | (simp; done) | (simp [c1, c2]; done), HB2.out⟩
        | true =>
          go_wp2_with fail
          refine (HS1.out _).mono ?_
          rintro e w3 ⟨rfl, h3⟩
          have HB3 := Lib.hid (below_then HB2.out h3)
          have r4_3 := Since.cell h3 r4_2
          have r5_3 := Since.cell h3 r5_2
          have r6_3 := Since.cell h3 r6_2
          have r7_3 := Since.cell h3 r7_2
          have r8_3 := Since.cell h3 r8_2
          have r9_3 := Since.cell h3 r9_2
          have m2_3 := Since.cell h3 m2_2
          have m3_3 := Since.cell h3 m3_2
          have m4_3 := Since.cell h3 m4_2
          clear h3 r4_2 r5_2 r6_2 r7_2 r8_2 r9_2 m2_2 m3_2 m4_2
          cases q3 with
          | false =>
            go_wp2_with fail
            go_ret
            exact ⟨by (rw [HV.out]) <;> first | rfl | (simp; done) | (simp [c1, c2]; done), HB3.out⟩
          | true =>
            go_wp2_with fail
            refine (HS2.out _).mono ?_
            rintro e w4 ⟨rfl, h4⟩
            have HB4 := Lib.hid (below_then HB3.out h4)
            have r4_4 := Since.cell h4 r4_3
            have r5_4 := Since.cell h4 r5_3
            have r6_4 := Since.cell h4 r6_3
            have r7_4 := Since.cell h4 r7_3
            have r8_4 := Since.cell h4 r8_3
            have r9_4 := Since.cell h4 r9_3
            have m2_4 := Since.cell h4 m2_3
            have m3_4 := Since.cell h4 m3_3
            have m4_4 := Since.cell h4 m4_3
            clear h4 r4_3 r5_3 r6_3 r7_3 r8_3 r9_3 m2_3 m3_3 m4_3
            go_wp2_with fail
            go_ret
            exact ⟨by (rw [HV.out]) <;> first | rfl | (simp; done) | (simp [c1, c2]; done), HB4.out⟩
    · have d1 : (pr == 0) = false := beq_eq_false_iff_ne.2 c1
      have d2 : (pr == proto) = false := beq_eq_false_iff_ne.2 c2
      go_enter Tryz.func110, Tryz.ntmps110
      go_wp2_with fail
      go_ret
      exact ⟨by (rw [HV.out]) <;> first | rfl | (simp; done) | (simp [c1, c2]; done), (((Below.refl _ w).alloc (Nat.le_refl _) _).alloc (by simp) _)⟩
end Go.Proofs.YtahgapkecabnjaaGreatDoor
/- Walk of the reference's Matches. Printed by gen_matcha.py. -/
namespace Go.Proofs.YtahgapkecabnjaaGreatDoor
set_option linter.unusedSimpArgs false
set_option linter.unusedVariables false
open Go Go.RowKit

set_option maxHeartbeats 16000000 in
set_option maxRecDepth 100000 in
theorem refMatches_any (r : Rl) (p : Pk) (w : World) (hr : r.In) (hp : PkIn p) :
    Calls Tryz.prog 101 #[ruleW r, .agg (pkC p)] w fun e w' => e = .returned (.bool (matchF r p)) ∧ Below w.heap.size w w' := by
  obtain ⟨acc, pr, sa, sb, da, db, sl, sh, dl, dh⟩ := r
  obtain ⟨proto, src, dst, sport, dport, flags, kind⟩ := p
  obtain ⟨_, s1, s2, _, _, _, _⟩ := hr
  obtain ⟨h1, h2, h3, h4, h5, h6, h7⟩ := hp
  simp only at s1 s2 h1 h2 h3 h4 h5 h6 h7
  obtain ⟨src, rfl⟩ := Int.eq_ofNat_of_zero_le h2.1
  obtain ⟨dst, rfl⟩ := Int.eq_ofNat_of_zero_le h3.1
  have HH1 := Lib.hid (fun b (h : hasNet sa sb src = b) W => (refHas_any sa sb src W s1 (by omega)).mono fun e w' hh => (show e = .returned (.bool b) ∧ Below W.heap.size W w' from ⟨by rw [← h]; exact hh.1, hh.2⟩))
  have HH2 := Lib.hid (fun b (h : hasNet da db dst = b) W => (refHas_any da db dst W s2 (by omega)).mono fun e w' hh => (show e = .returned (.bool b) ∧ Below W.heap.size W w' from ⟨by rw [← h]; exact hh.1, hh.2⟩))
  have HV : Hid (matchF ⟨acc, pr, sa, sb, da, db, sl, sh, dl, dh⟩ ⟨proto, src, dst, sport, dport, flags, kind⟩ = (decide ((pr : Int) = 0 ∨ (pr : Int) = proto) && hasNet sa sb src && hasNet da db dst && inF sl sh sport && inF dl dh dport)) := Lib.hid rfl
  clear s1 s2 h1 h2 h3 h4 h5 h6 h7
  unfold ruleW pkC
  dsimp only
  generalize hasNet sa sb src = q1 at *
  generalize hasNet da db dst = q2 at *
  have HH1 := Lib.hid (HH1.out q1 rfl)
  have HH2 := Lib.hid (HH2.out q2 rfl)
  generalize matchF ⟨acc, pr, sa, sb, da, db, sl, sh, dl, dh⟩ ⟨proto, src, dst, sport, dport, flags, kind⟩ = res at *
  generalize (pr : Int) = pr at *
  generalize (src : Int) = src at *
  generalize (dst : Int) = dst at *
  generalize (sa : Int) = sa at *
  generalize (da : Int) = da at *
  generalize (sl : Int) = sl at *
  generalize (sh : Int) = sh at *
  generalize (dl : Int) = dl at *
  generalize (dh : Int) = dh at *
  by_cases c1 : pr = 0
  · subst c1
    go_enter Tryz.func101, Tryz.ntmps101
    go_wp2_with fail
    have r4_0 : ((w.alloc (.cells #[.bool acc, .int .u8 0, .int .u32 sa, .int .i64 sb, .int .u32 da, .int .i64 db, .int .u16 sl, .int .u16 sh, .int .u16 dl, .int .u16 dh] 79)).alloc (.cells #[.int .u8 proto, .int .u32 src, .int .u32 dst, .int .u16 sport, .int .u16 dport, .int .u8 flags, .int .u8 kind] 41)).cell? ⟨w.heap.size, 4, none⟩ = some (.int .u32 da) := by simp
    have r5_0 : ((w.alloc (.cells #[.bool acc, .int .u8 0, .int .u32 sa, .int .i64 sb, .int .u32 da, .int .i64 db, .int .u16 sl, .int .u16 sh, .int .u16 dl, .int .u16 dh] 79)).alloc (.cells #[.int .u8 proto, .int .u32 src, .int .u32 dst, .int .u16 sport, .int .u16 dport, .int .u8 flags, .int .u8 kind] 41)).cell? ⟨w.heap.size, 5, none⟩ = some (.int .i64 db) := by simp
    have r6_0 : ((w.alloc (.cells #[.bool acc, .int .u8 0, .int .u32 sa, .int .i64 sb, .int .u32 da, .int .i64 db, .int .u16 sl, .int .u16 sh, .int .u16 dl, .int .u16 dh] 79)).alloc (.cells #[.int .u8 proto, .int .u32 src, .int .u32 dst, .int .u16 sport, .int .u16 dport, .int .u8 flags, .int .u8 kind] 41)).cell? ⟨w.heap.size, 6, none⟩ = some (.int .u16 sl) := by simp
    have r7_0 : ((w.alloc (.cells #[.bool acc, .int .u8 0, .int .u32 sa, .int .i64 sb, .int .u32 da, .int .i64 db, .int .u16 sl, .int .u16 sh, .int .u16 dl, .int .u16 dh] 79)).alloc (.cells #[.int .u8 proto, .int .u32 src, .int .u32 dst, .int .u16 sport, .int .u16 dport, .int .u8 flags, .int .u8 kind] 41)).cell? ⟨w.heap.size, 7, none⟩ = some (.int .u16 sh) := by simp
    have r8_0 : ((w.alloc (.cells #[.bool acc, .int .u8 0, .int .u32 sa, .int .i64 sb, .int .u32 da, .int .i64 db, .int .u16 sl, .int .u16 sh, .int .u16 dl, .int .u16 dh] 79)).alloc (.cells #[.int .u8 proto, .int .u32 src, .int .u32 dst, .int .u16 sport, .int .u16 dport, .int .u8 flags, .int .u8 kind] 41)).cell? ⟨w.heap.size, 8, none⟩ = some (.int .u16 dl) := by simp
    have r9_0 : ((w.alloc (.cells #[.bool acc, .int .u8 0, .int .u32 sa, .int .i64 sb, .int .u32 da, .int .i64 db, .int .u16 sl, .int .u16 sh, .int .u16 dl, .int .u16 dh] 79)).alloc (.cells #[.int .u8 proto, .int .u32 src, .int .u32 dst, .int .u16 sport, .int .u16 dport, .int .u8 flags, .int .u8 kind] 41)).cell? ⟨w.heap.size, 9, none⟩ = some (.int .u16 dh) := by simp
    have m2_0 : ((w.alloc (.cells #[.bool acc, .int .u8 0, .int .u32 sa, .int .i64 sb, .int .u32 da, .int .i64 db, .int .u16 sl, .int .u16 sh, .int .u16 dl, .int .u16 dh] 79)).alloc (.cells #[.int .u8 proto, .int .u32 src, .int .u32 dst, .int .u16 sport, .int .u16 dport, .int .u8 flags, .int .u8 kind] 41)).cell? ⟨w.heap.size + 1, 2, none⟩ = some (.int .u32 dst) := by simp
    have m3_0 : ((w.alloc (.cells #[.bool acc, .int .u8 0, .int .u32 sa, .int .i64 sb, .int .u32 da, .int .i64 db, .int .u16 sl, .int .u16 sh, .int .u16 dl, .int .u16 dh] 79)).alloc (.cells #[.int .u8 proto, .int .u32 src, .int .u32 dst, .int .u16 sport, .int .u16 dport, .int .u8 flags, .int .u8 kind] 41)).cell? ⟨w.heap.size + 1, 3, none⟩ = some (.int .u16 sport) := by simp
    have m4_0 : ((w.alloc (.cells #[.bool acc, .int .u8 0, .int .u32 sa, .int .i64 sb, .int .u32 da, .int .i64 db, .int .u16 sl, .int .u16 sh, .int .u16 dl, .int .u16 dh] 79)).alloc (.cells #[.int .u8 proto, .int .u32 src, .int .u32 dst, .int .u16 sport, .int .u16 dport, .int .u8 flags, .int .u8 kind] 41)).cell? ⟨w.heap.size + 1, 4, none⟩ = some (.int .u16 dport) := by simp
    have HB0 : Hid (Below w.heap.size w ((w.alloc (.cells #[.bool acc, .int .u8 0, .int .u32 sa, .int .i64 sb, .int .u32 da, .int .i64 db, .int .u16 sl, .int .u16 sh, .int .u16 dl, .int .u16 dh] 79)).alloc (.cells #[.int .u8 proto, .int .u32 src, .int .u32 dst, .int .u16 sport, .int .u16 dport, .int .u8 flags, .int .u8 kind] 41))) := Lib.hid (((Below.refl _ w).alloc (Nat.le_refl _) _).alloc (by simp) _)
    generalize ((w.alloc (.cells #[.bool acc, .int .u8 0, .int .u32 sa, .int .i64 sb, .int .u32 da, .int .i64 db, .int .u16 sl, .int .u16 sh, .int .u16 dl, .int .u16 dh] 79)).alloc (.cells #[.int .u8 proto, .int .u32 src, .int .u32 dst, .int .u16 sport, .int .u16 dport, .int .u8 flags, .int .u8 kind] 41)) = wx at *
    refine (HH1.out _).mono ?_
    rintro e w1 ⟨rfl, h1⟩
    have HB1 := Lib.hid (below_then HB0.out h1)
    have r4_1 := Since.cell h1 r4_0
    have r5_1 := Since.cell h1 r5_0
    have r6_1 := Since.cell h1 r6_0
    have r7_1 := Since.cell h1 r7_0
    have r8_1 := Since.cell h1 r8_0
    have r9_1 := Since.cell h1 r9_0
    have m2_1 := Since.cell h1 m2_0
    have m3_1 := Since.cell h1 m3_0
    have m4_1 := Since.cell h1 m4_0
    clear h1 r4_0 r5_0 r6_0 r7_0 r8_0 r9_0 m2_0 m3_0 m4_0
    cases q1 with
    | false =>
      go_wp2_with fail
      go_ret
      exact ⟨by (rw [HV.out]) <;> first | rfl | (simp; done) | (simp [c1, c2]; done), HB1.out⟩
    | true =>
      go_wp2_with fail
      refine (HH2.out _).mono ?_
      rintro e w2 ⟨rfl, h2⟩
      have HB2 := Lib.hid (below_then HB1.out h2)
      have r4_2 := Since.cell h2 r4_1
      have r5_2 := Since.cell h2 r5_1
      have r6_2 := Since.cell h2 r6_1
      have r7_2 := Since.cell h2 r7_1
      have r8_2 := Since.cell h2 r8_1
      have r9_2 := Since.cell h2 r9_1
      have m2_2 := Since.cell h2 m2_1
      have m3_2 := Since.cell h2 m3_1
      have m4_2 := Since.cell h2 m4_1
      clear h2 r4_1 r5_1 r6_1 r7_1 r8_1 r9_1 m2_1 m3_1 m4_1
      cases q2 with
      | false =>
        go_wp2_with fail
        go_ret
        exact ⟨by (rw [HV.out]) <;> first | rfl | (simp; done) | (simp [c1, c2]; done), HB2.out⟩
      | true =>
        go_wp2_with fail
        all_goals
          go_ret
          refine ⟨?_, HB2.out⟩
          refine congrArg (fun b => Ending.returned (.bool b)) ?_
          rw [HV.out]
          unfold inF
          rw [Bool.eq_iff_iff]
          simp [*]
          try omega
  · by_cases c2 : pr = proto
    · subst c2
      have d1 : (pr != 0) = true := bne_iff_ne.2 c1
      go_enter Tryz.func101, Tryz.ntmps101
      go_wp2_with fail
      have r4_0 : ((w.alloc (.cells #[.bool acc, .int .u8 pr, .int .u32 sa, .int .i64 sb, .int .u32 da, .int .i64 db, .int .u16 sl, .int .u16 sh, .int .u16 dl, .int .u16 dh] 79)).alloc (.cells #[.int .u8 pr, .int .u32 src, .int .u32 dst, .int .u16 sport, .int .u16 dport, .int .u8 flags, .int .u8 kind] 41)).cell? ⟨w.heap.size, 4, none⟩ = some (.int .u32 da) := by simp
      have r5_0 : ((w.alloc (.cells #[.bool acc, .int .u8 pr, .int .u32 sa, .int .i64 sb, .int .u32 da, .int .i64 db, .int .u16 sl, .int .u16 sh, .int .u16 dl, .int .u16 dh] 79)).alloc (.cells #[.int .u8 pr, .int .u32 src, .int .u32 dst, .int .u16 sport, .int .u16 dport, .int .u8 flags, .int .u8 kind] 41)).cell? ⟨w.heap.size, 5, none⟩ = some (.int .i64 db) := by simp
      have r6_0 : ((w.alloc (.cells #[.bool acc, .int .u8 pr, .int .u32 sa, .int .i64 sb, .int .u32 da, .int .i64 db, .int .u16 sl, .int .u16 sh, .int .u16 dl, .int .u16 dh] 79)).alloc (.cells #[.int .u8 pr, .int .u32 src, .int .u32 dst, .int .u16 sport, .int .u16 dport, .int .u8 flags, .int .u8 kind] 41)).cell? ⟨w.heap.size, 6, none⟩ = some (.int .u16 sl) := by simp
      have r7_0 : ((w.alloc (.cells #[.bool acc, .int .u8 pr, .int .u32 sa, .int .i64 sb, .int .u32 da, .int .i64 db, .int .u16 sl, .int .u16 sh, .int .u16 dl, .int .u16 dh] 79)).alloc (.cells #[.int .u8 pr, .int .u32 src, .int .u32 dst, .int .u16 sport, .int .u16 dport, .int .u8 flags, .int .u8 kind] 41)).cell? ⟨w.heap.size, 7, none⟩ = some (.int .u16 sh) := by simp
      have r8_0 : ((w.alloc (.cells #[.bool acc, .int .u8 pr, .int .u32 sa, .int .i64 sb, .int .u32 da, .int .i64 db, .int .u16 sl, .int .u16 sh, .int .u16 dl, .int .u16 dh] 79)).alloc (.cells #[.int .u8 pr, .int .u32 src, .int .u32 dst, .int .u16 sport, .int .u16 dport, .int .u8 flags, .int .u8 kind] 41)).cell? ⟨w.heap.size, 8, none⟩ = some (.int .u16 dl) := by simp
      have r9_0 : ((w.alloc (.cells #[.bool acc, .int .u8 pr, .int .u32 sa, .int .i64 sb, .int .u32 da, .int .i64 db, .int .u16 sl, .int .u16 sh, .int .u16 dl, .int .u16 dh] 79)).alloc (.cells #[.int .u8 pr, .int .u32 src, .int .u32 dst, .int .u16 sport, .int .u16 dport, .int .u8 flags, .int .u8 kind] 41)).cell? ⟨w.heap.size, 9, none⟩ = some (.int .u16 dh) := by simp
      have m2_0 : ((w.alloc (.cells #[.bool acc, .int .u8 pr, .int .u32 sa, .int .i64 sb, .int .u32 da, .int .i64 db, .int .u16 sl, .int .u16 sh, .int .u16 dl, .int .u16 dh] 79)).alloc (.cells #[.int .u8 pr, .int .u32 src, .int .u32 dst, .int .u16 sport, .int .u16 dport, .int .u8 flags, .int .u8 kind] 41)).cell? ⟨w.heap.size + 1, 2, none⟩ = some (.int .u32 dst) := by simp
      have m3_0 : ((w.alloc (.cells #[.bool acc, .int .u8 pr, .int .u32 sa, .int .i64 sb, .int .u32 da, .int .i64 db, .int .u16 sl, .int .u16 sh, .int .u16 dl, .int .u16 dh] 79)).alloc (.cells #[.int .u8 pr, .int .u32 src, .int .u32 dst, .int .u16 sport, .int .u16 dport, .int .u8 flags, .int .u8 kind] 41)).cell? ⟨w.heap.size + 1, 3, none⟩ = some (.int .u16 sport) := by simp
      have m4_0 : ((w.alloc (.cells #[.bool acc, .int .u8 pr, .int .u32 sa, .int .i64 sb, .int .u32 da, .int .i64 db, .int .u16 sl, .int .u16 sh, .int .u16 dl, .int .u16 dh] 79)).alloc (.cells #[.int .u8 pr, .int .u32 src, .int .u32 dst, .int .u16 sport, .int .u16 dport, .int .u8 flags, .int .u8 kind] 41)).cell? ⟨w.heap.size + 1, 4, none⟩ = some (.int .u16 dport) := by simp
      have HB0 : Hid (Below w.heap.size w ((w.alloc (.cells #[.bool acc, .int .u8 pr, .int .u32 sa, .int .i64 sb, .int .u32 da, .int .i64 db, .int .u16 sl, .int .u16 sh, .int .u16 dl, .int .u16 dh] 79)).alloc (.cells #[.int .u8 pr, .int .u32 src, .int .u32 dst, .int .u16 sport, .int .u16 dport, .int .u8 flags, .int .u8 kind] 41))) := Lib.hid (((Below.refl _ w).alloc (Nat.le_refl _) _).alloc (by simp) _)
      generalize ((w.alloc (.cells #[.bool acc, .int .u8 pr, .int .u32 sa, .int .i64 sb, .int .u32 da, .int .i64 db, .int .u16 sl, .int .u16 sh, .int .u16 dl, .int .u16 dh] 79)).alloc (.cells #[.int .u8 pr, .int .u32 src, .int .u32 dst, .int .u16 sport, .int .u16 dport, .int .u8 flags, .int .u8 kind] 41)) = wx at *
      refine (HH1.out _).mono ?_
      rintro e w1 ⟨rfl, h1⟩
      have HB1 := Lib.hid (below_then HB0.out h1)
      have r4_1 := Since.cell h1 r4_0
      have r5_1 := Since.cell h1 r5_0
      have r6_1 := Since.cell h1 r6_0
      have r7_1 := Since.cell h1 r7_0
      have r8_1 := Since.cell h1 r8_0
      have r9_1 := Since.cell h1 r9_0
      have m2_1 := Since.cell h1 m2_0
      have m3_1 := Since.cell h1 m3_0
      have m4_1 := Since.cell h1 m4_0
      clear h1 r4_0 r5_0 r6_0 r7_0 r8_0 r9_0 m2_0 m3_0 m4_0
      cases q1 with
      | false =>
        go_wp2_with fail
        go_ret
        exact ⟨by (rw [HV.out]) <;> first | rfl | (simp; done) | (simp [c1, c2]; done), HB1.out⟩
      | true =>
        go_wp2_with fail
        refine (HH2.out _).mono ?_
        rintro e w2 ⟨rfl, h2⟩
        have HB2 := Lib.hid (below_then HB1.out h2)
        have r4_2 := Since.cell h2 r4_1
        have r5_2 := Since.cell h2 r5_1
        have r6_2 := Since.cell h2 r6_1
        have r7_2 := Since.cell h2 r7_1
        have r8_2 := Since.cell h2 r8_1
        have r9_2 := Since.cell h2 r9_1
        have m2_2 := Since.cell h2 m2_1
        have m3_2 := Since.cell h2 m3_1
        have m4_2 := Since.cell h2 m4_1
        clear h2 r4_1 r5_1 r6_1 r7_1 r8_1 r9_1 m2_1 m3_1 m4_1
        cases q2 with
        | false =>
          go_wp2_with fail
          go_ret
          exact ⟨by (rw [HV.out]) <;> first | rfl | (simp; done) | (simp [c1, c2]; done), HB2.out⟩
        | true =>
          go_wp2_with fail
          all_goals
            go_ret
            refine ⟨?_, HB2.out⟩
            refine congrArg (fun b => Ending.returned (.bool b)) ?_
            rw [HV.out]
            unfold inF
            rw [Bool.eq_iff_iff]
            simp [*]
            try omega
    · have d1 : (pr != 0) = true := bne_iff_ne.2 c1
      have d2 : (pr != proto) = true := bne_iff_ne.2 c2
      go_enter Tryz.func101, Tryz.ntmps101
      go_wp2_with fail
      go_ret
      exact ⟨by (rw [HV.out]) <;> first | rfl | (simp; done) | (simp [c1, c2]; done), (((Below.refl _ w).alloc (Nat.le_refl _) _).alloc (by simp) _)⟩
end Go.Proofs.YtahgapkecabnjaaGreatDoor
/- The walks of rules.line and of the reference's Line. Printed by gen_rulef.py. -/
namespace Go.Proofs.YtahgapkecabnjaaGreatDoor
set_option linter.unusedSimpArgs false
set_option linter.unusedVariables false
open Go Go.RowKit

theorem netL_fst (a : Nat) (n : Int) : (showF a n).1 = netL a n := by
  unfold showF netL
  cases showNet a n <;> rfl
theorem word_len (n : Nat) : (wordF n).length ≤ 4 := by
  unfold wordF
  split
  · decide
  · split
    · decide
    · split
      · decide
      · split <;> decide
theorem net_len (a : Nat) (n : Int) : (netL a n).length ≤ 18 := by
  unfold netL showNet
  split
  · rename_i h
    have := may_bits h
    simp only [Option.getD_some]
    split
    · decide
    · have h1 := show_len a
      have h2 := dec_len_le 2 n.toNat (by omega) (by omega)
      simp only [List.length_append, List.length_cons]
      omega
  · simp
theorem spanL_len {lo hi : Nat} (h1 : lo < 65536) (h2 : hi < 65536) : (spanL lo hi).length ≤ 11 := by
  unfold spanL
  have a1 := span_len h1
  have a2 := span_len h2
  split
  · decide
  · split
    · omega
    · simp only [List.length_append, List.length_cons]; omega
/-- A rule's line without its end. -/
def lineS (r : Rl) : List UInt8 := Lib.join (wordsR r) [32]
theorem lineS_eq (r : Rl) : lineS r = actL r.acc ++ [32] ++ wordF r.pr ++ [32] ++ netL r.sa r.sb ++ [32] ++ spanL r.sl r.sh ++ [32] ++ netL r.da r.db ++ [32] ++ spanL r.dl r.dh := by
  unfold lineS wordsR
  rw [Lib.join_cons]
  simp [Lib.joinTail]

/-- Six words in a block. -/
def Six (w : World) (bk : Nat) (ws : List (List UInt8)) : Prop := ∀ j x, ws[j]? = some x → w.cell? ⟨bk, 0 + j, none⟩ = some (str x)
def LinePost (r : Rl) (w : World) (e : Ending) (w' : World) : Prop := ∃ bk, e = .returned (.slice (some ⟨bk, 0, none⟩) 6 6) ∧ Six w' bk (wordsR r) ∧ bk < w'.heap.size ∧ Below w.heap.size w w'
theorem six_new (w : World) (a b c d e f : List UInt8) (T : TypeId) : Six (w.alloc (.cells #[str a, str b, str c, str d, str e, str f] T)) w.heap.size [a, b, c, d, e, f] := fun j x hj => by
  rcases j with _ | _ | _ | _ | _ | _ | j <;> simp at hj <;> subst hj <;> simp
end Go.Proofs.YtahgapkecabnjaaGreatDoor
/- The walks of rules.Print and of the reference's Print. -/
namespace Go.Proofs.YtahgapkecabnjaaGreatDoor
set_option linter.unusedSimpArgs false
set_option linter.unusedVariables false
open Go Go.RowKit

theorem write_any (B b : Nat) (bs : List Value) (s : ByteArray) (w : World) (h : Lib.IsBuilder 191 5 B b bs w) (hlen : bs.length + s.size ≤ 140737488355328) (hBw : B ≤ w.heap.size) :
    Calls Tryz.prog 144 #[.pointer (some ⟨b, 0, none⟩), .string s] w fun e w' => e = .returned (.tuple #[.int .i64 s.size, .nilIface]) ∧ (Lib.BuilderAt 191 5 B b (.pointer (some ⟨b, 0, none⟩)) (bs ++ Lib.strCells s) w' ∧ Below B w w') :=
  Any.Builder_WriteString ({ Tryz.lays156 with } : Go.Proofs.Lays.n166 Tryz.prog Tryz.lays156_ren) Tryz.Builder_Extra_156 B b bs s w h hlen hBw
theorem builder_keep {B b : Nat} {bs : List Value} {w w' : World} (h : Lib.IsBuilder 191 5 B b bs w) (k : Below w.heap.size w w') : Lib.IsBuilder 191 5 B b bs w' := by
  have f : ∀ {p}, Lib.BuilderAt 191 5 B b p bs w → Lib.BuilderAt 191 5 B b p bs w' := fun ⟨h1, v, h2, h3, h4⟩ =>
    ⟨h1, v, (k.block b (Array.getElem?_eq_some_iff.1 h2).1).trans h2, owns_below h3 k, h4⟩
  exact h.elim (fun x => .inl (f x)) (fun x => .inr (f x))
theorem lineS_len {r : Rl} (h : r.In) : (lineS r).length ≤ 73 := by
  rw [lineS_eq]
  have h1 : (actL r.acc).length ≤ 6 := by cases r.acc <;> decide
  have h2 := word_len r.pr
  have h3 := net_len r.sa r.sb
  have h4 := net_len r.da r.db
  have h5 := spanL_len h.sl h.sh
  have h6 := spanL_len h.dl h.dh
  simp only [List.length_append, List.length_cons, List.length_nil]
  omega
theorem join6 (bk : Nat) (r : Rl) (w : World) (hr : r.In) (h6 : Six w bk (wordsR r)) (hbk : bk < w.heap.size) :
    Calls Tryz.prog 135 #[.slice (some ⟨bk, 0, none⟩) 6 6, .string ⟨#[32]⟩] w fun e w' => e = .returned (str (lineS r)) ∧ Below w.heap.size w w' := by
  have hm : ((wordsR r).map (fun l => (⟨l.toArray⟩ : ByteArray))).map (·.data.toList) = wordsR r := by
    rw [List.map_map]; exact List.map_id _
  have hl := lineS_len hr
  have := Tryz.strings_Join bk 0 6 ((wordsR r).map (fun l => (⟨l.toArray⟩ : ByteArray))) ⟨#[32]⟩ w (fun j x hj => by
    rw [List.getElem?_map] at hj
    obtain ⟨l, h1, rfl⟩ := Option.map_eq_some_iff.1 hj
    exact h6 j l h1) hbk (by simp [wordsR]) (by simp [wordsR]) (by rw [hm]; show (lineS r).length ≤ _; omega)
  rw [hm] at this
  exact this

/-! ### Rules in memory -/
def RuleAt (w : World) (ad : Addr) (r : Rl) : Prop :=
  w.cell? ad = some (.bool r.acc) ∧ w.cell? ⟨ad.block, ad.off + 1, none⟩ = some (.int .u8 (r.pr : Nat)) ∧ w.cell? ⟨ad.block, ad.off + 2, none⟩ = some (.int .u32 (r.sa : Nat)) ∧ w.cell? ⟨ad.block, ad.off + 3, none⟩ = some (.int .i64 r.sb) ∧
  w.cell? ⟨ad.block, ad.off + 4, none⟩ = some (.int .u32 (r.da : Nat)) ∧ w.cell? ⟨ad.block, ad.off + 5, none⟩ = some (.int .i64 r.db) ∧ w.cell? ⟨ad.block, ad.off + 6, none⟩ = some (.int .u16 (r.sl : Nat)) ∧ w.cell? ⟨ad.block, ad.off + 7, none⟩ = some (.int .u16 (r.sh : Nat)) ∧
  w.cell? ⟨ad.block, ad.off + 8, none⟩ = some (.int .u16 (r.dl : Nat)) ∧ w.cell? ⟨ad.block, ad.off + 9, none⟩ = some (.int .u16 (r.dh : Nat))
/-- Rules, in the elements of a slice. -/
def RulesAt (w : World) (a : Option Addr) (rs : List Rl) : Prop := ∀ j r, rs[j]? = some r → r.In ∧ ∃ ad, a = some ad ∧ RuleAt w (ad.add (j * 10)) r
theorem RuleAt.below {w w' : World} {ad : Addr} {r : Rl} (h : RuleAt w ad r) (k : Below w.heap.size w w') : RuleAt w' ad r := by
  have f : ∀ {a v}, w.cell? a = some v → w'.cell? a = some v := fun hc => (k.cell (World.block_lt_of_cell? w _ hc)).trans hc
  obtain ⟨c0, c1, c2, c3, c4, c5, c6, c7, c8, c9⟩ := h
  exact ⟨f c0, f c1, f c2, f c3, f c4, f c5, f c6, f c7, f c8, f c9⟩
theorem RulesAt.below {w w' : World} {a : Option Addr} {rs : List Rl} (h : RulesAt w a rs) (k : Below w.heap.size w w') : RulesAt w' a rs := fun j r hj => by
  obtain ⟨h1, ad, h2, h3⟩ := h j r hj
  exact ⟨h1, ad, h2, h3.below k⟩
theorem print_take {rs : List Rl} {j : Nat} {r : Rl} (h : rs[j]? = some r) : printL (rs.take (j + 1)) = printL (rs.take j) ++ (lineS r ++ [10]) := by
  unfold printL
  rw [List.take_add_one, h]
  simp [lineB, lineS]
theorem print_all {rs : List Rl} (h64 : rs.length ≤ 64) (h : ∀ i r, i < rs.length → rs[i]? = some r → goodR r = true) : printF rs = (printL rs, 0) := by
  unfold printF
  rw [if_neg (by omega), if_pos]
  rw [List.all_eq_true]
  intro r hr
  obtain ⟨i, hi, e⟩ := List.getElem_of_mem hr
  exact h i r hi (by rw [List.getElem?_eq_getElem hi, e])
theorem print_bad {rs : List Rl} (h64 : rs.length ≤ 64) {j : Nat} {r : Rl} (h : rs[j]? = some r) (hb : goodR r = false) : printF rs = ([], 1) := by
  unfold printF
  rw [if_neg (by omega), if_neg]
  rw [List.all_eq_true]
  intro hall
  rw [hall r (List.mem_of_getElem? h)] at hb
  cases hb
theorem print_len {rs : List Rl} (hin : ∀ r ∈ rs, r.In) : (printL rs).length ≤ 74 * rs.length := by
  induction rs with
  | nil => simp [printL]
  | cons r rs ih =>
    have h1 := lineS_len (hin r (by simp))
    have h2 := ih (fun x hx => hin x (by simp [hx]))
    have e : printL (r :: rs) = (lineS r ++ [10]) ++ printL rs := by simp [printL, lineB, lineS]
    rw [e]
    simp only [List.length_append, List.length_cons, List.length_nil]
    omega
end Go.Proofs.YtahgapkecabnjaaGreatDoor
/- The walk of the reference's Print. -/
namespace Go.Proofs.YtahgapkecabnjaaGreatDoor
set_option linter.unusedSimpArgs false
set_option linter.unusedVariables false
open Go Go.RowKit

end Go.Proofs.YtahgapkecabnjaaGreatDoor
/- The walk of rules.rule. Printed by gen_ruled.py. -/
namespace Go.Proofs.YtahgapkecabnjaaGreatDoor
set_option linter.unusedSimpArgs false
set_option linter.unusedVariables false
open Go Go.RowKit Go.Maps Go.MapKept

/-- A rule as a value. -/
def ruleC (r : Rl) : List Value := [.bool r.acc, .int .u8 (r.pr : Nat), .int .u32 (r.sa : Nat), .int .i64 r.sb, .int .u32 (r.da : Nat), .int .i64 r.db, .int .u16 (r.sl : Nat), .int .u16 (r.sh : Nat), .int .u16 (r.dl : Nat), .int .u16 (r.dh : Nat)]
def ruleV (r : Rl) : Value := .agg #[.bool r.acc, .int .u8 (r.pr : Nat), .int .u32 (r.sa : Nat), .int .i64 r.sb, .int .u32 (r.da : Nat), .int .i64 r.db, .int .u16 (r.sl : Nat), .int .u16 (r.sh : Nat), .int .u16 (r.dl : Nat), .int .u16 (r.dh : Nat)]
def RulePost (ws : List (List UInt8)) (w : World) (e : Ending) (w' : World) : Prop := ∃ r ok, e = .returned (.tuple #[ruleV r, .bool ok]) ∧ (ruleOf ws = if ok = true then some r else none) ∧ Below w.heap.size w w'
theorem there_of (wr : World) {b : Nat} {cs : List Value} {T : TypeId} (h : wr.heap[b]? = some (.cells cs.toArray T (0, 0))) : wr.drew.there b 0 cs.length := fun j hj => by
  have hc : wr.drew.heap[b]? = some (.cells cs.toArray T (0, 0)) := h
  exact ⟨by simp [World.cell?, hc, hj], by simp [World.frozen?, hc]⟩
theorem setCells_since (b : Nat) : ∀ (vs : List Value) (o : Nat) (w : World), (w.setCells b o vs).heap.size = w.heap.size ∧ (w.setCells b o vs).os = w.os ∧ (w.setCells b o vs).tape = w.tape ∧ (w.setCells b o vs).output = w.output ∧ ∀ i, i ≠ b → (w.setCells b o vs).heap[i]? = w.heap[i]?
  | [], _, _ => ⟨rfl, rfl, rfl, rfl, fun _ _ => rfl⟩
  | v :: r, o, w => by
    obtain ⟨h1, h2, h3, h4, h5⟩ := setCells_since b r (o + 1) (w.setCell ⟨b, o, none⟩ v)
    exact ⟨by rw [World.setCells, h1]; simp [World.setCell], by rw [World.setCells, h2]; rfl, by rw [World.setCells, h3]; rfl, by rw [World.setCells, h4]; rfl, fun i hi => by rw [World.setCells, h5 i hi, Below.heap_setCell _ _ _ _ hi]⟩
theorem Turn.setCells {F : Nat → Prop} {w0 w : World} (h : Turn F w0 w) {b : Nat} (hb : F b) (o : Nat) (vs : List Value) : Turn F w0 (w.setCells b o vs) := by
  obtain ⟨h1, h2, h3, h4, h5⟩ := setCells_since b vs o w
  exact ⟨h2.trans h.os, h3.trans h.tape, h4.trans h.output, by rw [h1]; exact h.size, fun i hi hf => (h5 i (fun e => hf (by rw [e]; exact hb))).trans (h.block i hi hf)⟩
theorem ruleC_one (r : Rl) : (ruleC r).toArray.all (·.oneCell') = true := by
  rw [List.all_toArray, List.all_eq_true]
  intro x hx
  simp only [ruleC, List.mem_cons, List.not_mem_nil, or_false] at hx
  rcases hx with rfl | rfl | rfl | rfl | rfl | rfl | rfl | rfl | rfl | rfl <;> rfl
theorem u8_zero (w : World) : (zeroValue 5).run Tryz.prog w = .ok (.int .u8 0) w := by kernel_rfl
theorem protos_look {w : World} {b : Nat} (h : IsMap w Tryz.prog 9 b protoM) {l : List UInt8} (hl : l.length ≤ maxLen) :
    (Instr.lookup 163 (.map (some b)) (str l) true).run Tryz.prog w = .ok (.tuple #[.int .u8 (((protoOf l).getD 0 : Nat) : Int), .bool (protoOf l).isSome]) w := by
  have := h.lookup (string_keyed Tryz.underlying9) Tryz.underlying163 (u8_zero w) (keyOf_string_mk ⟨l.toArray⟩ (by show l.toArray.size ≤ _; simpa using hl)) true
  rw [this, protoM_str]
  cases protoOf l <;> rfl
theorem ruleOf_six {ws : List (List UInt8)} (h : ws.length ≠ 6) : ruleOf ws = none := by
  unfold ruleOf
  split
  · exact absurd rfl h
  · rfl
theorem ruleOf_eq {l0 l1 l2 l3 l4 l5 : List UInt8} {pv sa sb da db sl sh dl dh : Nat} {pk so dd : Bool} {se de : Int} (hact : l0 = acceptL ∨ l0 = dropL) (hpv : (protoOf l1).getD 0 = pv) (hpk : (protoOf l1).isSome = pk) (hn2 : netF l2 = (sa, sb, se)) (hn4 : netF l4 = (da, db, de))
    (hp3 : spanP l3 = (sl, sh, so)) (hp5 : spanP l5 = (dl, dh, dd)) :
    ruleOf [l0, l1, l2, l3, l4, l5] = if (pk && (se == 0) && (de == 0) && so && dd) = true then some ⟨decide (l0 = acceptL), pv, sa, sb, da, db, sl, sh, dl, dh⟩ else none := by
  have h3 := spanP_of l3
  have h5 := spanP_of l5
  rw [hp3] at h3
  rw [hp5] at h5
  simp only at h3 h5
  unfold ruleOf
  simp only
  rw [if_pos hact, h3, h5]
  unfold netF at hn2 hn4
  cases h1 : protoOf l1 with
  | none => rw [h1] at hpk; subst hpk; simp
  | some p =>
    rw [h1] at hpv hpk
    subst hpv hpk
    cases h2 : netOf l2 with
    | none => rw [h2] at hn2; cases hn2; simp
    | some x =>
      obtain ⟨x1, x2⟩ := x
      rw [h2] at hn2; cases hn2
      cases h4 : netOf l4 with
      | none => rw [h4] at hn4; cases hn4; simp
      | some y =>
        obtain ⟨y1, y2⟩ := y
        rw [h4] at hn4; cases hn4
        cases so <;> cases dd <;> simp
end Go.Proofs.YtahgapkecabnjaaGreatDoor
/- The walk of rules.Compile. Printed by gen_rulei.py. -/
namespace Go.Proofs.YtahgapkecabnjaaGreatDoor
set_option linter.unusedSimpArgs false
set_option linter.unusedVariables false
open Go Go.RowKit

def rowsC (rs : List Rl) : List Value := rs.flatMap ruleC
theorem rowsC_get : ∀ (rs : List Rl) (j k : Nat) (r : Rl), rs[j]? = some r → k < 10 → (rowsC rs)[j * 10 + k]? = (ruleC r)[k]?
  | [], j, k, r, h, _ => by simp at h
  | x :: rs, 0, k, r, h, hk => by
    simp at h; subst h
    show (ruleC x ++ rowsC rs)[0 * 10 + k]? = _
    rw [List.getElem?_append_left (by simp [ruleC]; omega), Nat.zero_mul, Nat.zero_add]
  | x :: rs, j + 1, k, r, h, hk => by
    show (ruleC x ++ rowsC rs)[(j + 1) * 10 + k]? = _
    rw [List.getElem?_append_right (by simp [ruleC]; omega), show (j + 1) * 10 + k - (ruleC x).length = j * 10 + k by simp [ruleC]; omega]
    exact rowsC_get rs j k r (by simpa using h) hk
theorem rowsC_snoc (rs : List Rl) (r : Rl) : rowsC (rs ++ [r]) = rowsC rs ++ ruleC r := by simp [rowsC]
theorem rules_cells {w : World} {a : Option Addr} {rs : List Rl} (hin : ∀ r ∈ rs, r.In) (h : ∀ j x, (rowsC rs)[j]? = some x → ∃ g, a = some ⟨g, 0, none⟩ ∧ w.cell? ⟨g, j, none⟩ = some x) : RulesAt w a rs := fun j r hj => by
  refine ⟨hin r (List.mem_of_getElem? hj), ?_⟩
  have hk : ∀ k v, k < 10 → (ruleC r)[k]? = some v → ∃ g, a = some ⟨g, 0, none⟩ ∧ w.cell? ⟨g, j * 10 + k, none⟩ = some v := fun k v hk hv => h _ _ ((rowsC_get rs j k r hj hk).trans hv)
  obtain ⟨g, rfl, h0⟩ := hk 0 _ (by omega) rfl
  have hk' : ∀ k v, k < 10 → (ruleC r)[k]? = some v → w.cell? ⟨g, j * 10 + k, none⟩ = some v := fun k v hk1 hv => by
    obtain ⟨g', e, hx⟩ := hk k v hk1 hv
    injection e with e; injection e with e
    subst e; exact hx
  have e : (⟨g, 0, none⟩ : Addr).add (j * 10) = ⟨g, j * 10, none⟩ := by rw [Addr.add_mid, Nat.zero_add]
  refine ⟨_, rfl, ?_⟩
  rw [e]
  exact ⟨h0, hk' 1 _ (by omega) rfl, hk' 2 _ (by omega) rfl, hk' 3 _ (by omega) rfl, hk' 4 _ (by omega) rfl, hk' 5 _ (by omega) rfl, hk' 6 _ (by omega) rfl, hk' 7 _ (by omega) rfl, hk' 8 _ (by omega) rfl, hk' 9 _ (by omega) rfl⟩
/-- Rules in a slice. -/
def Rules (w : World) (v : Value) (rs : List Rl) : Prop := ∃ a c, v = .slice a rs.length c ∧ RulesAt w a rs
theorem rules_of_row {w : World} {base : Nat} {v : Value} {rs : List Rl} (h : w.ownsRow base 79 10 v rs.length (rowsC rs)) (hin : ∀ r ∈ rs, r.In) : ∃ a c, v = .slice a rs.length c ∧ RulesAt w a rs := by
  obtain ⟨a, c, rfl, hx⟩ := row_form (Row_of_owns h)
  exact ⟨a, c, rfl, rules_cells hin fun j x hj => let ⟨g, h1, h2, _⟩ := hx j x hj; ⟨g, h1, h2⟩⟩
theorem rules_nil (w : World) (a : Option Addr) : RulesAt w a [] := fun j r h => by simp at h
theorem ruleInfo : (Tryz.prog.info? 79).map (fun i => (i.zero, i.size, i.bytes)) = some (some (.agg #[.bool false, .int .u8 0, .int .u32 0, .int .i64 0, .int .u32 0, .int .i64 0, .int .u16 0, .int .u16 0, .int .u16 0, .int .u16 0]), 10, 48) := by kernel_rfl
theorem ruleC_cell (r : Rl) : ∀ u ∈ ruleC r, u.oneCell' = true := by
  intro x hx
  simp only [ruleC, List.mem_cons, List.not_mem_nil, or_false] at hx
  rcases hx with rfl | rfl | rfl | rfl | rfl | rfl | rfl | rfl | rfl | rfl <;> rfl
def CompPost (q : List Rl × Nat × Int) (w : World) (e : Ending) (w' : World) : Prop := ∃ v, e = .returned (.tuple #[v, .int .i64 q.2.1, .int .i64 q.2.2]) ∧ Rules w' v q.1 ∧ Below w.heap.size w w'
theorem cells_at (w : World) (l : List Value) (t : TypeId) (n : Nat) (hn : n = w.heap.size) : ∀ j u, l[j]? = some u → (w.alloc (.cells l.toArray t)).cell? ((⟨n, 0, none⟩ : Addr).add j) = some u := by
  subst hn; exact cells_new w l t
theorem textF_words {l : List UInt8} {ls : List Ln} {a : Nat} {c : Int} (h : textF l = (ls, a, c)) : ∀ x ∈ ls, ∀ u ∈ x.2, u.length ≤ 65536 := by
  unfold textF at h
  split at h
  · cases h; simp
  · cases hb : firstBad l with
    | some i => rw [hb] at h; cases h; simp
    | none =>
      rw [hb] at h; cases h
      intro x hx u hu
      have := ((lines_bound (by omega) hb).2 x hx).2.2 u hu
      omega
end Go.Proofs.YtahgapkecabnjaaGreatDoor
/- Walks of match.First (over slices.IndexFunc and its closure) and of the reference's First. Printed by gen_matchc.py. -/
namespace Go.Proofs.YtahgapkecabnjaaGreatDoor
set_option linter.unusedSimpArgs false
set_option linter.unusedVariables false
open Go Go.RowKit Go.Shelf Go.Lib

/-- Rules whose parts are in their bounds. -/
abbrev RlIn := { r : Rl // r.In }
instance : Inhabited RlIn := ⟨⟨⟨false, 0, 0, 0, 0, 0, 0, 0, 0, 0⟩, ⟨by decide, by decide, by decide, by decide, by decide, by decide, by decide⟩⟩⟩
def encR (x : RlIn) : List Value := ruleC x.1
theorem encR_len (x : RlIn) : (encR x).length = 10 := rfl
theorem lift_rules : ∀ (rs : List Rl), (∀ r ∈ rs, r.In) → ∃ zs : List RlIn, zs.map (·.1) = rs
  | [], _ => ⟨[], rfl⟩
  | r :: rs, h => by
    obtain ⟨zs, e⟩ := lift_rules rs (fun x hx => h x (by simp [hx]))
    exact ⟨⟨r, h r (by simp)⟩ :: zs, by simp [e]⟩
theorem rulesAt_in {w : World} {a : Option Addr} {rs : List Rl} (h : RulesAt w a rs) : ∀ r ∈ rs, r.In := fun r hr => by
  obtain ⟨i, hi, e⟩ := List.getElem_of_mem hr
  exact (h i r (by rw [List.getElem?_eq_getElem hi, e])).1
/-- The cells of rules, as the laws on slices ask for them. -/
theorem rulesAt_cells {w : World} {b o : Nat} {zs : List RlIn} (h : RulesAt w (some ⟨b, o, none⟩) (zs.map (·.1))) : ∀ j, j < zs.length → ∀ i v, (encR zs[j]!)[i]? = some v → w.cell? ⟨b, o + j * 10 + i, none⟩ = some v := fun j hj i v hv => by
  have e : (zs.map (·.1))[j]? = some zs[j]!.1 := by
    rw [List.getElem?_map, List.getElem?_eq_getElem hj, List.getElem!_eq_getElem?_getD, List.getElem?_eq_getElem hj]; rfl
  obtain ⟨_, ad, e1, c0, c1, c2, c3, c4, c5, c6, c7, c8, c9⟩ := h j _ e
  injection e1 with e1
  subst e1
  generalize zs[j]! = z at *
  obtain ⟨⟨acc, pr, sa, sb, da, db, sl, sh, dl, dh⟩, hz⟩ := z
  rw [Addr.add_lit] at c0 c1 c2 c3 c4 c5 c6 c7 c8 c9
  simp only at c0 c1 c2 c3 c4 c5 c6 c7 c8 c9
  match i, hv with
  | 0, hv => simp [encR, ruleC] at hv; subst hv; simpa using c0
  | 1, hv => simp [encR, ruleC] at hv; subst hv; exact c1
  | 2, hv => simp [encR, ruleC] at hv; subst hv; exact c2
  | 3, hv => simp [encR, ruleC] at hv; subst hv; exact c3
  | 4, hv => simp [encR, ruleC] at hv; subst hv; exact c4
  | 5, hv => simp [encR, ruleC] at hv; subst hv; exact c5
  | 6, hv => simp [encR, ruleC] at hv; subst hv; exact c6
  | 7, hv => simp [encR, ruleC] at hv; subst hv; exact c7
  | 8, hv => simp [encR, ruleC] at hv; subst hv; exact c8
  | 9, hv => simp [encR, ruleC] at hv; subst hv; exact c9
  | i + 10, hv => simp [encR, ruleC] at hv
def PkBox (w : World) (b : Nat) (p : Pk) : Prop := ∀ o v, (pkC p)[o]? = some v → w.cell? ⟨b, o, none⟩ = some v
theorem PkBox.below {w w1 : World} {b : Nat} {p : Pk} (h : PkBox w b p) (hb : Below w.heap.size w w1) : PkBox w1 b p := fun o v hv => (hb.cell (p := ⟨b, o, none⟩) (World.block_lt_of_cell? w ⟨b, o, none⟩ (h o v hv))).trans (h o v hv)
set_option maxHeartbeats 4000000 in
set_option maxRecDepth 100000 in
/-- The closure of First. -/
theorem firstC_any (r : Rl) (p : Pk) (B : Nat) (W : World) (hr : r.In) (hp : PkIn p) (hB : PkBox W B p) :
    Calls Tryz.prog 109 #[ruleW r, .pointer (some ⟨B, 0, none⟩)] W fun e w' => e = .returned (.bool (matchF r p)) ∧ Below W.heap.size W w' := by
  have HM := Lib.hid (fun W => matches_any r p W hr hp)
  have HB0 : Hid (Below W.heap.size W (W.alloc (.cells (ruleC r).toArray 79))) := Lib.hid ((Below.refl _ _).alloc (Nat.le_refl _) _)
  have HP := Lib.hid (hB.below HB0.out)
  generalize matchF r p = res at *
  obtain ⟨acc, pr, sa, sb, da, db, sl, sh, dl, dh⟩ := r
  obtain ⟨proto, src, dst, sport, dport, flags, kind⟩ := p
  have hlt : B < W.heap.size := World.block_lt_of_cell? W ⟨B, 0, none⟩ (hB 0 _ rfl)
  have k0 := hB 0 _ rfl
  have k1 := hB 1 _ rfl
  have k2 := hB 2 _ rfl
  have k3 := hB 3 _ rfl
  have k4 := hB 4 _ rfl
  have k5 := hB 5 _ rfl
  have k6 := hB 6 _ rfl
  have hne : ¬ (B = W.heap.size) := by omega
  clear hr hp hB
  unfold ruleW
  dsimp only
  go_enter Tryz.func109, Tryz.ntmps109
  go_wp2_with fail
  refine (HM.out _).mono ?_
  rintro e w2 ⟨rfl, h2⟩
  have HB2 := Lib.hid (below_then HB0.out h2)
  clear h2
  go_wp2_with fail
  go_ret
  exact ⟨rfl, HB2.out⟩
/-- Is a packet let in? -/
def letIn (rs : List Rl) (p : Pk) : Bool := ((rs.find? fun r => matchF r p).map (·.acc)).getD false
theorem pred_first (p : Pk) (B : Nat) (w : World) (hp : PkIn p) (hB : PkBox w B p) :
    PredBelow Tryz.prog 109 #[.pointer (some ⟨B, 0, none⟩)] (fun x : RlIn => .agg (encR x).toArray) (fun x => matchF x.1 p) w := fun W x hb =>
  (firstC_any x.1 p B W x.2 hp (fun o v hv => (hb.cell (p := ⟨B, o, none⟩) (World.block_lt_of_cell? w ⟨B, o, none⟩ (hB o v hv))).trans (hB o v hv))).mono fun e w' h => ⟨h.1, hb.trans (h.2.mono hb.size)⟩
theorem isAgg_rule : ∀ w, (isAgg 79).run Tryz.prog w = .ok true w := Tryz.isAgg79
theorem sizeOf_rule : ∀ w, (Go.sizeOf 79).run Tryz.prog w = .ok 10 w := Tryz.sizeOf79
/-- Where the first rule that a packet matches stands. -/
def idxR (rs : List Rl) (p : Pk) : Int := match rs.findIdx? (fun r => matchF r p) with | some i => (i : Int) | none => -1
theorem idxBy_map (p : Pk) : ∀ (zs : List RlIn) (i : Nat), Lib.idxByFrom (fun _ y : RlIn => matchF y.1 p) default zs i = match (zs.map (·.1)).findIdx? (fun r => matchF r p) with | some k => ((i + k : Nat) : Int) | none => -1
  | [], _ => rfl
  | z :: zs, i => by
    have ih := idxBy_map p zs (i + 1)
    unfold Lib.idxByFrom
    rw [List.map_cons, List.findIdx?_cons]
    by_cases h : matchF z.1 p = true
    · simp [h]
    · rw [if_neg h, ih, if_neg h]
      cases (zs.map (·.1)).findIdx? (fun r => matchF r p) with
      | none => rfl
      | some k =>
        show (((i + 1 + k : Nat)) : Int) = ((i + (k + 1) : Nat) : Int)
        congr 1; omega
theorem idxBy_rules (p : Pk) (zs : List RlIn) : Lib.idxBy (fun _ y : RlIn => matchF y.1 p) zs default = idxR (zs.map (·.1)) p := by
  unfold Lib.idxBy idxR
  rw [idxBy_map]
  cases (zs.map (·.1)).findIdx? (fun r => matchF r p) with
  | none => rfl
  | some k => simp
theorem letIn_idx (rs : List Rl) (p : Pk) : letIn rs p = match rs.findIdx? (fun r => matchF r p) with | some i => ((rs[i]?).map (·.acc)).getD false | none => false := by
  unfold letIn
  induction rs with
  | nil => rfl
  | cons r rs ih =>
    rw [List.find?_cons, List.findIdx?_cons]
    by_cases h : matchF r p = true
    · simp [h]
    · rw [if_neg h]
      have h' : matchF r p = false := by simpa using h
      rw [h', ih]
      cases rs.findIdx? (fun r => matchF r p) with
      | none => rfl
      | some k => simp
theorem idx_rules (p : Pk) (B b o c : Nat) (rs : List Rl) (w : World) (hp : PkIn p) (hB : PkBox w B p) (hb : b < w.heap.size) (hR : RulesAt w (some ⟨b, o, none⟩) rs) (hl : rs.length ≤ maxLen) :
    Calls Tryz.prog 93 #[.slice (some ⟨b, o, none⟩) rs.length c, .func (.func 109) #[] #[.pointer (some ⟨B, 0, none⟩)]] w fun e w' => e = .returned (.int .i64 (idxR rs p)) ∧ Below w.heap.size w w' := by
  obtain ⟨zs, rfl⟩ := lift_rules rs (rulesAt_in hR)
  have eg : ∀ args w, (callFunc 109 args).run Tryz.prog w = .ok (.enter 109 args) w := enters_of Tryz.func109 (by kernel_rfl) rfl
  have hcon := AnyQ.slices_IndexFunc Tryz.idxF 10 isAgg_rule sizeOf_rule encR encR_len (fun x => matchF x.1 p) 109 #[.pointer (some ⟨B, 0, none⟩)] eg b o zs.length c zs w (pred_first p B w hp hB) (Nat.le_refl _) (by rw [List.length_map] at hl; exact Nat.le_trans hl (by decide)) hb (rulesAt_cells hR)
  change Calls Tryz.prog 93 _ _ _ at hcon
  rw [List.take_length, idxBy_rules] at hcon
  rw [List.length_map]
  exact hcon
end Go.Proofs.YtahgapkecabnjaaGreatDoor
