/- What is done to a firewall, in memory; few, some. Printed by gen_autor.py. -/
import Derived.Test.YtahgapkecabnjaaGreatDoorC17
namespace Go.Proofs.YtahgapkecabnjaaGreatDoor
set_option linter.unusedSimpArgs false
set_option linter.unusedVariables false
open Go Go.RowKit Go.Shelf Go.Lib Go.Maps Go.MapKept

/-- Something that is done. -/
structure Dod where
  kd : Int
  n : Int
  p : Pk
  k : Ky
  la : Option Addr
  lc : Nat
  l : List Rl
def dodC (d : Dod) : List Value := [.int .u8 d.kd, .int .i64 d.n, .int .u8 d.p.proto, .int .u32 d.p.src, .int .u32 d.p.dst, .int .u16 d.p.sport, .int .u16 d.p.dport, .int .u8 d.p.flags, .int .u8 d.p.kind, .int .u32 d.k.a0, .int .u32 d.k.a1, .int .u16 d.k.p0, .int .u16 d.k.p1, .int .u8 d.k.pr, .slice d.la d.l.length d.lc]
structure Dod.In (w : World) (d : Dod) : Prop where
  kd : 0 ≤ d.kd ∧ d.kd < 256
  n : (Lit.int .i64 d.n).wf = true
  p : PkIn d.p
  k : d.k.In
  l : RulesAt w d.la d.l
  len : d.l.length ≤ d.lc
  cap : d.lc ≤ maxLen
theorem Dod.In.below {w w' : World} {d : Dod} (h : d.In w) (k : Below w.heap.size w w') : d.In w' := ⟨h.kd, h.n, h.p, h.k, h.l.below k, h.len, h.cap⟩
def DosAt (w : World) (a : Option Addr) (ds : List Dod) : Prop := ∀ j d, ds[j]? = some d → d.In w ∧ ∃ b o, a = some ⟨b, o, none⟩ ∧ ∀ i v, (dodC d)[i]? = some v → w.cell? ⟨b, o + j * 15 + i, none⟩ = some v
theorem DosAt.below {w w' : World} {a : Option Addr} {ds : List Dod} (h : DosAt w a ds) (k : Below w.heap.size w w') : DosAt w' a ds := fun j d hj => by
  obtain ⟨h1, b, o, h2, h3⟩ := h j d hj
  exact ⟨h1.below k, b, o, h2, fun i v hv => (k.cell (World.block_lt_of_cell? w _ (h3 i v hv))).trans (h3 i v hv)⟩
theorem RulesAt.take {w : World} {a : Option Addr} {rs : List Rl} (h : RulesAt w a rs) (n : Nat) : RulesAt w a (rs.take n) := fun j r hj => by
  rw [List.getElem?_take] at hj
  split at hj
  · exact h j r hj
  · cases hj
def stepD (s : St) (d : Dod) : St :=
  if d.kd % 8 = 0 then tickS s d.n else if d.kd % 8 = 1 then swapS s (d.l.take 70) else if d.kd % 8 = 2 then deleteS s d.k else if d.kd % 8 = 3 then dropS s d.k else (actS s d.p).1
theorem stepD_ok {s : St} (h : s.Ok) {w : World} {d : Dod} (hd : d.In w) : (stepD s d).Ok := by
  unfold stepD
  split
  · exact tickS_ok h _
  · split
    · exact swapS_ok h _
    · split
      · exact deleteS_ok h _
      · split
        · exact dropS_ok h _
        · exact actS_ok h hd.p
def someS (c : Cf) (rs : List Rl) (ds : List Dod) : St := (ds.take 60).foldl stepD (newS c (rs.take 70))
theorem fold_ok {s : St} (h : s.Ok) {w : World} {a : Option Addr} {ds : List Dod} (hd : DosAt w a ds) (n : Nat) : ((ds.take n).foldl stepD s).Ok := by
  induction n with
  | zero => exact h
  | succ n ih =>
    rw [List.take_add_one, List.foldl_append]
    cases hn : ds[n]? with
    | none => exact ih
    | some d => exact stepD_ok ih (hd n d hn).1
theorem someS_ok {c : Cf} {rs : List Rl} {w : World} {a : Option Addr} {ds : List Dod} (hd : DosAt w a ds) (h : checkF c (rs.take 70) = 0) : (someS c rs ds).Ok := fold_ok (newS_ok h) hd 60
def SomePost (c : Cf) (rs : List Rl) (ds : List Dod) (w : World) (e : Ending) (w' : World) : Prop := Below w.heap.size w w' ∧
  ((checkF c (rs.take 70) ≠ 0 ∧ e = .returned (.pointer none)) ∨
   (checkF c (rs.take 70) = 0 ∧ ∃ ba F, e = .returned (.pointer (some ⟨ba, 0, none⟩)) ∧ (∀ i, F i → w.heap.size ≤ i ∧ i < w'.heap.size) ∧ AutoAt w' ba F (someS c rs ds)))
theorem some_step {w wr w1 w' : World} {ba : Nat} {F : Nat → Prop} {s' : St} (hb : Below w.heap.size w wr) (h1 : Below wr.heap.size wr w1) (hF : ∀ i, F i → w.heap.size ≤ i ∧ i < wr.heap.size)
    (h : ∃ F2, AutoAt w' ba F2 s' ∧ Turn F w1 w' ∧ ∀ i, F2 i → F i ∨ w1.heap.size ≤ i ∧ i < w'.heap.size) : Below w.heap.size w w' ∧ ∃ F2, AutoAt w' ba F2 s' ∧ ∀ i, F2 i → w.heap.size ≤ i ∧ i < w'.heap.size := by
  obtain ⟨F2, hA, hT, hx⟩ := h
  have h01 := below_then hb h1
  refine ⟨h01.trans (hT.below h01.size (fun i hi => (hF i hi).1)), F2, hA, fun i hi => ?_⟩
  have s1 := hb.size
  have s2 := h1.size
  have s3 := hT.size
  rcases hx i hi with h | h
  · have := hF i h; omega
  · omega
set_option maxHeartbeats 1000000 in
theorem few_any (a : Option Addr) (k : Nat) (rs : List Rl) (w : World) (hR : RulesAt w a rs) (hk : rs.length ≤ k) (hm : k ≤ maxLen) :
    Calls Tryz.prog 9 #[.slice a rs.length k] w fun e w' => e = .returned (.slice a (rs.take 70).length k) ∧ w' = w := by
  unfold maxLen at hm
  by_cases h : 70 < rs.length
  · have hl : (rs.take 70).length = 70 := by rw [List.length_take]; omega
    obtain ⟨-, ad, rfl, -⟩ := hR 0 rs[0] (List.getElem?_eq_getElem (by omega))
    rw [hl]
    have h70 : 70 ≤ k := by omega
    have h1 : (70 : Int) < (rs.length : Int) := by omega
    clear hR hl
    generalize rs.length = m at *
    go_enter Tryz.func9, Tryz.ntmps9
    go_wp2_with fail
    go_ret
    exact ⟨rfl, rfl⟩
  · have hl : (rs.take 70).length = rs.length := by rw [List.length_take]; omega
    rw [hl]
    have h1 : ¬ (70 : Int) < (rs.length : Int) := by omega
    clear hR hl
    generalize rs.length = m at *
    go_enter Tryz.func9, Tryz.ntmps9
    go_wp2_with fail
    go_ret
    exact ⟨rfl, rfl⟩
set_option maxHeartbeats 8000000 in
set_option maxRecDepth 100000 in
theorem some_any (c : Cf) (la : Option Addr) (lk : Nat) (rs : List Rl) (aa : Option Addr) (ak : Nat) (ds : List Dod) (w : World) (hR : RulesAt w la rs) (hk : rs.length ≤ lk) (hkm : lk ≤ maxLen) (hD : DosAt w aa ds) (hdl : ds.length ≤ maxLen) (hT : Tabs w) :
    Calls Tryz.prog 17 #[.agg (cfC c), .slice la rs.length lk, .slice aa ds.length ak] w (SomePost c rs ds w) := by
  have HB0 : Hid (Below w.heap.size w (w.alloc (.cells (cfC c) 24))) := Lib.hid ((Below.refl _ w).alloc (Nat.le_refl _) _)
  have HRG : Hid ((w.alloc (.cells (cfC c) 24)).rangeAt w.heap.size 0 (cfC c).toList) := Lib.hid (fun j v hv => by rw [← hv]; simp)
  have hi := cfInfo c
  have HFW := Lib.hid (fun W (hb : Below w.heap.size w W) => few_any la lk rs W (hR.below hb) hk hkm)
  have HNW := Lib.hid (fun W (hb : Below w.heap.size w W) => new_any c la lk (rs.take 70) W ((hR.below hb).take 70) (by rw [List.length_take]; exact Nat.le_trans (Nat.min_le_right _ _) (Nat.le_trans hk hkm)) (hT.below hb))
  have HD := Lib.hid (fun W (hb : Below w.heap.size w W) => hD.below hb)
  have HT := Lib.hid (fun W (hb : Below w.heap.size w W) => hT.below hb)
  unfold maxLen at hdl
  clear hR hk hkm hD hT
  have HPO : Hid (∀ e w', (Below w.heap.size w w' ∧ ((checkF c (rs.take 70) ≠ 0 ∧ e = .returned (.pointer none)) ∨ (checkF c (rs.take 70) = 0 ∧ ∃ ba F, e = .returned (.pointer (some ⟨ba, 0, none⟩)) ∧ (∀ i, F i → w.heap.size ≤ i ∧ i < w'.heap.size) ∧ AutoAt w' ba F ((ds.take 60).foldl stepD (newS c (rs.take 70)))))) → SomePost c rs ds w e w') := Lib.hid (fun e w' h => h)
  generalize rs.take 70 = r7 at *
  generalize hX : cfC c = X at *
  have HX := Lib.hid hX
  clear hX
  go_enter Tryz.func17, Tryz.ntmps17
  go_wp2_with fail
  generalize hw1 : w.alloc (.cells X 24) = w1 at *
  have HW1 := Lib.hid hw1
  clear hw1
  have HS0 : Hid (Since w1 w1.drew) := Lib.hid ((Below.refl _ w1).trans ⟨rfl, rfl, rfl, Nat.le_refl _, fun _ _ => rfl⟩)
  refine WH.enter (Since w1) (by kernel_rfl) 9 rfl ?_
  refine WH.take 0 (some 12) rfl rfl (by kernel_rfl) (by kernel_rfl) (by kernel_rfl) (fun _ _ _ h => h) (by rfl) (fun v hv => by rw [exec_load_mid 24 (.tmp 3) rfl w.heap.size 0 rfl X.toList _ (Since.range hv HRG.out) Tryz.underlying24 rfl hi, Array.toArray_toList]) HS0.out ?_; simp only [Act.put, List.setIfInBounds_toArray, List.set_cons_zero, List.set_cons_succ]
  refine WH.take 1 (some 13) rfl rfl (by kernel_rfl) (by kernel_rfl) (by kernel_rfl) (fun _ _ _ h => h) (by rfl) (fun v hv => by go_simp; first | done | with_reducible rfl | (rw [if_neg (by omega)])) HS0.out ?_; simp only [Act.put, List.setIfInBounds_toArray, List.set_cons_zero, List.set_cons_succ]
  refine WH.one 2 (by kernel_rfl) rfl (by rfl) ?_
  go_wp2_with fail
  refine (HFW.out _ (below_then HB0.out HS0.out)).mono ?_
  rintro e w2 ⟨rfl, rfl⟩
  go_wp2_with fail
  refine ⟨HS0.out, ?_⟩
  refine WH.one 3 (by kernel_rfl) rfl (by rfl) ?_
  go_wp2_with fail
  refine (HNW.out _ (below_then HB0.out HS0.out)).mono ?_
  rintro e w3 ⟨hb, hcase⟩
  have HS3 : Hid (Since w1 w3) := Lib.hid (Since.step HS0.out hb)
  have HB3 := Lib.hid (below_then HB0.out HS3.out)
  have HB0D : Hid (w.heap.size ≤ w1.drew.heap.size) := Lib.hid HB0.out.size
  rcases hcase with ⟨hne, rfl⟩ | ⟨h0, ba, F, rfl, hF, hA⟩
  · have HNE := Lib.hid hne
    clear hne hb
    go_wp2_with fail
    refine ⟨HS3.out, ?_⟩
    refine WH.take 4 (some 11) rfl rfl (by kernel_rfl) (by kernel_rfl) (by kernel_rfl) (fun _ _ _ h => h) (by rfl) (fun v hv => by go_simp; first | done | with_reducible rfl | (rw [if_neg (by omega)])) HS3.out ?_; simp only [Act.put, List.setIfInBounds_toArray, List.set_cons_zero, List.set_cons_succ]
    refine WH.take 5 (some 16) rfl rfl (by kernel_rfl) (by kernel_rfl) (by kernel_rfl) (fun _ _ _ h => h) (by rfl) (fun v hv => by go_simp; first | done | with_reducible rfl | (rw [if_neg (by omega)])) HS3.out ?_; simp only [Act.put, List.setIfInBounds_toArray, List.set_cons_zero, List.set_cons_succ]
    refine WH.take 6 (some 17) rfl rfl (by kernel_rfl) (by kernel_rfl) (by kernel_rfl) (fun _ _ _ h => h) (by rfl) (fun v hv => by go_simp; first | done | with_reducible rfl | (rw [if_neg (by omega)])) HS3.out ?_; simp only [Act.put, List.setIfInBounds_toArray, List.set_cons_zero, List.set_cons_succ]
    refine WH.take 7 (some 7) rfl rfl (by kernel_rfl) (by kernel_rfl) (by kernel_rfl) (fun _ _ _ h => h) (by rfl) (fun v hv => by go_simp; first | done | with_reducible rfl | (rw [if_neg (by omega)])) HS3.out ?_; simp only [Act.put, List.setIfInBounds_toArray, List.set_cons_zero, List.set_cons_succ]
    refine WH.take 8 (some 8) rfl rfl (by kernel_rfl) (by kernel_rfl) (by kernel_rfl) (fun _ _ _ h => h) (by rfl) (fun v hv => by go_simp; first | done | with_reducible rfl | (rw [if_neg (by omega)])) HS3.out ?_; simp only [Act.put, List.setIfInBounds_toArray, List.set_cons_zero, List.set_cons_succ]
    refine WH.done (by kernel_rfl) ?_
    have hne := HNE.out
    generalize checkF c r7 = ck at *
    go_wp2_with fail
    go_ret
    exact HPO.out _ _ ⟨HB3.out, .inl ⟨HNE.out, rfl⟩⟩
  · have HZ : Hid (∃ F', AutoAt w3 ba F' ((ds.take 0).foldl stepD (newS c r7)) ∧ ∀ i, F' i → w.heap.size ≤ i ∧ i < w3.heap.size) := Lib.hid ⟨F, hA, fun i h => ⟨Nat.le_trans HB0D.out (hF i h).1, (hF i h).2⟩⟩
    have HN0 := Lib.hid (newS_ok h0)
    have H0 := Lib.hid h0
    clear hF hA hb h0
    go_wp2_with fail
    refine ⟨HS3.out, ?_⟩
    refine WH.take 4 (some 11) rfl rfl (by kernel_rfl) (by kernel_rfl) (by kernel_rfl) (fun _ _ _ h => h) (by rfl) (fun v hv => by go_simp; first | done | with_reducible rfl | (rw [if_neg (by omega)])) HS3.out ?_; simp only [Act.put, List.setIfInBounds_toArray, List.set_cons_zero, List.set_cons_succ]
    refine WH.take 5 (some 16) rfl rfl (by kernel_rfl) (by kernel_rfl) (by kernel_rfl) (fun _ _ _ h => h) (by rfl) (fun v hv => by go_simp; first | done | with_reducible rfl | (rw [if_neg (by omega)])) HS3.out ?_; simp only [Act.put, List.setIfInBounds_toArray, List.set_cons_zero, List.set_cons_succ]
    refine WH.take 6 (some 17) rfl rfl (by kernel_rfl) (by kernel_rfl) (by kernel_rfl) (fun _ _ _ h => h) (by rfl) (fun v hv => by go_simp; first | done | with_reducible rfl | (rw [if_neg (by omega)])) HS3.out ?_; simp only [Act.put, List.setIfInBounds_toArray, List.set_cons_zero, List.set_cons_succ]
    refine WH.take 7 (some 7) rfl rfl (by kernel_rfl) (by kernel_rfl) (by kernel_rfl) (fun _ _ _ h => h) (by rfl) (fun v hv => by go_simp; first | done | with_reducible rfl | (rw [if_neg (by omega)])) HS3.out ?_; simp only [Act.put, List.setIfInBounds_toArray, List.set_cons_zero, List.set_cons_succ]
    refine WH.take 8 (some 8) rfl rfl (by kernel_rfl) (by kernel_rfl) (by kernel_rfl) (fun _ _ _ h => h) (by rfl) (fun v hv => by go_simp; first | done | with_reducible rfl | (rw [if_neg (by omega)])) HS3.out ?_; simp only [Act.put, List.setIfInBounds_toArray, List.set_cons_zero, List.set_cons_succ]
    refine WH.done (by kernel_rfl) ?_
    go_wp2_with fail
    go_loopw [9] (fun n wr => ∃ k : Nat, n = .int .i64 k ∧ k ≤ 60 ∧ k ≤ ds.length ∧ Hid (Below w.heap.size w wr) ∧ Hid (∃ F', AutoAt wr ba F' ((ds.take k).foldl stepD (newS c r7)) ∧ ∀ i, F' i → w.heap.size ≤ i ∧ i < wr.heap.size)) (fun n _ => 60 - (intOf n).toNat)
    case atStart => exact ⟨0, rfl, by omega, by omega, HB3, HZ⟩
    case round =>
      obtain ⟨k, rfl, hk60, hkl, HBR, HAR⟩ := hrel
      have HEX : Hid ((k = ds.length ∨ k = 60) → ds.take k = ds.take 60) := Lib.hid (fun h => by
        rcases h with h | h
        · rw [List.take_of_length_le (by omega), List.take_of_length_le (by omega)]
        · rw [h])
      by_cases hl1 : k < ds.length
      · by_cases hl2 : k < 60
        · obtain ⟨d, hd⟩ : ∃ d, ds[k]? = some d := ⟨_, List.getElem?_eq_getElem hl1⟩
          obtain ⟨hdi, b, o, haa, hdc⟩ := HD.out wr HBR.out k d hd
          have HAA := Lib.hid haa
          have hrg : wr.rangeAt b (o + k * 15) [.int .u8 d.kd, .int .i64 d.n, .int .u8 d.p.proto, .int .u32 d.p.src, .int .u32 d.p.dst, .int .u16 d.p.sport, .int .u16 d.p.dport, .int .u8 d.p.flags, .int .u8 d.p.kind, .int .u32 d.k.a0, .int .u32 d.k.a1, .int .u16 d.k.p0, .int .u16 d.k.p1, .int .u8 d.k.pr, .slice d.la d.l.length d.lc] := hdc
          have HST : Hid ((ds.take (k + 1)).foldl stepD (newS c r7) = stepD ((ds.take k).foldl stepD (newS c r7)) d) := Lib.hid (by rw [List.take_add_one, List.foldl_append, hd]; rfl)
          have HSO := Lib.hid (fold_ok HN0.out (HD.out wr HBR.out) k)
          obtain ⟨F', hA, hF⟩ := HAR.out
          have HA := Lib.hid hA
          have HF := Lib.hid hF
          have HDI := Lib.hid hdi
          have hk1 := hdi.kd.1
          have hk2 := hdi.kd.2
          clear hA hF hd hdc HAR hdi
          generalize (ds.take k).foldl stepD (newS c r7) = s at *
          subst haa
          have hki : (0 : Int) ≤ k := by omega
          have hkm : (k : Int) < (ds.length : Int) := by omega
          have HAL : Hid (Below wr.heap.size wr (wr.alloc (.cells #[.int .u8 d.kd, .int .i64 d.n, .int .u8 d.p.proto, .int .u32 d.p.src, .int .u32 d.p.dst, .int .u16 d.p.sport, .int .u16 d.p.dport, .int .u8 d.p.flags, .int .u8 d.p.kind, .int .u32 d.k.a0, .int .u32 d.k.a1, .int .u16 d.k.p0, .int .u16 d.k.p1, .int .u8 d.k.pr, .slice d.la d.l.length d.lc] 47))) := Lib.hid ((Below.refl _ _).alloc (Nat.le_refl _) _)
          have HK0 : Hid ((d.kd % 8 == 0) = true → stepD s d = tickS s d.n) := Lib.hid (fun h => by unfold stepD; rw [if_pos (by simpa using h)])
          have HK1 : Hid ((d.kd % 8 == 0) = false → (d.kd % 8 == 1) = true → stepD s d = swapS s (d.l.take 70)) := Lib.hid (fun h0 h => by unfold stepD; rw [if_neg (by simpa using h0), if_pos (by simpa using h)])
          have HK2 : Hid ((d.kd % 8 == 0) = false → (d.kd % 8 == 1) = false → (d.kd % 8 == 2) = true → stepD s d = deleteS s d.k) := Lib.hid (fun h0 h1 h => by unfold stepD; rw [if_neg (by simpa using h0), if_neg (by simpa using h1), if_pos (by simpa using h)])
          have HK3 : Hid ((d.kd % 8 == 0) = false → (d.kd % 8 == 1) = false → (d.kd % 8 == 2) = false → (d.kd % 8 == 3) = true → stepD s d = dropS s d.k) := Lib.hid (fun h0 h1 h2 h => by unfold stepD; rw [if_neg (by simpa using h0), if_neg (by simpa using h1), if_neg (by simpa using h2), if_pos (by simpa using h)])
          have HK4 : Hid ((d.kd % 8 == 0) = false → (d.kd % 8 == 1) = false → (d.kd % 8 == 2) = false → (d.kd % 8 == 3) = false → stepD s d = (actS s d.p).1) := Lib.hid (fun h0 h1 h2 h => by unfold stepD; rw [if_neg (by simpa using h0), if_neg (by simpa using h1), if_neg (by simpa using h2), if_neg (by simpa using h)])
          have HFE := Lib.hid (fun W (hb : Below wr.heap.size wr W) => few_any d.la d.lc d.l W (HDI.out.l.below hb) HDI.out.len HDI.out.cap)
          have HSW := Lib.hid (fun W (hb : Below wr.heap.size wr W) (hA : AutoAt W ba F' s) => swap_any (ba := ba) (F := F') (s := s) d.la d.lc (d.l.take 70) ((HDI.out.l.below hb).take 70) (by rw [List.length_take]; exact Nat.le_trans (Nat.min_le_right _ _) (Nat.le_trans HDI.out.len HDI.out.cap)) (HT.out W (below_then HBR.out hb)) hA HSO.out)
          have HTI := Lib.hid (fun W (hA : AutoAt W ba F' s) => tick_any d.n hA HSO.out.g)
          have HDE := Lib.hid (fun W (hA : AutoAt W ba F' s) => delete_any HDI.out.k hA HSO.out)
          have HDR := Lib.hid (fun W (hA : AutoAt W ba F' s) => drop_any HDI.out.k hA HSO.out.g)
          have HAC := Lib.hid (fun W (hb : Below wr.heap.size wr W) (hA : AutoAt W ba F' s) => act_any HDI.out.p hA HSO.out (fun i h => Nat.lt_of_lt_of_le (HF.out i h).2 hb.size))
          have HA1 := Lib.hid (HA.out.below HAL.out)
          generalize d.l.take 70 = l7 at *
          go_wp2_with (first
            | (refine wpList_load_mid_w (by rfl) 47 (.tmp 32) rfl b (o + k * 15) (by rfl) [.int .u8 d.kd, .int .i64 d.n, .int .u8 d.p.proto, .int .u32 d.p.src, .int .u32 d.p.dst, .int .u16 d.p.sport, .int .u16 d.p.dport, .int .u8 d.p.flags, .int .u8 d.p.kind, .int .u32 d.k.a0, .int .u32 d.k.a1, .int .u16 d.k.p0, .int .u16 d.k.p1, .int .u8 d.k.pr, .slice d.la d.l.length d.lc] _ hrg Tryz.underlying47 rfl (by kernel_rfl) ?_)
            | (go_at_call 9; refine (HFE.out _ HAL.out).mono ?_; rintro e w4 ⟨rfl, rfl⟩)
            | (go_at_call 23; refine (HSW.out _ HAL.out HA1.out).mono ?_; rintro e w5 ⟨rfl, hN⟩; have HN := Lib.hid (some_step HBR.out HAL.out HF.out hN); have HQ := Lib.hid (HK1.out (by assumption) (by assumption)); clear hN)
            | (go_at_call 24; refine (HTI.out _ HA1.out).mono ?_; rintro e w5 ⟨⟨v5, rfl⟩, hA, hT⟩; have HN := Lib.hid (some_step HBR.out HAL.out HF.out ⟨F', hA, hT, fun i h => .inl h⟩); have HQ := Lib.hid (HK0.out (by assumption)); clear hA hT)
            | (go_at_call 19; refine (HDE.out _ HA1.out).mono ?_; rintro e w5 ⟨rfl, hA, hT⟩; have HN := Lib.hid (some_step HBR.out HAL.out HF.out ⟨F', hA, hT, fun i h => .inl h⟩); have HQ := Lib.hid (HK2.out (by assumption) (by assumption) (by assumption)); clear hA hT)
            | (go_at_call 25; refine (HDR.out _ HA1.out).mono ?_; rintro e w5 ⟨rfl, hA, hT⟩; have HN := Lib.hid (some_step HBR.out HAL.out HF.out ⟨F', hA, hT, fun i h => .inl h⟩); have HQ := Lib.hid (HK3.out (by assumption) (by assumption) (by assumption) (by assumption)); clear hA hT)
            | (go_at_call 21; refine (HAC.out _ HAL.out HA1.out).mono ?_; rintro e w5 ⟨rfl, hA, hT⟩; have HN := Lib.hid (some_step HBR.out HAL.out HF.out ⟨F', hA, hT, fun i h => .inl h⟩); have HQ := Lib.hid (HK4.out (by assumption) (by assumption) (by assumption) (by assumption)); clear hA hT))
          all_goals
            go_roundw
            case rel => exact ⟨k + 1, by go_num, by omega, by omega, Lib.hid HN.out.1, Lib.hid (by rw [HST.out, HQ.out]; exact HN.out.2)⟩
            case measure => simp [intOf]; omega
        · go_wp2_with fail
          go_ret
          obtain ⟨F', hA, hF⟩ := HAR.out
          rw [HEX.out (.inr (by omega))] at hA
          exact HPO.out _ _ ⟨HBR.out, .inr ⟨H0.out, ba, F', rfl, hF, hA⟩⟩
      · go_wp2_with fail
        go_ret
        obtain ⟨F', hA, hF⟩ := HAR.out
        rw [HEX.out (.inl (by omega))] at hA
        exact HPO.out _ _ ⟨HBR.out, .inr ⟨H0.out, ba, F', rfl, hF, hA⟩⟩
end Go.Proofs.YtahgapkecabnjaaGreatDoor
/- The walk of AutoCounts. Printed by gen_autos.py. -/
namespace Go.Proofs.YtahgapkecabnjaaGreatDoor
set_option linter.unusedSimpArgs false
set_option linter.unusedVariables false
open Go Go.RowKit Go.Shelf Go.Lib Go.Maps Go.MapKept

theorem KeysAt.len {w : World} {B : Nat} {v : Value} {l : List Ky} (h : KeysAt w B v l) : ∃ a c, v = .slice a l.length c := by
  obtain ⟨a, c, h, _⟩ := h
  exact ⟨a, c, h⟩
theorem keys_len {w : World} {ba : Nat} {F : Nat → Prop} {s : St} (h : AutoAt w ba F s) (hs : s.Ok) :
    Calls Tryz.prog 20 #[.pointer (some ⟨ba, 0, none⟩)] w fun e w' => (∃ a c, e = .returned (.slice a s.flows.length c)) ∧ Below w.heap.size w w' :=
  (h.keys (by have := hs.small; omega) hs.rise).mono fun e w' ⟨v, h1, h2, h3⟩ => by
    obtain ⟨a, c, rfl⟩ := h2.len
    exact ⟨⟨a, c, by rw [h1]; simp [keysL]⟩, h3⟩
theorem gate_len {w : World} {ba : Nat} {F : Nat → Prop} {s : St} (h : AutoAt w ba F s) (hs : s.Ok) :
    Calls Tryz.prog 22 #[.pointer (some ⟨ba, 0, none⟩)] w fun e w' => e = .returned (.agg #[.int .i64 (verW s.g : Nat), .int .i64 (s.flows.length : Nat), .int .i64 (clkW s.g : Nat)]) ∧ Below w.heap.size w w' :=
  (gateOf_any h hs.g).mono fun e w' ⟨h1, h2⟩ => ⟨by rw [h1]; unfold gateV; rw [hs.cnt], h2⟩
/-- What Counts asks of the verdict. -/
def CountsV (v : Int) (n m : Nat) (cap : Int) (is : Bool) : Prop := (v = 1 ∧ is = true) ∨ (v = 3 ∧ m = n) ∨ (v = 4 ∧ m = n) ∨ (v = 5 ∧ m = n ∧ cap = (n : Int))
theorem countsV_of {s : St} (h : s.Ok) {p : Pk} (hp : PkIn p) {k : Ky} {t : Bool} (hk : k.In) : CountsV (actK s p k t).2 s.flows.length (actK s p k t).1.flows.length s.c.cap (hasL (actK s p k t).1.flows k) := by
  obtain ⟨h5, h1, h2, h6, hi, hm⟩ := counts_law h hp hk (t := t)
  have : (actK s p k t).2 = 1 ∨ (actK s p k t).2 = 3 ∨ (actK s p k t).2 = 4 ∨ (actK s p k t).2 = 5 := by omega
  rcases this with e | e | e | e
  · exact .inl ⟨e, hi e⟩
  · exact .inr (.inl ⟨e, hm (by omega)⟩)
  · exact .inr (.inr (.inl ⟨e, hm (by omega)⟩))
  · exact .inr (.inr (.inr ⟨e, hm (by omega), (h5 e).1.symm⟩))
theorem stepD_c (s : St) (d : Dod) : (stepD s d).c = s.c := by
  unfold stepD
  split
  · rfl
  · split
    · exact (swapS_flows _ _).2
    · split
      · unfold deleteS; split <;> rfl
      · split
        · unfold dropS; split <;> rfl
        · unfold actS actK
          have hd : (deleteS s (keyF d.p).1).c = s.c := by unfold deleteS; split <;> rfl
          split
          · unfold onS; split <;> exact hd
          · unfold beginS
            split
            · exact hd
            · split
              · exact hd
              · split <;> exact hd
theorem fold_c (ds : List Dod) : ∀ s : St, (ds.foldl stepD s).c = s.c := by
  induction ds with
  | nil => exact fun s => rfl
  | cons d ds ih => exact fun s => (ih _).trans (stepD_c s d)
theorem someS_c (c : Cf) (rs : List Rl) (ds : List Dod) : (someS c rs ds).c = c := fold_c _ _
set_option maxHeartbeats 8000000 in
set_option maxRecDepth 100000 in
theorem autoCounts_walk (c : Cf) (la : Option Addr) (lk : Nat) (rs : List Rl) (aa : Option Addr) (ak : Nat) (ds : List Dod) (p : Pk) (w : World) (hR : RulesAt w la rs) (hk : rs.length ≤ lk) (hkm : lk ≤ maxLen) (hD : DosAt w aa ds) (hdl : ds.length ≤ maxLen) (hp : PkIn p) (hT : Tabs w) :
    Calls Tryz.prog 4 #[.agg (cfC c), .slice la rs.length lk, .slice aa ds.length ak, .agg (pkC p)] w fun e w' => e = .returned (.bool true) ∧ Below w.heap.size w w' := by
  have HB1 : Hid (Below w.heap.size w ((w.alloc (.cells (cfC c) 24)).alloc (.cells (pkC p) 41))) := Lib.hid (((Below.refl _ w).alloc (Nat.le_refl _) _).alloc (by simp) _)
  have hz : (w.alloc (.cells (cfC c) 24)).heap.size = w.heap.size + 1 := by simp
  have HRG : Hid (((w.alloc (.cells (cfC c) 24)).alloc (.cells (pkC p) 41)).rangeAt w.heap.size 0 (cfC c).toList) := Lib.hid (fun j v hv => by rw [World.cell?_alloc_lt _ _ _ (by simp)]; rw [← hv]; simp)
  have cc : ((w.alloc (.cells (cfC c) 24)).alloc (.cells (pkC p) 41)).cell? ⟨w.heap.size, 1, none⟩ = some (.int .i64 c.cap) := by rw [World.cell?_alloc_lt _ _ _ (by simp)]; simp [cfC]
  have p0 : ((w.alloc (.cells (cfC c) 24)).alloc (.cells (pkC p) 41)).cell? ⟨w.heap.size + 1, 0, none⟩ = some (.int .u8 p.proto) := by rw [← hz]; simp [pkC]
  have p1 : ((w.alloc (.cells (cfC c) 24)).alloc (.cells (pkC p) 41)).cell? ⟨w.heap.size + 1, 1, none⟩ = some (.int .u32 p.src) := by rw [← hz]; simp [pkC]
  have p2 : ((w.alloc (.cells (cfC c) 24)).alloc (.cells (pkC p) 41)).cell? ⟨w.heap.size + 1, 2, none⟩ = some (.int .u32 p.dst) := by rw [← hz]; simp [pkC]
  have p3 : ((w.alloc (.cells (cfC c) 24)).alloc (.cells (pkC p) 41)).cell? ⟨w.heap.size + 1, 3, none⟩ = some (.int .u16 p.sport) := by rw [← hz]; simp [pkC]
  have p4 : ((w.alloc (.cells (cfC c) 24)).alloc (.cells (pkC p) 41)).cell? ⟨w.heap.size + 1, 4, none⟩ = some (.int .u16 p.dport) := by rw [← hz]; simp [pkC]
  have p5 : ((w.alloc (.cells (cfC c) 24)).alloc (.cells (pkC p) 41)).cell? ⟨w.heap.size + 1, 5, none⟩ = some (.int .u8 p.flags) := by rw [← hz]; simp [pkC]
  have p6 : ((w.alloc (.cells (cfC c) 24)).alloc (.cells (pkC p) 41)).cell? ⟨w.heap.size + 1, 6, none⟩ = some (.int .u8 p.kind) := by rw [← hz]; simp [pkC]
  have hzw : ((w.alloc (.cells (cfC c) 24)).alloc (.cells (pkC p) 41)).heap.size = w.heap.size + 2 := by simp
  have hi := cfInfo c
  have HSM := Lib.hid (some_any c la lk rs aa ak ds ((w.alloc (.cells (cfC c) 24)).alloc (.cells (pkC p) 41)) (hR.below HB1.out) hk hkm (hD.below HB1.out) hdl (hT.below HB1.out))
  have HT := Lib.hid (fun W (hb : Below w.heap.size w W) => hT.below hb)
  have HSO := Lib.hid (fun h => someS_ok (c := c) (rs := rs) hD h)
  have HSC := Lib.hid (someS_c c rs ds)
  have HP := Lib.hid hp
  have HKI := Lib.hid (keyF_in hp)
  have HOF := Lib.hid (fun W => of_any p W hp)
  have HTW := Lib.hid (fun s => actS_twice s p)
  clear hR hk hkm hD hdl hT hp hz
  generalize hX : cfC c = X at *
  clear hX
  generalize (keyF p).1 = k at *
  generalize (keyF p).2 = t at *
  have HOF : Hid (∀ W, Calls Tryz.prog 18 #[.agg (pkC p)] W fun e w' => e = .returned (.tuple #[.agg #[.int .u32 k.a0, .int .u32 k.a1, .int .u16 k.p0, .int .u16 k.p1, .int .u8 k.pr], .bool t]) ∧ Below W.heap.size W w') := HOF
  go_enter Tryz.func4, Tryz.ntmps4
  go_wp2_with (first | (refine wpList_load_mid_w (by rfl) 24 (.tmp 4) rfl w.heap.size 0 rfl X.toList _ HRG.out Tryz.underlying24 rfl hi ?_; rw [Array.toArray_toList]))
  refine HSM.out.mono ?_
  rintro e w2 ⟨hb, hcase⟩
  have HB2 := Lib.hid (below_then HB1.out hb)
  have HZ2 : Hid (((w.alloc (.cells X 24)).alloc (.cells (pkC p) 41)).heap.size ≤ w2.heap.size) := Lib.hid hb.size
  replace p0 := Since.cell hb p0
  replace p1 := Since.cell hb p1
  replace p2 := Since.cell hb p2
  replace p3 := Since.cell hb p3
  replace p4 := Since.cell hb p4
  replace p5 := Since.cell hb p5
  replace p6 := Since.cell hb p6
  replace cc := Since.cell hb cc
  rcases hcase with ⟨hne, rfl⟩ | ⟨h0, ba, F, rfl, hF, hA⟩
  · clear hne hb
    go_wp2_with fail
    refine (awake18_any _ (HT.out _ HB2.out)).mono ?_
    rintro e w3 ⟨rfl, h3⟩
    have HB3 := Lib.hid (below_then HB2.out h3)
    clear h3
    go_wp2_with fail
    go_ret
    exact ⟨rfl, HB3.out⟩
  generalize someS c rs ds = s at *
  have HS := Lib.hid (HSO.out h0)
  have HA := Lib.hid hA
  have HF := Lib.hid hF
  have hn0 : ¬ F w.heap.size := fun h => by have := (HF.out _ h).1; rw [hzw] at this; omega
  have hn1 : ¬ F (w.heap.size + 1) := fun h => by have := (HF.out _ h).1; rw [hzw] at this; omega
  have hz2 : w.heap.size + 2 ≤ w2.heap.size := by have := HZ2.out; rw [hzw] at this; exact this
  clear hA hF hb h0 hzw
  go_wp2_with fail
  refine (HOF.out _).mono ?_
  rintro e w3 ⟨rfl, h3⟩
  replace p0 := Since.cell h3 p0
  replace p1 := Since.cell h3 p1
  replace p2 := Since.cell h3 p2
  replace p3 := Since.cell h3 p3
  replace p4 := Since.cell h3 p4
  replace p5 := Since.cell h3 p5
  replace p6 := Since.cell h3 p6
  replace cc := Since.cell h3 cc
  have HB3 := Lib.hid (below_then HB2.out h3)
  have HA3 := Lib.hid (HA.out.below h3)
  have hz3 := h3.size
  have HBK : Hid (Below w3.heap.size w3 (w3.alloc (.cells #[.int .u32 k.a0, .int .u32 k.a1, .int .u16 k.p0, .int .u16 k.p1, .int .u8 k.pr] 45))) := Lib.hid ((Below.refl _ _).alloc (Nat.le_refl _) _)
  clear h3 HA
  replace p0 := Since.cell HBK.out p0
  replace p1 := Since.cell HBK.out p1
  replace p2 := Since.cell HBK.out p2
  replace p3 := Since.cell HBK.out p3
  replace p4 := Since.cell HBK.out p4
  replace p5 := Since.cell HBK.out p5
  replace p6 := Since.cell HBK.out p6
  replace cc := Since.cell HBK.out cc
  have c1 : (w3.alloc (.cells #[.int .u32 k.a0, .int .u32 k.a1, .int .u16 k.p0, .int .u16 k.p1, .int .u8 k.pr] 45)).cell? ⟨w3.heap.size, 0, none⟩ = some (.int .u32 k.a0) := by simp
  have c2 : (w3.alloc (.cells #[.int .u32 k.a0, .int .u32 k.a1, .int .u16 k.p0, .int .u16 k.p1, .int .u8 k.pr] 45)).cell? ⟨w3.heap.size, 1, none⟩ = some (.int .u32 k.a1) := by simp
  have c3 : (w3.alloc (.cells #[.int .u32 k.a0, .int .u32 k.a1, .int .u16 k.p0, .int .u16 k.p1, .int .u8 k.pr] 45)).cell? ⟨w3.heap.size, 2, none⟩ = some (.int .u16 k.p0) := by simp
  have c4 : (w3.alloc (.cells #[.int .u32 k.a0, .int .u32 k.a1, .int .u16 k.p0, .int .u16 k.p1, .int .u8 k.pr] 45)).cell? ⟨w3.heap.size, 3, none⟩ = some (.int .u16 k.p1) := by simp
  have c5 : (w3.alloc (.cells #[.int .u32 k.a0, .int .u32 k.a1, .int .u16 k.p0, .int .u16 k.p1, .int .u8 k.pr] 45)).cell? ⟨w3.heap.size, 4, none⟩ = some (.int .u8 k.pr) := by simp
  have HB4 := Lib.hid (below_then HB3.out HBK.out)
  have HA4 := Lib.hid (HA3.out.below HBK.out)
  have hz4 : w3.heap.size < (w3.alloc (.cells #[.int .u32 k.a0, .int .u32 k.a1, .int .u16 k.p0, .int .u16 k.p1, .int .u8 k.pr] 45)).heap.size := by simp
  clear HA3
  go_wp2_with fail
  generalize hw4 : w3.alloc (.cells #[.int .u32 k.a0, .int .u32 k.a1, .int .u16 k.p0, .int .u16 k.p1, .int .u8 k.pr] 45) = w4 at *
  have HW4 := Lib.hid hw4
  clear hw4
  have hnk : ¬ F w3.heap.size := fun h => by have := (HF.out _ h).2; omega
  have hl0 : w.heap.size < w4.heap.size := by omega
  have hl1 : w.heap.size + 1 < w4.heap.size := by omega
  have HS1 := Lib.hid (deleteS_ok HS.out k)
  have HC1 : Hid ((deleteS s k).c = c) := Lib.hid (by rw [← HSC.out]; unfold deleteS; split <;> rfl)
  have HDE := Lib.hid (fun W (hA : AutoAt W ba F s) => delete_any HKI.out hA HS.out)
  have HCV : Hid (CountsV (actK (deleteS s k) p k t).2 (deleteS s k).flows.length (actK (deleteS s k) p k t).1.flows.length (deleteS s k).c.cap (hasL (actK (deleteS s k) p k t).1.flows k)) := Lib.hid (countsV_of HS1.out HP.out HKI.out)
  have HS2 := Lib.hid (actK_ok HS1.out p t HKI.out)
  have HAC := Lib.hid (fun W (hA : AutoAt W ba F (deleteS s k)) (hF : ∀ i, F i → i < W.heap.size) => act_any HP.out hA HS1.out hF)
  rw [HTW.out s] at HAC
  generalize overS s k = dv at *
  generalize deleteS s k = s1 at *
  generalize (actK s1 p k t).2 = v at *
  generalize (actK s1 p k t).1 = s2 at *
  rw [HC1.out] at HCV
  have hle : decide (c.cap < (s1.flows.length : Int)) = false := decide_eq_false (by have := HS1.out.le; rw [HC1.out] at this; omega)
  refine (HDE.out _ HA4.out).mono ?_
  rintro e w5 ⟨rfl, hA, hT⟩
  replace p0 := hT.at_ hl1 hn1 p0
  replace p1 := hT.at_ hl1 hn1 p1
  replace p2 := hT.at_ hl1 hn1 p2
  replace p3 := hT.at_ hl1 hn1 p3
  replace p4 := hT.at_ hl1 hn1 p4
  replace p5 := hT.at_ hl1 hn1 p5
  replace p6 := hT.at_ hl1 hn1 p6
  replace cc := hT.at_ hl0 hn0 cc
  replace c1 := hT.at_ hz4 hnk c1
  replace c2 := hT.at_ hz4 hnk c2
  replace c3 := hT.at_ hz4 hnk c3
  replace c4 := hT.at_ hz4 hnk c4
  replace c5 := hT.at_ hz4 hnk c5
  have HA5 := Lib.hid hA
  have HT5 : Hid (Turn F w4 w5) := Lib.hid hT
  clear hA hT HDE
  have HKE := Lib.hid (fun W (hA : AutoAt W ba F s1) => keys_len hA HS1.out)
  have HK2 := Lib.hid (fun W (hA : AutoAt W ba F s2) => keys_len hA HS2.out)
  have HG2 := Lib.hid (fun W (hA : AutoAt W ba F s2) => gate_len hA HS2.out)
  have HL2 := Lib.hid (fun W (hA : AutoAt W ba F s2) => look_any HKI.out hA HS2.out)
  generalize s1.flows.length = n at *
  generalize s2.flows.length = m at *
  generalize hasL s2.flows k = is at *
  generalize hlw : lookW s2 k = lw at *
  go_wp2_with fail
  refine (HKE.out _ HA5.out).mono ?_
  rintro e w6 ⟨⟨ka, kc, rfl⟩, h6⟩
  replace p0 := Since.cell h6 p0
  replace p1 := Since.cell h6 p1
  replace p2 := Since.cell h6 p2
  replace p3 := Since.cell h6 p3
  replace p4 := Since.cell h6 p4
  replace p5 := Since.cell h6 p5
  replace p6 := Since.cell h6 p6
  replace cc := Since.cell h6 cc
  replace c1 := Since.cell h6 c1
  replace c2 := Since.cell h6 c2
  replace c3 := Since.cell h6 c3
  replace c4 := Since.cell h6 c4
  replace c5 := Since.cell h6 c5
  have HA6 := Lib.hid (HA5.out.below h6)
  have HT6 : Hid (Turn F w4 w6) := Lib.hid (HT5.out.trans (Turn.of_below (F := fun _ => False) h6) (fun i h => h.elim))
  clear h6 HKE
  go_wp2_with fail
  refine (HAC.out _ HA6.out (fun i h => Nat.lt_of_lt_of_le (HF.out i h).2 (by have := HT6.out.size; omega))).mono ?_
  rintro e w7 ⟨rfl, hA, hT⟩
  have HT7 : Hid (Turn F w4 w7) := Lib.hid (HT6.out.trans hT (fun i h => .inl h))
  have hs6 := HT6.out.size
  have hl0' : w.heap.size < w6.heap.size := by omega
  have hlk' : w3.heap.size < w6.heap.size := by omega
  replace cc := hT.at_ hl0' hn0 cc
  replace c1 := hT.at_ hlk' hnk c1
  replace c2 := hT.at_ hlk' hnk c2
  replace c3 := hT.at_ hlk' hnk c3
  replace c4 := hT.at_ hlk' hnk c4
  replace c5 := hT.at_ hlk' hnk c5
  have HA7 := Lib.hid hA
  clear hA hT HAC hs6 hl0' hlk' p0 p1 p2 p3 p4 p5 p6
  go_wp2_with fail
  refine (HK2.out _ HA7.out).mono ?_
  rintro e w8 ⟨⟨ka2, kc2, rfl⟩, h8⟩
  replace cc := Since.cell h8 cc
  replace c1 := Since.cell h8 c1
  replace c2 := Since.cell h8 c2
  replace c3 := Since.cell h8 c3
  replace c4 := Since.cell h8 c4
  replace c5 := Since.cell h8 c5
  have HA8 := Lib.hid (HA7.out.below h8)
  have HT8 : Hid (Turn F w4 w8) := Lib.hid (HT7.out.trans (Turn.of_below (F := fun _ => False) h8) (fun i h => h.elim))
  clear h8 HK2
  have f1 := field_gate1 (verW s2.g : Nat) (m : Nat) (clkW s2.g : Nat)
  generalize verW s2.g = gv at *
  generalize clkW s2.g = gc at *
  rcases HCV.out with ⟨rfl, rfl⟩ | ⟨rfl, rfl⟩ | ⟨rfl, rfl⟩ | ⟨rfl, rfl, hcap⟩
  · clear HCV
    go_wp2_with fail
    refine (HG2.out _ HA8.out).mono ?_
    rintro e w9 ⟨rfl, h9⟩
    replace cc := Since.cell h9 cc
    replace c1 := Since.cell h9 c1
    replace c2 := Since.cell h9 c2
    replace c3 := Since.cell h9 c3
    replace c4 := Since.cell h9 c4
    replace c5 := Since.cell h9 c5
    have HA9 := Lib.hid (HA8.out.below h9)
    have HT9 : Hid (Turn F w4 w9) := Lib.hid (HT8.out.trans (Turn.of_below (F := fun _ => False) h9) (fun i h => h.elim))
    clear h9
    go_wp2_with fail
    refine (HL2.out _ HA9.out).mono ?_
    rintro e w10 ⟨rfl, h10⟩
    have HT10 : Hid (Turn F w4 w10) := Lib.hid (HT9.out.trans (Turn.of_below (F := fun _ => False) h10) (fun i h => h.elim))
    clear h10 c1 c2 c3 c4 c5 cc
    unfold flowV
    have HT11 : Hid (Turn F w4 (w10.alloc (.cells #[.int .i64 (stW lw), .int .i64 (seqW lw), .int .i64 (untW lw)] 50))) := Lib.hid (HT10.out.alloc _)
    have HB11 : Hid (Below w.heap.size w (w10.alloc (.cells #[.int .i64 (stW lw), .int .i64 (seqW lw), .int .i64 (untW lw)] 50))) := Lib.hid (HB4.out.trans (HT11.out.below (by omega) (fun i hi => Nat.le_trans HB1.out.size (HF.out i hi).1)))
    go_wp2_with fail
    refine (awake18_any _ (HT.out _ HB11.out)).mono ?_
    rintro e w12 ⟨rfl, h12⟩
    have HB12 := Lib.hid (below_then HB11.out h12)
    clear h12
    go_wp2_with fail
    go_ret
    exact ⟨rfl, HB12.out⟩
  · clear HCV
    go_wp2_with fail
    refine (HG2.out _ HA8.out).mono ?_
    rintro e w9 ⟨rfl, h9⟩
    replace cc := Since.cell h9 cc
    replace c1 := Since.cell h9 c1
    replace c2 := Since.cell h9 c2
    replace c3 := Since.cell h9 c3
    replace c4 := Since.cell h9 c4
    replace c5 := Since.cell h9 c5
    have HA9 := Lib.hid (HA8.out.below h9)
    have HT9 : Hid (Turn F w4 w9) := Lib.hid (HT8.out.trans (Turn.of_below (F := fun _ => False) h9) (fun i h => h.elim))
    clear h9
    go_wp2_with fail
    refine (HL2.out _ HA9.out).mono ?_
    rintro e w10 ⟨rfl, h10⟩
    have HT10 : Hid (Turn F w4 w10) := Lib.hid (HT9.out.trans (Turn.of_below (F := fun _ => False) h10) (fun i h => h.elim))
    clear h10 c1 c2 c3 c4 c5 cc
    unfold flowV
    have HT11 : Hid (Turn F w4 (w10.alloc (.cells #[.int .i64 (stW lw), .int .i64 (seqW lw), .int .i64 (untW lw)] 50))) := Lib.hid (HT10.out.alloc _)
    have HB11 : Hid (Below w.heap.size w (w10.alloc (.cells #[.int .i64 (stW lw), .int .i64 (seqW lw), .int .i64 (untW lw)] 50))) := Lib.hid (HB4.out.trans (HT11.out.below (by omega) (fun i hi => Nat.le_trans HB1.out.size (HF.out i hi).1)))
    go_wp2_with fail
    refine (awake18_any _ (HT.out _ HB11.out)).mono ?_
    rintro e w12 ⟨rfl, h12⟩
    have HB12 := Lib.hid (below_then HB11.out h12)
    clear h12
    go_wp2_with fail
    go_ret
    exact ⟨rfl, HB12.out⟩
  · clear HCV
    go_wp2_with fail
    refine (HG2.out _ HA8.out).mono ?_
    rintro e w9 ⟨rfl, h9⟩
    replace cc := Since.cell h9 cc
    replace c1 := Since.cell h9 c1
    replace c2 := Since.cell h9 c2
    replace c3 := Since.cell h9 c3
    replace c4 := Since.cell h9 c4
    replace c5 := Since.cell h9 c5
    have HA9 := Lib.hid (HA8.out.below h9)
    have HT9 : Hid (Turn F w4 w9) := Lib.hid (HT8.out.trans (Turn.of_below (F := fun _ => False) h9) (fun i h => h.elim))
    clear h9
    go_wp2_with fail
    refine (HL2.out _ HA9.out).mono ?_
    rintro e w10 ⟨rfl, h10⟩
    have HT10 : Hid (Turn F w4 w10) := Lib.hid (HT9.out.trans (Turn.of_below (F := fun _ => False) h10) (fun i h => h.elim))
    clear h10 c1 c2 c3 c4 c5 cc
    unfold flowV
    have HT11 : Hid (Turn F w4 (w10.alloc (.cells #[.int .i64 (stW lw), .int .i64 (seqW lw), .int .i64 (untW lw)] 50))) := Lib.hid (HT10.out.alloc _)
    have HB11 : Hid (Below w.heap.size w (w10.alloc (.cells #[.int .i64 (stW lw), .int .i64 (seqW lw), .int .i64 (untW lw)] 50))) := Lib.hid (HB4.out.trans (HT11.out.below (by omega) (fun i hi => Nat.le_trans HB1.out.size (HF.out i hi).1)))
    go_wp2_with fail
    refine (awake18_any _ (HT.out _ HB11.out)).mono ?_
    rintro e w12 ⟨rfl, h12⟩
    have HB12 := Lib.hid (below_then HB11.out h12)
    clear h12
    go_wp2_with fail
    go_ret
    exact ⟨rfl, HB12.out⟩
  · clear HCV
    rw [hcap] at cc hle
    clear hcap
    go_wp2_with fail
    refine (HG2.out _ HA8.out).mono ?_
    rintro e w9 ⟨rfl, h9⟩
    replace cc := Since.cell h9 cc
    replace c1 := Since.cell h9 c1
    replace c2 := Since.cell h9 c2
    replace c3 := Since.cell h9 c3
    replace c4 := Since.cell h9 c4
    replace c5 := Since.cell h9 c5
    have HA9 := Lib.hid (HA8.out.below h9)
    have HT9 : Hid (Turn F w4 w9) := Lib.hid (HT8.out.trans (Turn.of_below (F := fun _ => False) h9) (fun i h => h.elim))
    clear h9
    go_wp2_with fail
    refine (HL2.out _ HA9.out).mono ?_
    rintro e w10 ⟨rfl, h10⟩
    have HT10 : Hid (Turn F w4 w10) := Lib.hid (HT9.out.trans (Turn.of_below (F := fun _ => False) h10) (fun i h => h.elim))
    clear h10 c1 c2 c3 c4 c5 cc
    unfold flowV
    have HT11 : Hid (Turn F w4 (w10.alloc (.cells #[.int .i64 (stW lw), .int .i64 (seqW lw), .int .i64 (untW lw)] 50))) := Lib.hid (HT10.out.alloc _)
    have HB11 : Hid (Below w.heap.size w (w10.alloc (.cells #[.int .i64 (stW lw), .int .i64 (seqW lw), .int .i64 (untW lw)] 50))) := Lib.hid (HB4.out.trans (HT11.out.below (by omega) (fun i hi => Nat.le_trans HB1.out.size (HF.out i hi).1)))
    go_wp2_with fail
    refine (awake18_any _ (HT.out _ HB11.out)).mono ?_
    rintro e w12 ⟨rfl, h12⟩
    have HB12 := Lib.hid (below_then HB11.out h12)
    clear h12
    go_wp2_with fail
    go_ret
    exact ⟨rfl, HB12.out⟩
end Go.Proofs.YtahgapkecabnjaaGreatDoor
