/- The walk of AutoOnce. Printed by gen_autot.py. -/
import Derived.Test.YtahgapkecabnjaaGreatDoorC18
import Derived.Test.YtahgapkecabnjaaGreatDoorC20
namespace Go.Proofs.YtahgapkecabnjaaGreatDoor
set_option linter.unusedSimpArgs false
set_option linter.unusedVariables false
open Go Go.RowKit Go.Shelf Go.Lib Go.Maps Go.MapKept

/-- A key in five cells. -/
def Key5 (W : World) (g o : Nat) (k : Ky) : Prop := W.cell? ⟨g, o, none⟩ = some (.int .u32 k.a0) ∧ W.cell? ⟨g, o + 1, none⟩ = some (.int .u32 k.a1) ∧ W.cell? ⟨g, o + 2, none⟩ = some (.int .u16 k.p0) ∧ W.cell? ⟨g, o + 3, none⟩ = some (.int .u16 k.p1) ∧ W.cell? ⟨g, o + 4, none⟩ = some (.int .u8 k.pr)
theorem kysL_key {l : List Ky} {i : Nat} {k : Ky} (h : l[i]? = some k) {j : Nat} (hj : j < 5) : (kysL l)[i * 5 + j]? = (kyC k)[j]? := by
  have hi := (List.getElem?_eq_some_iff.1 h).1
  rw [kysL_at l (i * 5 + j) (by omega), show (i * 5 + j) / 5 = i by omega, show (i * 5 + j) % 5 = j by omega]
  have e : l.toArray[i]! = k := by
    rw [Array.getElem!_eq_getD, Array.getD_eq_getD_getElem?, List.getElem?_toArray, h]; rfl
  rw [e]
  match j, hj with
  | 0, _ => rfl
  | 1, _ => rfl
  | 2, _ => rfl
  | 3, _ => rfl
  | 4, _ => rfl
theorem KeysAt.head {w : World} {B : Nat} {a : Option Addr} {n c : Nat} {l : List Ky} (h : KeysAt w B (.slice a n c) l) {i : Nat} {k : Ky} (hi : l[i]? = some k) : ∃ g, a = some ⟨g, 0, none⟩ := by
  obtain ⟨a', c', e, h⟩ := h
  cases e
  have := kysL_key hi (j := 0) (by omega)
  obtain ⟨g, e, _⟩ := h _ _ this
  exact ⟨g, e⟩
theorem KeysAt.key5 {w W : World} {B : Nat} {F : Nat → Prop} {g n c : Nat} {l : List Ky} (h : KeysAt w B (.slice (some ⟨g, 0, none⟩) n c) l) (hT : Turn F w W) (hF : ∀ i, F i → i < B) {i : Nat} {k : Ky} (hi : l[i]? = some k) : Key5 W g (i * 5) k := by
  obtain ⟨a', c', e, h⟩ := h
  cases e
  have f : ∀ j v, (kyC k)[j]? = some v → W.cell? ⟨g, i * 5 + j, none⟩ = some v := fun j v hv => by
    have hj : j < 5 := by have := (Array.getElem?_eq_some_iff.1 hv).1; simpa [kyC] using this
    obtain ⟨g', e', hB, hc⟩ := h (i * 5 + j) v (by rw [kysL_key hi hj]; exact hv)
    cases e'
    exact Turn.cell hT hc (fun hf => by have := hF g hf; omega)
  exact ⟨f 0 _ rfl, f 1 _ rfl, f 2 _ rfl, f 3 _ rfl, f 4 _ rfl⟩
set_option maxHeartbeats 16000000 in
set_option maxRecDepth 100000 in
theorem autoOnce_walk (c : Cf) (la : Option Addr) (lk : Nat) (rs : List Rl) (aa : Option Addr) (ak : Nat) (ds : List Dod) (n : Int) (w : World) (hR : RulesAt w la rs) (hk : rs.length ≤ lk) (hkm : lk ≤ maxLen) (hD : DosAt w aa ds) (hdl : ds.length ≤ maxLen) (hn : (Lit.int .u16 n).wf = true) (hT : Tabs w) :
    Calls Tryz.prog 6 #[.agg (cfC c), .slice la rs.length lk, .slice aa ds.length ak, .int .u16 n] w fun e w' => e = .returned (.bool true) ∧ Below w.heap.size w w' := by
  have HB1 : Hid (Below w.heap.size w (w.alloc (.cells (cfC c) 24))) := Lib.hid ((Below.refl _ w).alloc (Nat.le_refl _) _)
  have HRG : Hid ((w.alloc (.cells (cfC c) 24)).rangeAt w.heap.size 0 (cfC c).toList) := Lib.hid (fun j v hv => by rw [← hv]; simp)
  have hi := cfInfo c
  have HSM := Lib.hid (some_any c la lk rs aa ak ds (w.alloc (.cells (cfC c) 24)) (hR.below HB1.out) hk hkm (hD.below HB1.out) hdl (hT.below HB1.out))
  have HT := Lib.hid (fun W (hb : Below w.heap.size w W) => hT.below hb)
  have HSO := Lib.hid (fun h => someS_ok (c := c) (rs := rs) hD h)
  have hn0 : 0 ≤ n ∧ n ≤ 65535 := by
    have e1 : IntKind.u16.min = 0 := rfl
    have e2 : IntKind.u16.max = 65535 := rfl
    simp [Lit.wf, e1, e2] at hn; omega
  obtain ⟨hn0, hn1⟩ := hn0
  clear hR hk hkm hD hdl hT hn
  generalize hX : cfC c = X at *
  clear hX
  go_enter Tryz.func6, Tryz.ntmps6
  go_wp2_with (first | (refine wpList_load_mid_w (by rfl) 24 (.tmp 4) rfl w.heap.size 0 rfl X.toList _ HRG.out Tryz.underlying24 rfl hi ?_; rw [Array.toArray_toList]))
  refine HSM.out.mono ?_
  rintro e w2 ⟨hb, hcase⟩
  have HB2 := Lib.hid (below_then HB1.out hb)
  rcases hcase with ⟨hne, rfl⟩ | ⟨h0, ba, F, rfl, hF, hA⟩
  · clear hne hb
    go_wp2_with fail
    refine (awake18_any _ (HT.out _ HB2.out)).mono ?_
    rintro e w3 ⟨rfl, h3⟩
    have HB3 := Lib.hid (below_then HB2.out h3)
    clear h3
    go_wp2_with fail
    go_ret
    exact ⟨rfl, HB3.out⟩
  generalize someS c rs ds = s at *
  have HS := Lib.hid (HSO.out h0)
  have HA := Lib.hid hA
  have HF := Lib.hid hF
  have HFW : Hid (∀ i, F i → w.heap.size ≤ i) := Lib.hid (fun i h => Nat.le_trans HB1.out.size (hF i h).1)
  have HTI := Lib.hid (fun W (hA : AutoAt W ba F s) => tick_any n hA HS.out.g)
  have HZ := Lib.hid (tickS_ok HS.out n)
  have HTI : Hid (∀ W, AutoAt W ba F s → Calls Tryz.prog 24 #[.pointer (some ⟨ba, 0, none⟩), .int .i64 n] W fun e w' => (∃ v, e = .returned v) ∧ AutoAt w' ba F (tickS s n) ∧ Turn F W w') := HTI
  generalize tickS s n = st at *
  clear hA hF hb h0
  go_wp2_with fail
  refine (HTI.out _ HA.out).mono ?_
  rintro e w3 ⟨⟨v3, rfl⟩, hA, hT⟩
  have HA3 := Lib.hid hA
  have HB3 : Hid (Below w.heap.size w w3) := Lib.hid (HB2.out.trans (hT.below HB2.out.size HFW.out))
  have HF3 : Hid (∀ i, F i → i < w3.heap.size) := Lib.hid (fun i h => Nat.lt_of_lt_of_le (HF.out i h).2 hT.size)
  clear hA hT HA HTI HF
  go_wp2_with fail
  refine (HA3.out.keys (by have := HZ.out.small; omega) HZ.out.rise).mono ?_
  rintro e w4 ⟨v4, rfl, hks, h4⟩
  obtain ⟨a, kc, rfl⟩ := hks.len
  have HKS := Lib.hid hks
  have HA4 := Lib.hid (HA3.out.below h4)
  have HB4 := Lib.hid (below_then HB3.out h4)
  have HLK : Hid (∀ i k, (keysL st.flows)[i]? = some k → ∃ p : Ky × (Nat × Bool), st.flows[i]? = some p ∧ p.1 = k) := Lib.hid (fun i k h => by
    unfold keysL at h
    rw [List.getElem?_map] at h
    obtain ⟨p, hp, rfl⟩ := Option.map_eq_some_iff.1 h
    exact ⟨p, hp, rfl⟩)
  have HLL : Hid ((keysL st.flows).length = st.flows.length) := Lib.hid (by simp [keysL])
  have hsm : (keysL st.flows).length ≤ 4095 := by rw [HLL.out]; exact HZ.out.small
  have HRI := Lib.hid HZ.out.rise
  generalize hkl : keysL st.flows = kl at *
  clear hks h4 HA3 hkl
  have HR0 : Hid (AutoAt w4 ba F (restS st 0)) := Lib.hid (by rw [restS_zero HZ.out]; exact HA4.out)
  go_wp2_with fail
  go_loopw [11] (fun x wr => ∃ k : Nat, x = .int .i64 k ∧ k ≤ kl.length ∧ Hid (AutoAt wr ba F (restS st k)) ∧ Hid (Turn F w4 wr)) (fun x _ => kl.length - (intOf x).toNat)
  case atStart => exact ⟨0, rfl, by omega, HR0, Lib.hid (Turn.refl _ _)⟩
  case round =>
    obtain ⟨k, rfl, hkl, HAR, HTR⟩ := hrel
    by_cases hlt : k < kl.length
    · obtain ⟨kq, hkq⟩ : ∃ kq, kl[k]? = some kq := ⟨_, List.getElem?_eq_getElem hlt⟩
      obtain ⟨g, rfl⟩ := HKS.out.head hkq
      obtain ⟨p, hp, hpk⟩ := HLK.out k kq hkq
      have hkl2 : k < st.flows.length := by rw [← HLL.out]; exact hlt
      have hpi := HZ.out.kin p (List.mem_of_getElem? hp)
      have HKI : Hid kq.In := Lib.hid (hpk ▸ hpi.1)
      have HCK : Hid (∀ W, Turn F w4 W → Key5 W g (k * 5) kq) := Lib.hid (fun W hT => HKS.out.key5 hT HF3.out hkq)
      have hnx := restS_next HZ.out hp
      rw [hpk] at hnx
      obtain ⟨hgl, hgo⟩ := hnx
      have HO0 := Lib.hid (restS_ok HZ.out (Nat.le_of_lt hkl2))
      have HO1 := Lib.hid (restS_ok HZ.out (show k + 1 ≤ st.flows.length from hkl2))
      have hck := (restS_gate HZ.out (Nat.le_of_lt hkl2)).2.2.1
      have HLW : Hid (lookW (restS st k) kq = p.2.1 ∧ hasL (restS st k).flows kq = true ∧ overS (restS st k) kq = overW p.2.1 (clkW st.g : Nat)) := Lib.hid ⟨by unfold lookW entG; rw [hgl]; rfl, by unfold hasL; rw [hgl]; rfl, by unfold overS; rw [hgl, hck]⟩
      have HB0 : Hid (overS (restS st (k + 1)) kq = false ∧ hasL (restS st (k + 1)).flows kq = false) := Lib.hid (by rw [← hgo]; exact ⟨overS_gone _ _, hasL_gone _ _⟩)
      have HOV := Lib.hid (over_told hpi.2.2.1 hpi.2.2.2 (clkW st.g))
      have HLO := Lib.hid (fun W (hA : AutoAt W ba F (restS st k)) => look_any HKI.out hA HO0.out)
      rw [HLW.out.1, HLW.out.2.1] at HLO
      have HGA := Lib.hid (fun W (hA : AutoAt W ba F (restS st k)) => gate_len hA HO0.out)
      rw [hck] at HGA
      have HDA := Lib.hid (fun W (hA : AutoAt W ba F (restS st k)) => delete_any HKI.out hA HO0.out)
      rw [HLW.out.2.2] at HDA
      have HDB : Hid (∀ W, AutoAt W ba F (restS st (k + 1)) → Calls Tryz.prog 19 #[.pointer (some ⟨ba, 0, none⟩), kyV kq] W fun e w' => e = .returned (.bool false) ∧ AutoAt w' ba F (restS st (k + 1)) ∧ Turn F W w') := Lib.hid (fun W hA => (delete_any HKI.out hA HO1.out).mono fun e w' h => by
        unfold deleteS at h
        rw [HB0.out.1] at h
        exact h)
      have HRA : Hid (∀ W, AutoAt W ba F (restS st k) → Calls Tryz.prog 25 #[.pointer (some ⟨ba, 0, none⟩), kyV kq] W fun e w' => e = .returned (.bool true) ∧ AutoAt w' ba F (restS st (k + 1)) ∧ Turn F W w') := Lib.hid (fun W hA => (drop_any HKI.out hA HO0.out.g).mono fun e w' h => by
        unfold dropS at h
        rw [HLW.out.2.1, if_pos rfl, hgo] at h
        exact h)
      have HRB : Hid (∀ W, AutoAt W ba F (restS st (k + 1)) → Calls Tryz.prog 25 #[.pointer (some ⟨ba, 0, none⟩), kyV kq] W fun e w' => e = .returned (.bool false) ∧ AutoAt w' ba F (restS st (k + 1)) ∧ Turn F W w') := Lib.hid (fun W hA => (drop_any HKI.out hA HO1.out.g).mono fun e w' h => by
        unfold dropS at h
        rw [HB0.out.2] at h
        exact h)
      have HDE : Hid ((overW p.2.1 (clkW st.g : Nat) = true → deleteS (restS st k) kq = restS st (k + 1)) ∧ (overW p.2.1 (clkW st.g : Nat) = false → deleteS (restS st k) kq = restS st k)) := Lib.hid ⟨fun h => by unfold deleteS; rw [HLW.out.2.2, h, if_pos rfl, hgo], fun h => by unfold deleteS; rw [HLW.out.2.2, h]; rfl⟩
      clear hpi hp hpk hgl hgo hck hkl2
      generalize restS st k = s0 at *
      generalize hs1 : restS st (k + 1) = s1 at *
      have HS1 := Lib.hid hs1
      clear hs1
      generalize overW p.2.1 (clkW st.g : Nat) = ov at *
      generalize clkW st.g = clk at *
      generalize verW s0.g = gv at *
      generalize s0.flows.length = gn at *
      obtain ⟨e0, e1, e2, e3, e4⟩ := HCK.out wr HTR.out
      have hki : (0 : Int) ≤ k := by omega
      have hkm : (k : Int) < (kl.length : Int) := by omega
      go_wp2_with fail
      refine (HLO.out _ HAR.out).mono ?_
      rintro e w5 ⟨rfl, h5⟩
      unfold flowV
      generalize stW p.2.1 = fs at *
      generalize seqW p.2.1 = fq at *
      generalize untW p.2.1 = fu at *
      have HT6 : Hid (Turn F w4 (w5.alloc (.cells #[.int .i64 fs, .int .i64 fq, .int .i64 fu] 50))) := Lib.hid ((HTR.out.trans (Turn.of_below (F := fun _ => False) h5) (fun i h => h.elim)).alloc _)
      have HA6 : Hid (AutoAt (w5.alloc (.cells #[.int .i64 fs, .int .i64 fq, .int .i64 fu] 50)) ba F s0) := Lib.hid ((HAR.out.below h5).below ((Below.refl _ w5).alloc (Nat.le_refl _) _))
      have f1 : (w5.alloc (.cells #[.int .i64 fs, .int .i64 fq, .int .i64 fu] 50)).cell? ⟨w5.heap.size, 1, none⟩ = some (.int .i64 (fq : Nat)) := by simp
      have f2 : (w5.alloc (.cells #[.int .i64 fs, .int .i64 fq, .int .i64 fu] 50)).cell? ⟨w5.heap.size, 2, none⟩ = some (.int .i64 (fu : Nat)) := by simp
      have g2 := field_gate2 (gv : Nat) (gn : Nat) (clk : Nat)
      clear h5 e0 e1 e2 e3 e4 HAR HTR
      go_wp2_with fail
      generalize (w5.alloc (.cells #[.int .i64 fs, .int .i64 fq, .int .i64 fu] 50)) = w6 at *
      by_cases hu : fu ≤ clk
      · have hu1 : decide (fu ≤ clk) = true := decide_eq_true hu
        have hu2 : decide ((fu : Int) ≤ (clk : Int)) = true := decide_eq_true (by omega)
        have hov : ov = true := by rw [HOV.out]; simp [hu]
        subst hov
        clear hu
        refine WQ.enter w6 (Since.refl _) (by kernel_rfl) (by kernel_rfl) ?_
        refine WQ.val (by rfl) (fun v hv => by have k0 := hv.cell f1; have k1 := hv.cell f2; go_simp; first | done | with_reducible rfl | (rw [if_neg (by omega)])) ?_; simp only [Act.put, List.setIfInBounds_toArray, List.set_cons_zero, List.set_cons_succ]
        refine WQ.val (by rfl) (fun v hv => by have k0 := hv.cell f1; have k1 := hv.cell f2; go_simp; first | done | with_reducible rfl | (rw [if_neg (by omega)])) ?_; simp only [Act.put, List.setIfInBounds_toArray, List.set_cons_zero, List.set_cons_succ]
        refine WQ.val (by rfl) (fun v hv => by have k0 := hv.cell f1; have k1 := hv.cell f2; go_simp; first | done | with_reducible rfl | (rw [if_neg (by omega)])) ?_; simp only [Act.put, List.setIfInBounds_toArray, List.set_cons_zero, List.set_cons_succ]
        refine WQ.call (f := 22) (args := #[.pointer (some ⟨ba, 0, none⟩)]) (by rfl) (fun v hv => by go_simp) (fun v hv => (HGA.out v (HA6.out.below hv)).mono (fun e v' ⟨he, hb⟩ => ⟨he, hv.step hb⟩)) ?_; simp only [Act.put, List.setIfInBounds_toArray, List.set_cons_zero, List.set_cons_succ]
        refine WQ.val (by rfl) (fun v hv => by have k0 := hv.cell f1; have k1 := hv.cell f2; go_simp; first | done | with_reducible rfl | (rw [if_neg (by omega)])) ?_; simp only [Act.put, List.setIfInBounds_toArray, List.set_cons_zero, List.set_cons_succ]
        refine WQ.val (by rfl) (fun v hv => by have k0 := hv.cell f1; have k1 := hv.cell f2; go_simp; first | done | with_reducible rfl | (rw [if_neg (by omega)])) ?_; simp only [Act.put, List.setIfInBounds_toArray, List.set_cons_zero, List.set_cons_succ]
        refine WQ.val (by rfl) (fun v hv => by have k0 := hv.cell f1; have k1 := hv.cell f2; go_simp; first | done | with_reducible rfl | (rw [if_neg (by omega)])) ?_; simp only [Act.put, List.setIfInBounds_toArray, List.set_cons_zero, List.set_cons_succ]
        refine WQ.off (by rfl) ?_; simp only [Act.put, List.setIfInBounds_toArray, List.set_cons_zero, List.set_cons_succ]
        refine WQ.off (by rfl) ?_; simp only [Act.put, List.setIfInBounds_toArray, List.set_cons_zero, List.set_cons_succ]
        refine WQ.off (by rfl) ?_; simp only [Act.put, List.setIfInBounds_toArray, List.set_cons_zero, List.set_cons_succ]
        refine WQ.val (by rfl) (fun v hv => by have k0 := hv.cell f1; have k1 := hv.cell f2; go_simp; first | done | with_reducible rfl | (rw [if_neg (by omega)])) ?_; simp only [Act.put, List.setIfInBounds_toArray, List.set_cons_zero, List.set_cons_succ]
        refine WQ.val (by rfl) (fun v hv => by have k0 := hv.cell f1; have k1 := hv.cell f2; go_simp; first | done | with_reducible rfl | (rw [if_neg (by omega)])) ?_; simp only [Act.put, List.setIfInBounds_toArray, List.set_cons_zero, List.set_cons_succ]
        refine WQ.done ?_
        intro w7 hw7
        have HA7 := Lib.hid (HA6.out.below hw7)
        have HT7 : Hid (Turn F w4 w7) := Lib.hid (HT6.out.trans (Turn.of_below (F := fun _ => False) hw7) (fun i h => h.elim))
        clear hw7 f1 f2 HGA HA6 HT6
        obtain ⟨e0, e1, e2, e3, e4⟩ := HCK.out w7 HT7.out
        go_wp2_with fail
        refine (HDA.out _ HA7.out).mono ?_
        rintro e w8 ⟨rfl, hA, hT⟩
        have HA8 := Lib.hid hA
        have HT8 : Hid (Turn F w4 w8) := Lib.hid (HT7.out.trans hT (fun i h => .inl h))
        clear hA hT e0 e1 e2 e3 e4
        have HA8 : Hid (AutoAt w8 ba F s1) := Lib.hid (by rw [← HDE.out.1 (by simp)]; exact HA8.out)
        obtain ⟨e0, e1, e2, e3, e4⟩ := HCK.out w8 HT8.out
        go_wp2_with fail
        refine (HDB.out _ HA8.out).mono ?_
        rintro e w9 ⟨rfl, hA, hT⟩
        have HA9 := Lib.hid hA
        have HT9 : Hid (Turn F w4 w9) := Lib.hid (HT8.out.trans hT (fun i h => .inl h))
        clear hA hT e0 e1 e2 e3 e4
        obtain ⟨e0, e1, e2, e3, e4⟩ := HCK.out w9 HT9.out
        go_wp2_with fail
        refine (HRB.out _ HA9.out).mono ?_
        rintro e w10 ⟨rfl, hA, hT⟩
        have HA10 := Lib.hid hA
        have HT10 : Hid (Turn F w4 w10) := Lib.hid (HT9.out.trans hT (fun i h => .inl h))
        clear hA hT e0 e1 e2 e3 e4
        obtain ⟨e0, e1, e2, e3, e4⟩ := HCK.out w10 HT10.out
        go_wp2_with fail
        refine (HRB.out _ HA10.out).mono ?_
        rintro e w11 ⟨rfl, hA, hT⟩
        have HA11 := Lib.hid hA
        have HT11 : Hid (Turn F w4 w11) := Lib.hid (HT10.out.trans hT (fun i h => .inl h))
        clear hA hT e0 e1 e2 e3 e4
        go_wp2_with fail
        by_cases hk0 : k = 0
        · have hkd : ((k : Int) > 0) = False := by simp [hk0]
          have hkd2 : decide ((0 : Int) < (k : Int)) = false := decide_eq_false (by omega)
          have hkd3 : decide (0 < k) = false := decide_eq_false (by omega)
          have HK0 := Lib.hid hk0
          clear hk0 hkd
          refine WQ.enter w11 (Since.refl _) (by kernel_rfl) (by kernel_rfl) ?_
          refine WQ.val (by rfl) (fun v hv => by go_simp; first | done | with_reducible rfl | (rw [if_neg (by omega)])) ?_; simp only [Act.put, List.setIfInBounds_toArray, List.set_cons_zero, List.set_cons_succ]
          refine WQ.val (by rfl) (fun v hv => by go_simp; first | done | with_reducible rfl | (rw [if_neg (by omega)])) ?_; simp only [Act.put, List.setIfInBounds_toArray, List.set_cons_zero, List.set_cons_succ]
          refine WQ.val (by rfl) (fun v hv => by go_simp; first | done | with_reducible rfl | (rw [if_neg (by omega)])) ?_; simp only [Act.put, List.setIfInBounds_toArray, List.set_cons_zero, List.set_cons_succ]
          refine WQ.off (by rfl) ?_; simp only [Act.put, List.setIfInBounds_toArray, List.set_cons_zero, List.set_cons_succ]
          refine WQ.off (by rfl) ?_; simp only [Act.put, List.setIfInBounds_toArray, List.set_cons_zero, List.set_cons_succ]
          refine WQ.off (by rfl) ?_; simp only [Act.put, List.setIfInBounds_toArray, List.set_cons_zero, List.set_cons_succ]
          refine WQ.off (by rfl) ?_; simp only [Act.put, List.setIfInBounds_toArray, List.set_cons_zero, List.set_cons_succ]
          refine WQ.off (by rfl) ?_; simp only [Act.put, List.setIfInBounds_toArray, List.set_cons_zero, List.set_cons_succ]
          refine WQ.off (by rfl) ?_; simp only [Act.put, List.setIfInBounds_toArray, List.set_cons_zero, List.set_cons_succ]
          refine WQ.off (by rfl) ?_; simp only [Act.put, List.setIfInBounds_toArray, List.set_cons_zero, List.set_cons_succ]
          refine WQ.off (by rfl) ?_; simp only [Act.put, List.setIfInBounds_toArray, List.set_cons_zero, List.set_cons_succ]
          refine WQ.off (by rfl) ?_; simp only [Act.put, List.setIfInBounds_toArray, List.set_cons_zero, List.set_cons_succ]
          refine WQ.off (by rfl) ?_; simp only [Act.put, List.setIfInBounds_toArray, List.set_cons_zero, List.set_cons_succ]
          refine WQ.off (by rfl) ?_; simp only [Act.put, List.setIfInBounds_toArray, List.set_cons_zero, List.set_cons_succ]
          refine WQ.val (by rfl) (fun v hv => by go_simp; first | done | with_reducible rfl | (rw [if_neg (by omega)])) ?_; simp only [Act.put, List.setIfInBounds_toArray, List.set_cons_zero, List.set_cons_succ]
          refine WQ.done ?_
          intro w12 hw12
          have HT12 : Hid (Turn F w4 w12) := Lib.hid (HT11.out.trans (Turn.of_below (F := fun _ => False) hw12) (fun i h => h.elim))
          have HA12 := Lib.hid (HA11.out.below hw12)
          clear hw12
          go_wp2_with fail
          go_roundw
          case rel => exact ⟨k + 1, by go_num, by omega, Lib.hid (by rw [HS1.out]; exact HA12.out), HT12⟩
          case measure => simp [intOf]; omega
        · obtain ⟨q, hq⟩ : ∃ q, k = q + 1 := ⟨k - 1, by omega⟩
          obtain ⟨kp, hkp⟩ : ∃ kp, kl[q]? = some kp := ⟨_, List.getElem?_eq_getElem (by omega)⟩
          have hlk : lessK kp kq = true := by
            rw [lessK_iff]
            have h1 := List.pairwise_iff_getElem.1 HRI.out q k (by omega) hlt (by omega)
            rw [(List.getElem?_eq_some_iff.1 hkp).2, (List.getElem?_eq_some_iff.1 hkq).2] at h1
            exact h1
          obtain ⟨pp, hpp, hppk⟩ := HLK.out q kp hkp
          have HKP : Hid kp.In := Lib.hid (hppk ▸ (HZ.out.kin pp (List.mem_of_getElem? hpp)).1)
          have HLS := Lib.hid (fun W => refLess_any kp kq W HKP.out HKI.out)
          rw [hlk] at HLS
          obtain ⟨e0, e1, e2, e3, e4⟩ := HCK.out w11 HT11.out
          obtain ⟨d0, d1, d2, d3, d4⟩ := HKS.out.key5 HT11.out HF3.out hkp
          have hkd2 : decide ((0 : Int) < (k : Int)) = true := decide_eq_true (by omega)
          have hkd3 : decide (0 < k) = true := decide_eq_true (by omega)
          have hkw : IntKind.i64.wrap ((k : Int) - 1) = (q : Int) := by rw [show (k : Int) - 1 = q by omega]; exact IntWalk.i64_in _ (by omega)
          have hqi : (0 : Int) ≤ q := by omega
          have hqm : (q : Int) < (kl.length : Int) := by omega
          have HQ := Lib.hid hq
          clear hq hk0 hkp hlk hpp hppk
          refine WQ.enter w11 (Since.refl _) (by kernel_rfl) (by kernel_rfl) ?_
          refine WQ.val (by rfl) (fun v hv => by have k0 := hv.cell e0; have k1 := hv.cell e1; have k2 := hv.cell e2; have k3 := hv.cell e3; have k4 := hv.cell e4; have k5 := hv.cell d0; have k6 := hv.cell d1; have k7 := hv.cell d2; have k8 := hv.cell d3; have k9 := hv.cell d4; go_simp; first | done | with_reducible rfl | (rw [if_neg (by omega)])) ?_; simp only [Act.put, List.setIfInBounds_toArray, List.set_cons_zero, List.set_cons_succ]
          refine WQ.val (by rfl) (fun v hv => by have k0 := hv.cell e0; have k1 := hv.cell e1; have k2 := hv.cell e2; have k3 := hv.cell e3; have k4 := hv.cell e4; have k5 := hv.cell d0; have k6 := hv.cell d1; have k7 := hv.cell d2; have k8 := hv.cell d3; have k9 := hv.cell d4; go_simp; first | done | with_reducible rfl | (rw [if_neg (by omega)])) ?_; simp only [Act.put, List.setIfInBounds_toArray, List.set_cons_zero, List.set_cons_succ]
          refine WQ.val (by rfl) (fun v hv => by have k0 := hv.cell e0; have k1 := hv.cell e1; have k2 := hv.cell e2; have k3 := hv.cell e3; have k4 := hv.cell e4; have k5 := hv.cell d0; have k6 := hv.cell d1; have k7 := hv.cell d2; have k8 := hv.cell d3; have k9 := hv.cell d4; go_simp; first | done | with_reducible rfl | (rw [if_neg (by omega)])) ?_; simp only [Act.put, List.setIfInBounds_toArray, List.set_cons_zero, List.set_cons_succ]
          refine WQ.val (by rfl) (fun v hv => by have k0 := hv.cell e0; have k1 := hv.cell e1; have k2 := hv.cell e2; have k3 := hv.cell e3; have k4 := hv.cell e4; have k5 := hv.cell d0; have k6 := hv.cell d1; have k7 := hv.cell d2; have k8 := hv.cell d3; have k9 := hv.cell d4; go_simp; first | done | with_reducible rfl | (rw [if_neg (by omega)])) ?_; simp only [Act.put, List.setIfInBounds_toArray, List.set_cons_zero, List.set_cons_succ]
          refine WQ.val (by rfl) (fun v hv => by have k0 := hv.cell e0; have k1 := hv.cell e1; have k2 := hv.cell e2; have k3 := hv.cell e3; have k4 := hv.cell e4; have k5 := hv.cell d0; have k6 := hv.cell d1; have k7 := hv.cell d2; have k8 := hv.cell d3; have k9 := hv.cell d4; go_simp; first | done | with_reducible rfl | (rw [if_neg (by omega)])) ?_; simp only [Act.put, List.setIfInBounds_toArray, List.set_cons_zero, List.set_cons_succ]
          refine WQ.val (by rfl) (fun v hv => by have k0 := hv.cell e0; have k1 := hv.cell e1; have k2 := hv.cell e2; have k3 := hv.cell e3; have k4 := hv.cell e4; have k5 := hv.cell d0; have k6 := hv.cell d1; have k7 := hv.cell d2; have k8 := hv.cell d3; have k9 := hv.cell d4; go_simp; first | done | with_reducible rfl | (rw [if_neg (by omega)])) ?_; simp only [Act.put, List.setIfInBounds_toArray, List.set_cons_zero, List.set_cons_succ]
          refine WQ.val (by rfl) (fun v hv => by have k0 := hv.cell e0; have k1 := hv.cell e1; have k2 := hv.cell e2; have k3 := hv.cell e3; have k4 := hv.cell e4; have k5 := hv.cell d0; have k6 := hv.cell d1; have k7 := hv.cell d2; have k8 := hv.cell d3; have k9 := hv.cell d4; go_simp; first | done | with_reducible rfl | (rw [if_neg (by omega)])) ?_; simp only [Act.put, List.setIfInBounds_toArray, List.set_cons_zero, List.set_cons_succ]
          refine WQ.val (by rfl) (fun v hv => by have k0 := hv.cell e0; have k1 := hv.cell e1; have k2 := hv.cell e2; have k3 := hv.cell e3; have k4 := hv.cell e4; have k5 := hv.cell d0; have k6 := hv.cell d1; have k7 := hv.cell d2; have k8 := hv.cell d3; have k9 := hv.cell d4; go_simp; first | done | with_reducible rfl | (rw [if_neg (by omega)])) ?_; simp only [Act.put, List.setIfInBounds_toArray, List.set_cons_zero, List.set_cons_succ]
          refine WQ.val (by rfl) (fun v hv => by have k0 := hv.cell e0; have k1 := hv.cell e1; have k2 := hv.cell e2; have k3 := hv.cell e3; have k4 := hv.cell e4; have k5 := hv.cell d0; have k6 := hv.cell d1; have k7 := hv.cell d2; have k8 := hv.cell d3; have k9 := hv.cell d4; go_simp; first | done | with_reducible rfl | (rw [if_neg (by omega)])) ?_; simp only [Act.put, List.setIfInBounds_toArray, List.set_cons_zero, List.set_cons_succ]
          refine WQ.val (by rfl) (fun v hv => by have k0 := hv.cell e0; have k1 := hv.cell e1; have k2 := hv.cell e2; have k3 := hv.cell e3; have k4 := hv.cell e4; have k5 := hv.cell d0; have k6 := hv.cell d1; have k7 := hv.cell d2; have k8 := hv.cell d3; have k9 := hv.cell d4; go_simp; first | done | with_reducible rfl | (rw [if_neg (by omega)])) ?_; simp only [Act.put, List.setIfInBounds_toArray, List.set_cons_zero, List.set_cons_succ]
          refine WQ.val (by rfl) (fun v hv => by have k0 := hv.cell e0; have k1 := hv.cell e1; have k2 := hv.cell e2; have k3 := hv.cell e3; have k4 := hv.cell e4; have k5 := hv.cell d0; have k6 := hv.cell d1; have k7 := hv.cell d2; have k8 := hv.cell d3; have k9 := hv.cell d4; go_simp; first | done | with_reducible rfl | (rw [if_neg (by omega)])) ?_; simp only [Act.put, List.setIfInBounds_toArray, List.set_cons_zero, List.set_cons_succ]
          refine WQ.val (by rfl) (fun v hv => by have k0 := hv.cell e0; have k1 := hv.cell e1; have k2 := hv.cell e2; have k3 := hv.cell e3; have k4 := hv.cell e4; have k5 := hv.cell d0; have k6 := hv.cell d1; have k7 := hv.cell d2; have k8 := hv.cell d3; have k9 := hv.cell d4; go_simp; first | done | with_reducible rfl | (rw [if_neg (by omega)])) ?_; simp only [Act.put, List.setIfInBounds_toArray, List.set_cons_zero, List.set_cons_succ]
          refine WQ.call (f := 26) (args := #[.agg #[.int .u32 kp.a0, .int .u32 kp.a1, .int .u16 kp.p0, .int .u16 kp.p1, .int .u8 kp.pr], .agg #[.int .u32 kq.a0, .int .u32 kq.a1, .int .u16 kq.p0, .int .u16 kq.p1, .int .u8 kq.pr]]) (by rfl) (fun v hv => by go_simp) (fun v hv => (HLS.out v).mono (fun e v' ⟨he, hb⟩ => ⟨he, hv.step hb⟩)) ?_; simp only [Act.put, List.setIfInBounds_toArray, List.set_cons_zero, List.set_cons_succ]
          refine WQ.val (by rfl) (fun v hv => by have k0 := hv.cell e0; have k1 := hv.cell e1; have k2 := hv.cell e2; have k3 := hv.cell e3; have k4 := hv.cell e4; have k5 := hv.cell d0; have k6 := hv.cell d1; have k7 := hv.cell d2; have k8 := hv.cell d3; have k9 := hv.cell d4; go_simp; first | done | with_reducible rfl | (rw [if_neg (by omega)])) ?_; simp only [Act.put, List.setIfInBounds_toArray, List.set_cons_zero, List.set_cons_succ]
          refine WQ.val (by rfl) (fun v hv => by have k0 := hv.cell e0; have k1 := hv.cell e1; have k2 := hv.cell e2; have k3 := hv.cell e3; have k4 := hv.cell e4; have k5 := hv.cell d0; have k6 := hv.cell d1; have k7 := hv.cell d2; have k8 := hv.cell d3; have k9 := hv.cell d4; go_simp; first | done | with_reducible rfl | (rw [if_neg (by omega)])) ?_; simp only [Act.put, List.setIfInBounds_toArray, List.set_cons_zero, List.set_cons_succ]
          refine WQ.done ?_
          intro w12 hw12
          have HT12 : Hid (Turn F w4 w12) := Lib.hid (HT11.out.trans (Turn.of_below (F := fun _ => False) hw12) (fun i h => h.elim))
          have HA12 := Lib.hid (HA11.out.below hw12)
          clear hw12 e0 e1 e2 e3 e4 d0 d1 d2 d3 d4
          go_wp2_with fail
          go_roundw
          case rel => exact ⟨k + 1, by go_num, by omega, Lib.hid (by rw [HS1.out]; exact HA12.out), HT12⟩
          case measure => simp [intOf]; omega
      · by_cases hq : fq = 1048575
        · have hu1 : decide (fu ≤ clk) = false := decide_eq_false hu
          have hu2 : decide ((fu : Int) ≤ (clk : Int)) = false := decide_eq_false (by omega)
          have hov : ov = true := by rw [HOV.out]; simp [hq]
          subst hov
          subst hq
          clear hu
          refine WQ.enter w6 (Since.refl _) (by kernel_rfl) (by kernel_rfl) ?_
          refine WQ.val (by rfl) (fun v hv => by have k0 := hv.cell f1; have k1 := hv.cell f2; go_simp; first | done | with_reducible rfl | (rw [if_neg (by omega)])) ?_; simp only [Act.put, List.setIfInBounds_toArray, List.set_cons_zero, List.set_cons_succ]
          refine WQ.val (by rfl) (fun v hv => by have k0 := hv.cell f1; have k1 := hv.cell f2; go_simp; first | done | with_reducible rfl | (rw [if_neg (by omega)])) ?_; simp only [Act.put, List.setIfInBounds_toArray, List.set_cons_zero, List.set_cons_succ]
          refine WQ.val (by rfl) (fun v hv => by have k0 := hv.cell f1; have k1 := hv.cell f2; go_simp; first | done | with_reducible rfl | (rw [if_neg (by omega)])) ?_; simp only [Act.put, List.setIfInBounds_toArray, List.set_cons_zero, List.set_cons_succ]
          refine WQ.call (f := 22) (args := #[.pointer (some ⟨ba, 0, none⟩)]) (by rfl) (fun v hv => by go_simp) (fun v hv => (HGA.out v (HA6.out.below hv)).mono (fun e v' ⟨he, hb⟩ => ⟨he, hv.step hb⟩)) ?_; simp only [Act.put, List.setIfInBounds_toArray, List.set_cons_zero, List.set_cons_succ]
          refine WQ.val (by rfl) (fun v hv => by have k0 := hv.cell f1; have k1 := hv.cell f2; go_simp; first | done | with_reducible rfl | (rw [if_neg (by omega)])) ?_; simp only [Act.put, List.setIfInBounds_toArray, List.set_cons_zero, List.set_cons_succ]
          refine WQ.val (by rfl) (fun v hv => by have k0 := hv.cell f1; have k1 := hv.cell f2; go_simp; first | done | with_reducible rfl | (rw [if_neg (by omega)])) ?_; simp only [Act.put, List.setIfInBounds_toArray, List.set_cons_zero, List.set_cons_succ]
          refine WQ.val (by rfl) (fun v hv => by have k0 := hv.cell f1; have k1 := hv.cell f2; go_simp; first | done | with_reducible rfl | (rw [if_neg (by omega)])) ?_; simp only [Act.put, List.setIfInBounds_toArray, List.set_cons_zero, List.set_cons_succ]
          refine WQ.val (by rfl) (fun v hv => by have k0 := hv.cell f1; have k1 := hv.cell f2; go_simp; first | done | with_reducible rfl | (rw [if_neg (by omega)])) ?_; simp only [Act.put, List.setIfInBounds_toArray, List.set_cons_zero, List.set_cons_succ]
          refine WQ.val (by rfl) (fun v hv => by have k0 := hv.cell f1; have k1 := hv.cell f2; go_simp; first | done | with_reducible rfl | (rw [if_neg (by omega)])) ?_; simp only [Act.put, List.setIfInBounds_toArray, List.set_cons_zero, List.set_cons_succ]
          refine WQ.val (by rfl) (fun v hv => by have k0 := hv.cell f1; have k1 := hv.cell f2; go_simp; first | done | with_reducible rfl | (rw [if_neg (by omega)])) ?_; simp only [Act.put, List.setIfInBounds_toArray, List.set_cons_zero, List.set_cons_succ]
          refine WQ.val (by rfl) (fun v hv => by have k0 := hv.cell f1; have k1 := hv.cell f2; go_simp; first | done | with_reducible rfl | (rw [if_neg (by omega)])) ?_; simp only [Act.put, List.setIfInBounds_toArray, List.set_cons_zero, List.set_cons_succ]
          refine WQ.val (by rfl) (fun v hv => by have k0 := hv.cell f1; have k1 := hv.cell f2; go_simp; first | done | with_reducible rfl | (rw [if_neg (by omega)])) ?_; simp only [Act.put, List.setIfInBounds_toArray, List.set_cons_zero, List.set_cons_succ]
          refine WQ.done ?_
          intro w7 hw7
          have HA7 := Lib.hid (HA6.out.below hw7)
          have HT7 : Hid (Turn F w4 w7) := Lib.hid (HT6.out.trans (Turn.of_below (F := fun _ => False) hw7) (fun i h => h.elim))
          clear hw7 f1 f2 HGA HA6 HT6
          obtain ⟨e0, e1, e2, e3, e4⟩ := HCK.out w7 HT7.out
          go_wp2_with fail
          refine (HDA.out _ HA7.out).mono ?_
          rintro e w8 ⟨rfl, hA, hT⟩
          have HA8 := Lib.hid hA
          have HT8 : Hid (Turn F w4 w8) := Lib.hid (HT7.out.trans hT (fun i h => .inl h))
          clear hA hT e0 e1 e2 e3 e4
          have HA8 : Hid (AutoAt w8 ba F s1) := Lib.hid (by rw [← HDE.out.1 (by simp)]; exact HA8.out)
          obtain ⟨e0, e1, e2, e3, e4⟩ := HCK.out w8 HT8.out
          go_wp2_with fail
          refine (HDB.out _ HA8.out).mono ?_
          rintro e w9 ⟨rfl, hA, hT⟩
          have HA9 := Lib.hid hA
          have HT9 : Hid (Turn F w4 w9) := Lib.hid (HT8.out.trans hT (fun i h => .inl h))
          clear hA hT e0 e1 e2 e3 e4
          obtain ⟨e0, e1, e2, e3, e4⟩ := HCK.out w9 HT9.out
          go_wp2_with fail
          refine (HRB.out _ HA9.out).mono ?_
          rintro e w10 ⟨rfl, hA, hT⟩
          have HA10 := Lib.hid hA
          have HT10 : Hid (Turn F w4 w10) := Lib.hid (HT9.out.trans hT (fun i h => .inl h))
          clear hA hT e0 e1 e2 e3 e4
          obtain ⟨e0, e1, e2, e3, e4⟩ := HCK.out w10 HT10.out
          go_wp2_with fail
          refine (HRB.out _ HA10.out).mono ?_
          rintro e w11 ⟨rfl, hA, hT⟩
          have HA11 := Lib.hid hA
          have HT11 : Hid (Turn F w4 w11) := Lib.hid (HT10.out.trans hT (fun i h => .inl h))
          clear hA hT e0 e1 e2 e3 e4
          go_wp2_with fail
          by_cases hk0 : k = 0
          · have hkd : ((k : Int) > 0) = False := by simp [hk0]
            have hkd2 : decide ((0 : Int) < (k : Int)) = false := decide_eq_false (by omega)
            have hkd3 : decide (0 < k) = false := decide_eq_false (by omega)
            have HK0 := Lib.hid hk0
            clear hk0 hkd
            refine WQ.enter w11 (Since.refl _) (by kernel_rfl) (by kernel_rfl) ?_
            refine WQ.val (by rfl) (fun v hv => by go_simp; first | done | with_reducible rfl | (rw [if_neg (by omega)])) ?_; simp only [Act.put, List.setIfInBounds_toArray, List.set_cons_zero, List.set_cons_succ]
            refine WQ.val (by rfl) (fun v hv => by go_simp; first | done | with_reducible rfl | (rw [if_neg (by omega)])) ?_; simp only [Act.put, List.setIfInBounds_toArray, List.set_cons_zero, List.set_cons_succ]
            refine WQ.val (by rfl) (fun v hv => by go_simp; first | done | with_reducible rfl | (rw [if_neg (by omega)])) ?_; simp only [Act.put, List.setIfInBounds_toArray, List.set_cons_zero, List.set_cons_succ]
            refine WQ.off (by rfl) ?_; simp only [Act.put, List.setIfInBounds_toArray, List.set_cons_zero, List.set_cons_succ]
            refine WQ.off (by rfl) ?_; simp only [Act.put, List.setIfInBounds_toArray, List.set_cons_zero, List.set_cons_succ]
            refine WQ.off (by rfl) ?_; simp only [Act.put, List.setIfInBounds_toArray, List.set_cons_zero, List.set_cons_succ]
            refine WQ.off (by rfl) ?_; simp only [Act.put, List.setIfInBounds_toArray, List.set_cons_zero, List.set_cons_succ]
            refine WQ.off (by rfl) ?_; simp only [Act.put, List.setIfInBounds_toArray, List.set_cons_zero, List.set_cons_succ]
            refine WQ.off (by rfl) ?_; simp only [Act.put, List.setIfInBounds_toArray, List.set_cons_zero, List.set_cons_succ]
            refine WQ.off (by rfl) ?_; simp only [Act.put, List.setIfInBounds_toArray, List.set_cons_zero, List.set_cons_succ]
            refine WQ.off (by rfl) ?_; simp only [Act.put, List.setIfInBounds_toArray, List.set_cons_zero, List.set_cons_succ]
            refine WQ.off (by rfl) ?_; simp only [Act.put, List.setIfInBounds_toArray, List.set_cons_zero, List.set_cons_succ]
            refine WQ.off (by rfl) ?_; simp only [Act.put, List.setIfInBounds_toArray, List.set_cons_zero, List.set_cons_succ]
            refine WQ.off (by rfl) ?_; simp only [Act.put, List.setIfInBounds_toArray, List.set_cons_zero, List.set_cons_succ]
            refine WQ.val (by rfl) (fun v hv => by go_simp; first | done | with_reducible rfl | (rw [if_neg (by omega)])) ?_; simp only [Act.put, List.setIfInBounds_toArray, List.set_cons_zero, List.set_cons_succ]
            refine WQ.done ?_
            intro w12 hw12
            have HT12 : Hid (Turn F w4 w12) := Lib.hid (HT11.out.trans (Turn.of_below (F := fun _ => False) hw12) (fun i h => h.elim))
            have HA12 := Lib.hid (HA11.out.below hw12)
            clear hw12
            go_wp2_with fail
            go_roundw
            case rel => exact ⟨k + 1, by go_num, by omega, Lib.hid (by rw [HS1.out]; exact HA12.out), HT12⟩
            case measure => simp [intOf]; omega
          · obtain ⟨q, hq⟩ : ∃ q, k = q + 1 := ⟨k - 1, by omega⟩
            obtain ⟨kp, hkp⟩ : ∃ kp, kl[q]? = some kp := ⟨_, List.getElem?_eq_getElem (by omega)⟩
            have hlk : lessK kp kq = true := by
              rw [lessK_iff]
              have h1 := List.pairwise_iff_getElem.1 HRI.out q k (by omega) hlt (by omega)
              rw [(List.getElem?_eq_some_iff.1 hkp).2, (List.getElem?_eq_some_iff.1 hkq).2] at h1
              exact h1
            obtain ⟨pp, hpp, hppk⟩ := HLK.out q kp hkp
            have HKP : Hid kp.In := Lib.hid (hppk ▸ (HZ.out.kin pp (List.mem_of_getElem? hpp)).1)
            have HLS := Lib.hid (fun W => refLess_any kp kq W HKP.out HKI.out)
            rw [hlk] at HLS
            obtain ⟨e0, e1, e2, e3, e4⟩ := HCK.out w11 HT11.out
            obtain ⟨d0, d1, d2, d3, d4⟩ := HKS.out.key5 HT11.out HF3.out hkp
            have hkd2 : decide ((0 : Int) < (k : Int)) = true := decide_eq_true (by omega)
            have hkd3 : decide (0 < k) = true := decide_eq_true (by omega)
            have hkw : IntKind.i64.wrap ((k : Int) - 1) = (q : Int) := by rw [show (k : Int) - 1 = q by omega]; exact IntWalk.i64_in _ (by omega)
            have hqi : (0 : Int) ≤ q := by omega
            have hqm : (q : Int) < (kl.length : Int) := by omega
            have HQ := Lib.hid hq
            clear hq hk0 hkp hlk hpp hppk
            refine WQ.enter w11 (Since.refl _) (by kernel_rfl) (by kernel_rfl) ?_
            refine WQ.val (by rfl) (fun v hv => by have k0 := hv.cell e0; have k1 := hv.cell e1; have k2 := hv.cell e2; have k3 := hv.cell e3; have k4 := hv.cell e4; have k5 := hv.cell d0; have k6 := hv.cell d1; have k7 := hv.cell d2; have k8 := hv.cell d3; have k9 := hv.cell d4; go_simp; first | done | with_reducible rfl | (rw [if_neg (by omega)])) ?_; simp only [Act.put, List.setIfInBounds_toArray, List.set_cons_zero, List.set_cons_succ]
            refine WQ.val (by rfl) (fun v hv => by have k0 := hv.cell e0; have k1 := hv.cell e1; have k2 := hv.cell e2; have k3 := hv.cell e3; have k4 := hv.cell e4; have k5 := hv.cell d0; have k6 := hv.cell d1; have k7 := hv.cell d2; have k8 := hv.cell d3; have k9 := hv.cell d4; go_simp; first | done | with_reducible rfl | (rw [if_neg (by omega)])) ?_; simp only [Act.put, List.setIfInBounds_toArray, List.set_cons_zero, List.set_cons_succ]
            refine WQ.val (by rfl) (fun v hv => by have k0 := hv.cell e0; have k1 := hv.cell e1; have k2 := hv.cell e2; have k3 := hv.cell e3; have k4 := hv.cell e4; have k5 := hv.cell d0; have k6 := hv.cell d1; have k7 := hv.cell d2; have k8 := hv.cell d3; have k9 := hv.cell d4; go_simp; first | done | with_reducible rfl | (rw [if_neg (by omega)])) ?_; simp only [Act.put, List.setIfInBounds_toArray, List.set_cons_zero, List.set_cons_succ]
            refine WQ.val (by rfl) (fun v hv => by have k0 := hv.cell e0; have k1 := hv.cell e1; have k2 := hv.cell e2; have k3 := hv.cell e3; have k4 := hv.cell e4; have k5 := hv.cell d0; have k6 := hv.cell d1; have k7 := hv.cell d2; have k8 := hv.cell d3; have k9 := hv.cell d4; go_simp; first | done | with_reducible rfl | (rw [if_neg (by omega)])) ?_; simp only [Act.put, List.setIfInBounds_toArray, List.set_cons_zero, List.set_cons_succ]
            refine WQ.val (by rfl) (fun v hv => by have k0 := hv.cell e0; have k1 := hv.cell e1; have k2 := hv.cell e2; have k3 := hv.cell e3; have k4 := hv.cell e4; have k5 := hv.cell d0; have k6 := hv.cell d1; have k7 := hv.cell d2; have k8 := hv.cell d3; have k9 := hv.cell d4; go_simp; first | done | with_reducible rfl | (rw [if_neg (by omega)])) ?_; simp only [Act.put, List.setIfInBounds_toArray, List.set_cons_zero, List.set_cons_succ]
            refine WQ.val (by rfl) (fun v hv => by have k0 := hv.cell e0; have k1 := hv.cell e1; have k2 := hv.cell e2; have k3 := hv.cell e3; have k4 := hv.cell e4; have k5 := hv.cell d0; have k6 := hv.cell d1; have k7 := hv.cell d2; have k8 := hv.cell d3; have k9 := hv.cell d4; go_simp; first | done | with_reducible rfl | (rw [if_neg (by omega)])) ?_; simp only [Act.put, List.setIfInBounds_toArray, List.set_cons_zero, List.set_cons_succ]
            refine WQ.val (by rfl) (fun v hv => by have k0 := hv.cell e0; have k1 := hv.cell e1; have k2 := hv.cell e2; have k3 := hv.cell e3; have k4 := hv.cell e4; have k5 := hv.cell d0; have k6 := hv.cell d1; have k7 := hv.cell d2; have k8 := hv.cell d3; have k9 := hv.cell d4; go_simp; first | done | with_reducible rfl | (rw [if_neg (by omega)])) ?_; simp only [Act.put, List.setIfInBounds_toArray, List.set_cons_zero, List.set_cons_succ]
            refine WQ.val (by rfl) (fun v hv => by have k0 := hv.cell e0; have k1 := hv.cell e1; have k2 := hv.cell e2; have k3 := hv.cell e3; have k4 := hv.cell e4; have k5 := hv.cell d0; have k6 := hv.cell d1; have k7 := hv.cell d2; have k8 := hv.cell d3; have k9 := hv.cell d4; go_simp; first | done | with_reducible rfl | (rw [if_neg (by omega)])) ?_; simp only [Act.put, List.setIfInBounds_toArray, List.set_cons_zero, List.set_cons_succ]
            refine WQ.val (by rfl) (fun v hv => by have k0 := hv.cell e0; have k1 := hv.cell e1; have k2 := hv.cell e2; have k3 := hv.cell e3; have k4 := hv.cell e4; have k5 := hv.cell d0; have k6 := hv.cell d1; have k7 := hv.cell d2; have k8 := hv.cell d3; have k9 := hv.cell d4; go_simp; first | done | with_reducible rfl | (rw [if_neg (by omega)])) ?_; simp only [Act.put, List.setIfInBounds_toArray, List.set_cons_zero, List.set_cons_succ]
            refine WQ.val (by rfl) (fun v hv => by have k0 := hv.cell e0; have k1 := hv.cell e1; have k2 := hv.cell e2; have k3 := hv.cell e3; have k4 := hv.cell e4; have k5 := hv.cell d0; have k6 := hv.cell d1; have k7 := hv.cell d2; have k8 := hv.cell d3; have k9 := hv.cell d4; go_simp; first | done | with_reducible rfl | (rw [if_neg (by omega)])) ?_; simp only [Act.put, List.setIfInBounds_toArray, List.set_cons_zero, List.set_cons_succ]
            refine WQ.val (by rfl) (fun v hv => by have k0 := hv.cell e0; have k1 := hv.cell e1; have k2 := hv.cell e2; have k3 := hv.cell e3; have k4 := hv.cell e4; have k5 := hv.cell d0; have k6 := hv.cell d1; have k7 := hv.cell d2; have k8 := hv.cell d3; have k9 := hv.cell d4; go_simp; first | done | with_reducible rfl | (rw [if_neg (by omega)])) ?_; simp only [Act.put, List.setIfInBounds_toArray, List.set_cons_zero, List.set_cons_succ]
            refine WQ.val (by rfl) (fun v hv => by have k0 := hv.cell e0; have k1 := hv.cell e1; have k2 := hv.cell e2; have k3 := hv.cell e3; have k4 := hv.cell e4; have k5 := hv.cell d0; have k6 := hv.cell d1; have k7 := hv.cell d2; have k8 := hv.cell d3; have k9 := hv.cell d4; go_simp; first | done | with_reducible rfl | (rw [if_neg (by omega)])) ?_; simp only [Act.put, List.setIfInBounds_toArray, List.set_cons_zero, List.set_cons_succ]
            refine WQ.call (f := 26) (args := #[.agg #[.int .u32 kp.a0, .int .u32 kp.a1, .int .u16 kp.p0, .int .u16 kp.p1, .int .u8 kp.pr], .agg #[.int .u32 kq.a0, .int .u32 kq.a1, .int .u16 kq.p0, .int .u16 kq.p1, .int .u8 kq.pr]]) (by rfl) (fun v hv => by go_simp) (fun v hv => (HLS.out v).mono (fun e v' ⟨he, hb⟩ => ⟨he, hv.step hb⟩)) ?_; simp only [Act.put, List.setIfInBounds_toArray, List.set_cons_zero, List.set_cons_succ]
            refine WQ.val (by rfl) (fun v hv => by have k0 := hv.cell e0; have k1 := hv.cell e1; have k2 := hv.cell e2; have k3 := hv.cell e3; have k4 := hv.cell e4; have k5 := hv.cell d0; have k6 := hv.cell d1; have k7 := hv.cell d2; have k8 := hv.cell d3; have k9 := hv.cell d4; go_simp; first | done | with_reducible rfl | (rw [if_neg (by omega)])) ?_; simp only [Act.put, List.setIfInBounds_toArray, List.set_cons_zero, List.set_cons_succ]
            refine WQ.val (by rfl) (fun v hv => by have k0 := hv.cell e0; have k1 := hv.cell e1; have k2 := hv.cell e2; have k3 := hv.cell e3; have k4 := hv.cell e4; have k5 := hv.cell d0; have k6 := hv.cell d1; have k7 := hv.cell d2; have k8 := hv.cell d3; have k9 := hv.cell d4; go_simp; first | done | with_reducible rfl | (rw [if_neg (by omega)])) ?_; simp only [Act.put, List.setIfInBounds_toArray, List.set_cons_zero, List.set_cons_succ]
            refine WQ.done ?_
            intro w12 hw12
            have HT12 : Hid (Turn F w4 w12) := Lib.hid (HT11.out.trans (Turn.of_below (F := fun _ => False) hw12) (fun i h => h.elim))
            have HA12 := Lib.hid (HA11.out.below hw12)
            clear hw12 e0 e1 e2 e3 e4 d0 d1 d2 d3 d4
            go_wp2_with fail
            go_roundw
            case rel => exact ⟨k + 1, by go_num, by omega, Lib.hid (by rw [HS1.out]; exact HA12.out), HT12⟩
            case measure => simp [intOf]; omega
        · have hu1 : decide (fu ≤ clk) = false := decide_eq_false hu
          have hu2 : decide ((fu : Int) ≤ (clk : Int)) = false := decide_eq_false (by omega)
          have hov : ov = false := by rw [HOV.out]; simp [hu, hq]
          have hq1 : ((fq : Int) == 1048575) = false := by simp; omega
          have hq2 : (fq == 1048575) = false := by simpa using hq
          subst hov
          clear hu hq
          refine WQ.enter w6 (Since.refl _) (by kernel_rfl) (by kernel_rfl) ?_
          refine WQ.val (by rfl) (fun v hv => by have k0 := hv.cell f1; have k1 := hv.cell f2; go_simp; first | done | with_reducible rfl | (rw [if_neg (by omega)])) ?_; simp only [Act.put, List.setIfInBounds_toArray, List.set_cons_zero, List.set_cons_succ]
          refine WQ.val (by rfl) (fun v hv => by have k0 := hv.cell f1; have k1 := hv.cell f2; go_simp; first | done | with_reducible rfl | (rw [if_neg (by omega)])) ?_; simp only [Act.put, List.setIfInBounds_toArray, List.set_cons_zero, List.set_cons_succ]
          refine WQ.val (by rfl) (fun v hv => by have k0 := hv.cell f1; have k1 := hv.cell f2; go_simp; first | done | with_reducible rfl | (rw [if_neg (by omega)])) ?_; simp only [Act.put, List.setIfInBounds_toArray, List.set_cons_zero, List.set_cons_succ]
          refine WQ.call (f := 22) (args := #[.pointer (some ⟨ba, 0, none⟩)]) (by rfl) (fun v hv => by go_simp) (fun v hv => (HGA.out v (HA6.out.below hv)).mono (fun e v' ⟨he, hb⟩ => ⟨he, hv.step hb⟩)) ?_; simp only [Act.put, List.setIfInBounds_toArray, List.set_cons_zero, List.set_cons_succ]
          refine WQ.val (by rfl) (fun v hv => by have k0 := hv.cell f1; have k1 := hv.cell f2; go_simp; first | done | with_reducible rfl | (rw [if_neg (by omega)])) ?_; simp only [Act.put, List.setIfInBounds_toArray, List.set_cons_zero, List.set_cons_succ]
          refine WQ.val (by rfl) (fun v hv => by have k0 := hv.cell f1; have k1 := hv.cell f2; go_simp; first | done | with_reducible rfl | (rw [if_neg (by omega)])) ?_; simp only [Act.put, List.setIfInBounds_toArray, List.set_cons_zero, List.set_cons_succ]
          refine WQ.val (by rfl) (fun v hv => by have k0 := hv.cell f1; have k1 := hv.cell f2; go_simp; first | done | with_reducible rfl | (rw [if_neg (by omega)])) ?_; simp only [Act.put, List.setIfInBounds_toArray, List.set_cons_zero, List.set_cons_succ]
          refine WQ.val (by rfl) (fun v hv => by have k0 := hv.cell f1; have k1 := hv.cell f2; go_simp; first | done | with_reducible rfl | (rw [if_neg (by omega)])) ?_; simp only [Act.put, List.setIfInBounds_toArray, List.set_cons_zero, List.set_cons_succ]
          refine WQ.val (by rfl) (fun v hv => by have k0 := hv.cell f1; have k1 := hv.cell f2; go_simp; first | done | with_reducible rfl | (rw [if_neg (by omega)])) ?_; simp only [Act.put, List.setIfInBounds_toArray, List.set_cons_zero, List.set_cons_succ]
          refine WQ.val (by rfl) (fun v hv => by have k0 := hv.cell f1; have k1 := hv.cell f2; go_simp; first | done | with_reducible rfl | (rw [if_neg (by omega)])) ?_; simp only [Act.put, List.setIfInBounds_toArray, List.set_cons_zero, List.set_cons_succ]
          refine WQ.val (by rfl) (fun v hv => by have k0 := hv.cell f1; have k1 := hv.cell f2; go_simp; first | done | with_reducible rfl | (rw [if_neg (by omega)])) ?_; simp only [Act.put, List.setIfInBounds_toArray, List.set_cons_zero, List.set_cons_succ]
          refine WQ.val (by rfl) (fun v hv => by have k0 := hv.cell f1; have k1 := hv.cell f2; go_simp; first | done | with_reducible rfl | (rw [if_neg (by omega)])) ?_; simp only [Act.put, List.setIfInBounds_toArray, List.set_cons_zero, List.set_cons_succ]
          refine WQ.done ?_
          intro w7 hw7
          have HA7 := Lib.hid (HA6.out.below hw7)
          have HT7 : Hid (Turn F w4 w7) := Lib.hid (HT6.out.trans (Turn.of_below (F := fun _ => False) hw7) (fun i h => h.elim))
          clear hw7 f1 f2 HGA HA6 HT6
          obtain ⟨e0, e1, e2, e3, e4⟩ := HCK.out w7 HT7.out
          go_wp2_with fail
          refine (HDA.out _ HA7.out).mono ?_
          rintro e w8 ⟨rfl, hA, hT⟩
          have HA8 := Lib.hid hA
          have HT8 : Hid (Turn F w4 w8) := Lib.hid (HT7.out.trans hT (fun i h => .inl h))
          clear hA hT e0 e1 e2 e3 e4
          have HA8 : Hid (AutoAt w8 ba F s0) := Lib.hid (by rw [← HDE.out.2 (by simp)]; exact HA8.out)
          obtain ⟨e0, e1, e2, e3, e4⟩ := HCK.out w8 HT8.out
          go_wp2_with fail
          refine (HDA.out _ HA8.out).mono ?_
          rintro e w9 ⟨rfl, hA, hT⟩
          have HA9 := Lib.hid hA
          have HT9 : Hid (Turn F w4 w9) := Lib.hid (HT8.out.trans hT (fun i h => .inl h))
          clear hA hT e0 e1 e2 e3 e4
          have HA9 : Hid (AutoAt w9 ba F s0) := Lib.hid (by rw [← HDE.out.2 (by simp)]; exact HA9.out)
          obtain ⟨e0, e1, e2, e3, e4⟩ := HCK.out w9 HT9.out
          go_wp2_with fail
          refine (HRA.out _ HA9.out).mono ?_
          rintro e w10 ⟨rfl, hA, hT⟩
          have HA10 := Lib.hid hA
          have HT10 : Hid (Turn F w4 w10) := Lib.hid (HT9.out.trans hT (fun i h => .inl h))
          clear hA hT e0 e1 e2 e3 e4
          obtain ⟨e0, e1, e2, e3, e4⟩ := HCK.out w10 HT10.out
          go_wp2_with fail
          refine (HRB.out _ HA10.out).mono ?_
          rintro e w11 ⟨rfl, hA, hT⟩
          have HA11 := Lib.hid hA
          have HT11 : Hid (Turn F w4 w11) := Lib.hid (HT10.out.trans hT (fun i h => .inl h))
          clear hA hT e0 e1 e2 e3 e4
          go_wp2_with fail
          by_cases hk0 : k = 0
          · have hkd : ((k : Int) > 0) = False := by simp [hk0]
            have hkd2 : decide ((0 : Int) < (k : Int)) = false := decide_eq_false (by omega)
            have hkd3 : decide (0 < k) = false := decide_eq_false (by omega)
            have HK0 := Lib.hid hk0
            clear hk0 hkd
            refine WQ.enter w11 (Since.refl _) (by kernel_rfl) (by kernel_rfl) ?_
            refine WQ.val (by rfl) (fun v hv => by go_simp; first | done | with_reducible rfl | (rw [if_neg (by omega)])) ?_; simp only [Act.put, List.setIfInBounds_toArray, List.set_cons_zero, List.set_cons_succ]
            refine WQ.val (by rfl) (fun v hv => by go_simp; first | done | with_reducible rfl | (rw [if_neg (by omega)])) ?_; simp only [Act.put, List.setIfInBounds_toArray, List.set_cons_zero, List.set_cons_succ]
            refine WQ.val (by rfl) (fun v hv => by go_simp; first | done | with_reducible rfl | (rw [if_neg (by omega)])) ?_; simp only [Act.put, List.setIfInBounds_toArray, List.set_cons_zero, List.set_cons_succ]
            refine WQ.off (by rfl) ?_; simp only [Act.put, List.setIfInBounds_toArray, List.set_cons_zero, List.set_cons_succ]
            refine WQ.off (by rfl) ?_; simp only [Act.put, List.setIfInBounds_toArray, List.set_cons_zero, List.set_cons_succ]
            refine WQ.off (by rfl) ?_; simp only [Act.put, List.setIfInBounds_toArray, List.set_cons_zero, List.set_cons_succ]
            refine WQ.off (by rfl) ?_; simp only [Act.put, List.setIfInBounds_toArray, List.set_cons_zero, List.set_cons_succ]
            refine WQ.off (by rfl) ?_; simp only [Act.put, List.setIfInBounds_toArray, List.set_cons_zero, List.set_cons_succ]
            refine WQ.off (by rfl) ?_; simp only [Act.put, List.setIfInBounds_toArray, List.set_cons_zero, List.set_cons_succ]
            refine WQ.off (by rfl) ?_; simp only [Act.put, List.setIfInBounds_toArray, List.set_cons_zero, List.set_cons_succ]
            refine WQ.off (by rfl) ?_; simp only [Act.put, List.setIfInBounds_toArray, List.set_cons_zero, List.set_cons_succ]
            refine WQ.off (by rfl) ?_; simp only [Act.put, List.setIfInBounds_toArray, List.set_cons_zero, List.set_cons_succ]
            refine WQ.off (by rfl) ?_; simp only [Act.put, List.setIfInBounds_toArray, List.set_cons_zero, List.set_cons_succ]
            refine WQ.off (by rfl) ?_; simp only [Act.put, List.setIfInBounds_toArray, List.set_cons_zero, List.set_cons_succ]
            refine WQ.val (by rfl) (fun v hv => by go_simp; first | done | with_reducible rfl | (rw [if_neg (by omega)])) ?_; simp only [Act.put, List.setIfInBounds_toArray, List.set_cons_zero, List.set_cons_succ]
            refine WQ.done ?_
            intro w12 hw12
            have HT12 : Hid (Turn F w4 w12) := Lib.hid (HT11.out.trans (Turn.of_below (F := fun _ => False) hw12) (fun i h => h.elim))
            have HA12 := Lib.hid (HA11.out.below hw12)
            clear hw12
            go_wp2_with fail
            go_roundw
            case rel => exact ⟨k + 1, by go_num, by omega, Lib.hid (by rw [HS1.out]; exact HA12.out), HT12⟩
            case measure => simp [intOf]; omega
          · obtain ⟨q, hq⟩ : ∃ q, k = q + 1 := ⟨k - 1, by omega⟩
            obtain ⟨kp, hkp⟩ : ∃ kp, kl[q]? = some kp := ⟨_, List.getElem?_eq_getElem (by omega)⟩
            have hlk : lessK kp kq = true := by
              rw [lessK_iff]
              have h1 := List.pairwise_iff_getElem.1 HRI.out q k (by omega) hlt (by omega)
              rw [(List.getElem?_eq_some_iff.1 hkp).2, (List.getElem?_eq_some_iff.1 hkq).2] at h1
              exact h1
            obtain ⟨pp, hpp, hppk⟩ := HLK.out q kp hkp
            have HKP : Hid kp.In := Lib.hid (hppk ▸ (HZ.out.kin pp (List.mem_of_getElem? hpp)).1)
            have HLS := Lib.hid (fun W => refLess_any kp kq W HKP.out HKI.out)
            rw [hlk] at HLS
            obtain ⟨e0, e1, e2, e3, e4⟩ := HCK.out w11 HT11.out
            obtain ⟨d0, d1, d2, d3, d4⟩ := HKS.out.key5 HT11.out HF3.out hkp
            have hkd2 : decide ((0 : Int) < (k : Int)) = true := decide_eq_true (by omega)
            have hkd3 : decide (0 < k) = true := decide_eq_true (by omega)
            have hkw : IntKind.i64.wrap ((k : Int) - 1) = (q : Int) := by rw [show (k : Int) - 1 = q by omega]; exact IntWalk.i64_in _ (by omega)
            have hqi : (0 : Int) ≤ q := by omega
            have hqm : (q : Int) < (kl.length : Int) := by omega
            have HQ := Lib.hid hq
            clear hq hk0 hkp hlk hpp hppk
            refine WQ.enter w11 (Since.refl _) (by kernel_rfl) (by kernel_rfl) ?_
            refine WQ.val (by rfl) (fun v hv => by have k0 := hv.cell e0; have k1 := hv.cell e1; have k2 := hv.cell e2; have k3 := hv.cell e3; have k4 := hv.cell e4; have k5 := hv.cell d0; have k6 := hv.cell d1; have k7 := hv.cell d2; have k8 := hv.cell d3; have k9 := hv.cell d4; go_simp; first | done | with_reducible rfl | (rw [if_neg (by omega)])) ?_; simp only [Act.put, List.setIfInBounds_toArray, List.set_cons_zero, List.set_cons_succ]
            refine WQ.val (by rfl) (fun v hv => by have k0 := hv.cell e0; have k1 := hv.cell e1; have k2 := hv.cell e2; have k3 := hv.cell e3; have k4 := hv.cell e4; have k5 := hv.cell d0; have k6 := hv.cell d1; have k7 := hv.cell d2; have k8 := hv.cell d3; have k9 := hv.cell d4; go_simp; first | done | with_reducible rfl | (rw [if_neg (by omega)])) ?_; simp only [Act.put, List.setIfInBounds_toArray, List.set_cons_zero, List.set_cons_succ]
            refine WQ.val (by rfl) (fun v hv => by have k0 := hv.cell e0; have k1 := hv.cell e1; have k2 := hv.cell e2; have k3 := hv.cell e3; have k4 := hv.cell e4; have k5 := hv.cell d0; have k6 := hv.cell d1; have k7 := hv.cell d2; have k8 := hv.cell d3; have k9 := hv.cell d4; go_simp; first | done | with_reducible rfl | (rw [if_neg (by omega)])) ?_; simp only [Act.put, List.setIfInBounds_toArray, List.set_cons_zero, List.set_cons_succ]
            refine WQ.val (by rfl) (fun v hv => by have k0 := hv.cell e0; have k1 := hv.cell e1; have k2 := hv.cell e2; have k3 := hv.cell e3; have k4 := hv.cell e4; have k5 := hv.cell d0; have k6 := hv.cell d1; have k7 := hv.cell d2; have k8 := hv.cell d3; have k9 := hv.cell d4; go_simp; first | done | with_reducible rfl | (rw [if_neg (by omega)])) ?_; simp only [Act.put, List.setIfInBounds_toArray, List.set_cons_zero, List.set_cons_succ]
            refine WQ.val (by rfl) (fun v hv => by have k0 := hv.cell e0; have k1 := hv.cell e1; have k2 := hv.cell e2; have k3 := hv.cell e3; have k4 := hv.cell e4; have k5 := hv.cell d0; have k6 := hv.cell d1; have k7 := hv.cell d2; have k8 := hv.cell d3; have k9 := hv.cell d4; go_simp; first | done | with_reducible rfl | (rw [if_neg (by omega)])) ?_; simp only [Act.put, List.setIfInBounds_toArray, List.set_cons_zero, List.set_cons_succ]
            refine WQ.val (by rfl) (fun v hv => by have k0 := hv.cell e0; have k1 := hv.cell e1; have k2 := hv.cell e2; have k3 := hv.cell e3; have k4 := hv.cell e4; have k5 := hv.cell d0; have k6 := hv.cell d1; have k7 := hv.cell d2; have k8 := hv.cell d3; have k9 := hv.cell d4; go_simp; first | done | with_reducible rfl | (rw [if_neg (by omega)])) ?_; simp only [Act.put, List.setIfInBounds_toArray, List.set_cons_zero, List.set_cons_succ]
            refine WQ.val (by rfl) (fun v hv => by have k0 := hv.cell e0; have k1 := hv.cell e1; have k2 := hv.cell e2; have k3 := hv.cell e3; have k4 := hv.cell e4; have k5 := hv.cell d0; have k6 := hv.cell d1; have k7 := hv.cell d2; have k8 := hv.cell d3; have k9 := hv.cell d4; go_simp; first | done | with_reducible rfl | (rw [if_neg (by omega)])) ?_; simp only [Act.put, List.setIfInBounds_toArray, List.set_cons_zero, List.set_cons_succ]
            refine WQ.val (by rfl) (fun v hv => by have k0 := hv.cell e0; have k1 := hv.cell e1; have k2 := hv.cell e2; have k3 := hv.cell e3; have k4 := hv.cell e4; have k5 := hv.cell d0; have k6 := hv.cell d1; have k7 := hv.cell d2; have k8 := hv.cell d3; have k9 := hv.cell d4; go_simp; first | done | with_reducible rfl | (rw [if_neg (by omega)])) ?_; simp only [Act.put, List.setIfInBounds_toArray, List.set_cons_zero, List.set_cons_succ]
            refine WQ.val (by rfl) (fun v hv => by have k0 := hv.cell e0; have k1 := hv.cell e1; have k2 := hv.cell e2; have k3 := hv.cell e3; have k4 := hv.cell e4; have k5 := hv.cell d0; have k6 := hv.cell d1; have k7 := hv.cell d2; have k8 := hv.cell d3; have k9 := hv.cell d4; go_simp; first | done | with_reducible rfl | (rw [if_neg (by omega)])) ?_; simp only [Act.put, List.setIfInBounds_toArray, List.set_cons_zero, List.set_cons_succ]
            refine WQ.val (by rfl) (fun v hv => by have k0 := hv.cell e0; have k1 := hv.cell e1; have k2 := hv.cell e2; have k3 := hv.cell e3; have k4 := hv.cell e4; have k5 := hv.cell d0; have k6 := hv.cell d1; have k7 := hv.cell d2; have k8 := hv.cell d3; have k9 := hv.cell d4; go_simp; first | done | with_reducible rfl | (rw [if_neg (by omega)])) ?_; simp only [Act.put, List.setIfInBounds_toArray, List.set_cons_zero, List.set_cons_succ]
            refine WQ.val (by rfl) (fun v hv => by have k0 := hv.cell e0; have k1 := hv.cell e1; have k2 := hv.cell e2; have k3 := hv.cell e3; have k4 := hv.cell e4; have k5 := hv.cell d0; have k6 := hv.cell d1; have k7 := hv.cell d2; have k8 := hv.cell d3; have k9 := hv.cell d4; go_simp; first | done | with_reducible rfl | (rw [if_neg (by omega)])) ?_; simp only [Act.put, List.setIfInBounds_toArray, List.set_cons_zero, List.set_cons_succ]
            refine WQ.val (by rfl) (fun v hv => by have k0 := hv.cell e0; have k1 := hv.cell e1; have k2 := hv.cell e2; have k3 := hv.cell e3; have k4 := hv.cell e4; have k5 := hv.cell d0; have k6 := hv.cell d1; have k7 := hv.cell d2; have k8 := hv.cell d3; have k9 := hv.cell d4; go_simp; first | done | with_reducible rfl | (rw [if_neg (by omega)])) ?_; simp only [Act.put, List.setIfInBounds_toArray, List.set_cons_zero, List.set_cons_succ]
            refine WQ.call (f := 26) (args := #[.agg #[.int .u32 kp.a0, .int .u32 kp.a1, .int .u16 kp.p0, .int .u16 kp.p1, .int .u8 kp.pr], .agg #[.int .u32 kq.a0, .int .u32 kq.a1, .int .u16 kq.p0, .int .u16 kq.p1, .int .u8 kq.pr]]) (by rfl) (fun v hv => by go_simp) (fun v hv => (HLS.out v).mono (fun e v' ⟨he, hb⟩ => ⟨he, hv.step hb⟩)) ?_; simp only [Act.put, List.setIfInBounds_toArray, List.set_cons_zero, List.set_cons_succ]
            refine WQ.val (by rfl) (fun v hv => by have k0 := hv.cell e0; have k1 := hv.cell e1; have k2 := hv.cell e2; have k3 := hv.cell e3; have k4 := hv.cell e4; have k5 := hv.cell d0; have k6 := hv.cell d1; have k7 := hv.cell d2; have k8 := hv.cell d3; have k9 := hv.cell d4; go_simp; first | done | with_reducible rfl | (rw [if_neg (by omega)])) ?_; simp only [Act.put, List.setIfInBounds_toArray, List.set_cons_zero, List.set_cons_succ]
            refine WQ.val (by rfl) (fun v hv => by have k0 := hv.cell e0; have k1 := hv.cell e1; have k2 := hv.cell e2; have k3 := hv.cell e3; have k4 := hv.cell e4; have k5 := hv.cell d0; have k6 := hv.cell d1; have k7 := hv.cell d2; have k8 := hv.cell d3; have k9 := hv.cell d4; go_simp; first | done | with_reducible rfl | (rw [if_neg (by omega)])) ?_; simp only [Act.put, List.setIfInBounds_toArray, List.set_cons_zero, List.set_cons_succ]
            refine WQ.done ?_
            intro w12 hw12
            have HT12 : Hid (Turn F w4 w12) := Lib.hid (HT11.out.trans (Turn.of_below (F := fun _ => False) hw12) (fun i h => h.elim))
            have HA12 := Lib.hid (HA11.out.below hw12)
            clear hw12 e0 e1 e2 e3 e4 d0 d1 d2 d3 d4
            go_wp2_with fail
            go_roundw
            case rel => exact ⟨k + 1, by go_num, by omega, Lib.hid (by rw [HS1.out]; exact HA12.out), HT12⟩
            case measure => simp [intOf]; omega
    · obtain rfl : k = kl.length := by omega
      have HBR : Hid (Below w.heap.size w wr) := Lib.hid (HB4.out.trans (HTR.out.below HB4.out.size HFW.out))
      have hz0 : (restS st kl.length).flows.length = 0 := by show (st.flows.drop kl.length).length = 0; rw [List.length_drop, HLL.out]; omega
      have HO0 := Lib.hid (restS_ok HZ.out (show kl.length ≤ st.flows.length by rw [HLL.out]; omega))
      have HKE := Lib.hid (fun W (hA : AutoAt W ba F (restS st kl.length)) => keys_len hA HO0.out)
      have HGA := Lib.hid (fun W (hA : AutoAt W ba F (restS st kl.length)) => gate_len hA HO0.out)
      rw [hz0] at HKE HGA
      have g2 := field_gate1 (verW (restS st kl.length).g : Nat) 0 (clkW (restS st kl.length).g : Nat)
      generalize verW (restS st kl.length).g = gv at *
      generalize clkW (restS st kl.length).g = gc at *
      clear hz0
      generalize restS st kl.length = s0 at *
      go_wp2_with fail
      refine (awake18_any _ (HT.out _ HBR.out)).mono ?_
      rintro e w5 ⟨rfl, h5⟩
      have HA5 := Lib.hid (HAR.out.below h5)
      have HB5 := Lib.hid (below_then HBR.out h5)
      clear h5
      go_wp2_with fail
      refine (HKE.out _ HA5.out).mono ?_
      rintro e w6 ⟨⟨ka, kc2, rfl⟩, h6⟩
      have HA6 := Lib.hid (HA5.out.below h6)
      have HB6 := Lib.hid (below_then HB5.out h6)
      clear h6
      go_wp2_with fail
      refine (HGA.out _ HA6.out).mono ?_
      rintro e w7 ⟨rfl, h7⟩
      have HB7 := Lib.hid (below_then HB6.out h7)
      clear h7
      go_wp2_with fail
      go_ret
      exact ⟨rfl, HB7.out⟩
end Go.Proofs.YtahgapkecabnjaaGreatDoor
