/- The walk of the reference's Lines of layer 11. Printed by gen_textc.py. -/
import Derived.Test.YtfiddoibnjildaaGreatDoorTextB
namespace Go.Proofs.YtfiddoibnjildaaGreatDoor
set_option linter.unusedSimpArgs false
set_option linter.unusedVariables false
open Go Go.RowKit

theorem firstBad_app : ∀ (p r : List UInt8) (b : UInt8), (∀ x ∈ p, badB x = false) → badB b = true → firstBad (p ++ b :: r) = some p.length
  | [], r, b, _, hb => by simp [firstBad, hb]
  | x :: p, r, b, h, hb => by
    rw [List.cons_append, firstBad, h x (by simp), firstBad_app p r b (fun y hy => h y (by simp [hy])) hb]
    simp
theorem drop_at {s : ByteArray} {i : Nat} (h : i < s.size) : s.data.toList.drop i = s[i] :: s.data.toList.drop (i + 1) := by
  rw [List.drop_eq_getElem_cons (by simpa using h)]; simp; rfl
theorem firstBad_at {s : ByteArray} {k : Nat} (hk : k < s.size) (h : ∀ b ∈ s.data.toList.take k, badB b = false) (hb : badB s[k] = true) : firstBad s.data.toList = some k := by
  have hd : s.data.toList = s.data.toList.take k ++ s[k] :: s.data.toList.drop (k + 1) := by rw [← drop_at hk, List.take_append_drop]
  have hl : (s.data.toList.take k).length = k := by rw [List.length_take]; simp; omega
  rw [hd, firstBad_app _ _ _ h hb, hl]
theorem take_ok {s : ByteArray} {k : Nat} (hk : k < s.size) (h : ∀ b ∈ s.data.toList.take k, badB b = false) (hb : badB s[k] = false) : ∀ b ∈ s.data.toList.take (k + 1), badB b = false := by
  have : s.data.toList.take (k + 1) = s.data.toList.take k ++ [s[k]] := by rw [List.take_succ_eq_append_getElem (by simpa using hk)]; rfl
  rw [this]
  intro c hc
  rw [List.mem_append, List.mem_singleton] at hc
  rcases hc with hc | rfl
  · exact h c hc
  · exact hb
theorem count_snoc {s : ByteArray} {k : Nat} (hk : k < s.size) : Lib.countByte (s.data.toList.take (k + 1)) 10 = Lib.countByte (s.data.toList.take k) 10 + (if s[k] = 10 then 1 else 0) := by
  have : s.data.toList.take (k + 1) = s.data.toList.take k ++ [s[k]] := by rw [List.take_succ_eq_append_getElem (by simpa using hk)]; rfl
  rw [this]
  unfold Lib.countByte
  rw [List.count_append, List.count_singleton]
  simp

/-- How far the reference's second loop is. -/
structure RS (s : ByteArray) (i nn : Nat) (words : List (List UInt8)) (cur : List UInt8) (off : Bool) (done : List Ln) (fr : Int) : Prop where
  le : i ≤ s.size
  out : linesOf s.data.toList = done ++ mach nn words cur off (s.data.toList.drop i)
  cur : (fr = -1 ∧ cur = []) ∨ (off = false ∧ cur ≠ [] ∧ ∃ f : Nat, fr = f ∧ f < i ∧ cur = (s.extract f i).data.toList)
theorem RS.start {s : ByteArray} (h : firstBad s.data.toList = none) : RS s 0 1 [] [] false [] (-1) :=
  ⟨Nat.zero_le _, by rw [List.drop_zero, mach_lines _ _ 1 (Nat.le_refl _) (fun b hb => firstBad_none.1 h b hb)]; rfl, .inl ⟨rfl, rfl⟩⟩
theorem RS.last {s : ByteArray} {nn : Nat} {words : List (List UInt8)} {cur : List UInt8} {off : Bool} {done : List Ln} {fr : Int} (h : RS s s.size nn words cur off done fr) : linesOf s.data.toList = done ++ put nn (endW words cur) [] := by
  rw [h.out, List.drop_of_length_le (by simp)]; rfl
theorem RS.nl {s : ByteArray} {i nn : Nat} {words : List (List UInt8)} {cur : List UInt8} {off : Bool} {done : List Ln} {fr : Int} (h : RS s i nn words cur off done fr) (hi : i < s.size) (hb : s[i] = 10) : RS s (i + 1) (nn + 1) [] [] false (done ++ put nn (endW words cur) []) (-1) := by
  refine ⟨hi, ?_, .inl ⟨rfl, rfl⟩⟩
  rw [h.out, drop_at hi, hb]
  simp only [mach, if_true]
  unfold put
  split <;> simp
theorem RS.blank {s : ByteArray} {i nn : Nat} {words : List (List UInt8)} {cur : List UInt8} {off : Bool} {done : List Ln} {fr : Int} (h : RS s i nn words cur off done fr) (hi : i < s.size) (hb : s[i] = 32) : RS s (i + 1) nn (endW words cur) [] off done (-1) := by
  refine ⟨hi, ?_, .inl ⟨rfl, rfl⟩⟩
  rw [h.out, drop_at hi, hb]
  simp only [mach]
  rw [if_neg (by decide), if_pos trivial]
theorem RS.hash {s : ByteArray} {i nn : Nat} {words : List (List UInt8)} {cur : List UInt8} {off : Bool} {done : List Ln} {fr : Int} (h : RS s i nn words cur off done fr) (hi : i < s.size) (hb : s[i] = 35) : RS s (i + 1) nn (endW words cur) [] true done (-1) := by
  refine ⟨hi, ?_, .inl ⟨rfl, rfl⟩⟩
  rw [h.out, drop_at hi, hb]
  simp only [mach]
  rw [if_neg (by decide), if_neg (by decide), if_pos trivial]
theorem RS.skip {s : ByteArray} {i nn : Nat} {words : List (List UInt8)} {done : List Ln} {fr : Int} (h : RS s i nn words [] true done fr) (hi : i < s.size) (h1 : s[i] ≠ 10) (h2 : s[i] ≠ 32) (h3 : s[i] ≠ 35) : RS s (i + 1) nn words [] true done fr := by
  refine ⟨hi, ?_, ?_⟩
  · rw [h.out, drop_at hi]
    simp only [mach]
    rw [if_neg h1, if_neg h2, if_neg h3]; rfl
  · rcases h.cur with h | ⟨_, h, _⟩
    · exact .inl h
    · exact absurd rfl h
theorem extract_snoc {s : ByteArray} {f i : Nat} (hf : f ≤ i) (hi : i < s.size) : (s.extract f (i + 1)).data.toList = (s.extract f i).data.toList ++ [s[i]] := by
  rw [Lib.extract_data, Lib.extract_data, show i + 1 - f = (i - f) + 1 by omega, List.take_add_one, List.getElem?_drop, show f + (i - f) = i by omega]
  have : s.data.toList[i]? = some s[i] := by rw [List.getElem?_eq_getElem (by simpa using hi)]; simp; rfl
  rw [this]; rfl
theorem RS.first {s : ByteArray} {i nn : Nat} {words : List (List UInt8)} {done : List Ln} {fr : Int} (h : RS s i nn words [] false done fr) (hi : i < s.size) (h1 : s[i] ≠ 10) (h2 : s[i] ≠ 32) (h3 : s[i] ≠ 35) : RS s (i + 1) nn words [s[i]] false done i := by
  refine ⟨hi, ?_, .inr ⟨rfl, by simp, i, rfl, by omega, ?_⟩⟩
  · rw [h.out, drop_at hi]
    simp only [mach]
    rw [if_neg h1, if_neg h2, if_neg h3]; rfl
  · rw [extract_snoc (Nat.le_refl _) hi, Lib.extract_data]; simp
theorem RS.more {s : ByteArray} {i nn : Nat} {words : List (List UInt8)} {cur : List UInt8} {done : List Ln} {f : Nat} (h : RS s i nn words cur false done f) (hc : cur ≠ []) (hi : i < s.size) (h1 : s[i] ≠ 10) (h2 : s[i] ≠ 32) (h3 : s[i] ≠ 35) : RS s (i + 1) nn words (cur ++ [s[i]]) false done f := by
  refine ⟨hi, ?_, ?_⟩
  · rw [h.out, drop_at hi]
    simp only [mach]
    rw [if_neg h1, if_neg h2, if_neg h3]; rfl
  · rcases h.cur with ⟨_, h⟩ | ⟨_, _, f', e, hf, hcur⟩
    · exact absurd h hc
    · have e' : f = f' := by omega
      subst e'
      exact .inr ⟨rfl, by simp, f, rfl, by omega, by rw [extract_snoc (by omega) hi, ← hcur]⟩

theorem word_step {w1 w2 : World} {base : Nat} {v7 v8 v8' : Value} {done : List Ln} (hbd : Build (fun b => v8.ownBlock ≠ some b) w1 base v7 done) (hsep : ∀ b, v8.ownBlock = some b → v7.ownBlock ≠ some b)
    (hg : w1.grownBy w2 v8.ownBlock) (hloc : v8'.ownBlock = v8.ownBlock ∨ v8'.ownBlock = some w1.heap.size) : Build (fun b => v8'.ownBlock ≠ some b) w2 base v7 done ∧ (∀ b, v8'.ownBlock = some b → v7.ownBlock ≠ some b) := by
  obtain ⟨cs, _, ho, _⟩ := id hbd
  have hlt := owns_lt ho
  constructor
  · refine hbd.keep hg ?_ fun b hb hp => ⟨?_, fun e => hp e.symm⟩
    · cases h7 : v7.ownBlock with
      | none => exact .inl rfl
      | some b => exact .inr (fun e => hsep b e.symm (by rw [h7]))
    · rcases hloc with h | h
      · rw [h]; exact hp
      · rw [h]; intro e; injection e with e; omega
  · intro b hb e
    rcases hloc with h | h
    · rw [h] at hb; exact hsep b hb e
    · rw [h] at hb; injection hb with hb; have := hlt b e; omega
theorem words_of_owns {P : Nat → Prop} {w : World} {base : Nat} {v : Value} {ws : List (List UInt8)} (h : w.ownsRow base 9 1 v ws.length (ws.map str)) (hP : ∀ b, v.ownBlock = some b → P b) : WordsIn P w v ws := by
  obtain ⟨a, c, rfl, hc⟩ := row_form (Row_of_owns h)
  refine ⟨a, c, rfl, owns_cap h, fun j x hj => ?_⟩
  obtain ⟨g, rfl, hcell, _⟩ := hc j (str x) (by rw [List.getElem?_map, hj]; rfl)
  exact ⟨g, 0, rfl, hP g rfl, by rw [Nat.zero_add]; exact hcell⟩
theorem ownBlock_fresh {n b : Nat} (h : (Value.slice (some ⟨n, 0, none⟩) 0 0).ownBlock = some b) : b = n := by cases h; rfl
/-- A line is put behind the others, and new words begin. -/
theorem line_step {w1 w2 : World} {base : Nat} {v7' : Value} {done : List Ln} (hbd : Build (fun _ => True) w1 base v7' done) (T : TypeId) (h2 : w2 = w1.alloc (.cells #[] T)) :
    Build (fun b => (Value.slice (some ⟨w1.heap.size, 0, none⟩) 0 0).ownBlock ≠ some b) w2 base v7' done ∧ (∀ b, (Value.slice (some ⟨w1.heap.size, 0, none⟩) 0 0).ownBlock = some b → v7'.ownBlock ≠ some b) := by
  subst h2
  obtain ⟨cs, _, ho, _⟩ := id hbd
  have hlt := owns_lt ho
  refine ⟨?_, fun b hb e => by have h1 := hlt _ e; have h2 := ownBlock_fresh hb; omega⟩
  have h3 := hbd.weaken (Q := fun b => b < w1.heap.size) fun b hb _ => hb
  exact (h3.below ((Below.refl _ _).alloc (Nat.le_refl _) _)).weaken fun b _ hb e => by have := ownBlock_fresh e; omega
theorem owns_fresh (w : World) (base : Nat) (e : TypeId) (size : Nat) (hb : base ≤ w.heap.size) : (w.alloc (.cells #[] e)).ownsRow base e size (.slice (some ⟨w.heap.size, 0, none⟩) 0 0) 0 [] :=
  ⟨by simp, .inr ⟨w.heap.size, 0, #[], rfl, hb, by unfold World.alloc; simp, Nat.le_refl _, Nat.zero_le _, by simp, by simp⟩⟩
theorem build_fresh (P : Nat → Prop) (w : World) (base : Nat) (hb : base ≤ w.heap.size) : Build P (w.alloc (.cells #[] 36)) base (.slice (some ⟨w.heap.size, 0, none⟩) 0 0) [] :=
  ⟨[], rfl, owns_fresh w base _ 2 hb, fun i l c hi => by simp at hi⟩
theorem byte_ne {b : UInt8} {k : Nat} {c : UInt8} (h : b ≠ c) (hk : c.toNat = k := by rfl) : ((b.toNat : Int) == (k : Int)) = false := by
  rw [beq_eq_false_iff_ne]; intro e; exact h (UInt8.toNat_inj.1 (by omega))

set_option maxHeartbeats 8000000 in
set_option maxRecDepth 100000 in
theorem refLines_any (s : ByteArray) (w : World) (hs : s.size ≤ 140737488351232) :
    Calls Tryz.prog 10 #[.string s] w (LinesPost (textF s.data.toList) w) := by
  by_cases hlong : 4096 < s.size
  · have hv : Hid (textF s.data.toList = ([], 0, 2)) := Lib.hid (by unfold textF; rw [if_pos (by rw [Array.length_toList]; exact hlong)])
    go_enter Tryz.func10, Tryz.ntmps10
    go_wp2_with fail
    go_ret3
    exact lines_end (by first | (rw [hv.out]; done) | (rw [hv.out]; rfl)) (by rw [hv.out]) (by rw [hv.out]; exact lines_nil _) (Below.refl _ _)
  · have hl' : ¬ 4096 < s.data.toList.length := by rw [Array.length_toList]; exact hlong
    go_enter Tryz.func10, Tryz.ntmps10
    go_wp2_with fail
    go_loop [5, 6] (fun n i => ∃ k m : Nat, k ≤ s.size ∧ m ≤ k + 1 ∧ i = .int .i64 k ∧ n = .int .i64 m ∧ Hid (m = 1 + Lib.countByte (s.data.toList.take k) 10) ∧ Hid (∀ b ∈ s.data.toList.take k, badB b = false)) (fun _ i => s.size - (intOf i).toNat)
    case atStart => exact ⟨0, 1, Nat.zero_le _, by omega, rfl, rfl, Lib.hid rfl, Lib.hid (by simp)⟩
    case round =>
      obtain ⟨k, m, hk, hmk, rfl, rfl, hm, hd⟩ := hrel
      by_cases hlt : k < s.size
      · have hcs := count_snoc hlt
        cases hbb : badB s[k] with
        | false =>
          have HD := Lib.hid (take_ok hlt hd.out hbb)
          by_cases h10 : s[k] = 10
          · have HM : Hid (m + 1 = 1 + Lib.countByte (s.data.toList.take (k + 1)) 10) := Lib.hid (by rw [hcs, if_pos h10]; have := hm.out; omega)
            have hq : ((s[k].toNat : Int) == 10) = true := by rw [h10]; rfl
            clear hcs hbb h10
            go_wp2
            go_round
            case rel => exact ⟨k + 1, m + 1, by omega, by omega, by go_num, by go_num, HM, HD⟩
            case measure => first | (simp [intOf]; omega) | (simp [intOf]; done)
          · have HM : Hid (m = 1 + Lib.countByte (s.data.toList.take (k + 1)) 10) := Lib.hid (by rw [hcs, if_neg h10]; have := hm.out; omega)
            have hq : ((s[k].toNat : Int) == 10) = false := by
              rw [beq_eq_false_iff_ne]; intro e; exact h10 (UInt8.toNat_inj.1 (by have : (10 : UInt8).toNat = 10 := rfl; omega))
            have hr := okB_range (show okB s[k] from hbb) h10
            have hr1 : 32 ≤ (s[k].toNat : Int) := by omega
            have hr2 : (s[k].toNat : Int) ≤ 126 := by omega
            clear hcs hbb h10 hr
            go_wp2
            go_round
            case rel => exact ⟨k + 1, m, by omega, by omega, by go_num, rfl, HM, HD⟩
            case measure => first | (simp [intOf]; omega) | (simp [intOf]; done)
        | true =>
          have hfb := firstBad_at hlt hd.out hbb
          have hv : Hid (textF s.data.toList = ([], m, 3)) := Lib.hid (by unfold textF; rw [if_neg hl', hfb]; simp only; rw [hm.out])
          have h10 : s[k] ≠ 10 := by intro e; rw [e] at hbb; revert hbb; decide
          have hq : ((s[k].toNat : Int) == 10) = false := by
            rw [beq_eq_false_iff_ne]; intro e; exact h10 (UInt8.toNat_inj.1 (by have : (10 : UInt8).toNat = 10 := rfl; omega))
          have hr : (s[k].toNat : Int) < 32 ∨ (32 ≤ (s[k].toNat : Int) ∧ 126 < (s[k].toNat : Int)) := by
            unfold badB at hbb
            have h1 : (s[k] != 10) = true := by simpa using h10
            rw [h1] at hbb
            simp only [Bool.true_and, Bool.or_eq_true, decide_eq_true_iff] at hbb
            omega
          clear hcs hbb h10 hfb
          rcases hr with hr | ⟨hr, hr2⟩
          all_goals
            go_wp2
            go_ret3
            exact lines_end (by first | (rw [hv.out]; done) | (rw [hv.out]; rfl)) (by rw [hv.out]) (by rw [hv.out]; exact lines_nil _) (Below.refl _ _)
      · obtain rfl : k = s.size := by omega
        have hnb : firstBad s.data.toList = none := by
          have := hd.out
          rw [List.take_of_length_le (by simp)] at this
          exact firstBad_none.2 this
        have HV : Hid (textF s.data.toList = (linesOf s.data.toList, 0, 0)) := Lib.hid (by unfold textF; rw [if_neg hl', hnb])
        have HST0 := Lib.hid (RS.start hnb)
        have hsz : s.size ≤ 4096 := by omega
        have hbf := build_fresh (fun b => (Value.slice (some ⟨w.heap.size + 1, 0, none⟩) 0 0).ownBlock ≠ some b) w w.heap.size (Nat.le_refl _)
        have hbf2 := hbf.below ((Below.refl _ _).alloc (Nat.le_refl _) (.cells #[] 9))
        have how := owns_fresh (w.alloc (.cells #[] 36)) w.heap.size 9 1 (by simp)
        have hse : (w.alloc (.cells #[] 36)).heap.size = w.heap.size + 1 := by simp
        rw [hse] at how
        have HBF := Lib.hid hbf2
        have HOW0 := Lib.hid how
        have HBB0 := Lib.hid (((Below.refl w.heap.size w).alloc (Nat.le_refl _) (.cells #[] 36)).alloc (by simp) (.cells #[] 9))
        clear hnb hl' hbf hbf2 how hse hm hd hmk
        go_wp2_with fail
        go_loopw [5, 7, 8, 9, 10, 11] (fun n v7 v8 f o i wr => ∃ (i' nn : Nat) (words : List (List UInt8)) (cur : List UInt8) (off : Bool) (done : List Ln) (fr : Int), i' ≤ s.size + 1 ∧ nn ≤ i' + 1 ∧ i = .int .i64 i' ∧ n = .int .i64 nn ∧ f = .int .i64 fr ∧ o = .bool off ∧ words.length ≤ i' ∧ done.length ≤ i' ∧
            Hid ((i' ≤ s.size ∧ RS s i' nn words cur off done fr) ∨ (i' = s.size + 1 ∧ linesOf s.data.toList = done)) ∧ Hid (Build (fun b => v8.ownBlock ≠ some b) wr w.heap.size v7 done) ∧ Hid (wr.ownsRow w.heap.size 9 1 v8 words.length (words.map str)) ∧
            Hid (∀ b, v8.ownBlock = some b → v7.ownBlock ≠ some b) ∧ Hid (Below w.heap.size w wr)) (fun _ _ _ _ _ i _ => s.size + 1 - (intOf i).toNat)
        case atStart => exact ⟨0, 1, [], [], false, [], -1, by omega, by omega, rfl, rfl, rfl, rfl, by simp, by simp, Lib.hid (.inl ⟨Nat.zero_le _, HST0.out⟩), HBF, HOW0, Lib.hid (by intro b hb e; have h1 := ownBlock_fresh hb; have h2 := ownBlock_fresh e; omega), HBB0⟩
        case round =>
          obtain ⟨i, nn, words, cur, off, done, fr, hi, hnn, rfl, rfl, rfl, rfl, hwl, hdl, hst, hbd, hown, hsep, hbb⟩ := hrel
          obtain ⟨i0, hi0, hz0, hz1, hz2⟩ := info_parts infoLine
          obtain ⟨i1, hi1, hy0, hy1, hy2⟩ := info_parts infoStr
          by_cases hle : i ≤ s.size
          · obtain ⟨_, hrs⟩ : i ≤ s.size ∧ RS s i nn words cur off done fr := by
              rcases hst.out with h | h
              · exact h
              · omega
            have HRS := Lib.hid hrs
            clear hrs hst
            by_cases hlt : i < s.size
            · by_cases hb : s[i] = 10
              · by_cases hcn : cur = []
                · have hfr : fr = -1 := by
                    rcases HRS.out.cur with h | h
                    · exact h.1
                    · exact absurd hcn h.2.1
                  subst hfr
                  by_cases hwn : words = []
                  · have hE := HRS.out.nl hlt hb
                    have heq : ((i : Int) == (s.size : Int)) = false := beq_eq_false_iff_ne.2 (by omega)
                    have hq : ((s[i].toNat : Int) == 10) = true := by rw [hb]; rfl
                    rw [show endW words cur = words from by unfold endW; rw [if_pos hcn]] at hE
                    rw [show put nn words [] = [] from by unfold put; rw [if_pos hwn], List.append_nil] at hE
                    have HE := Lib.hid hE
                    clear hE hb
                    have hwp : (words.length : Int) = 0 := by rw [hwn]; rfl
                    obtain ⟨av, cv, ev, _⟩ := row_form (Row_of_owns hown.out)
                    subst ev
                    have HBN3 := Lib.hid (hbd.out.weaken (Q := fun _ => True) fun _ _ _ => trivial)
                    have HFR4 := Lib.hid (line_step HBN3.out 9 rfl)
                    have HFO4 := Lib.hid (owns_fresh wr w.heap.size 9 1 hbb.out.size)
                    have HFB4 := Lib.hid (hbb.out.alloc hbb.out.size (.cells #[] 9))
                    go_wp2_with fail
                    go_roundw
                    case rel => exact ⟨i + 1, nn + 1, [], [], false, done, -1, by omega, by omega, by go_num, by go_num, rfl, rfl, by simp, by first | omega | (simp; omega) | (simp; done), Lib.hid (.inl ⟨by omega, HE.out⟩), Lib.hid HFR4.out.1, HFO4, Lib.hid HFR4.out.2, HFB4⟩
                    case measure => first | (simp [intOf]; omega) | (simp [intOf]; done)
                  · have hE := HRS.out.nl hlt hb
                    have heq : ((i : Int) == (s.size : Int)) = false := beq_eq_false_iff_ne.2 (by omega)
                    have hq : ((s[i].toNat : Int) == 10) = true := by rw [hb]; rfl
                    rw [show endW words cur = words from by unfold endW; rw [if_pos hcn]] at hE
                    rw [show put nn words [] = [(nn, words)] from by unfold put; rw [if_neg hwn]] at hE
                    have HE := Lib.hid hE
                    clear hE hb
                    have hwp : 0 < (words.length : Int) := by have : 0 < words.length := List.length_pos_iff.2 hwn; omega
                    obtain ⟨av, cv, ev, _⟩ := row_form (Row_of_owns hown.out)
                    subst ev
                    have hb3 : Below wr.heap.size wr (wr.alloc (.cells #[.int .i64 nn, (.slice av words.length cv)] 36)) := (Below.refl _ _).alloc (Nat.le_refl _) _
                    have HB3a := Lib.hid (hbd.out.below hb3)
                    have HO3a := Lib.hid (owns_below hown.out hb3)
                    have HBB3a := Lib.hid (hbb.out.trans (hb3.mono hbb.out.size))
                    obtain ⟨cs3, _, hro3, hst3⟩ := HB3a.out.form
                    have HRO3 := Lib.hid hro3
                    have HSTP3 := Lib.hid hst3
                    clear hb3 hro3 hst3
                    go_wp2_with (at_builtin; refine wpList_append_own_at _ rfl _ _ 31 rfl w.heap.size 36 i0 (.agg #[.int .i64 0, .slice none 0 0]) 2 32 Tryz.underlying31 hi0 hz0 hz1 hz2 rfl (by decide) _ done.length (flat done cs3) rfl HRO3.out ⟨wr.heap.size, 0, none⟩ 1 1 [.int .i64 nn, (.slice av words.length cv)] rfl rfl (cells_new _ [.int .i64 nn, (.slice av words.length cv)] _) (by intro u hu; simp at hu; rcases hu with rfl | rfl <;> rfl) (by unfold maxLen; omega) (by omega) HBB3a.out.size ?_; intro v7n w3 ho3 hg3 _ hl3; refine Hid.out ?_)
                    have HBN3 : Hid (Build (fun _ => True) w3 w.heap.size v7n (done ++ [(nn, words)])) := Lib.hid ((HSTP3.out v7n w3 hg3 nn words _ hl3 ho3 (words_of_owns HO3a.out hsep.out)).weaken fun _ _ _ => trivial)
                    have HBB3 := Lib.hid (HBB3a.out.grown hg3 HBB3a.out.size (owns_block HRO3.out))
                    clear ho3 hg3 hl3
                    refine Lib.hid ?_
                    have HFR4 := Lib.hid (line_step HBN3.out 9 rfl)
                    have HFO4 := Lib.hid (owns_fresh w3 w.heap.size 9 1 HBB3.out.size)
                    have HFB4 := Lib.hid (HBB3.out.alloc HBB3.out.size (.cells #[] 9))
                    go_wp2_with fail
                    go_roundw
                    case rel => exact ⟨i + 1, nn + 1, [], [], false, (done ++ [(nn, words)]), -1, by omega, by omega, by go_num, by go_num, rfl, rfl, by simp, by first | omega | (simp; omega) | (simp; done), Lib.hid (.inl ⟨by omega, HE.out⟩), Lib.hid HFR4.out.1, HFO4, Lib.hid HFR4.out.2, HFB4⟩
                    case measure => first | (simp [intOf]; omega) | (simp [intOf]; done)
                · obtain ⟨hof, _, f, hfr, hfi, hcx⟩ : off = false ∧ cur ≠ [] ∧ ∃ f : Nat, fr = f ∧ f < i ∧ cur = (s.extract f i).data.toList := by
                    rcases HRS.out.cur with h | h
                    · exact absurd h.2 hcn
                    · exact h
                  have HCX : Hid (Value.string (s.extract f i) = str cur) := Lib.hid (by rw [hcx])
                  clear hcx
                  subst hfr
                  have hE := HRS.out.nl hlt hb
                  have heq : ((i : Int) == (s.size : Int)) = false := beq_eq_false_iff_ne.2 (by omega)
                  have hq : ((s[i].toNat : Int) == 10) = true := by rw [hb]; rfl
                  rw [show endW words cur = words ++ [cur] from by unfold endW; rw [if_neg hcn]] at hE
                  rw [show put nn (words ++ [cur]) [] = [(nn, words ++ [cur])] from by unfold put; rw [if_neg (by simp)]] at hE
                  have HE := Lib.hid hE
                  clear hE hb
                  have hf0 : (0 : Int) ≤ f := by omega
                  have hb2 : Below wr.heap.size wr (wr.alloc (.cells #[.string (s.extract f i)] 9)) := (Below.refl _ _).alloc (Nat.le_refl _) _
                  have HB2a := Lib.hid (hbd.out.below hb2)
                  have HO2a := Lib.hid (owns_below hown.out hb2)
                  have HBB2a := Lib.hid (hbb.out.trans (hb2.mono hbb.out.size))
                  clear hb2
                  go_wp2_with (at_builtin; refine wpList_append_own_at _ rfl _ _ 34 rfl w.heap.size 9 i1 (.string ByteArray.empty) 1 16 Tryz.underlying34 hi1 hy0 hy1 hy2 rfl (by decide) _ words.length (words.map str) rfl HO2a.out ⟨wr.heap.size, 0, none⟩ 1 1 [.string (s.extract f i)] rfl rfl (cells_new _ [.string (s.extract f i)] _) (by intro u hu; simp at hu; subst hu; rfl) (by unfold maxLen; omega) (by omega) HBB2a.out.size ?_; intro v8n w2 ho2 hg2 _ hl2; refine Hid.out ?_)
                  have HSTEP2 := Lib.hid (word_step HB2a.out hsep.out hg2 hl2)
                  have HBB2 := Lib.hid (HBB2a.out.grown hg2 HBB2a.out.size (owns_block HO2a.out))
                  have HO2 : Hid (w2.ownsRow w.heap.size 9 1 v8n (words ++ [cur]).length ((words ++ [cur]).map str)) := Lib.hid (by
                    rw [List.length_append, List.map_append]
                    have := ho2
                    rw [HCX.out] at this
                    exact this)
                  have HBN2 := Lib.hid HSTEP2.out.1
                  have HSP2 := Lib.hid HSTEP2.out.2
                  clear ho2 hg2 hl2 HSTEP2
                  refine Lib.hid ?_
                  have hn2 : 0 < (words ++ [cur]).length ∧ (words ++ [cur]).length ≤ words.length + 1 := by simp
                  generalize words ++ [cur] = ws2 at HE HO2 hn2
                  obtain ⟨hn2, hn3⟩ := hn2
                  have hwp : 0 < (ws2.length : Int) := by omega
                  obtain ⟨av, cv, ev, _⟩ := row_form (Row_of_owns HO2.out)
                  subst ev
                  have hb3 : Below w2.heap.size w2 (w2.alloc (.cells #[.int .i64 nn, (.slice av ws2.length cv)] 36)) := (Below.refl _ _).alloc (Nat.le_refl _) _
                  have HB3a := Lib.hid (HBN2.out.below hb3)
                  have HO3a := Lib.hid (owns_below HO2.out hb3)
                  have HBB3a := Lib.hid (HBB2.out.trans (hb3.mono HBB2.out.size))
                  obtain ⟨cs3, _, hro3, hst3⟩ := HB3a.out.form
                  have HRO3 := Lib.hid hro3
                  have HSTP3 := Lib.hid hst3
                  clear hb3 hro3 hst3
                  go_wp2_with (at_builtin; refine wpList_append_own_at _ rfl _ _ 31 rfl w.heap.size 36 i0 (.agg #[.int .i64 0, .slice none 0 0]) 2 32 Tryz.underlying31 hi0 hz0 hz1 hz2 rfl (by decide) _ done.length (flat done cs3) rfl HRO3.out ⟨w2.heap.size, 0, none⟩ 1 1 [.int .i64 nn, (.slice av ws2.length cv)] rfl rfl (cells_new _ [.int .i64 nn, (.slice av ws2.length cv)] _) (by intro u hu; simp at hu; rcases hu with rfl | rfl <;> rfl) (by unfold maxLen; omega) (by omega) HBB3a.out.size ?_; intro v7n w3 ho3 hg3 _ hl3; refine Hid.out ?_)
                  have HBN3 : Hid (Build (fun _ => True) w3 w.heap.size v7n (done ++ [(nn, ws2)])) := Lib.hid ((HSTP3.out v7n w3 hg3 nn ws2 _ hl3 ho3 (words_of_owns HO3a.out HSP2.out)).weaken fun _ _ _ => trivial)
                  have HBB3 := Lib.hid (HBB3a.out.grown hg3 HBB3a.out.size (owns_block HRO3.out))
                  clear ho3 hg3 hl3
                  refine Lib.hid ?_
                  have HFR4 := Lib.hid (line_step HBN3.out 9 rfl)
                  have HFO4 := Lib.hid (owns_fresh w3 w.heap.size 9 1 HBB3.out.size)
                  have HFB4 := Lib.hid (HBB3.out.alloc HBB3.out.size (.cells #[] 9))
                  go_wp2_with fail
                  go_roundw
                  case rel => exact ⟨i + 1, nn + 1, [], [], false, (done ++ [(nn, ws2)]), -1, by omega, by omega, by go_num, by go_num, rfl, rfl, by simp, by first | omega | (simp; omega) | (simp; done), Lib.hid (.inl ⟨by omega, HE.out⟩), Lib.hid HFR4.out.1, HFO4, Lib.hid HFR4.out.2, HFB4⟩
                  case measure => first | (simp [intOf]; omega) | (simp [intOf]; done)
              · have h10 := hb
                clear hb
                by_cases hb : s[i] = 32
                · by_cases hcn : cur = []
                  · have hfr : fr = -1 := by
                      rcases HRS.out.cur with h | h
                      · exact h.1
                      · exact absurd hcn h.2.1
                    subst hfr
                    have hE := HRS.out.blank hlt hb
                    have heq : ((i : Int) == (s.size : Int)) = false := beq_eq_false_iff_ne.2 (by omega)
                    have hq : ((s[i].toNat : Int) == 10) = false := by rw [hb]; rfl
                    have hq2 : ((s[i].toNat : Int) == 32) = true := by rw [hb]; rfl
                    have hq4 : ((s[i].toNat : Int) != 32) = false := by rw [hb]; rfl
                    have hq3 : ((s[i].toNat : Int) == 35) = false := by rw [hb]; rfl
                    rw [show endW words cur = words from by unfold endW; rw [if_pos hcn]] at hE
                    have HE := Lib.hid hE
                    clear hE hb
                    go_wp2_with fail
                    go_roundw
                    case rel => exact ⟨i + 1, nn, words, [], off, done, -1, by omega, by omega, by go_num, rfl, rfl, rfl, by first | omega | (simp; omega) | (simp; done), by omega, Lib.hid (.inl ⟨by omega, HE.out⟩), hbd, hown, hsep, hbb⟩
                    case measure => first | (simp [intOf]; omega) | (simp [intOf]; done)
                  · obtain ⟨hof, _, f, hfr, hfi, hcx⟩ : off = false ∧ cur ≠ [] ∧ ∃ f : Nat, fr = f ∧ f < i ∧ cur = (s.extract f i).data.toList := by
                      rcases HRS.out.cur with h | h
                      · exact absurd h.2 hcn
                      · exact h
                    have HCX : Hid (Value.string (s.extract f i) = str cur) := Lib.hid (by rw [hcx])
                    clear hcx
                    subst hfr
                    subst hof
                    have hE := HRS.out.blank hlt hb
                    have heq : ((i : Int) == (s.size : Int)) = false := beq_eq_false_iff_ne.2 (by omega)
                    have hq : ((s[i].toNat : Int) == 10) = false := by rw [hb]; rfl
                    have hq2 : ((s[i].toNat : Int) == 32) = true := by rw [hb]; rfl
                    have hq4 : ((s[i].toNat : Int) != 32) = false := by rw [hb]; rfl
                    have hq3 : ((s[i].toNat : Int) == 35) = false := by rw [hb]; rfl
                    rw [show endW words cur = words ++ [cur] from by unfold endW; rw [if_neg hcn]] at hE
                    have HE := Lib.hid hE
                    clear hE hb
                    have hf0 : (0 : Int) ≤ f := by omega
                    have hb2 : Below wr.heap.size wr (wr.alloc (.cells #[.string (s.extract f i)] 9)) := (Below.refl _ _).alloc (Nat.le_refl _) _
                    have HB2a := Lib.hid (hbd.out.below hb2)
                    have HO2a := Lib.hid (owns_below hown.out hb2)
                    have HBB2a := Lib.hid (hbb.out.trans (hb2.mono hbb.out.size))
                    clear hb2
                    go_wp2_with (at_builtin; refine wpList_append_own_at _ rfl _ _ 34 rfl w.heap.size 9 i1 (.string ByteArray.empty) 1 16 Tryz.underlying34 hi1 hy0 hy1 hy2 rfl (by decide) _ words.length (words.map str) rfl HO2a.out ⟨wr.heap.size, 0, none⟩ 1 1 [.string (s.extract f i)] rfl rfl (cells_new _ [.string (s.extract f i)] _) (by intro u hu; simp at hu; subst hu; rfl) (by unfold maxLen; omega) (by omega) HBB2a.out.size ?_; intro v8n w2 ho2 hg2 _ hl2; refine Hid.out ?_)
                    have HSTEP2 := Lib.hid (word_step HB2a.out hsep.out hg2 hl2)
                    have HBB2 := Lib.hid (HBB2a.out.grown hg2 HBB2a.out.size (owns_block HO2a.out))
                    have HO2 : Hid (w2.ownsRow w.heap.size 9 1 v8n (words ++ [cur]).length ((words ++ [cur]).map str)) := Lib.hid (by
                      rw [List.length_append, List.map_append]
                      have := ho2
                      rw [HCX.out] at this
                      exact this)
                    have HBN2 := Lib.hid HSTEP2.out.1
                    have HSP2 := Lib.hid HSTEP2.out.2
                    clear ho2 hg2 hl2 HSTEP2
                    refine Lib.hid ?_
                    go_wp2_with fail
                    go_roundw
                    case rel => exact ⟨i + 1, nn, (words ++ [cur]), [], false, done, -1, by omega, by omega, by go_num, rfl, rfl, rfl, by first | omega | (simp; omega) | (simp; done), by omega, Lib.hid (.inl ⟨by omega, HE.out⟩), HBN2, HO2, HSP2, HBB2⟩
                    case measure => first | (simp [intOf]; omega) | (simp [intOf]; done)
                · have h32 := hb
                  clear hb
                  by_cases hb : s[i] = 35
                  · by_cases hcn : cur = []
                    · have hfr : fr = -1 := by
                        rcases HRS.out.cur with h | h
                        · exact h.1
                        · exact absurd hcn h.2.1
                      subst hfr
                      have hE := HRS.out.hash hlt hb
                      have heq : ((i : Int) == (s.size : Int)) = false := beq_eq_false_iff_ne.2 (by omega)
                      have hq : ((s[i].toNat : Int) == 10) = false := by rw [hb]; rfl
                      have hq2 : ((s[i].toNat : Int) == 32) = false := by rw [hb]; rfl
                      have hq4 : ((s[i].toNat : Int) != 32) = true := by rw [hb]; rfl
                      have hq3 : ((s[i].toNat : Int) == 35) = true := by rw [hb]; rfl
                      rw [show endW words cur = words from by unfold endW; rw [if_pos hcn]] at hE
                      have HE := Lib.hid hE
                      clear hE hb
                      go_wp2_with fail
                      go_roundw
                      case rel => exact ⟨i + 1, nn, words, [], true, done, -1, by omega, by omega, by go_num, rfl, rfl, rfl, by first | omega | (simp; omega) | (simp; done), by omega, Lib.hid (.inl ⟨by omega, HE.out⟩), hbd, hown, hsep, hbb⟩
                      case measure => first | (simp [intOf]; omega) | (simp [intOf]; done)
                    · obtain ⟨hof, _, f, hfr, hfi, hcx⟩ : off = false ∧ cur ≠ [] ∧ ∃ f : Nat, fr = f ∧ f < i ∧ cur = (s.extract f i).data.toList := by
                        rcases HRS.out.cur with h | h
                        · exact absurd h.2 hcn
                        · exact h
                      have HCX : Hid (Value.string (s.extract f i) = str cur) := Lib.hid (by rw [hcx])
                      clear hcx
                      subst hfr
                      subst hof
                      have hE := HRS.out.hash hlt hb
                      have heq : ((i : Int) == (s.size : Int)) = false := beq_eq_false_iff_ne.2 (by omega)
                      have hq : ((s[i].toNat : Int) == 10) = false := by rw [hb]; rfl
                      have hq2 : ((s[i].toNat : Int) == 32) = false := by rw [hb]; rfl
                      have hq4 : ((s[i].toNat : Int) != 32) = true := by rw [hb]; rfl
                      have hq3 : ((s[i].toNat : Int) == 35) = true := by rw [hb]; rfl
                      rw [show endW words cur = words ++ [cur] from by unfold endW; rw [if_neg hcn]] at hE
                      have HE := Lib.hid hE
                      clear hE hb
                      have hf0 : (0 : Int) ≤ f := by omega
                      have hb2 : Below wr.heap.size wr (wr.alloc (.cells #[.string (s.extract f i)] 9)) := (Below.refl _ _).alloc (Nat.le_refl _) _
                      have HB2a := Lib.hid (hbd.out.below hb2)
                      have HO2a := Lib.hid (owns_below hown.out hb2)
                      have HBB2a := Lib.hid (hbb.out.trans (hb2.mono hbb.out.size))
                      clear hb2
                      go_wp2_with (at_builtin; refine wpList_append_own_at _ rfl _ _ 34 rfl w.heap.size 9 i1 (.string ByteArray.empty) 1 16 Tryz.underlying34 hi1 hy0 hy1 hy2 rfl (by decide) _ words.length (words.map str) rfl HO2a.out ⟨wr.heap.size, 0, none⟩ 1 1 [.string (s.extract f i)] rfl rfl (cells_new _ [.string (s.extract f i)] _) (by intro u hu; simp at hu; subst hu; rfl) (by unfold maxLen; omega) (by omega) HBB2a.out.size ?_; intro v8n w2 ho2 hg2 _ hl2; refine Hid.out ?_)
                      have HSTEP2 := Lib.hid (word_step HB2a.out hsep.out hg2 hl2)
                      have HBB2 := Lib.hid (HBB2a.out.grown hg2 HBB2a.out.size (owns_block HO2a.out))
                      have HO2 : Hid (w2.ownsRow w.heap.size 9 1 v8n (words ++ [cur]).length ((words ++ [cur]).map str)) := Lib.hid (by
                        rw [List.length_append, List.map_append]
                        have := ho2
                        rw [HCX.out] at this
                        exact this)
                      have HBN2 := Lib.hid HSTEP2.out.1
                      have HSP2 := Lib.hid HSTEP2.out.2
                      clear ho2 hg2 hl2 HSTEP2
                      refine Lib.hid ?_
                      go_wp2_with fail
                      go_roundw
                      case rel => exact ⟨i + 1, nn, (words ++ [cur]), [], true, done, -1, by omega, by omega, by go_num, rfl, rfl, rfl, by first | omega | (simp; omega) | (simp; done), by omega, Lib.hid (.inl ⟨by omega, HE.out⟩), HBN2, HO2, HSP2, HBB2⟩
                      case measure => first | (simp [intOf]; omega) | (simp [intOf]; done)
                  · have h35 := hb
                    clear hb
                    by_cases hcn : cur = []
                    · have hfr : fr = -1 := by
                        rcases HRS.out.cur with h | h
                        · exact h.1
                        · exact absurd hcn h.2.1
                      subst hfr
                      subst hcn
                      cases off with
                      | true =>
                        have hE := HRS.out.skip hlt h10 h32 h35
                        have heq : ((i : Int) == (s.size : Int)) = false := beq_eq_false_iff_ne.2 (by omega)
                        have hq : ((s[i].toNat : Int) == 10) = false := byte_ne h10
                        have hq2 : ((s[i].toNat : Int) == 32) = false := byte_ne h32
                        have hq3 : ((s[i].toNat : Int) == 35) = false := byte_ne h35
                        have hq4 : ((s[i].toNat : Int) != 32) = true := by rw [bne_iff_ne]; intro e; rw [e] at hq2; cases hq2
                        have HE := Lib.hid hE
                        clear hE
                        go_wp2_with fail
                        go_roundw
                        case rel => exact ⟨i + 1, nn, words, [], true, done, -1, by omega, by omega, by go_num, rfl, rfl, rfl, by omega, by omega, Lib.hid (.inl ⟨by omega, HE.out⟩), hbd, hown, hsep, hbb⟩
                        case measure => first | (simp [intOf]; omega) | (simp [intOf]; done)
                      | false =>
                        have hE := HRS.out.first hlt h10 h32 h35
                        have heq : ((i : Int) == (s.size : Int)) = false := beq_eq_false_iff_ne.2 (by omega)
                        have hq : ((s[i].toNat : Int) == 10) = false := byte_ne h10
                        have hq2 : ((s[i].toNat : Int) == 32) = false := byte_ne h32
                        have hq3 : ((s[i].toNat : Int) == 35) = false := byte_ne h35
                        have hq4 : ((s[i].toNat : Int) != 32) = true := by rw [bne_iff_ne]; intro e; rw [e] at hq2; cases hq2
                        have HE := Lib.hid hE
                        clear hE
                        go_wp2_with fail
                        go_roundw
                        case rel => exact ⟨i + 1, nn, words, [s[i]], false, done, i, by omega, by omega, by go_num, rfl, rfl, rfl, by omega, by omega, Lib.hid (.inl ⟨by omega, HE.out⟩), hbd, hown, hsep, hbb⟩
                        case measure => first | (simp [intOf]; omega) | (simp [intOf]; done)
                    · obtain ⟨hof, _, f, hfr, hfi, hcx⟩ : off = false ∧ cur ≠ [] ∧ ∃ f : Nat, fr = f ∧ f < i ∧ cur = (s.extract f i).data.toList := by
                        rcases HRS.out.cur with h | h
                        · exact absurd h.2 hcn
                        · exact h
                      have HCX : Hid (Value.string (s.extract f i) = str cur) := Lib.hid (by rw [hcx])
                      clear hcx
                      subst hfr
                      subst hof
                      have hE := HRS.out.more hcn hlt h10 h32 h35
                      have heq : ((i : Int) == (s.size : Int)) = false := beq_eq_false_iff_ne.2 (by omega)
                      have hq : ((s[i].toNat : Int) == 10) = false := byte_ne h10
                      have hq2 : ((s[i].toNat : Int) == 32) = false := byte_ne h32
                      have hq3 : ((s[i].toNat : Int) == 35) = false := byte_ne h35
                      have hq4 : ((s[i].toNat : Int) != 32) = true := by rw [bne_iff_ne]; intro e; rw [e] at hq2; cases hq2
                      have HE := Lib.hid hE
                      clear hE
                      go_wp2_with fail
                      go_roundw
                      case rel => exact ⟨i + 1, nn, words, (cur ++ [s[i]]), false, done, f, by omega, by omega, by go_num, rfl, rfl, rfl, by omega, by omega, Lib.hid (.inl ⟨by omega, HE.out⟩), hbd, hown, hsep, hbb⟩
                      case measure => first | (simp [intOf]; omega) | (simp [intOf]; done)
            · by_cases hcn : cur = []
              · have hfr : fr = -1 := by
                  rcases HRS.out.cur with h | h
                  · exact h.1
                  · exact absurd hcn h.2.1
                subst hfr
                by_cases hwn : words = []
                · obtain rfl : i = s.size := by omega
                  have hE := HRS.out.last
                  have heq : ((s.size : Int) == (s.size : Int)) = true := by simp
                  rw [show endW words cur = words from by unfold endW; rw [if_pos hcn]] at hE
                  rw [show put nn words [] = [] from by unfold put; rw [if_pos hwn], List.append_nil] at hE
                  have HE := Lib.hid hE
                  clear hE
                  have hwp : (words.length : Int) = 0 := by rw [hwn]; rfl
                  obtain ⟨av, cv, ev, _⟩ := row_form (Row_of_owns hown.out)
                  subst ev
                  have HBN3 := Lib.hid (hbd.out.weaken (Q := fun _ => True) fun _ _ _ => trivial)
                  have HFR4 := Lib.hid (line_step HBN3.out 9 rfl)
                  have HFO4 := Lib.hid (owns_fresh wr w.heap.size 9 1 hbb.out.size)
                  have HFB4 := Lib.hid (hbb.out.alloc hbb.out.size (.cells #[] 9))
                  go_wp2_with fail
                  go_roundw
                  case rel => exact ⟨s.size + 1, nn + 1, [], [], false, done, -1, by omega, by omega, by go_num, by go_num, rfl, rfl, by simp, by first | omega | (simp; omega) | (simp; done), Lib.hid (.inr ⟨by omega, HE.out⟩), Lib.hid HFR4.out.1, HFO4, Lib.hid HFR4.out.2, HFB4⟩
                  case measure => first | (simp [intOf]; omega) | (simp [intOf]; done)
                · obtain rfl : i = s.size := by omega
                  have hE := HRS.out.last
                  have heq : ((s.size : Int) == (s.size : Int)) = true := by simp
                  rw [show endW words cur = words from by unfold endW; rw [if_pos hcn]] at hE
                  rw [show put nn words [] = [(nn, words)] from by unfold put; rw [if_neg hwn]] at hE
                  have HE := Lib.hid hE
                  clear hE
                  have hwp : 0 < (words.length : Int) := by have : 0 < words.length := List.length_pos_iff.2 hwn; omega
                  obtain ⟨av, cv, ev, _⟩ := row_form (Row_of_owns hown.out)
                  subst ev
                  have hb3 : Below wr.heap.size wr (wr.alloc (.cells #[.int .i64 nn, (.slice av words.length cv)] 36)) := (Below.refl _ _).alloc (Nat.le_refl _) _
                  have HB3a := Lib.hid (hbd.out.below hb3)
                  have HO3a := Lib.hid (owns_below hown.out hb3)
                  have HBB3a := Lib.hid (hbb.out.trans (hb3.mono hbb.out.size))
                  obtain ⟨cs3, _, hro3, hst3⟩ := HB3a.out.form
                  have HRO3 := Lib.hid hro3
                  have HSTP3 := Lib.hid hst3
                  clear hb3 hro3 hst3
                  go_wp2_with (at_builtin; refine wpList_append_own_at _ rfl _ _ 31 rfl w.heap.size 36 i0 (.agg #[.int .i64 0, .slice none 0 0]) 2 32 Tryz.underlying31 hi0 hz0 hz1 hz2 rfl (by decide) _ done.length (flat done cs3) rfl HRO3.out ⟨wr.heap.size, 0, none⟩ 1 1 [.int .i64 nn, (.slice av words.length cv)] rfl rfl (cells_new _ [.int .i64 nn, (.slice av words.length cv)] _) (by intro u hu; simp at hu; rcases hu with rfl | rfl <;> rfl) (by unfold maxLen; omega) (by omega) HBB3a.out.size ?_; intro v7n w3 ho3 hg3 _ hl3; refine Hid.out ?_)
                  have HBN3 : Hid (Build (fun _ => True) w3 w.heap.size v7n (done ++ [(nn, words)])) := Lib.hid ((HSTP3.out v7n w3 hg3 nn words _ hl3 ho3 (words_of_owns HO3a.out hsep.out)).weaken fun _ _ _ => trivial)
                  have HBB3 := Lib.hid (HBB3a.out.grown hg3 HBB3a.out.size (owns_block HRO3.out))
                  clear ho3 hg3 hl3
                  refine Lib.hid ?_
                  have HFR4 := Lib.hid (line_step HBN3.out 9 rfl)
                  have HFO4 := Lib.hid (owns_fresh w3 w.heap.size 9 1 HBB3.out.size)
                  have HFB4 := Lib.hid (HBB3.out.alloc HBB3.out.size (.cells #[] 9))
                  go_wp2_with fail
                  go_roundw
                  case rel => exact ⟨s.size + 1, nn + 1, [], [], false, (done ++ [(nn, words)]), -1, by omega, by omega, by go_num, by go_num, rfl, rfl, by simp, by first | omega | (simp; omega) | (simp; done), Lib.hid (.inr ⟨by omega, HE.out⟩), Lib.hid HFR4.out.1, HFO4, Lib.hid HFR4.out.2, HFB4⟩
                  case measure => first | (simp [intOf]; omega) | (simp [intOf]; done)
              · obtain ⟨hof, _, f, hfr, hfi, hcx⟩ : off = false ∧ cur ≠ [] ∧ ∃ f : Nat, fr = f ∧ f < i ∧ cur = (s.extract f i).data.toList := by
                  rcases HRS.out.cur with h | h
                  · exact absurd h.2 hcn
                  · exact h
                have HCX : Hid (Value.string (s.extract f i) = str cur) := Lib.hid (by rw [hcx])
                clear hcx
                subst hfr
                obtain rfl : i = s.size := by omega
                have hE := HRS.out.last
                have heq : ((s.size : Int) == (s.size : Int)) = true := by simp
                rw [show endW words cur = words ++ [cur] from by unfold endW; rw [if_neg hcn]] at hE
                rw [show put nn (words ++ [cur]) [] = [(nn, words ++ [cur])] from by unfold put; rw [if_neg (by simp)]] at hE
                have HE := Lib.hid hE
                clear hE
                have hf0 : (0 : Int) ≤ f := by omega
                have hb2 : Below wr.heap.size wr (wr.alloc (.cells #[.string (s.extract f s.size)] 9)) := (Below.refl _ _).alloc (Nat.le_refl _) _
                have HB2a := Lib.hid (hbd.out.below hb2)
                have HO2a := Lib.hid (owns_below hown.out hb2)
                have HBB2a := Lib.hid (hbb.out.trans (hb2.mono hbb.out.size))
                clear hb2
                go_wp2_with (at_builtin; refine wpList_append_own_at _ rfl _ _ 34 rfl w.heap.size 9 i1 (.string ByteArray.empty) 1 16 Tryz.underlying34 hi1 hy0 hy1 hy2 rfl (by decide) _ words.length (words.map str) rfl HO2a.out ⟨wr.heap.size, 0, none⟩ 1 1 [.string (s.extract f s.size)] rfl rfl (cells_new _ [.string (s.extract f s.size)] _) (by intro u hu; simp at hu; subst hu; rfl) (by unfold maxLen; omega) (by omega) HBB2a.out.size ?_; intro v8n w2 ho2 hg2 _ hl2; refine Hid.out ?_)
                have HSTEP2 := Lib.hid (word_step HB2a.out hsep.out hg2 hl2)
                have HBB2 := Lib.hid (HBB2a.out.grown hg2 HBB2a.out.size (owns_block HO2a.out))
                have HO2 : Hid (w2.ownsRow w.heap.size 9 1 v8n (words ++ [cur]).length ((words ++ [cur]).map str)) := Lib.hid (by
                  rw [List.length_append, List.map_append]
                  have := ho2
                  rw [HCX.out] at this
                  exact this)
                have HBN2 := Lib.hid HSTEP2.out.1
                have HSP2 := Lib.hid HSTEP2.out.2
                clear ho2 hg2 hl2 HSTEP2
                refine Lib.hid ?_
                have hn2 : 0 < (words ++ [cur]).length ∧ (words ++ [cur]).length ≤ words.length + 1 := by simp
                generalize words ++ [cur] = ws2 at HE HO2 hn2
                obtain ⟨hn2, hn3⟩ := hn2
                have hwp : 0 < (ws2.length : Int) := by omega
                obtain ⟨av, cv, ev, _⟩ := row_form (Row_of_owns HO2.out)
                subst ev
                have hb3 : Below w2.heap.size w2 (w2.alloc (.cells #[.int .i64 nn, (.slice av ws2.length cv)] 36)) := (Below.refl _ _).alloc (Nat.le_refl _) _
                have HB3a := Lib.hid (HBN2.out.below hb3)
                have HO3a := Lib.hid (owns_below HO2.out hb3)
                have HBB3a := Lib.hid (HBB2.out.trans (hb3.mono HBB2.out.size))
                obtain ⟨cs3, _, hro3, hst3⟩ := HB3a.out.form
                have HRO3 := Lib.hid hro3
                have HSTP3 := Lib.hid hst3
                clear hb3 hro3 hst3
                go_wp2_with (at_builtin; refine wpList_append_own_at _ rfl _ _ 31 rfl w.heap.size 36 i0 (.agg #[.int .i64 0, .slice none 0 0]) 2 32 Tryz.underlying31 hi0 hz0 hz1 hz2 rfl (by decide) _ done.length (flat done cs3) rfl HRO3.out ⟨w2.heap.size, 0, none⟩ 1 1 [.int .i64 nn, (.slice av ws2.length cv)] rfl rfl (cells_new _ [.int .i64 nn, (.slice av ws2.length cv)] _) (by intro u hu; simp at hu; rcases hu with rfl | rfl <;> rfl) (by unfold maxLen; omega) (by omega) HBB3a.out.size ?_; intro v7n w3 ho3 hg3 _ hl3; refine Hid.out ?_)
                have HBN3 : Hid (Build (fun _ => True) w3 w.heap.size v7n (done ++ [(nn, ws2)])) := Lib.hid ((HSTP3.out v7n w3 hg3 nn ws2 _ hl3 ho3 (words_of_owns HO3a.out HSP2.out)).weaken fun _ _ _ => trivial)
                have HBB3 := Lib.hid (HBB3a.out.grown hg3 HBB3a.out.size (owns_block HRO3.out))
                clear ho3 hg3 hl3
                refine Lib.hid ?_
                have HFR4 := Lib.hid (line_step HBN3.out 9 rfl)
                have HFO4 := Lib.hid (owns_fresh w3 w.heap.size 9 1 HBB3.out.size)
                have HFB4 := Lib.hid (HBB3.out.alloc HBB3.out.size (.cells #[] 9))
                go_wp2_with fail
                go_roundw
                case rel => exact ⟨s.size + 1, nn + 1, [], [], false, (done ++ [(nn, ws2)]), -1, by omega, by omega, by go_num, by go_num, rfl, rfl, by simp, by first | omega | (simp; omega) | (simp; done), Lib.hid (.inr ⟨by omega, HE.out⟩), Lib.hid HFR4.out.1, HFO4, Lib.hid HFR4.out.2, HFB4⟩
                case measure => first | (simp [intOf]; omega) | (simp [intOf]; done)
          · obtain rfl : i = s.size + 1 := by omega
            have HDN : Hid (linesOf s.data.toList = done) := Lib.hid (by
              rcases hst.out with h | h
              · exact absurd h.1 (by omega)
              · exact h.2)
            obtain ⟨a, c, ev, hac, hl1, _⟩ := hbd.out.lines
            subst ev
            have HL1 := Lib.hid hl1
            clear hl1
            go_wp2_with fail
            go_ret3
            exact lines_end (by rw [HV.out]; rfl) (by rw [HV.out]) (by rw [HV.out, HDN.out]; exact HL1.out) hbb.out
end Go.Proofs.YtfiddoibnjildaaGreatDoor
