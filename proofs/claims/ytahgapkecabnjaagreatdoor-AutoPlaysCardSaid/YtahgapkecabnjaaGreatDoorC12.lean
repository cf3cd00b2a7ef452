/- Plain law: what the firewall does, step by step, and what it keeps. -/
import Derived.Test.YtahgapkecabnjaaGreatDoorC11
import Derived.Test.YtahgapkecabnjaaGreatDoorC03
import Derived.Test.YtahgapkecabnjaaGreatDoorC09
import Derived.Test.YtahgapkecabnjaaGreatDoorC04
namespace Go.Proofs.YtahgapkecabnjaaGreatDoor
set_option linter.unusedSimpArgs false
set_option linter.unusedVariables false
open Go Go.RowKit Go.Shelf Go.Lib

theorem fopen_val (p : Pk) (t : Int) (ok : Bool) (w : World) (h : fopenF p = (t, ok)) :
    Calls Tryz.prog 86 #[.agg (pkC p)] w fun e w' => e = .returned (.tuple #[.int .i64 t, .bool ok]) ∧ Below w.heap.size w w' :=
  (fopen_any p w).mono fun e w' hp => by rw [h] at hp; exact hp
theorem fnext_val (s : Int) (r : Bool) (p : Pk) (t : Int) (ok : Bool) (w : World) (hs : (Lit.int .i64 s).wf = true) (h : fnextF s r p = (t, ok)) :
    Calls Tryz.prog 54 #[.int .i64 s, .bool r, .agg (pkC p)] w fun e w' => e = .returned (.tuple #[.int .i64 t, .bool ok]) ∧ Below w.heap.size w w' :=
  (fnext_any s r p w hs).mono fun e w' hp => by unfold PairPost at hp; rw [h] at hp; exact hp
theorem refFopen_val (p : Pk) (t : Int) (ok : Bool) (w : World) (hf : 0 ≤ p.flags) (hf' : p.flags ≤ 255) (h : fopenF p = (t, ok)) :
    Calls Tryz.prog 75 #[.agg (pkC p)] w fun e w' => e = .returned (.tuple #[.int .i64 t, .bool ok]) ∧ Below w.heap.size w w' :=
  (refFopen_any p w hf hf').mono fun e w' hp => by unfold PairPost at hp; rw [h] at hp; exact hp
theorem refFnext_val (s : Int) (r : Bool) (p : Pk) (t : Int) (ok : Bool) (w : World) (hf : 0 ≤ p.flags) (hf' : p.flags ≤ 255) (h : fnextF s r p = (t, ok)) :
    Calls Tryz.prog 71 #[.int .i64 s, .bool r, .agg (pkC p)] w fun e w' => e = .returned (.tuple #[.int .i64 t, .bool ok]) ∧ Below w.heap.size w w' :=
  (refFnext_any s r p w hf hf').mono fun e w' hp => by unfold PairPost at hp; rw [h] at hp; exact hp
theorem until_val (ts : Nat → Int) (s c m : Int) (w : World) (h : untilF ts s c = m) :
    Calls Tryz.prog 55 #[.agg (arr16 ts), .int .i64 s, .int .i64 c] w fun e w' => e = .returned (.int .i64 m) ∧ Below w.heap.size w w' := by rw [← h]; exact until_any ts s c w
theorem refUntil_val (ts : Nat → Int) (s c m : Int) (w : World) (h : untilF ts s c = m) :
    Calls Tryz.prog 100 #[.agg (arr16 ts), .int .i64 s, .int .i64 c] w fun e w' => e = .returned (.int .i64 m) ∧ Below w.heap.size w w' := by rw [← h]; exact refUntil_any ts s c w

def lastR (s : St) : List Rl := s.rules.getLastD []
def goneS (s : St) (k : Ky) : St := { s with flows := delL s.flows k, g := leaveW s.g }
def overS (s : St) (k : Ky) : Bool := match getL s.flows k with | some e => overW e.1 (clkW s.g : Nat) | none => false
def deleteS (s : St) (k : Ky) : St := if overS s k = true then goneS s k else s
def dropS (s : St) (k : Ky) : St := if hasL s.flows k = true then goneS s k else s
def tickS (s : St) (n : Int) : St := { s with g := tickW s.g n }
def swappedS (s : St) (rs : List Rl) : St := { s with g := swapW s.g, rules := s.rules ++ [rs] }
def swapS (s : St) (rs : List Rl) : St := if fitsF rs = 0 ∧ swapOk s.g = true then swappedS s rs else s
/-- What Swap says: the version and the error. -/
def swapA (s : St) (rs : List Rl) : Int × Int := if fitsF rs ≠ 0 then (0, fitsF rs) else if swapOk s.g = true then ((s.rules.length : Int), 0) else (0, 2)
def putS (s : St) (k : Ky) (e : Nat × Bool) : St := { s with flows := putL s.flows k e }
def bornW (s : St) (p : Pk) : Nat := flowNext 0 (fopenF p).1 (untilF s.c.ts (fopenF p).1 (clkW (enterW s.g s.c.cap) : Nat))
def beginS (s : St) (p : Pk) (k : Ky) (t : Bool) : St × Int :=
  if letIn (lastR s) p = false then (s, 3) else if (fopenF p).2 = false then (s, 4) else if roomW s.g s.c.cap = false then (s, 5)
  else (putS { s with g := enterW s.g s.c.cap } k (bornW s p, t), 1)
def onS (s : St) (p : Pk) (k : Ky) (t : Bool) (e : Nat × Bool) : St × Int :=
  if (fnextF (stW e.1 : Nat) (t != e.2) p).2 = true then (putS s k (flowNext e.1 (fnextF (stW e.1 : Nat) (t != e.2) p).1 (untilF s.c.ts (fnextF (stW e.1 : Nat) (t != e.2) p).1 (clkW s.g : Nat)), e.2), 1)
  else (putS s k (flowNext e.1 (stW e.1 : Nat) (untW e.1 : Nat), e.2), 4)
def actK (s : St) (p : Pk) (k : Ky) (t : Bool) : St × Int := match getL s.flows k with | some e => onS s p k t e | none => beginS s p k t
def actS (s : St) (p : Pk) : St × Int := actK (deleteS s (keyF p).1) p (keyF p).1 (keyF p).2

/-- What a firewall keeps. -/
structure St.Ok (s : St) : Prop where
  g : U64 s.g
  ver : s.rules.length = verW s.g + 1
  lim : ∀ rs ∈ s.rules, rs.length ≤ 64
  cnt : cntW s.g = s.flows.length
  cap : 1 ≤ s.c.cap ∧ s.c.cap ≤ 4095
  le : (s.flows.length : Int) ≤ s.c.cap
  rise : Rises (keysL s.flows)
  kin : ∀ p ∈ s.flows, p.1.In ∧ U64 p.2.1 ∧ 1 ≤ stW p.2.1 ∧ stW p.2.1 ≤ 9
  told : ∀ i, U64 (s.told i)

theorem St.Ok.at_ {s : St} (h : s.Ok) {k : Ky} {e : Nat × Bool} (hk : getL s.flows k = some e) : k.In ∧ U64 e.1 ∧ 1 ≤ stW e.1 ∧ stW e.1 ≤ 9 := h.kin _ (getL_mem hk)
theorem St.Ok.small {s : St} (h : s.Ok) : s.flows.length ≤ 4095 := by have := h.le; have := h.cap; omega
theorem St.Ok.vers {s : St} (h : s.Ok) : s.rules.length ≤ 4096 := by have := h.ver; have := (gate_parts h.g).2.1; omega
theorem tickS_ok {s : St} (h : s.Ok) (n : Int) : (tickS s n).Ok := by
  obtain ⟨h1, h2, h3, h4⟩ := tick_parts h.g n
  exact ⟨h4, by show s.rules.length = verW (tickW s.g n) + 1; rw [h1]; exact h.ver, h.lim, by show cntW (tickW s.g n) = _; rw [h2]; exact h.cnt, h.cap, h.le, h.rise, h.kin, h.told⟩
theorem goneS_ok {s : St} (h : s.Ok) {k : Ky} {e : Nat × Bool} (hk : getL s.flows k = some e) : (goneS s k).Ok ∧ (goneS s k).flows.length + 1 = s.flows.length ∧ leaveOk s.g = true := by
  have hlen := length_del h.rise hk
  have hl : leaveOk s.g = true := by unfold leaveOk; rw [decide_eq_true_iff, h.cnt]; omega
  obtain ⟨h1, h2, h3, h4⟩ := leave_parts h.g hl
  refine ⟨⟨h4, by show s.rules.length = verW (leaveW s.g) + 1; rw [h1]; exact h.ver, h.lim, ?_, h.cap, ?_, rises_del h.rise k, fun p hp => h.kin p (List.mem_filter.1 hp).1, h.told⟩, hlen, hl⟩
  · show cntW (leaveW s.g) = (delL s.flows k).length
    have := h.cnt; omega
  · show ((delL s.flows k).length : Int) ≤ s.c.cap
    have := h.le; omega
theorem overS_some {s : St} {k : Ky} (h : overS s k = true) : ∃ e, getL s.flows k = some e ∧ overW e.1 (clkW s.g : Nat) = true := by
  unfold overS at h
  split at h
  · rename_i e he; exact ⟨e, he, h⟩
  · cases h
theorem deleteS_ok {s : St} (h : s.Ok) (k : Ky) : (deleteS s k).Ok := by
  unfold deleteS
  split
  · rename_i hv
    obtain ⟨e, he, _⟩ := overS_some hv
    exact (goneS_ok h he).1
  · exact h
theorem hasL_some {s : St} {k : Ky} (h : hasL s.flows k = true) : ∃ e, getL s.flows k = some e := by
  unfold hasL at h
  exact Option.isSome_iff_exists.1 h
theorem dropS_ok {s : St} (h : s.Ok) (k : Ky) : (dropS s k).Ok := by
  unfold dropS
  split
  · rename_i hv
    obtain ⟨e, he⟩ := hasL_some hv
    exact (goneS_ok h he).1
  · exact h
theorem fitsF_len {rs : List Rl} (h : fitsF rs = 0) : rs.length ≤ 64 := by
  unfold fitsF at h
  split at h
  · omega
  · omega
theorem swapS_ok {s : St} (h : s.Ok) (rs : List Rl) : (swapS s rs).Ok := by
  unfold swapS
  split
  · rename_i hc
    obtain ⟨h1, h2, h3, h4⟩ := swap_parts h.g hc.2
    refine ⟨h4, ?_, ?_, ?_, h.cap, h.le, h.rise, h.kin, h.told⟩
    · show (s.rules ++ [rs]).length = verW (swapW s.g) + 1
      rw [h1, List.length_append, h.ver]; rfl
    · intro r hr
      rcases List.mem_append.1 hr with hr | hr
      · exact h.lim r hr
      · rw [List.mem_singleton.1 hr]; exact fitsF_len hc.1
    · show cntW (swapW s.g) = _
      rw [h2]; exact h.cnt
  · exact h
theorem fopenF_state {p : Pk} (h : (fopenF p).2 = true) : 1 ≤ (fopenF p).1 ∧ (fopenF p).1 ≤ 9 := by
  unfold fopenF openF at *
  (repeat' split) <;> simp_all
theorem putS_ok_new {s : St} (h : s.Ok) {k : Ky} (hk : k.In) (hn : getL s.flows k = none) {e : Nat × Bool} (he : U64 e.1) (h1 : 1 ≤ stW e.1) (h9 : stW e.1 ≤ 9) (hr : roomW s.g s.c.cap = true) : (putS { s with g := enterW s.g s.c.cap } k e).Ok := by
  obtain ⟨e1, e2, e3, e4⟩ := enter_parts h.g hr
  have hlen := length_put_new hn e
  refine ⟨e4, by show s.rules.length = verW (enterW s.g s.c.cap) + 1; rw [e1]; exact h.ver, h.lim, ?_, h.cap, ?_, rises_put h.rise k e, ?_, h.told⟩
  · show cntW (enterW s.g s.c.cap) = (putL s.flows k e).length
    rw [e2, hlen, h.cnt]
  · show ((putL s.flows k e).length : Int) ≤ s.c.cap
    unfold roomW at hr
    rw [decide_eq_true_iff, h.cnt] at hr
    rw [hlen]; omega
  · intro p hp
    have hp : p ∈ putL s.flows k e := hp
    unfold putL at hp
    rcases List.mem_append.1 hp with hp | hp
    · exact h.kin p (List.mem_filter.1 hp).1
    · rcases List.mem_cons.1 hp with rfl | hp
      · exact ⟨hk, he, h1, h9⟩
      · exact h.kin p (List.mem_filter.1 hp).1
theorem putS_ok_old {s : St} (h : s.Ok) {k : Ky} {o : Nat × Bool} (hn : getL s.flows k = some o) {e : Nat × Bool} (he : U64 e.1) (h1 : 1 ≤ stW e.1) (h9 : stW e.1 ≤ 9) : (putS s k e).Ok := by
  have hlen := length_put_old h.rise hn e
  refine ⟨h.g, h.ver, h.lim, ?_, h.cap, ?_, rises_put h.rise k e, ?_, h.told⟩
  · show cntW s.g = (putL s.flows k e).length
    rw [hlen, h.cnt]
  · show ((putL s.flows k e).length : Int) ≤ s.c.cap
    rw [hlen]; exact h.le
  · intro p hp
    have hp : p ∈ putL s.flows k e := hp
    unfold putL at hp
    rcases List.mem_append.1 hp with hp | hp
    · exact h.kin p (List.mem_filter.1 hp).1
    · rcases List.mem_cons.1 hp with rfl | hp
      · exact ⟨(h.at_ hn).1, he, h1, h9⟩
      · exact h.kin p (List.mem_filter.1 hp).1
theorem flowNext_ok (w : Nat) (to last : Int) (h1 : 1 ≤ to) (h9 : to ≤ 9) : U64 (flowNext w to last) ∧ 1 ≤ stW (flowNext w to last) ∧ stW (flowNext w to last) ≤ 9 := by
  obtain ⟨a, _, _, b⟩ := flowNext_parts w to last
  refine ⟨b, ?_, ?_⟩ <;> rw [a] <;> omega
theorem stage_range {s k t : Int} {r : Bool} (h : stage 2 s r k = some t) : 1 ≤ t ∧ t ≤ 9 := by
  unfold stage at h
  split at h
  · cases h; omega
  · split at h
    · cases h; omega
    · unfold baseT at h
      obtain ⟨x, hx, rfl⟩ := Option.map_eq_some_iff.1 h
      exact (by decide : ∀ x ∈ baseL, 1 ≤ x.2 ∧ x.2 ≤ 9) x (List.mem_of_find?_eq_some hx)
theorem fnextF_state {s : Int} {r : Bool} {p : Pk} (h : (fnextF s r p).2 = true) : 1 ≤ (fnextF s r p).1 ∧ (fnextF s r p).1 ≤ 9 := by
  unfold fnextF at *
  split at h
  · rename_i h6
    rw [if_pos h6]
    unfold nextF at *
    obtain ⟨t, ht⟩ := Option.isSome_iff_exists.1 h
    rw [ht]
    exact stage_range ht
  · rename_i h6
    rw [if_neg h6]
    split at h
    · cases h
    · rename_i h8
      rw [if_neg h8]
      have h89 : s = 8 ∨ s = 9 := by
        rw [Decidable.not_and_iff_or_not] at h8
        rcases h8 with h8 | h8 <;> simp at h8 <;> simp [h8]
      split at h
      · cases h
      · rename_i hg
        rw [if_neg hg]
        split
        · exact ⟨by show (1 : Int) ≤ 9; omega, by show (9 : Int) ≤ 9; omega⟩
        · exact ⟨by show (1 : Int) ≤ s; omega, by show s ≤ 9; omega⟩
theorem beginS_ok {s : St} (h : s.Ok) (p : Pk) {k : Ky} (t : Bool) (hk : k.In) (hn : getL s.flows k = none) : (beginS s p k t).1.Ok := by
  unfold beginS
  split
  · exact h
  · split
    · exact h
    · split
      · exact h
      · rename_i _ ho hr
        obtain ⟨h1, h9⟩ := fopenF_state (eq_true_of_ne_false ho)
        obtain ⟨a, b, c⟩ := flowNext_ok 0 (fopenF p).1 (untilF s.c.ts (fopenF p).1 (clkW (enterW s.g s.c.cap) : Nat)) h1 h9
        exact putS_ok_new h hk hn a b c (eq_true_of_ne_false hr)
theorem onS_ok {s : St} (h : s.Ok) (p : Pk) {k : Ky} (t : Bool) {e : Nat × Bool} (he : getL s.flows k = some e) : (onS s p k t e).1.Ok := by
  obtain ⟨hk, hu, h1, h9⟩ := h.at_ he
  unfold onS
  split
  · rename_i hf
    obtain ⟨h1, h9⟩ := fnextF_state hf
    obtain ⟨a, b, c⟩ := flowNext_ok e.1 (fnextF (stW e.1 : Nat) (t != e.2) p).1 (untilF s.c.ts (fnextF (stW e.1 : Nat) (t != e.2) p).1 (clkW s.g : Nat)) h1 h9
    exact putS_ok_old h he a b c
  · obtain ⟨a, b, c⟩ := flowNext_ok e.1 (stW e.1 : Nat) (untW e.1 : Nat) (by omega) (by omega)
    exact putS_ok_old h he a b c
theorem actK_ok {s : St} (h : s.Ok) (p : Pk) {k : Ky} (t : Bool) (hk : k.In) : (actK s p k t).1.Ok := by
  unfold actK
  split
  · rename_i e he; exact onS_ok h p t he
  · rename_i hn; exact beginS_ok h p t hk hn
theorem actS_ok {s : St} (h : s.Ok) {p : Pk} (hp : PkIn p) : (actS s p).1.Ok := actK_ok (deleteS_ok h _) p _ (keyF_in hp)
end Go.Proofs.YtahgapkecabnjaaGreatDoor
/- A flow's key as a map's key. -/
namespace Go.Proofs.YtahgapkecabnjaaGreatDoor
set_option linter.unusedSimpArgs false
set_option linter.unusedVariables false
open Go Go.RowKit Go.Maps Go.MapKept
open Go.ChangeMaps (setBlock)

theorem keyOf_wide3 {P : Program} {k : TypeId} {v : Value} (hwide : (match P.underlying k with | some (.array _ _) | some (.struct _) => true | _ => false) = true) (hT : P.keyType k = true) (hf : v.formed P k = true)
    (hne : (P.types.size != 0 && P.types.size != 1) = true) {ls : List Lit} (h : ∀ m, P.keyLits (m + 3) k v.cells.toList = some ls) : keyOf P k v = some (.string (keyBytes ls)) := by
  rw [Bool.and_eq_true, bne_iff_ne, bne_iff_ne] at hne
  obtain ⟨m, hm⟩ : ∃ m, P.types.size = m + 2 := ⟨P.types.size - 2, by omega⟩
  have h2 : P.keyLits (P.types.size + 1) k v.cells.toList = some ls := by rw [hm]; exact h m
  unfold keyOf
  split
  · simp [hT, hf, h2]
  · simp [hT, hf, h2]
  · rename_i h3 h4
    exfalso
    split at hwide
    · exact h3 _ _ ‹_›
    · exact h4 _ ‹_›
    · cases hwide
theorem ky_keyed : Keyed Tryz.prog 45 := Keyed.of_law (deep_law_laid (by kernel_rfl) (m := 3) (by decide) (of_decide_eq_true (by kernel_rfl)) (by kernel_rfl) (by kernel_rfl))
theorem types_two : (Tryz.prog.types.size != 0 && Tryz.prog.types.size != 1) = true := by kernel_rfl
theorem kcells_key : Tryz.prog.cellsOf 45 = 5 := by kernel_rfl
theorem kcells_u8 : Tryz.prog.cellsOf 5 = 1 := by kernel_rfl
theorem kcells_u16 : Tryz.prog.cellsOf 39 = 1 := by kernel_rfl
theorem kcells_u32 : Tryz.prog.cellsOf 38 = 1 := by kernel_rfl
theorem kcells_a16 : Tryz.prog.cellsOf 43 = 2 := by kernel_rfl
theorem kcells_a32 : Tryz.prog.cellsOf 42 = 2 := by kernel_rfl
theorem keyType_key : Tryz.prog.keyType 45 = true := by kernel_rfl
theorem wf_u32 {n : Nat} (h : n < 4294967296) : (Lit.int .u32 n).wf = true := by simp [Lit.wf, IntKind.min, IntKind.max, IntKind.bits, IntKind.signed]; omega
theorem wf_u16 {n : Nat} (h : n < 65536) : (Lit.int .u16 n).wf = true := by simp [Lit.wf, IntKind.min, IntKind.max, IntKind.bits, IntKind.signed]; omega
theorem wf_u8 {n : Nat} (h : n < 256) : (Lit.int .u8 n).wf = true := by simp [Lit.wf, IntKind.min, IntKind.max, IntKind.bits, IntKind.signed]; omega
theorem ky_key {k : Ky} (hk : k.In) : ∃ kl, keyOf Tryz.prog 45 (kyV k) = some kl :=
  ⟨_, keyOf_wide3 (by rw [Tryz.underlying45]) keyType_key (by simp [kyC, Value.formed, Tryz.underlying45, kcells_key]) types_two
    (ls := [.int .u32 k.a0, .int .u32 k.a1, .int .u16 k.p0, .int .u16 k.p1, .int .u8 k.pr]) fun m => by
      have h0 := wf_u32 hk.a0
      have h1 := wf_u32 hk.a1
      have h2 := wf_u16 hk.p0
      have h3 := wf_u16 hk.p1
      have h4 := wf_u8 hk.pr
      have r2 : List.range 2 = [0, 1] := rfl
      simp [kyC, Value.cells, Program.keyLits, kcells_key, kcells_u8, kcells_u16, kcells_u32, kcells_a16, kcells_a32, Tryz.underlying45, Tryz.underlying5, Tryz.underlying39, Tryz.underlying38, Tryz.underlying43, Tryz.underlying42, h0, h1, h2, h3, h4, r2]⟩
end Go.Proofs.YtahgapkecabnjaaGreatDoor
/- The engine's map of flows: lookup, delete, store; goes. Printed by gen_autog.py. -/
namespace Go.Proofs.YtahgapkecabnjaaGreatDoor
set_option linter.unusedSimpArgs false
set_option linter.unusedVariables false
open Go Go.RowKit Go.Shelf Go.Lib Go.Maps Go.MapKept
open Go.ChangeMaps (setBlock)

theorem zero_entry : ∀ w, (zeroValue 99).run Tryz.prog w = .ok (.agg #[.int .u64 0, .bool false]) w := fun w => by kernel_rfl
/-- A flow's entry; none: nothing. -/
def entG (fl : Kl (Nat × Bool)) (k : Ky) : Nat × Bool := (getL fl k).getD (0, false)
theorem FlowsAt.look {w : World} {b : Nat} {fl : Kl (Nat × Bool)} {f : Value → Option Value} (h : FlowsAt w b evE fl f) {k : Ky} (hk : k.In) :
    (Instr.lookup 81 (.map (some b)) (kyV k) true).run Tryz.prog w = .ok (.tuple #[evE (entG fl k), .bool (hasL fl k)]) w := by
  obtain ⟨kl, hkl⟩ := ky_key hk
  rw [h.is.lookup ky_keyed Tryz.underlying81 (zero_entry w) hkl true, h.get]
  unfold entG hasL
  cases getL fl k <;> rfl
theorem upd_key {fl : Kl (Nat × Bool)} {f : Value → Option Value} (hg : ∀ k, f (kyV k) = (getL fl k).map evE) (ho : ∀ v x, f v = some x → ∃ k, v = kyV k) (k : Ky) (y : Option (Nat × Bool)) (fl' : Kl (Nat × Bool)) (he : ∀ z, getL fl' z = if z = k then y else getL fl z) :
    (∀ z, upd f (kyV k) (y.map evE) (kyV z) = (getL fl' z).map evE) ∧ ∀ v x, upd f (kyV k) (y.map evE) v = some x → ∃ z, v = kyV z := by
  refine ⟨fun z => ?_, fun v x hv => ?_⟩
  · rw [he]
    by_cases e : z = k
    · subst e; rw [upd_same, if_pos rfl]
    · rw [upd_other _ _ (fun h => e (kyV_inj h)), if_neg e]; exact hg z
  · by_cases e : v = kyV k
    · exact ⟨k, e⟩
    · rw [upd_other _ _ e] at hv; exact ho v x hv
theorem FlowsAt.del {w : World} {b : Nat} {fl : Kl (Nat × Bool)} {f : Value → Option Value} (h : FlowsAt w b evE fl f) {k : Ky} (hk : k.In) (ty : TypeId) :
    ∃ o, (Builtin.delete_ #[81, 45] ty #[.map (some b), kyV k]).run Tryz.prog w = .ok (.tuple #[]) (setBlock w b o) ∧ FlowsAt (setBlock w b o) b evE (delL fl k) (upd f (kyV k) none) := by
  obtain ⟨kl, hkl⟩ := ky_key hk
  obtain ⟨o, h1, h2⟩ := h.is.delete ky_keyed Tryz.underlying81 hkl ty
  obtain ⟨a, c⟩ := upd_key h.get h.only k none (delL fl k) (fun z => getL_del fl k z)
  exact ⟨o, h1, h2, a, c⟩
theorem FlowsAt.put {w : World} {b : Nat} {fl : Kl (Nat × Bool)} {f : Value → Option Value} (h : FlowsAt w b evE fl f) {k : Ky} (hk : k.In) (e : Nat × Bool) :
    ∃ o, (Instr.mapUpdate 81 (.map (some b)) (kyV k) (evE e)).run Tryz.prog w = .ok () (setBlock w b o) ∧ FlowsAt (setBlock w b o) b evE (putL fl k e) (upd f (kyV k) (some (evE e))) := by
  obtain ⟨kl, hkl⟩ := ky_key hk
  obtain ⟨o, h1, h2⟩ := h.is.update ky_keyed Tryz.underlying81 hkl (evE e)
  obtain ⟨a, c⟩ := upd_key h.get h.only k (some e) (putL fl k e) (fun z => getL_put fl k e z)
  exact ⟨o, h1, h2, a, c⟩
theorem setBlock_other (w : World) (b : Nat) (o : Obj) {i : Nat} (h : i ≠ b) : (setBlock w b o).heap[i]? = w.heap[i]? := (OnlyB.set w b o).other i h
theorem Turn.setBlock {F : Nat → Prop} {w w1 : World} (h : Turn F w w1) (b : Nat) (o : Obj) (hb : F b ∨ w.heap.size ≤ b) : Turn F w (setBlock w1 b o) := by
  have k := OnlyB.set w1 b o
  exact ⟨k.os.trans h.os, k.tape.trans h.tape, k.output.trans h.output, by rw [k.size]; exact h.size, fun i hi hf => (k.other i (fun e => by subst e; exact hb.elim hf (fun hle => by omega))).trans (h.block i hi hf)⟩
/-- The map has changed. -/
theorem AutoW.setmap {w : World} {ba mb : Nat} {F : Nat → Prop} {s : St} {rv : Value} {f f' : Value → Option Value} {vs : List Value} (h : AutoW w ba F s rv mb f vs) (o : Obj) {fl' : Kl (Nat × Bool)} (hf : FlowsAt (setBlock w mb o) mb evE fl' f') : AutoW (setBlock w mb o) ba F { s with flows := fl' } rv mb f' vs := by
  have hmap : ∀ b (cur : Array Value) (T : TypeId), w.heap[b]? = some (.cells cur T (0, 0)) → b ≠ mb := fun b cur T hc e => by
    obtain ⟨es, ck, hm, _⟩ := h.fl.is
    rw [e, hm] at hc
    cases hc
  refine ⟨(setBlock_other w mb o (hmap _ _ _ h.box)).trans h.box, row_of_block h.row (fun b e => ?_), fun i rs hi => ?_, hf, h.fba, h.fmb, h.frv⟩
  · obtain ⟨cur, hc⟩ := row_type h.row e
    exact setBlock_other w mb o (hmap _ _ _ hc)
  · obtain ⟨v, e, hv⟩ := h.inner i rs hi
    exact ⟨v, e, hv.keep (fun b eb => by
      obtain ⟨cur, hc⟩ := row_type hv.row eb
      exact setBlock_other w mb o (hmap _ _ _ hc)) (fun _ h => h)⟩
theorem AutoW.drewN {w : World} {ba mb : Nat} {F : Nat → Prop} {s : St} {rv : Value} {f : Value → Option Value} {vs : List Value} (h : AutoW w ba F s rv mb f vs) (n : Nat) : AutoW (w.drewN n) ba F s rv mb f vs := h.of_turn ((Turn.refl (fun _ => False) w).drewN n) (fun _ _ h => h)
theorem AutoW.below {w w' : World} {ba mb : Nat} {F : Nat → Prop} {s : St} {rv : Value} {f : Value → Option Value} {vs : List Value} (h : AutoW w ba F s rv mb f vs) (k : Below w.heap.size w w') : AutoW w' ba F s rv mb f vs := h.of_turn (Turn.of_below (F := fun _ => False) k) (fun _ _ h => h)
theorem oper_delete {P : Program} {o : Oper} {a : Act} {w w' : World} {K : Act → World → Prop} {Q : Exit → Act → World → Prop} (m x : Operand) (t k : TypeId) (hop : o.op = Op.call { callee := Callee.builtin Builtin.delete, args := #[m, x], argTypes := #[t, k] })
    {b : Nat} {key : Value} (hm : a.eval m = .map (some b)) (hx : a.eval x = key) (hrun : (Builtin.delete_ #[t, k] o.type #[.map (some b), key]).run P w = .ok (.tuple #[]) w') (h : K (a.put o.dst (.tuple #[])) w') : o.wp P a w K Q := by
  unfold Oper.wp
  simp [execOp, hop, resolve, invoke, builtin, hm, hx, hrun, Result.andThen]
  exact h
theorem oper_mapUpdate {P : Program} {o : Oper} {a : Act} {w w' : World} {K : Act → World → Prop} {Q : Exit → Act → World → Prop} (m x v : Operand) (t : TypeId) (hop : o.op = Op.mapUpdate t m x v)
    {b : Nat} {key val : Value} (hm : a.eval m = .map (some b)) (hx : a.eval x = key) (hv : a.eval v = val) (hrun : (Instr.mapUpdate t (.map (some b)) key val).run P w = .ok () w') (h : K a w') (hd : o.dst = none) : o.wp P a w K Q := by
  unfold Oper.wp
  simp [execOp, hop, hm, hx, hv, hrun, Result.andThen]
  simpa [Oper.upon, hd, Act.put] using h
set_option maxHeartbeats 4000000 in
set_option maxRecDepth 100000 in
theorem agoes_any {w : World} {ba : Nat} {F : Nat → Prop} {s : St} {k : Ky} (hk : k.In) (h : AutoAt w ba F s) (hg : U64 s.g) :
    Calls Tryz.prog 47 #[.pointer (some ⟨ba, 0, none⟩), kyV k] w fun e w' => (∃ v, e = .returned v) ∧ AutoAt w' ba F (goneS s k) ∧ Turn F w w' := by
  have HB0 : Hid (Below w.heap.size w (w.alloc (.cells (kyC k) 45))) := Lib.hid ((Below.refl _ w).alloc (Nat.le_refl _) _)
  obtain ⟨rv, mb, f, vs, h⟩ := h
  have HA := Lib.hid (h.below HB0.out)
  have HFM := Lib.hid h.fmb
  have HFB := Lib.hid h.fba
  have HK := Lib.hid hk
  clear h hk
  have c0 : (w.alloc (.cells (kyC k) 45)).cell? ⟨ba, 20, none⟩ = some (.map (some mb)) := HA.out.cell rfl
  have c1 : (w.alloc (.cells (kyC k) 45)).cell? ⟨w.heap.size, 0, none⟩ = some (.int .u32 k.a0) := by simp [kyC]
  have c2 : (w.alloc (.cells (kyC k) 45)).cell? ⟨w.heap.size, 1, none⟩ = some (.int .u32 k.a1) := by simp [kyC]
  have c3 : (w.alloc (.cells (kyC k) 45)).cell? ⟨w.heap.size, 2, none⟩ = some (.int .u16 k.p0) := by simp [kyC]
  have c4 : (w.alloc (.cells (kyC k) 45)).cell? ⟨w.heap.size, 3, none⟩ = some (.int .u16 k.p1) := by simp [kyC]
  have c5 : (w.alloc (.cells (kyC k) 45)).cell? ⟨w.heap.size, 4, none⟩ = some (.int .u8 k.pr) := by simp [kyC]
  have HG := Lib.hid (fun W => gleave_any s.g W hg)
  go_enter Tryz.func47, Tryz.ntmps47
  go_wp2_with fail
  generalize hw1 : w.alloc (.cells (kyC k) 45) = w1 at *
  refine WQ.last (Drew w1) ⟨1, rfl⟩ 5 4 (by rfl) (by kernel_rfl) (by kernel_rfl) ?_; simp only [List.take_succ_cons, List.take_zero]
  refine WQ.val (by rfl) (fun v hv => by have k0 := hv.cell c0; have k1 := hv.cell c1; have k2 := hv.cell c2; have k3 := hv.cell c3; have k4 := hv.cell c4; have k5 := hv.cell c5; go_simp; first | done | with_reducible rfl | (rw [if_neg (by omega)])) ?_; simp only [Act.put, List.setIfInBounds_toArray, List.set_cons_zero, List.set_cons_succ]
  refine WQ.val (by rfl) (fun v hv => by have k0 := hv.cell c0; have k1 := hv.cell c1; have k2 := hv.cell c2; have k3 := hv.cell c3; have k4 := hv.cell c4; have k5 := hv.cell c5; go_simp; first | done | with_reducible rfl | (rw [if_neg (by omega)])) ?_; simp only [Act.put, List.setIfInBounds_toArray, List.set_cons_zero, List.set_cons_succ]
  refine WQ.val (by rfl) (fun v hv => by have k0 := hv.cell c0; have k1 := hv.cell c1; have k2 := hv.cell c2; have k3 := hv.cell c3; have k4 := hv.cell c4; have k5 := hv.cell c5; go_simp; first | done | with_reducible rfl | (rw [if_neg (by omega)])) ?_; simp only [Act.put, List.setIfInBounds_toArray, List.set_cons_zero, List.set_cons_succ]
  refine WQ.val (by rfl) (fun v hv => by have k0 := hv.cell c0; have k1 := hv.cell c1; have k2 := hv.cell c2; have k3 := hv.cell c3; have k4 := hv.cell c4; have k5 := hv.cell c5; go_simp; first | done | with_reducible rfl | (rw [if_neg (by omega)])) ?_; simp only [Act.put, List.setIfInBounds_toArray, List.set_cons_zero, List.set_cons_succ]
  refine WQ.val (by rfl) (fun v hv => by have k0 := hv.cell c0; have k1 := hv.cell c1; have k2 := hv.cell c2; have k3 := hv.cell c3; have k4 := hv.cell c4; have k5 := hv.cell c5; go_simp; first | done | with_reducible rfl | (rw [if_neg (by omega)])) ?_; simp only [Act.put, List.setIfInBounds_toArray, List.set_cons_zero, List.set_cons_succ]
  refine WQ.done ?_
  intro w5 hw5
  refine wpOp_one rfl (by rfl) ?_
  intro K' hK'
  obtain ⟨n5, rfl⟩ := hw5
  clear c0 c1 c2 c3 c4 c5
  have HA5 := HA.out.drewN n5
  obtain ⟨o, hrun, hfl⟩ := HA5.fl.del HK.out 0
  have HA6 := Lib.hid (HA5.setmap o hfl)
  have HT6 : Hid (Turn F w (setBlock (w1.drewN n5) mb o)) := Lib.hid (((Turn.of_below (F := F) HB0.out).drewN n5).setBlock mb o (.inl HFM.out))
  clear hfl HA5
  refine oper_delete _ _ _ _ rfl (show _ = Value.map (some mb) from rfl) (show _ = kyV k from rfl) hrun (hK' _ _ ?_)
  clear hrun hK'
  generalize setBlock (w1.drewN n5) mb o = w6 at *
  have c0 : w6.cell? ⟨ba, 18, none⟩ = some (.int .u64 (s.g : Nat)) := HA6.out.cell rfl
  go_wp2_with fail
  refine (HG.out _).mono ?_
  rintro e w7 ⟨rfl, h7⟩
  have HA7 := Lib.hid (HA6.out.below h7)
  have HT7 : Hid (Turn F w (w7.setCell ⟨ba, 18, none⟩ (.int .u64 (leaveW s.g : Nat)))) := Lib.hid ((HT6.out.trans (Turn.of_below (F := fun _ => False) h7) (fun _ h => h.elim)).setCell _ _ (.inl HFB.out))
  have k0 : w7.cell? ⟨ba, 18, none⟩ = some (.int .u64 (s.g : Nat)) := HA7.out.cell rfl
  have g0 := HA7.out.free 18
  have HA8 := Lib.hid (HA7.out.setg (leaveW s.g))
  clear h7 c0
  go_wp2_with fail
  go_end0
  exact ⟨⟨_, rfl⟩, ⟨rv, mb, _, vs, HA8.out⟩, HT7.out⟩
end Go.Proofs.YtahgapkecabnjaaGreatDoor
