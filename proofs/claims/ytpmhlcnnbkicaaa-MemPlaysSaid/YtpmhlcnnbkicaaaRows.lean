/-
  No cell of these rows narrows 'for every input' (looked for: loops, veiled, ifaces, maps, wideKeys, modest, calm, conditions, laid).
  DERIVED. THE GIVEN ROWS OF THIS SEAT. 13 by the template 'for every input the law returns true; each argument reads behind the call as it read before'; 0 by the template 'total and deterministic' (their statements: YtpmhlcnnbkicaaaTotals.lean).
  GIVEN WITH THE SEED: the statements are not yours to turn. If you find one false, say at which input.
  Laid BY PROGRAM, IN A SANDBOX (cutbox-rows.mjs): the forced cells as the released guide's own fill.sh prints them over the translation 66cf1aad68dfffe5… (all of the seat's roots in one cut). By AI agents, Wed Nov 11 2026. No macro, syntax, notation, axiom, sorry.
-/
import Derived.Test.YtpmhlcnnbkicaaaChecked
import GoSem.Claim
import GoSem.ClaimJoined
import GoSem.ClaimMapViews
import Derived.JoinedTies
import Derived.KernelRfl
namespace Go.Proofs.Ytpmhlcnnbkicaaa
/- THE CELL 'sum', in the pinned program and in every row, IS THE sha256 OF THE DUMP (.gsa) THAT YtpmhlcnnbkicaaaProg.lean LOADS. Nothing in Lean hashes anything: it is a label: what it is worth is what the hold of that sum in a sandbox is worth. -/
noncomputable def Try.pinned : Pinned := { name := "ytpmhlcnnbkicaaa", sum := "66cf1aad68dfffe587e8dedf8f1e9b6b328445f7d32dc6dc2db62c1eeb1d5090", checked := Try.checked }
namespace Rows
def none {H : Type} : Left H := { results := [], args := [] }

/-- 'mantletlaw16.TraceMoves': WHATEVER THE INPUT: true; the input reads as it did. -/
def traceMovesSpec : ChangeSpec := { name := "traceMoves", fn := fun _ => fun
  | [d1, d2, d3] => { results := [.lit (.bool true)], args := [d1, d2, d3] }
  | _ => none }
def traceMovesRow : OpenClaim := { program := "ytpmhlcnnbkicaaa", sum := "66cf1aad68dfffe587e8dedf8f1e9b6b328445f7d32dc6dc2db62c1eeb1d5090", func := "mantlet/mantletlaw16.TraceMoves", spec := "traceMoves", plainKeys := false, apart := false }
def TraceMovesSaid : Prop := traceMovesRow.holds Try.pinned (OpenSpec.ofChange traceMovesSpec)

/-- ITS FALSE NEIGHBOUR: 'it returns false'. Refute it at one input. -/
def traceMovesWrong : ChangeSpec := { name := "traceMoves", fn := fun _ => fun
  | [d1, d2, d3] => { results := [.lit (.bool false)], args := [d1, d2, d3] }
  | _ => none }
def TraceMovesWrongFalsely : Prop := traceMovesRow.holds Try.pinned (OpenSpec.ofChange traceMovesWrong)

/-- 'mantletlaw16.TraceRuns': WHATEVER THE INPUT: true; the input reads as it did. -/
def traceRunsSpec : ChangeSpec := { name := "traceRuns", fn := fun _ => fun
  | [d] => { results := [.lit (.bool true)], args := [d] }
  | _ => none }
def traceRunsRow : OpenClaim := { program := "ytpmhlcnnbkicaaa", sum := "66cf1aad68dfffe587e8dedf8f1e9b6b328445f7d32dc6dc2db62c1eeb1d5090", func := "mantlet/mantletlaw16.TraceRuns", spec := "traceRuns", plainKeys := false, apart := false }
def TraceRunsSaid : Prop := traceRunsRow.holds Try.pinned (OpenSpec.ofChange traceRunsSpec)

/-- ITS FALSE NEIGHBOUR: 'it returns false'. Refute it at one input. -/
def traceRunsWrong : ChangeSpec := { name := "traceRuns", fn := fun _ => fun
  | [d] => { results := [.lit (.bool false)], args := [d] }
  | _ => none }
def TraceRunsWrongFalsely : Prop := traceRunsRow.holds Try.pinned (OpenSpec.ofChange traceRunsWrong)

/-- 'mantletlaw16.TraceShakes': WHATEVER THE INPUT: true; the input reads as it did. -/
def traceShakesSpec : ChangeSpec := { name := "traceShakes", fn := fun _ => fun
  | [d] => { results := [.lit (.bool true)], args := [d] }
  | _ => none }
def traceShakesRow : OpenClaim := { program := "ytpmhlcnnbkicaaa", sum := "66cf1aad68dfffe587e8dedf8f1e9b6b328445f7d32dc6dc2db62c1eeb1d5090", func := "mantlet/mantletlaw16.TraceShakes", spec := "traceShakes", plainKeys := false, apart := false }
def TraceShakesSaid : Prop := traceShakesRow.holds Try.pinned (OpenSpec.ofChange traceShakesSpec)

/-- ITS FALSE NEIGHBOUR: 'it returns false'. Refute it at one input. -/
def traceShakesWrong : ChangeSpec := { name := "traceShakes", fn := fun _ => fun
  | [d] => { results := [.lit (.bool false)], args := [d] }
  | _ => none }
def TraceShakesWrongFalsely : Prop := traceShakesRow.holds Try.pinned (OpenSpec.ofChange traceShakesWrong)

/-- 'mantletlaw17.FsmMoves': WHATEVER THE INPUT: true; the input reads as it did. -/
def fsmMovesSpec : ChangeSpec := { name := "fsmMoves", fn := fun _ => fun
  | [d1, d2, d3, d4, d5] => { results := [.lit (.bool true)], args := [d1, d2, d3, d4, d5] }
  | _ => none }
def fsmMovesRow : OpenClaim := { program := "ytpmhlcnnbkicaaa", sum := "66cf1aad68dfffe587e8dedf8f1e9b6b328445f7d32dc6dc2db62c1eeb1d5090", func := "mantlet/mantletlaw17.FsmMoves", spec := "fsmMoves", plainKeys := false, apart := false }
def FsmMovesSaid : Prop := fsmMovesRow.holds Try.pinned (OpenSpec.ofChange fsmMovesSpec)

/-- ITS FALSE NEIGHBOUR: 'it returns false'. Refute it at one input. -/
def fsmMovesWrong : ChangeSpec := { name := "fsmMoves", fn := fun _ => fun
  | [d1, d2, d3, d4, d5] => { results := [.lit (.bool false)], args := [d1, d2, d3, d4, d5] }
  | _ => none }
def FsmMovesWrongFalsely : Prop := fsmMovesRow.holds Try.pinned (OpenSpec.ofChange fsmMovesWrong)

/-- 'mantletlaw17.FsmTcp': WHATEVER THE INPUT: true; the input reads as it did. -/
def fsmTcpSpec : ChangeSpec := { name := "fsmTcp", fn := fun _ => fun
  | [d1, d2, d3] => { results := [.lit (.bool true)], args := [d1, d2, d3] }
  | _ => none }
def fsmTcpRow : OpenClaim := { program := "ytpmhlcnnbkicaaa", sum := "66cf1aad68dfffe587e8dedf8f1e9b6b328445f7d32dc6dc2db62c1eeb1d5090", func := "mantlet/mantletlaw17.FsmTcp", spec := "fsmTcp", plainKeys := false, apart := false }
def FsmTcpSaid : Prop := fsmTcpRow.holds Try.pinned (OpenSpec.ofChange fsmTcpSpec)

/-- ITS FALSE NEIGHBOUR: 'it returns false'. Refute it at one input. -/
def fsmTcpWrong : ChangeSpec := { name := "fsmTcp", fn := fun _ => fun
  | [d1, d2, d3] => { results := [.lit (.bool false)], args := [d1, d2, d3] }
  | _ => none }
def FsmTcpWrongFalsely : Prop := fsmTcpRow.holds Try.pinned (OpenSpec.ofChange fsmTcpWrong)

/-- 'mantletlaw17.FsmUntil': WHATEVER THE INPUT: true; the input reads as it did. -/
def fsmUntilSpec : ChangeSpec := { name := "fsmUntil", fn := fun _ => fun
  | [d1, d2, d3, d4] => { results := [.lit (.bool true)], args := [d1, d2, d3, d4] }
  | _ => none }
def fsmUntilRow : OpenClaim := { program := "ytpmhlcnnbkicaaa", sum := "66cf1aad68dfffe587e8dedf8f1e9b6b328445f7d32dc6dc2db62c1eeb1d5090", func := "mantlet/mantletlaw17.FsmUntil", spec := "fsmUntil", plainKeys := false, apart := false }
def FsmUntilSaid : Prop := fsmUntilRow.holds Try.pinned (OpenSpec.ofChange fsmUntilSpec)

/-- ITS FALSE NEIGHBOUR: 'it returns false'. Refute it at one input. -/
def fsmUntilWrong : ChangeSpec := { name := "fsmUntil", fn := fun _ => fun
  | [d1, d2, d3, d4] => { results := [.lit (.bool false)], args := [d1, d2, d3, d4] }
  | _ => none }
def FsmUntilWrongFalsely : Prop := fsmUntilRow.holds Try.pinned (OpenSpec.ofChange fsmUntilWrong)

/-- 'mantletlaw24.RaceFinds': WHATEVER THE INPUT: true; the input reads as it did. -/
def raceFindsSpec : ChangeSpec := { name := "raceFinds", fn := fun _ => fun
  | [d1, d2, d3] => { results := [.lit (.bool true)], args := [d1, d2, d3] }
  | _ => none }
def raceFindsRow : OpenClaim := { program := "ytpmhlcnnbkicaaa", sum := "66cf1aad68dfffe587e8dedf8f1e9b6b328445f7d32dc6dc2db62c1eeb1d5090", func := "mantlet/mantletlaw24.RaceFinds", spec := "raceFinds", inPlace := ["maps.clone"], plainKeys := false, apart := false }
def RaceFindsSaid : Prop := raceFindsRow.holds Try.pinned (OpenSpec.ofChange raceFindsSpec)

/-- ITS FALSE NEIGHBOUR: 'it returns false'. Refute it at one input. -/
def raceFindsWrong : ChangeSpec := { name := "raceFinds", fn := fun _ => fun
  | [d1, d2, d3] => { results := [.lit (.bool false)], args := [d1, d2, d3] }
  | _ => none }
def RaceFindsWrongFalsely : Prop := raceFindsRow.holds Try.pinned (OpenSpec.ofChange raceFindsWrong)

/-- 'mantletlaw24.RaceOrders': WHATEVER THE INPUT: true; the input reads as it did. -/
def raceOrdersSpec : ChangeSpec := { name := "raceOrders", fn := fun _ => fun
  | [d1, d2, d3, d4] => { results := [.lit (.bool true)], args := [d1, d2, d3, d4] }
  | _ => none }
def raceOrdersRow : OpenClaim := { program := "ytpmhlcnnbkicaaa", sum := "66cf1aad68dfffe587e8dedf8f1e9b6b328445f7d32dc6dc2db62c1eeb1d5090", func := "mantlet/mantletlaw24.RaceOrders", spec := "raceOrders", inPlace := ["maps.clone"], plainKeys := false, apart := false }
def RaceOrdersSaid : Prop := raceOrdersRow.holds Try.pinned (OpenSpec.ofChange raceOrdersSpec)

/-- ITS FALSE NEIGHBOUR: 'it returns false'. Refute it at one input. -/
def raceOrdersWrong : ChangeSpec := { name := "raceOrders", fn := fun _ => fun
  | [d1, d2, d3, d4] => { results := [.lit (.bool false)], args := [d1, d2, d3, d4] }
  | _ => none }
def RaceOrdersWrongFalsely : Prop := raceOrdersRow.holds Try.pinned (OpenSpec.ofChange raceOrdersWrong)

/-- 'mantletlaw24.RaceAlone': WHATEVER THE INPUT: true; the input reads as it did. -/
def raceAloneSpec : ChangeSpec := { name := "raceAlone", fn := fun _ => fun
  | [d1, d2] => { results := [.lit (.bool true)], args := [d1, d2] }
  | _ => none }
def raceAloneRow : OpenClaim := { program := "ytpmhlcnnbkicaaa", sum := "66cf1aad68dfffe587e8dedf8f1e9b6b328445f7d32dc6dc2db62c1eeb1d5090", func := "mantlet/mantletlaw24.RaceAlone", spec := "raceAlone", inPlace := ["maps.clone"], plainKeys := false, apart := false }
def RaceAloneSaid : Prop := raceAloneRow.holds Try.pinned (OpenSpec.ofChange raceAloneSpec)

/-- ITS FALSE NEIGHBOUR: 'it returns false'. Refute it at one input. -/
def raceAloneWrong : ChangeSpec := { name := "raceAlone", fn := fun _ => fun
  | [d1, d2] => { results := [.lit (.bool false)], args := [d1, d2] }
  | _ => none }
def RaceAloneWrongFalsely : Prop := raceAloneRow.holds Try.pinned (OpenSpec.ofChange raceAloneWrong)

/-- 'mantletlaw19.MemOne': WHATEVER THE INPUT: true; the input reads as it did. -/
def memOneSpec : ChangeSpec := { name := "memOne", fn := fun _ => fun
  | [d1, d2] => { results := [.lit (.bool true)], args := [d1, d2] }
  | _ => none }
def memOneRow : OpenClaim := { program := "ytpmhlcnnbkicaaa", sum := "66cf1aad68dfffe587e8dedf8f1e9b6b328445f7d32dc6dc2db62c1eeb1d5090", func := "mantlet/mantletlaw19.MemOne", spec := "memOne", unfollowed := true, recurses := true, plainKeys := false, apart := false }
def MemOneSaid : Prop := memOneRow.holds Try.pinned (OpenSpec.ofChange memOneSpec)

/-- ITS FALSE NEIGHBOUR: 'it returns false'. Refute it at one input. -/
def memOneWrong : ChangeSpec := { name := "memOne", fn := fun _ => fun
  | [d1, d2] => { results := [.lit (.bool false)], args := [d1, d2] }
  | _ => none }
def MemOneWrongFalsely : Prop := memOneRow.holds Try.pinned (OpenSpec.ofChange memOneWrong)

/-- 'mantletlaw19.MemSwaps': WHATEVER THE INPUT: true; the input reads as it did. -/
def memSwapsSpec : ChangeSpec := { name := "memSwaps", fn := fun _ => fun
  | [d] => { results := [.lit (.bool true)], args := [d] }
  | _ => none }
def memSwapsRow : OpenClaim := { program := "ytpmhlcnnbkicaaa", sum := "66cf1aad68dfffe587e8dedf8f1e9b6b328445f7d32dc6dc2db62c1eeb1d5090", func := "mantlet/mantletlaw19.MemSwaps", spec := "memSwaps", unfollowed := true, recurses := true, plainKeys := false, apart := false }
def MemSwapsSaid : Prop := memSwapsRow.holds Try.pinned (OpenSpec.ofChange memSwapsSpec)

/-- ITS FALSE NEIGHBOUR: 'it returns false'. Refute it at one input. -/
def memSwapsWrong : ChangeSpec := { name := "memSwaps", fn := fun _ => fun
  | [d] => { results := [.lit (.bool false)], args := [d] }
  | _ => none }
def MemSwapsWrongFalsely : Prop := memSwapsRow.holds Try.pinned (OpenSpec.ofChange memSwapsWrong)

/-- 'mantletlaw19.MemPlays': WHATEVER THE INPUT: true; the input reads as it did. -/
def memPlaysSpec : ChangeSpec := { name := "memPlays", fn := fun _ => fun
  | [d1, d2, d3] => { results := [.lit (.bool true)], args := [d1, d2, d3] }
  | _ => none }
def memPlaysRow : OpenClaim := { program := "ytpmhlcnnbkicaaa", sum := "66cf1aad68dfffe587e8dedf8f1e9b6b328445f7d32dc6dc2db62c1eeb1d5090", func := "mantlet/mantletlaw19.MemPlays", spec := "memPlays", unfollowed := true, recurses := true, plainKeys := false, apart := false }
def MemPlaysSaid : Prop := memPlaysRow.holds Try.pinned (OpenSpec.ofChange memPlaysSpec)

/-- ITS FALSE NEIGHBOUR: 'it returns false'. Refute it at one input. -/
def memPlaysWrong : ChangeSpec := { name := "memPlays", fn := fun _ => fun
  | [d1, d2, d3] => { results := [.lit (.bool false)], args := [d1, d2, d3] }
  | _ => none }
def MemPlaysWrongFalsely : Prop := memPlaysRow.holds Try.pinned (OpenSpec.ofChange memPlaysWrong)

/-- 'mantletlaw19.MemNone': WHATEVER THE INPUT: true; the input reads as it did. -/
def memNoneSpec : ChangeSpec := { name := "memNone", fn := fun _ => fun
  | [d1, d2, d3] => { results := [.lit (.bool true)], args := [d1, d2, d3] }
  | _ => none }
def memNoneRow : OpenClaim := { program := "ytpmhlcnnbkicaaa", sum := "66cf1aad68dfffe587e8dedf8f1e9b6b328445f7d32dc6dc2db62c1eeb1d5090", func := "mantlet/mantletlaw19.MemNone", spec := "memNone", unfollowed := true, recurses := true, plainKeys := false, apart := false }
def MemNoneSaid : Prop := memNoneRow.holds Try.pinned (OpenSpec.ofChange memNoneSpec)

/-- ITS FALSE NEIGHBOUR: 'it returns false'. Refute it at one input. -/
def memNoneWrong : ChangeSpec := { name := "memNone", fn := fun _ => fun
  | [d1, d2, d3] => { results := [.lit (.bool false)], args := [d1, d2, d3] }
  | _ => none }
def MemNoneWrongFalsely : Prop := memNoneRow.holds Try.pinned (OpenSpec.ofChange memNoneWrong)

/- THE SECOND FORM. 'bulk': how many values and letters a reading holds, each counted each time it is reached (what is shared counts as often as it is met; a slice's spare places count too). A statement '..UptoSaid' is the law's where the arguments, and the package variables that the reading takes, are together of bulk at most 1048576: NARROWER than '..Said'. Prove '..Said' where nothing that the law and all that it calls make is longer than what came in: it says more and counts as full. Else prove '..UptoSaid'. A law counts once. -/
mutual
def uptoBulk {H : Type} : DataW H → Nat
  | .lit (.string bytes) => bytes.length + 1
  | .lit _ => 1
  | .nil => 1
  | .ptr d => uptoBulk d + 1
  | .slice elems spare => uptoBulkAll elems + uptoBulkAll spare + 1
  | .agg parts => uptoBulkAll parts + 1
  | .iface _ d => uptoBulk d + 1
  | .map entries => uptoBulkEntries entries + 1
  | .held _ => 1
def uptoBulkAll {H : Type} : List (DataW H) → Nat
  | [] => 0
  | d :: r => uptoBulk d + uptoBulkAll r
def uptoBulkEntries {H : Type} : List (Lit × DataW H) → Nat
  | [] => 0
  | x :: r => uptoBulkEntry x + uptoBulkEntries r
def uptoBulkEntry {H : Type} : Lit × DataW H → Nat
  | (.string bytes, d) => bytes.length + uptoBulk d + 1
  | (_, d) => uptoBulk d + 1
 end
def uptoSmall : (H : Type) → List (DataW H) → Bool := fun _ ds => decide (uptoBulkAll ds ≤ 1048576)
def OpenSpec.upto (s : _root_.Go.ChangeSpec) : _root_.Go.OpenSpec := { _root_.Go.OpenSpec.ofChange s with cond := some uptoSmall }

/-- 'mantletlaw16.TraceMoves', WHERE WHAT IT READS IS OF BULK AT MOST 1048576: true; the input reads as it did. -/
def traceMovesUptoRow : OpenClaim := { program := "ytpmhlcnnbkicaaa", sum := "66cf1aad68dfffe587e8dedf8f1e9b6b328445f7d32dc6dc2db62c1eeb1d5090", func := "mantlet/mantletlaw16.TraceMoves", spec := "traceMoves", plainKeys := false, apart := false, narrowed := true }
def TraceMovesUptoSaid : Prop := traceMovesUptoRow.holds Try.pinned (OpenSpec.upto traceMovesSpec)

/-- 'mantletlaw16.TraceRuns', WHERE WHAT IT READS IS OF BULK AT MOST 1048576: true; the input reads as it did. -/
def traceRunsUptoRow : OpenClaim := { program := "ytpmhlcnnbkicaaa", sum := "66cf1aad68dfffe587e8dedf8f1e9b6b328445f7d32dc6dc2db62c1eeb1d5090", func := "mantlet/mantletlaw16.TraceRuns", spec := "traceRuns", plainKeys := false, apart := false, narrowed := true }
def TraceRunsUptoSaid : Prop := traceRunsUptoRow.holds Try.pinned (OpenSpec.upto traceRunsSpec)

/-- 'mantletlaw16.TraceShakes', WHERE WHAT IT READS IS OF BULK AT MOST 1048576: true; the input reads as it did. -/
def traceShakesUptoRow : OpenClaim := { program := "ytpmhlcnnbkicaaa", sum := "66cf1aad68dfffe587e8dedf8f1e9b6b328445f7d32dc6dc2db62c1eeb1d5090", func := "mantlet/mantletlaw16.TraceShakes", spec := "traceShakes", plainKeys := false, apart := false, narrowed := true }
def TraceShakesUptoSaid : Prop := traceShakesUptoRow.holds Try.pinned (OpenSpec.upto traceShakesSpec)

/-- 'mantletlaw17.FsmMoves', WHERE WHAT IT READS IS OF BULK AT MOST 1048576: true; the input reads as it did. -/
def fsmMovesUptoRow : OpenClaim := { program := "ytpmhlcnnbkicaaa", sum := "66cf1aad68dfffe587e8dedf8f1e9b6b328445f7d32dc6dc2db62c1eeb1d5090", func := "mantlet/mantletlaw17.FsmMoves", spec := "fsmMoves", plainKeys := false, apart := false, narrowed := true }
def FsmMovesUptoSaid : Prop := fsmMovesUptoRow.holds Try.pinned (OpenSpec.upto fsmMovesSpec)

/-- 'mantletlaw17.FsmTcp', WHERE WHAT IT READS IS OF BULK AT MOST 1048576: true; the input reads as it did. -/
def fsmTcpUptoRow : OpenClaim := { program := "ytpmhlcnnbkicaaa", sum := "66cf1aad68dfffe587e8dedf8f1e9b6b328445f7d32dc6dc2db62c1eeb1d5090", func := "mantlet/mantletlaw17.FsmTcp", spec := "fsmTcp", plainKeys := false, apart := false, narrowed := true }
def FsmTcpUptoSaid : Prop := fsmTcpUptoRow.holds Try.pinned (OpenSpec.upto fsmTcpSpec)

/-- 'mantletlaw17.FsmUntil', WHERE WHAT IT READS IS OF BULK AT MOST 1048576: true; the input reads as it did. -/
def fsmUntilUptoRow : OpenClaim := { program := "ytpmhlcnnbkicaaa", sum := "66cf1aad68dfffe587e8dedf8f1e9b6b328445f7d32dc6dc2db62c1eeb1d5090", func := "mantlet/mantletlaw17.FsmUntil", spec := "fsmUntil", plainKeys := false, apart := false, narrowed := true }
def FsmUntilUptoSaid : Prop := fsmUntilUptoRow.holds Try.pinned (OpenSpec.upto fsmUntilSpec)

/-- 'mantletlaw24.RaceFinds', WHERE WHAT IT READS IS OF BULK AT MOST 1048576: true; the input reads as it did. -/
def raceFindsUptoRow : OpenClaim := { program := "ytpmhlcnnbkicaaa", sum := "66cf1aad68dfffe587e8dedf8f1e9b6b328445f7d32dc6dc2db62c1eeb1d5090", func := "mantlet/mantletlaw24.RaceFinds", spec := "raceFinds", inPlace := ["maps.clone"], plainKeys := false, apart := false, narrowed := true }
def RaceFindsUptoSaid : Prop := raceFindsUptoRow.holds Try.pinned (OpenSpec.upto raceFindsSpec)

/-- 'mantletlaw24.RaceOrders', WHERE WHAT IT READS IS OF BULK AT MOST 1048576: true; the input reads as it did. -/
def raceOrdersUptoRow : OpenClaim := { program := "ytpmhlcnnbkicaaa", sum := "66cf1aad68dfffe587e8dedf8f1e9b6b328445f7d32dc6dc2db62c1eeb1d5090", func := "mantlet/mantletlaw24.RaceOrders", spec := "raceOrders", inPlace := ["maps.clone"], plainKeys := false, apart := false, narrowed := true }
def RaceOrdersUptoSaid : Prop := raceOrdersUptoRow.holds Try.pinned (OpenSpec.upto raceOrdersSpec)

/-- 'mantletlaw24.RaceAlone', WHERE WHAT IT READS IS OF BULK AT MOST 1048576: true; the input reads as it did. -/
def raceAloneUptoRow : OpenClaim := { program := "ytpmhlcnnbkicaaa", sum := "66cf1aad68dfffe587e8dedf8f1e9b6b328445f7d32dc6dc2db62c1eeb1d5090", func := "mantlet/mantletlaw24.RaceAlone", spec := "raceAlone", inPlace := ["maps.clone"], plainKeys := false, apart := false, narrowed := true }
def RaceAloneUptoSaid : Prop := raceAloneUptoRow.holds Try.pinned (OpenSpec.upto raceAloneSpec)

/-- 'mantletlaw19.MemOne', WHERE WHAT IT READS IS OF BULK AT MOST 1048576: true; the input reads as it did. -/
def memOneUptoRow : OpenClaim := { program := "ytpmhlcnnbkicaaa", sum := "66cf1aad68dfffe587e8dedf8f1e9b6b328445f7d32dc6dc2db62c1eeb1d5090", func := "mantlet/mantletlaw19.MemOne", spec := "memOne", unfollowed := true, recurses := true, plainKeys := false, apart := false, narrowed := true }
def MemOneUptoSaid : Prop := memOneUptoRow.holds Try.pinned (OpenSpec.upto memOneSpec)

/-- 'mantletlaw19.MemSwaps', WHERE WHAT IT READS IS OF BULK AT MOST 1048576: true; the input reads as it did. -/
def memSwapsUptoRow : OpenClaim := { program := "ytpmhlcnnbkicaaa", sum := "66cf1aad68dfffe587e8dedf8f1e9b6b328445f7d32dc6dc2db62c1eeb1d5090", func := "mantlet/mantletlaw19.MemSwaps", spec := "memSwaps", unfollowed := true, recurses := true, plainKeys := false, apart := false, narrowed := true }
def MemSwapsUptoSaid : Prop := memSwapsUptoRow.holds Try.pinned (OpenSpec.upto memSwapsSpec)

/-- 'mantletlaw19.MemPlays', WHERE WHAT IT READS IS OF BULK AT MOST 1048576: true; the input reads as it did. -/
def memPlaysUptoRow : OpenClaim := { program := "ytpmhlcnnbkicaaa", sum := "66cf1aad68dfffe587e8dedf8f1e9b6b328445f7d32dc6dc2db62c1eeb1d5090", func := "mantlet/mantletlaw19.MemPlays", spec := "memPlays", unfollowed := true, recurses := true, plainKeys := false, apart := false, narrowed := true }
def MemPlaysUptoSaid : Prop := memPlaysUptoRow.holds Try.pinned (OpenSpec.upto memPlaysSpec)

/-- 'mantletlaw19.MemNone', WHERE WHAT IT READS IS OF BULK AT MOST 1048576: true; the input reads as it did. -/
def memNoneUptoRow : OpenClaim := { program := "ytpmhlcnnbkicaaa", sum := "66cf1aad68dfffe587e8dedf8f1e9b6b328445f7d32dc6dc2db62c1eeb1d5090", func := "mantlet/mantletlaw19.MemNone", spec := "memNone", unfollowed := true, recurses := true, plainKeys := false, apart := false, narrowed := true }
def MemNoneUptoSaid : Prop := memNoneUptoRow.holds Try.pinned (OpenSpec.upto memNoneSpec)

end Rows
end Go.Proofs.Ytpmhlcnnbkicaaa
