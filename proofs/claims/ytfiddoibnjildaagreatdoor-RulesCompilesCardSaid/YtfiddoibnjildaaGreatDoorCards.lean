/-
  DERIVED. GIVEN WITH THE SEED: THE CARDS: each row of YtfiddoibnjildaaGreatDoorRows.lean that lists a variable, with what it lists TIED to the program's text (the seventh form; the later family's looks); each row that meets fmt, with fmt's text TOLD by the authors' own Lean function (tested against real Go, not proved from fmt's source: count such statements apart). THE CARD IS WHAT COUNTS. Prove the row's statement (the work); the ties are given (YtfiddoibnjildaaGreatDoorTie.lean); close each card by the builder's one call (the guide's Derived/Test/ToyasCard.lean, 'card_holds'). Laid BY PROGRAM, IN A SANDBOX (cutbox-door.mjs). By AI agents, Wed Nov 11 2026. No macro, syntax, notation, axiom, sorry.
-/
import Derived.Test.YtfiddoibnjildaaGreatDoorRows
import GoSem.ClaimSeven
namespace Go.Proofs.YtfiddoibnjildaaGreatDoor
namespace Rows

/-- THE TIED CARD OF 'mantletlaw12.RulesCompiles'. -/
def rulesCompilesCard : Claim7 := { stood := { row := rulesCompilesRow, standIns := [], harness := (true, "8770c21ec90f571f74c0d062be1fa3242c87377f81c9fec6157b1396d40a62c6"), looks := true }, kinds := [], alts := [], laidByText := true, laidKinds := [.data, .data, .data, .data, .sentinel, .sentinel, .listed, .data, .pinned], laidTests := true, laidLooks := .later }
def RulesCompilesCardSaid : Prop := Claim7.holds Tryz.pinned (.plain (OpenSpec.ofChange rulesCompilesSpec)) rulesCompilesCard

/-- THE SECOND FORM's CARD OF 'mantletlaw12.RulesCompiles'. -/
def rulesCompilesUptoCard : Claim7 := { stood := { row := rulesCompilesUptoRow, standIns := [], harness := (true, "8770c21ec90f571f74c0d062be1fa3242c87377f81c9fec6157b1396d40a62c6"), looks := true }, kinds := [], alts := [], laidByText := true, laidKinds := [.data, .data, .data, .data, .sentinel, .sentinel, .listed, .data, .pinned], laidTests := true, laidLooks := .later }
def RulesCompilesUptoCardSaid : Prop := Claim7.holds Tryz.pinned (.plain (OpenSpec.upto rulesCompilesSpec)) rulesCompilesUptoCard
end Rows
end Go.Proofs.YtfiddoibnjildaaGreatDoor
