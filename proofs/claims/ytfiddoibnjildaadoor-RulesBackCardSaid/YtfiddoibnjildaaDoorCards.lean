/-
  DERIVED. GIVEN WITH THE SEED: THE CARDS: each row of YtfiddoibnjildaaDoorRows.lean that lists a variable, with what it lists TIED to the program's text (the seventh form; the later family's looks); each row that meets fmt, with fmt's text TOLD by the authors' own Lean function (tested against real Go, not proved from fmt's source: count such statements apart). THE CARD IS WHAT COUNTS. Prove the row's statement (the work); the ties are given (YtfiddoibnjildaaDoorTie.lean); close each card by the builder's one call (the guide's Derived/Test/ToyasCard.lean, 'card_holds'). Laid BY PROGRAM, IN A SANDBOX (cutbox-door.mjs). By AI agents, Wed Nov 11 2026. No macro, syntax, notation, axiom, sorry.
-/
import Derived.Test.YtfiddoibnjildaaDoorRows
import GoSem.ClaimSeven
namespace Go.Proofs.YtfiddoibnjildaaDoor
namespace Rows

/-- THE TIED CARD OF 'mantletlaw12.RulesPrints'. -/
def rulesPrintsCard : Claim7 := { stood := { row := rulesPrintsRow, standIns := [], harness := (true, "82bd083449b4afde437d6d5e9fc80c4da3ad091118e66d848106dc94e448f99c"), looks := true }, kinds := [], alts := [], laidByText := true, laidKinds := [.data, .data, .data, .data, .sentinel, .sentinel, .listed, .data, .pinned], laidTests := true, laidLooks := .later }
def RulesPrintsCardSaid : Prop := Claim7.holds Tryd.pinned (.plain (OpenSpec.ofChange rulesPrintsSpec)) rulesPrintsCard

/-- THE TIED CARD OF 'mantletlaw12.RulesBack'. -/
def rulesBackCard : Claim7 := { stood := { row := rulesBackRow, standIns := [], harness := (true, "82bd083449b4afde437d6d5e9fc80c4da3ad091118e66d848106dc94e448f99c"), looks := true }, kinds := [], alts := [], laidByText := true, laidKinds := [.data, .data, .data, .data, .sentinel, .sentinel, .listed, .data, .pinned], laidTests := true, laidLooks := .later }
def RulesBackCardSaid : Prop := Claim7.holds Tryd.pinned (.plain (OpenSpec.ofChange rulesBackSpec)) rulesBackCard

/-- THE SECOND FORM's CARD OF 'mantletlaw12.RulesPrints'. -/
def rulesPrintsUptoCard : Claim7 := { stood := { row := rulesPrintsUptoRow, standIns := [], harness := (true, "82bd083449b4afde437d6d5e9fc80c4da3ad091118e66d848106dc94e448f99c"), looks := true }, kinds := [], alts := [], laidByText := true, laidKinds := [.data, .data, .data, .data, .sentinel, .sentinel, .listed, .data, .pinned], laidTests := true, laidLooks := .later }
def RulesPrintsUptoCardSaid : Prop := Claim7.holds Tryd.pinned (.plain (OpenSpec.upto rulesPrintsSpec)) rulesPrintsUptoCard

/-- THE SECOND FORM's CARD OF 'mantletlaw12.RulesBack'. -/
def rulesBackUptoCard : Claim7 := { stood := { row := rulesBackUptoRow, standIns := [], harness := (true, "82bd083449b4afde437d6d5e9fc80c4da3ad091118e66d848106dc94e448f99c"), looks := true }, kinds := [], alts := [], laidByText := true, laidKinds := [.data, .data, .data, .data, .sentinel, .sentinel, .listed, .data, .pinned], laidTests := true, laidLooks := .later }
def RulesBackUptoCardSaid : Prop := Claim7.holds Tryd.pinned (.plain (OpenSpec.upto rulesBackSpec)) rulesBackUptoCard
end Rows
end Go.Proofs.YtfiddoibnjildaaDoor
