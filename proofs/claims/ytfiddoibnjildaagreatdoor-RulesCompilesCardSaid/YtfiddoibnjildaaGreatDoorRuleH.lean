/- The walk of the reference's Print. -/
import Derived.Test.YtfiddoibnjildaaGreatDoorRuleG
namespace Go.Proofs.YtfiddoibnjildaaGreatDoor
set_option linter.unusedSimpArgs false
set_option linter.unusedVariables false
open Go Go.RowKit

end Go.Proofs.YtfiddoibnjildaaGreatDoor
