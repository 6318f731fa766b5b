/- The laid variables that SuiteNames reads: their list. -/
import Derived.Test.YtbhphcgpfjoppaaGreatDoorSuiteRunsL
namespace Go.Proofs.YtbhphcgpfjoppaaGreatDoor.suiteNamesM
open Go Go.ChangeShapes Go.WideShapes Go.ChangeAt Go.RowKit
set_option linter.unusedVariables false
def laid : List (String × DataW Unit) := Rows.suiteNamesRow.laid
end Go.Proofs.YtbhphcgpfjoppaaGreatDoor.suiteNamesM
