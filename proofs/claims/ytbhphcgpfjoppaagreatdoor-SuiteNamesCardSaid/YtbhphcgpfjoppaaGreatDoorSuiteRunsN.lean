/- The laid variables that SuiteRuns reads: their list. -/
import Derived.Test.YtbhphcgpfjoppaaGreatDoorSuiteRunsM
import Derived.Test.YtbhphcgpfjoppaaGreatDoorRows
import Derived.LaidMore
import Derived.Lay
import Derived.SevenTiedAt
import Derived.Test.YtbhphcgpfjoppaaGreatDoorCards
import Derived.LaidOnce
import Derived.ProofKit
import Derived.OpenShut
import Derived.Below
namespace Go.Proofs.YtbhphcgpfjoppaaGreatDoor.suiteRunsM
open Go Go.ChangeShapes Go.WideShapes Go.ChangeAt Go.RowKit
set_option linter.unusedVariables false
def laid : List (String × DataW Unit) := Rows.suiteRunsRow.laid
end Go.Proofs.YtbhphcgpfjoppaaGreatDoor.suiteRunsM
