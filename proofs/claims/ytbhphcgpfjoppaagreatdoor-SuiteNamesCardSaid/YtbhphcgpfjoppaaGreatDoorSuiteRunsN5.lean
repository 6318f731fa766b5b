/- Facts of SuiteRuns's program, some of them. -/
import Derived.Test.YtbhphcgpfjoppaaGreatDoorSuiteRunsN
import Derived.KernelRfl
namespace Go.Proofs.YtbhphcgpfjoppaaGreatDoor.suiteRunsM
open Go Go.ChangeShapes Go.WideShapes Go.ChangeAt Go.RowKit
set_option linter.unusedVariables false
theorem looks1 : true = Tryz.prog.looks [] := by kernel_rfl
end Go.Proofs.YtbhphcgpfjoppaaGreatDoor.suiteRunsM
