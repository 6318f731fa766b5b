/- Facts of SuiteRuns's program, some of them. -/
import Derived.Test.YtbhphcgpfjoppaaGreatDoorSuiteRunsN
import Derived.KernelRfl
namespace Go.Proofs.YtbhphcgpfjoppaaGreatDoor.suiteRunsM
open Go Go.ChangeShapes Go.WideShapes Go.ChangeAt Go.RowKit
set_option linter.unusedVariables false
theorem limb24 : (Tryz.prog.stopsHeard) = true := by kernel_rfl
theorem limb25 : (Tryz.prog.mayEnter) = true := by kernel_rfl
theorem limb26 : (Rows.suiteRunsRow.lifted == Tryz.prog.liftsFinal) = true := by kernel_rfl
theorem limb27 : (Tryz.prog.make == some Rows.suiteRunsRow.make) = true := by kernel_rfl
theorem named1 : Tryz.prog.funcNamed "salvor/salvorlaw31.SuiteRuns" = some 4 := by kernel_rfl
theorem main1 : Tryz.prog.mainIs = some (true, "d5ae17681ed6529dea53a5900139dfd2db575d63baa10ef19b4d7818c4783ce6".toList) := by kernel_rfl
end Go.Proofs.YtbhphcgpfjoppaaGreatDoor.suiteRunsM
