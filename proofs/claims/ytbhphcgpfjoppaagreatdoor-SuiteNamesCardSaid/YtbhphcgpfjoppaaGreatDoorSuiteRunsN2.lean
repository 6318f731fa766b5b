/- Facts of SuiteRuns's program, some of them. -/
import Derived.Test.YtbhphcgpfjoppaaGreatDoorSuiteRunsN
import Derived.KernelRfl
namespace Go.Proofs.YtbhphcgpfjoppaaGreatDoor.suiteRunsM
open Go Go.ChangeShapes Go.WideShapes Go.ChangeAt Go.RowKit
set_option linter.unusedVariables false
theorem limb8 : (Tryz.prog.stopKnobs == []) = true := by kernel_rfl
theorem limb9 : (Rows.suiteRunsRow.inPlace == Tryz.prog.inPlace 4) = true := by kernel_rfl
theorem limb10 : (Rows.suiteRunsRow.unfollowed == Tryz.prog.unfollowed 4) = true := by kernel_rfl
theorem limb11 : (Rows.suiteRunsRow.recurses == Tryz.prog.recurses 4) = true := by kernel_rfl
theorem limb12 : (Rows.suiteRunsRow.named == Tryz.prog.varsNamed 4) = true := by kernel_rfl
theorem limb22 : (Rows.suiteRunsRow.plainKeys == Tryz.prog.plainKeys) = true := by kernel_rfl
end Go.Proofs.YtbhphcgpfjoppaaGreatDoor.suiteRunsM
