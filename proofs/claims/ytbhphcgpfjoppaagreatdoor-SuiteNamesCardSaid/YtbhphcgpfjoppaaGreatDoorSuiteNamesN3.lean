/- Facts of SuiteNames' program, some of them. -/
import Derived.Test.YtbhphcgpfjoppaaGreatDoorSuiteNamesN
import Derived.KernelRfl
namespace Go.Proofs.YtbhphcgpfjoppaaGreatDoor.suiteNamesM
open Go Go.ChangeShapes Go.WideShapes Go.ChangeAt Go.RowKit
set_option linter.unusedVariables false
theorem limb10 : (Rows.suiteNamesRow.unfollowed == Tryz.prog.unfollowed 5) = true := by kernel_rfl
theorem limb11 : (Rows.suiteNamesRow.recurses == Tryz.prog.recurses 5) = true := by kernel_rfl
theorem limb12 : (Rows.suiteNamesRow.named == Tryz.prog.varsNamed 5) = true := by kernel_rfl
theorem limb22 : (Rows.suiteNamesRow.plainKeys == Tryz.prog.plainKeys) = true := by kernel_rfl
theorem limb26 : (Rows.suiteNamesRow.lifted == Tryz.prog.liftsFinal) = true := by kernel_rfl
end Go.Proofs.YtbhphcgpfjoppaaGreatDoor.suiteNamesM
