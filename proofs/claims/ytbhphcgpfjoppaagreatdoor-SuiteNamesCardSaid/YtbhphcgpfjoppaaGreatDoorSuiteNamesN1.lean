/- Facts of SuiteNames' program, some of them. -/
import Derived.Test.YtbhphcgpfjoppaaGreatDoorSuiteNamesN
import Derived.KernelRfl

/- Facts of SuiteNames' program, some of them. -/
namespace Go.Proofs.YtbhphcgpfjoppaaGreatDoor.suiteNamesM
open Go Go.ChangeShapes Go.WideShapes Go.ChangeAt Go.RowKit
set_option linter.unusedVariables false
theorem limb3 : (Tryz.f5.params.all (Tryz.prog.readableRec ·)) = true := by kernel_rfl
theorem limb4 : (namedTie Tryz.prog Rows.suiteNamesRow.named Rows.suiteNamesSpec.vars) = true := by kernel_rfl
theorem limb5 : (Rows.suiteNamesRow.stops == []) = true := by kernel_rfl
theorem limb7 : (Rows.suiteNamesRow.knobs == []) = true := by kernel_rfl
theorem limb9 : (Rows.suiteNamesRow.inPlace == Tryz.prog.inPlace 5) = true := by kernel_rfl
end Go.Proofs.YtbhphcgpfjoppaaGreatDoor.suiteNamesM

/- Facts of SuiteNames' program, some of them. -/
namespace Go.Proofs.YtbhphcgpfjoppaaGreatDoor.suiteNamesM
open Go Go.ChangeShapes Go.WideShapes Go.ChangeAt Go.RowKit
set_option linter.unusedVariables false
theorem text1 : Rows.suiteNamesRow.wfByText (OpenSpec.ofChange Rows.suiteNamesSpec) = true := by kernel_rfl
end Go.Proofs.YtbhphcgpfjoppaaGreatDoor.suiteNamesM

/- Facts of SuiteNames' program, some of them. -/
namespace Go.Proofs.YtbhphcgpfjoppaaGreatDoor.suiteNamesM
open Go Go.ChangeShapes Go.WideShapes Go.ChangeAt Go.RowKit
set_option linter.unusedVariables false
theorem limb27 : (Tryz.prog.make == some Rows.suiteNamesRow.make) = true := by kernel_rfl
theorem named1 : Tryz.prog.funcNamed "salvor/salvorlaw31.SuiteNames" = some 5 := by kernel_rfl
theorem goes1 : false = Rows.suiteNamesRow.goesBy Tryz.prog := suiteRunsM.goes_none (by kernel_rfl) _
end Go.Proofs.YtbhphcgpfjoppaaGreatDoor.suiteNamesM

