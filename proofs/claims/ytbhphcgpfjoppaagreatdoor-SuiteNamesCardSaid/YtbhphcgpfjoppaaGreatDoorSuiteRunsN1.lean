/- Facts of SuiteRuns's program, some of them. -/
import Derived.Test.YtbhphcgpfjoppaaGreatDoorSuiteRunsN
import Derived.KernelRfl
namespace Go.Proofs.YtbhphcgpfjoppaaGreatDoor.suiteRunsM
open Go Go.ChangeShapes Go.WideShapes Go.ChangeAt Go.RowKit
set_option linter.unusedVariables false
theorem limb2 : (mapsRowed Tryz.prog) = true := by kernel_rfl
theorem limb3 : (Tryz.f4.params.all (Tryz.prog.readableRec ·)) = true := by kernel_rfl
theorem limb4 : (namedTie Tryz.prog Rows.suiteRunsRow.named Rows.suiteRunsSpec.vars) = true := by kernel_rfl
theorem limb5 : (Rows.suiteRunsRow.stops == []) = true := by kernel_rfl
theorem limb6 : (Tryz.prog.stops == []) = true := by kernel_rfl
theorem limb7 : (Rows.suiteRunsRow.knobs == []) = true := by kernel_rfl
end Go.Proofs.YtbhphcgpfjoppaaGreatDoor.suiteRunsM
