/- More of the program's facts that DdRuns' row asks for. -/
import Derived.Test.YthloojeefdjpjaaGreatDoorDdRunsLb
import Derived.Test.YthloojeefdjpjaaGreatDoorRows
import Derived.LaidMore
import Derived.Lay
import Derived.SevenTiedAt
import Derived.Test.YthloojeefdjpjaaGreatDoorCards
import Derived.LaidOnce
import Derived.ProofKit
import Derived.OpenShut
import Derived.Below
namespace Go.Proofs.YthloojeefdjpjaaGreatDoor.ddRunsM
open Go Go.ChangeShapes Go.WideShapes Go.ChangeAt Go.RowKit
set_option linter.unusedVariables false
theorem limb9 : (Rows.ddRunsRow.inPlace == Tryz.prog.inPlace 3) = true := by kernel_rfl
theorem limb10 : (Rows.ddRunsRow.unfollowed == Tryz.prog.unfollowed 3) = true := by kernel_rfl
theorem limb11 : (Rows.ddRunsRow.recurses == Tryz.prog.recurses 3) = true := by kernel_rfl
theorem limb12 : (Rows.ddRunsRow.named == Tryz.prog.varsNamed 3) = true := by kernel_rfl
theorem limb22 : (Rows.ddRunsRow.plainKeys == Tryz.prog.plainKeys) = true := by kernel_rfl
theorem limb24 : (Tryz.prog.stopsHeard) = true := by kernel_rfl
theorem limb25 : (Tryz.prog.mayEnter) = true := by kernel_rfl
theorem limb26 : (Rows.ddRunsRow.lifted == Tryz.prog.liftsFinal) = true := by kernel_rfl
theorem limb27 : (Tryz.prog.make == some Rows.ddRunsRow.make) = true := by kernel_rfl
end Go.Proofs.YthloojeefdjpjaaGreatDoor.ddRunsM
