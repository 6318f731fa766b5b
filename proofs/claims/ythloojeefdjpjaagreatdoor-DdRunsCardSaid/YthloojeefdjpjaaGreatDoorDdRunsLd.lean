/- The last of the program's facts that DdRuns' row asks for. -/
import Derived.Test.YthloojeefdjpjaaGreatDoorDdRunsLc
import Derived.Test.YthloojeefdjpjaaGreatDoorRows
import Derived.LaidMore
import Derived.Lay
import Derived.SevenTiedAt
import Derived.Test.YthloojeefdjpjaaGreatDoorCards
import Derived.LaidOnce
import Derived.ProofKit
import Derived.OpenShut
import Derived.Below
namespace Go.Proofs.YthloojeefdjpjaaGreatDoor.ddRunsM
open Go Go.ChangeShapes Go.WideShapes Go.ChangeAt Go.RowKit
set_option linter.unusedVariables false
theorem joined1 : joinedFacts Tryz.prog 3 Tryz.f3 Rows.ddRunsSpec Rows.ddRunsRow = true := by
  unfold joinedFacts
  exact (band (band (band (band (band (band (band (band (band (band (band (band (band (band (band (band (band (band (band (band (band (band (band (band (band (band (band (band (band (band (band limb0 limb1) limb2) limb3) limb4) limb5) limb6) limb7) limb8) limb9) limb10) limb11) limb12) (by kernel_rfl)) (by kernel_rfl)) (by kernel_rfl)) (by kernel_rfl)) (by kernel_rfl)) (by kernel_rfl)) (by kernel_rfl)) (by kernel_rfl)) (by kernel_rfl)) limb22) (by kernel_rfl)) limb24) limb25) limb26) limb27) (by kernel_rfl)) (by kernel_rfl)) (by kernel_rfl)) (by kernel_rfl))
theorem named1 : Tryz.prog.funcNamed "salvor/salvorlaw25.DdRuns" = some 3 := by kernel_rfl
theorem text1 : Rows.ddRunsRow.wfByText (OpenSpec.ofChange Rows.ddRunsSpec) = true := by kernel_rfl
theorem main1 : Tryz.prog.mainIs = some (true, "56e5b912f54241fdb74ce9cd301f54a671483a55f01bf417b49f194c91a5bcce".toList) := by kernel_rfl
theorem looks1 : true = Tryz.prog.looks [] := by kernel_rfl
theorem goes1 : false = Rows.ddRunsRow.goesBy Tryz.prog := by kernel_rfl
end Go.Proofs.YthloojeefdjpjaaGreatDoor.ddRunsM
