/- Some of the program's facts that TruncNew' row asks for. -/
import Derived.KernelRfl
import Derived.Test.YthloojeefdjpjaaGreatDoorRows
import Derived.LaidMore
import Derived.Lay
import Derived.SevenTiedAt
import Derived.Test.YthloojeefdjpjaaGreatDoorCards
import Derived.LaidOnce
import Derived.ProofKit
import Derived.OpenShut
import Derived.Below
namespace Go.Proofs.YthloojeefdjpjaaGreatDoor.truncNewM
open Go Go.ChangeShapes Go.WideShapes Go.ChangeAt Go.RowKit
set_option linter.unusedVariables false
theorem named1 : Tryz.prog.funcNamed "salvor/salvorlaw28.TruncNew" = some 7 := by kernel_rfl
theorem text1 : Rows.truncNewRow.wfByText (OpenSpec.ofChange Rows.truncNewSpec) = true := by kernel_rfl
theorem main1 : Tryz.prog.mainIs = some (true, "56e5b912f54241fdb74ce9cd301f54a671483a55f01bf417b49f194c91a5bcce".toList) := by kernel_rfl
theorem looks1 : true = Tryz.prog.looks [] := by kernel_rfl
theorem goes1 : false = Rows.truncNewRow.goesBy Tryz.prog := by kernel_rfl
end Go.Proofs.YthloojeefdjpjaaGreatDoor.truncNewM
