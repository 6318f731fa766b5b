/- More of the program's facts that TruncNew' row asks for. -/
import Derived.KernelRfl
import Derived.Test.YthloojeefdjpjaaGreatDoorRows
import Derived.LaidMore
import Derived.Lay
import Derived.SevenTiedAt
import Derived.Test.YthloojeefdjpjaaGreatDoorCards
import Derived.LaidOnce
import Derived.ProofKit
import Derived.OpenShut
import Derived.Below
namespace Go.Proofs.YthloojeefdjpjaaGreatDoor.truncNewM
open Go Go.ChangeShapes Go.WideShapes Go.ChangeAt Go.RowKit
set_option linter.unusedVariables false
theorem limb9 : (Rows.truncNewRow.inPlace == Tryz.prog.inPlace 7) = true := by kernel_rfl
theorem limb10 : (Rows.truncNewRow.unfollowed == Tryz.prog.unfollowed 7) = true := by kernel_rfl
theorem limb11 : (Rows.truncNewRow.recurses == Tryz.prog.recurses 7) = true := by kernel_rfl
theorem limb12 : (Rows.truncNewRow.named == Tryz.prog.varsNamed 7) = true := by kernel_rfl
theorem limb22 : (Rows.truncNewRow.plainKeys == Tryz.prog.plainKeys) = true := by kernel_rfl
theorem limb24 : (Tryz.prog.stopsHeard) = true := by kernel_rfl
theorem limb25 : (Tryz.prog.mayEnter) = true := by kernel_rfl
theorem limb26 : (Rows.truncNewRow.lifted == Tryz.prog.liftsFinal) = true := by kernel_rfl
theorem limb27 : (Tryz.prog.make == some Rows.truncNewRow.make) = true := by kernel_rfl
end Go.Proofs.YthloojeefdjpjaaGreatDoor.truncNewM
