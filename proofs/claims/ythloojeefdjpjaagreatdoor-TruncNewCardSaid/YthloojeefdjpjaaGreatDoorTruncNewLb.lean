/- The program's facts that TruncNew' row asks for. -/
import Derived.KernelRfl
import Derived.Test.YthloojeefdjpjaaGreatDoorRows
import Derived.LaidMore
import Derived.Lay
import Derived.SevenTiedAt
import Derived.Test.YthloojeefdjpjaaGreatDoorCards
import Derived.LaidOnce
import Derived.ProofKit
import Derived.OpenShut
import Derived.Below
namespace Go.Proofs.YthloojeefdjpjaaGreatDoor.truncNewM
open Go Go.ChangeShapes Go.WideShapes Go.ChangeAt Go.RowKit
set_option linter.unusedVariables false
theorem band {a b : Bool} (ha : a = true) (hb : b = true) : (a && b) = true := by rw [ha, hb]; rfl
theorem limb0 : (Rows.truncNewRow.wf (OpenSpec.ofChange Rows.truncNewSpec)) = true := by kernel_rfl
theorem limb1 : (laidOutB Tryz.prog) = true := by kernel_rfl
theorem limb2 : (mapsRowed Tryz.prog) = true := by kernel_rfl
theorem limb3 : (Tryz.f7.params.all (Tryz.prog.readableRec ·)) = true := by kernel_rfl
theorem limb4 : (namedTie Tryz.prog Rows.truncNewRow.named Rows.truncNewSpec.vars) = true := by kernel_rfl
theorem limb5 : (Rows.truncNewRow.stops == []) = true := by kernel_rfl
theorem limb6 : (Tryz.prog.stops == []) = true := by kernel_rfl
theorem limb7 : (Rows.truncNewRow.knobs == []) = true := by kernel_rfl
theorem limb8 : (Tryz.prog.stopKnobs == []) = true := by kernel_rfl
end Go.Proofs.YthloojeefdjpjaaGreatDoor.truncNewM
