/- The closed sentence of chapter 28, told. -/
import Derived.Test.YthloojeefdjpjaaGreatDoorSp
import Derived.Test.YthloojeefdjpjaaGreatDoorDig
import Derived.KernelRfl
namespace Go.Proofs.YthloojeefdjpjaaGreatDoor
open Go Go.RowKit
set_option maxRecDepth 10000000 in
theorem truncRuns_runs : saysTrue (answer env sp 3000 37 [] ⟨Tryz.prog.globals.size, .nil⟩) = true := by kernel_rfl
theorem truncRuns_true : TrueRun 37 := fun w => closed_true (by with_reducible exact sp_ok) truncRuns_runs w
end Go.Proofs.YthloojeefdjpjaaGreatDoor
