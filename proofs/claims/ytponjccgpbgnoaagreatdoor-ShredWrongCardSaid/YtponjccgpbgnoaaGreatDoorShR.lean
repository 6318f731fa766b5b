/- The closed sentence of chapter 27, told. -/
import Derived.Test.YtponjccgpbgnoaaGreatDoorSpX
import Derived.Test.YtponjccgpbgnoaaGreatDoorDig
import Derived.KernelRfl
set_option linter.unusedVariables false
set_option linter.unusedSimpArgs false
set_option linter.unusedSectionVars false
namespace Go.Proofs.YtponjccgpbgnoaaGreatDoor
open Go Go.RowKit
set_option maxRecDepth 10000000 in
theorem shredRuns_runs:saysTrue (zb4 env sp 3000 7 [] ⟨Tryz.prog.globals.size,.nil⟩)=true:=by kernel_rfl
theorem shredRuns_true:TrueRun 7:=fun w=>closed_true (by with_reducible exact sp_ok) shredRuns_runs w
end Go.Proofs.YtponjccgpbgnoaaGreatDoor
