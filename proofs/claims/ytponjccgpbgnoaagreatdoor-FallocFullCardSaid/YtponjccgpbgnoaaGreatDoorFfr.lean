/- The closed sentence of chapter 29, told. -/
import Derived.Test.YtponjccgpbgnoaaGreatDoorSpX
import Derived.Test.YtponjccgpbgnoaaGreatDoorDig
import Derived.KernelRfl
set_option linter.unusedVariables false
set_option linter.unusedSimpArgs false
set_option linter.unusedSectionVars false
namespace Go.Proofs.YtponjccgpbgnoaaGreatDoor
open Go Go.RowKit
set_option maxRecDepth 10000000 in
theorem fallocRuns_runs:saysTrue (zb6 env sp 3000 20 [] ⟨Tryz.prog.globals.size,.nil⟩)=true:=by kernel_rfl
theorem fallocRuns_true:TrueRun 20:=fun w=>closed_true (by with_reducible exact sp_ok) fallocRuns_runs w
end Go.Proofs.YtponjccgpbgnoaaGreatDoor
