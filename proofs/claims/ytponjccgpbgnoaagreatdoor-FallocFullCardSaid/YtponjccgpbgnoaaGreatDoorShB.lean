/- ShredWrong: its ways (tools/gen_sh.py prints this). -/
import Derived.Test.YtponjccgpbgnoaaGreatDoorSh
set_option linter.unusedVariables false
set_option linter.unusedSimpArgs false
set_option linter.unusedSectionVars false
namespace Go.Proofs.YtponjccgpbgnoaaGreatDoor.Se
open Go Go.Proofs.YtponjccgpbgnoaaGreatDoor Go.RowKit
set_option maxRecDepth 1000000
variable [Inhabited QI]
end Go.Proofs.YtponjccgpbgnoaaGreatDoor.Se
