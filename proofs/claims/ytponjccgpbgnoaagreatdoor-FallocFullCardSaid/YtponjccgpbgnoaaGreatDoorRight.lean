/- salvorkeep.Right, told. -/
import Derived.Test.YtponjccgpbgnoaaGreatDoorTa
set_option linter.unusedVariables false
set_option linter.unusedSimpArgs false
set_option linter.unusedSectionVars false
namespace Go.Proofs.YtponjccgpbgnoaaGreatDoor.Se
open Go Go.Proofs.YtponjccgpbgnoaaGreatDoor Go.RowKit
set_option maxRecDepth 1000000
variable [Inhabited QI]
end Go.Proofs.YtponjccgpbgnoaaGreatDoor.Se
