/- Told calls of DdRuns: the sentence's own. -/
import Derived.Test.YthloojeefdjpjaaGreatDoorDdRunsM0
import Derived.Test.YthloojeefdjpjaaGreatDoorDdRunsM1
import Derived.Test.YthloojeefdjpjaaGreatDoorDdRunsM2
import Derived.Test.YthloojeefdjpjaaGreatDoorMemo
import Derived.Test.YthloojeefdjpjaaGreatDoorSpD
import Derived.KernelRfl
namespace Go.Proofs.YthloojeefdjpjaaGreatDoor.ddRunsM
open Go Go.RowKit
set_option linter.unusedVariables false
set_option maxRecDepth 10000000
noncomputable def top : Sp := fun f =>
  bif Nat.beq f 15 then some (memo_ [e2])
  else   bif Nat.beq f 16 then some (memo_ [e204])
  else spD f
theorem top_ok : CallOk Tryz.prog (spCall top) Tryz.prog.globals.size := by
  unfold top
  with_reducible exact (told_cons (memo_told (memo_cons rfl o2 memo_nil)) (told_cons (memo_told (memo_cons rfl o204 memo_nil)) spD_ok))
theorem runs : saysTrue (answer env top 20000 3 [] ⟨Tryz.prog.globals.size, .nil⟩) = true := by kernel_rfl
end Go.Proofs.YthloojeefdjpjaaGreatDoor.ddRunsM
