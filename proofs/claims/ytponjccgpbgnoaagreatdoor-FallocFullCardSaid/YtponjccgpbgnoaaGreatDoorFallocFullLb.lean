/- The program's facts that FallocFull' row asks for. -/
import Derived.KernelRfl
import Derived.Test.YtponjccgpbgnoaaGreatDoorRows
import Derived.LaidMore
import Derived.Lay
import Derived.SevenTiedAt
import Derived.Test.YtponjccgpbgnoaaGreatDoorCards
import Derived.LaidOnce
import Derived.ProofKit
import Derived.OpenShut
import Derived.Below
set_option linter.unusedVariables false
set_option linter.unusedSimpArgs false
set_option linter.unusedSectionVars false
namespace Go.Proofs.YtponjccgpbgnoaaGreatDoor.fallocFullM
open Go Go.ChangeShapes Go.WideShapes Go.ChangeAt Go.RowKit
theorem band{a b:Bool}(ha:a=true)(hb:b=true):(a&&b)=true:=by rw[ha,hb];rfl
theorem limb0:(Go.Proofs.YtponjccgpbgnoaaGreatDoor.Rows.fallocFullRow.wf (OpenSpec.ofChange Go.Proofs.YtponjccgpbgnoaaGreatDoor.Rows.fallocFullSpec))=true:=by kernel_rfl
theorem limb1:(laidOutB Tryz.prog)=true:=by kernel_rfl
theorem limb2:(mapsRowed Tryz.prog)=true:=by kernel_rfl
theorem limb3:(Tryz.f5.params.all (Tryz.prog.readableRec ·))=true:=by kernel_rfl
theorem limb4:(namedTie Tryz.prog Go.Proofs.YtponjccgpbgnoaaGreatDoor.Rows.fallocFullRow.named Go.Proofs.YtponjccgpbgnoaaGreatDoor.Rows.fallocFullSpec.vars)=true:=by kernel_rfl
theorem limb5:(Go.Proofs.YtponjccgpbgnoaaGreatDoor.Rows.fallocFullRow.stops==[])=true:=by kernel_rfl
theorem limb6:(Tryz.prog.stops==[])=true:=by kernel_rfl
theorem limb7:(Go.Proofs.YtponjccgpbgnoaaGreatDoor.Rows.fallocFullRow.knobs==[])=true:=by kernel_rfl
theorem limb8:(Tryz.prog.stopKnobs==[])=true:=by kernel_rfl
end Go.Proofs.YtponjccgpbgnoaaGreatDoor.fallocFullM
