/- More of the program's facts that FallocFull' row asks for. -/
import Derived.KernelRfl
import Derived.Test.YtponjccgpbgnoaaGreatDoorRows
import Derived.LaidMore
import Derived.Lay
import Derived.SevenTiedAt
import Derived.Test.YtponjccgpbgnoaaGreatDoorCards
import Derived.LaidOnce
import Derived.ProofKit
import Derived.OpenShut
import Derived.Below
set_option linter.unusedVariables false
set_option linter.unusedSimpArgs false
set_option linter.unusedSectionVars false
namespace Go.Proofs.YtponjccgpbgnoaaGreatDoor.fallocFullM
open Go Go.ChangeShapes Go.WideShapes Go.ChangeAt Go.RowKit
theorem limb9:(Go.Proofs.YtponjccgpbgnoaaGreatDoor.Rows.fallocFullRow.inPlace==Tryz.prog.inPlace 5)=true:=by kernel_rfl
theorem limb10:(Go.Proofs.YtponjccgpbgnoaaGreatDoor.Rows.fallocFullRow.unfollowed==Tryz.prog.unfollowed 5)=true:=by kernel_rfl
theorem limb11:(Go.Proofs.YtponjccgpbgnoaaGreatDoor.Rows.fallocFullRow.recurses==Tryz.prog.recurses 5)=true:=by kernel_rfl
theorem limb12:(Go.Proofs.YtponjccgpbgnoaaGreatDoor.Rows.fallocFullRow.named==Tryz.prog.varsNamed 5)=true:=by kernel_rfl
theorem limb22:(Go.Proofs.YtponjccgpbgnoaaGreatDoor.Rows.fallocFullRow.plainKeys==Tryz.prog.plainKeys)=true:=by kernel_rfl
theorem limb24:(Tryz.prog.stopsHeard)=true:=by kernel_rfl
theorem limb25:(Tryz.prog.mayEnter)=true:=by kernel_rfl
theorem limb26:(Go.Proofs.YtponjccgpbgnoaaGreatDoor.Rows.fallocFullRow.lifted==Tryz.prog.liftsFinal)=true:=by kernel_rfl
theorem limb27:(Tryz.prog.make==some Go.Proofs.YtponjccgpbgnoaaGreatDoor.Rows.fallocFullRow.make)=true:=by kernel_rfl
end Go.Proofs.YtponjccgpbgnoaaGreatDoor.fallocFullM
