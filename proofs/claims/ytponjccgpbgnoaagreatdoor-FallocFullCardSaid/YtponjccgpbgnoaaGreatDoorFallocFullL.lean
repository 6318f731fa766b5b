/- The laid variables that FallocFull reads. -/
import Derived.Test.YtponjccgpbgnoaaGreatDoorFfW
import Derived.Test.YtponjccgpbgnoaaGreatDoorRows
import Derived.LaidMore
import Derived.Lay
import Derived.SevenTiedAt
import Derived.Test.YtponjccgpbgnoaaGreatDoorCards
import Derived.LaidOnce
import Derived.ProofKit
import Derived.OpenShut
import Derived.Below
set_option linter.unusedVariables false
set_option linter.unusedSimpArgs false
set_option linter.unusedSectionVars false
namespace Go.Proofs.YtponjccgpbgnoaaGreatDoor.fallocFullM
open Go Go.ChangeShapes Go.WideShapes Go.ChangeAt Go.RowKit
theorem shape1(os:Os):((World.laidAll Tryz.prog os laid).forCall (fun _ _=>0) ⟨#[],#[],[]⟩).variablesZipB Tryz.prog=true:=by kernel_rfl
theorem shape2(os:Os):(((World.laidAll Tryz.prog os laid).forCall (fun _ _=>0) ⟨#[],#[],[]⟩).heap.toList.drop Tryz.prog.globals.size).take ((begin Tryz.prog (fun _ _=>0) default).world.heap.size-Tryz.prog.globals.size)=(begin Tryz.prog (fun _ _=>0) default).world.heap.toList.drop Tryz.prog.globals.size:=by kernel_rfl
theorem met1(os:Os):(World.holding Tryz.prog os ⟨#[],#[],[]⟩).layFits Tryz.prog laid []=true:=by kernel_rfl
theorem met2(os:Os):(World.holding Tryz.prog os ⟨#[],#[],[]⟩).layIfaces Tryz.prog laid (World.laidAll Tryz.prog os laid)=true:=by kernel_rfl
end Go.Proofs.YtponjccgpbgnoaaGreatDoor.fallocFullM
