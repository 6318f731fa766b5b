/- Some of the program's facts that FallocFull' row asks for. -/
import Derived.KernelRfl
import Derived.Test.YtponjccgpbgnoaaGreatDoorRows
import Derived.LaidMore
import Derived.Lay
import Derived.SevenTiedAt
import Derived.Test.YtponjccgpbgnoaaGreatDoorCards
import Derived.LaidOnce
import Derived.ProofKit
import Derived.OpenShut
import Derived.Below
set_option linter.unusedVariables false
set_option linter.unusedSimpArgs false
set_option linter.unusedSectionVars false
namespace Go.Proofs.YtponjccgpbgnoaaGreatDoor.fallocFullM
open Go Go.ChangeShapes Go.WideShapes Go.ChangeAt Go.RowKit
theorem named1:Tryz.prog.funcNamed "salvor/salvorlaw29.FallocFull"=some 5:=by kernel_rfl
theorem text1:Go.Proofs.YtponjccgpbgnoaaGreatDoor.Rows.fallocFullRow.wfByText (OpenSpec.ofChange Go.Proofs.YtponjccgpbgnoaaGreatDoor.Rows.fallocFullSpec)=true:=by kernel_rfl
theorem main1:Tryz.prog.mainIs=some (true,"04f9594354cae27dc5441215c7c9cbc6178831e89c60a755bb84ccac3eff6356".toList):=by kernel_rfl
theorem looks1:true=Tryz.prog.looks []:=by kernel_rfl
theorem goes1:false=Go.Proofs.YtponjccgpbgnoaaGreatDoor.Rows.fallocFullRow.goesBy Tryz.prog:=by kernel_rfl
end Go.Proofs.YtponjccgpbgnoaaGreatDoor.fallocFullM
