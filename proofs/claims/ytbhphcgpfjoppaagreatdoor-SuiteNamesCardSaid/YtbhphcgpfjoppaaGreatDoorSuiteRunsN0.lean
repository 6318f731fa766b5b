/- Facts of SuiteRuns's program, some of them. -/
import Derived.Test.YtbhphcgpfjoppaaGreatDoorSuiteRunsN
import Derived.KernelRfl
namespace Go.Proofs.YtbhphcgpfjoppaaGreatDoor.suiteRunsM
open Go Go.ChangeShapes Go.WideShapes Go.ChangeAt Go.RowKit
set_option linter.unusedVariables false
theorem shape1 (os : Os) : ((World.laidAll Tryz.prog os laid).forCall (fun _ _ => 0) ⟨#[], #[], []⟩).variablesZipB Tryz.prog = true := by kernel_rfl
theorem shape2 (os : Os) : (((World.laidAll Tryz.prog os laid).forCall (fun _ _ => 0) ⟨#[], #[], []⟩).heap.toList.drop Tryz.prog.globals.size).take ((begin Tryz.prog (fun _ _ => 0) default).world.heap.size - Tryz.prog.globals.size) = (begin Tryz.prog (fun _ _ => 0) default).world.heap.toList.drop Tryz.prog.globals.size := by kernel_rfl
theorem met1 (os : Os) : (World.holding Tryz.prog os ⟨#[], #[], []⟩).layFits Tryz.prog laid [] = true := by kernel_rfl
theorem met2 (os : Os) : (World.holding Tryz.prog os ⟨#[], #[], []⟩).layIfaces Tryz.prog laid (World.laidAll Tryz.prog os laid) = true := by kernel_rfl
theorem limb0 : (Rows.suiteRunsRow.wf (OpenSpec.ofChange Rows.suiteRunsSpec)) = true := by kernel_rfl
theorem limb1 : (laidOutB Tryz.prog) = true := by kernel_rfl
end Go.Proofs.YtbhphcgpfjoppaaGreatDoor.suiteRunsM
