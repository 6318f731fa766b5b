/- The laid variables that EngineRuns reads. -/
import Derived.Test.YtbanpcnokkcjjaaGreatDoorEngineRunsM
import Derived.Test.YtbanpcnokkcjjaaGreatDoorRows
import Derived.LaidMore
import Derived.Lay
import Derived.SevenTiedAt
import Derived.Test.YtbanpcnokkcjjaaGreatDoorCards
import Derived.LaidOnce
import Derived.ProofKit
import Derived.OpenShut
import Derived.Below
namespace Go.Proofs.YtbanpcnokkcjjaaGreatDoor.engineRunsM
open Go Go.ChangeShapes Go.WideShapes Go.ChangeAt Go.RowKit
set_option linter.unusedVariables false
def laid : List (String × DataW Unit) := Rows.engineRunsRow.laid
def laidE : List (String × DataW Unit) := laid.filter fun x => x.1 == "math/bits.deBruijn64tab" || x.1 == "strconv.ErrRange" || x.1 == "strconv.ErrSyntax"
theorem laidE_gs : laidGs Tryz.prog laidE = gsE := by kernel_rfl
theorem walk (w : World) (hL : laidMetH Tryz.prog laid w) : Calls Tryz.prog 4 #[] w fun e w' => e = .returned (.bool true) ∧ Below w.heap.size w w' := by
  rw [MakeChecks.laidMetH_plain _ _ _ (by kernel_rfl)] at hL
  obtain ⟨ps, hps, _⟩ := hL
  exact laid_true (by with_reducible exact top_ok) laidE_gs runs (LR.nil _) w (laidVars_some _ hps)

theorem shape1 (os : Os) : ((World.laidAll Tryz.prog os laid).forCall (fun _ _ => 0) ⟨#[], #[], []⟩).variablesZipB Tryz.prog = true := by kernel_rfl
theorem shape2 (os : Os) : (((World.laidAll Tryz.prog os laid).forCall (fun _ _ => 0) ⟨#[], #[], []⟩).heap.toList.drop Tryz.prog.globals.size).take ((begin Tryz.prog (fun _ _ => 0) default).world.heap.size - Tryz.prog.globals.size) = (begin Tryz.prog (fun _ _ => 0) default).world.heap.toList.drop Tryz.prog.globals.size := by kernel_rfl
theorem met1 (os : Os) : (World.holding Tryz.prog os ⟨#[], #[], []⟩).layFits Tryz.prog laid [] = true := by kernel_rfl
theorem met2 (os : Os) : (World.holding Tryz.prog os ⟨#[], #[], []⟩).layIfaces Tryz.prog laid (World.laidAll Tryz.prog os laid) = true := by kernel_rfl
end Go.Proofs.YtbanpcnokkcjjaaGreatDoor.engineRunsM
