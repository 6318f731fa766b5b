/- The laid variables that RescueRuns reads. -/
import Derived.Test.YtbanpcnokkcjjaaGreatDoorRescueRunsM
import Derived.Test.YtbanpcnokkcjjaaGreatDoorRows
import Derived.LaidMore
import Derived.Lay
import Derived.SevenTiedAt
import Derived.Test.YtbanpcnokkcjjaaGreatDoorCards
import Derived.LaidOnce
import Derived.ProofKit
import Derived.OpenShut
import Derived.Below
namespace Go.Proofs.YtbanpcnokkcjjaaGreatDoor.rescueRunsM
open Go Go.ChangeShapes Go.WideShapes Go.ChangeAt Go.RowKit
set_option linter.unusedVariables false
def laid : List (String × DataW Unit) := Rows.rescueRunsRow.laid
def laidE : List (String × DataW Unit) := laid.filter fun x => x.1 == "math/bits.deBruijn64tab" || x.1 == "strconv.ErrRange" || x.1 == "strconv.ErrSyntax"
theorem laidE_gs : laidGs Tryz.prog laidE = gsE := by kernel_rfl
theorem walk (w : World) (hL : laidMetH Tryz.prog laid w) : Calls Tryz.prog 5 #[] w fun e w' => e = .returned (.bool true) ∧ Below w.heap.size w w' := by
  rw [MakeChecks.laidMetH_plain _ _ _ (by kernel_rfl)] at hL
  obtain ⟨ps, hps, _⟩ := hL
  exact laid_true (by with_reducible exact top_ok) laidE_gs runs (LR.nil _) w (laidVars_some _ hps)

theorem shape1 (os : Os) : ((World.laidAll Tryz.prog os laid).forCall (fun _ _ => 0) ⟨#[], #[], []⟩).variablesZipB Tryz.prog = true := by kernel_rfl
theorem shape2 (os : Os) : (((World.laidAll Tryz.prog os laid).forCall (fun _ _ => 0) ⟨#[], #[], []⟩).heap.toList.drop Tryz.prog.globals.size).take ((begin Tryz.prog (fun _ _ => 0) default).world.heap.size - Tryz.prog.globals.size) = (begin Tryz.prog (fun _ _ => 0) default).world.heap.toList.drop Tryz.prog.globals.size := by kernel_rfl
theorem met1 (os : Os) : (World.holding Tryz.prog os ⟨#[], #[], []⟩).layFits Tryz.prog laid [] = true := by kernel_rfl
theorem met2 (os : Os) : (World.holding Tryz.prog os ⟨#[], #[], []⟩).layIfaces Tryz.prog laid (World.laidAll Tryz.prog os laid) = true := by kernel_rfl
theorem band {a b : Bool} (ha : a = true) (hb : b = true) : (a && b) = true := by rw [ha, hb]; rfl
theorem limb0 : (Rows.rescueRunsRow.wf (OpenSpec.ofChange Rows.rescueRunsSpec)) = true := by kernel_rfl
theorem limb1 : (laidOutB Tryz.prog) = true := by kernel_rfl
theorem limb2 : (mapsRowed Tryz.prog) = true := by kernel_rfl
theorem limb3 : (Tryz.f5.params.all (Tryz.prog.readableRec ·)) = true := by kernel_rfl
theorem limb4 : (namedTie Tryz.prog Rows.rescueRunsRow.named Rows.rescueRunsSpec.vars) = true := by kernel_rfl
theorem limb5 : (Rows.rescueRunsRow.stops == []) = true := by kernel_rfl
theorem limb6 : (Tryz.prog.stops == []) = true := by kernel_rfl
theorem limb7 : (Rows.rescueRunsRow.knobs == []) = true := by kernel_rfl
theorem limb8 : (Tryz.prog.stopKnobs == []) = true := by kernel_rfl
theorem limb9 : (Rows.rescueRunsRow.inPlace == Tryz.prog.inPlace 5) = true := by kernel_rfl
theorem limb10 : (Rows.rescueRunsRow.unfollowed == Tryz.prog.unfollowed 5) = true := by kernel_rfl
theorem limb11 : (Rows.rescueRunsRow.recurses == Tryz.prog.recurses 5) = true := by kernel_rfl
theorem limb12 : (Rows.rescueRunsRow.named == Tryz.prog.varsNamed 5) = true := by kernel_rfl
theorem limb22 : (Rows.rescueRunsRow.plainKeys == Tryz.prog.plainKeys) = true := by kernel_rfl
theorem limb24 : (Tryz.prog.stopsHeard) = true := by kernel_rfl
theorem limb25 : (Tryz.prog.mayEnter) = true := by kernel_rfl
theorem limb26 : (Rows.rescueRunsRow.lifted == Tryz.prog.liftsFinal) = true := by kernel_rfl
theorem limb27 : (Tryz.prog.make == some Rows.rescueRunsRow.make) = true := by kernel_rfl
theorem joined1 : joinedFacts Tryz.prog 5 Tryz.f5 Rows.rescueRunsSpec Rows.rescueRunsRow = true := by
  unfold joinedFacts
  exact (band (band (band (band (band (band (band (band (band (band (band (band (band (band (band (band (band (band (band (band (band (band (band (band (band (band (band (band (band (band (band limb0 limb1) limb2) limb3) limb4) limb5) limb6) limb7) limb8) limb9) limb10) limb11) limb12) (by kernel_rfl)) (by kernel_rfl)) (by kernel_rfl)) (by kernel_rfl)) (by kernel_rfl)) (by kernel_rfl)) (by kernel_rfl)) (by kernel_rfl)) (by kernel_rfl)) limb22) (by kernel_rfl)) limb24) limb25) limb26) limb27) (by kernel_rfl)) (by kernel_rfl)) (by kernel_rfl)) (by kernel_rfl))
theorem named1 : Tryz.prog.funcNamed "salvor/salvorlaw22.RescueRuns" = some 5 := by kernel_rfl
theorem text1 : Rows.rescueRunsRow.wfByText (OpenSpec.ofChange Rows.rescueRunsSpec) = true := by kernel_rfl
theorem main1 : Tryz.prog.mainIs = some (true, "97396ba027455058628ef0e9f535ae2c90ab6d8eba0d71abb3019951585d4677".toList) := by kernel_rfl
theorem looks1 : true = Tryz.prog.looks [] := by kernel_rfl
theorem goes1 : false = Rows.rescueRunsRow.goesBy Tryz.prog := by kernel_rfl
end Go.Proofs.YtbanpcnokkcjjaaGreatDoor.rescueRunsM
