/- The laid variables that SuiteRuns reads. -/
import Derived.Test.YtbhphcgpfjoppaaGreatDoorSuiteRunsM
import Derived.Test.YtbhphcgpfjoppaaGreatDoorSuiteRunsN
import Derived.Test.YtbhphcgpfjoppaaGreatDoorSuiteRunsN0
import Derived.Test.YtbhphcgpfjoppaaGreatDoorSuiteRunsN1
import Derived.Test.YtbhphcgpfjoppaaGreatDoorSuiteRunsN2
import Derived.Test.YtbhphcgpfjoppaaGreatDoorSuiteRunsN3
import Derived.Test.YtbhphcgpfjoppaaGreatDoorSuiteRunsN4
import Derived.Test.YtbhphcgpfjoppaaGreatDoorSuiteRunsN5
import Derived.Test.YtbhphcgpfjoppaaGreatDoorSuiteRunsN6
import Derived.Test.YtbhphcgpfjoppaaGreatDoorRows
import Derived.LaidMore
import Derived.Lay
import Derived.SevenTiedAt
import Derived.Test.YtbhphcgpfjoppaaGreatDoorCards
import Derived.LaidOnce
import Derived.ProofKit
import Derived.OpenShut
import Derived.Below
namespace Go.Proofs.YtbhphcgpfjoppaaGreatDoor.suiteRunsM
open Go Go.ChangeShapes Go.WideShapes Go.ChangeAt Go.RowKit
set_option linter.unusedVariables false
def laidE : List (String × DataW Unit) := laid.filter fun x => x.1 == "math/bits.deBruijn64tab" || x.1 == "strconv.ErrRange" || x.1 == "strconv.ErrSyntax"
theorem laidE_gs : laidGs Tryz.prog laidE = gsE := by kernel_rfl
theorem walk (w : World) (hL : laidMetH Tryz.prog laid w) : Calls Tryz.prog 4 #[] w fun e w' => e = .returned (.bool true) ∧ Below w.heap.size w w' := by
  rw [MakeChecks.laidMetH_plain _ _ _ (by kernel_rfl)] at hL
  obtain ⟨ps, hps, _⟩ := hL
  exact laid_true (by with_reducible exact top_ok) laidE_gs runs (LR.nil _) w (laidVars_some _ hps)

theorem band {a b : Bool} (ha : a = true) (hb : b = true) : (a && b) = true := by rw [ha, hb]; rfl
theorem joined1 : joinedFacts Tryz.prog 4 Tryz.f4 Rows.suiteRunsSpec Rows.suiteRunsRow = true := by
  unfold joinedFacts
  exact (band (band (band (band (band (band (band (band (band (band (band (band (band (band (band (band (band (band (band (band (band (band (band (band (band (band (band (band (band (band (band limb0 limb1) limb2) limb3) limb4) limb5) limb6) limb7) limb8) limb9) limb10) limb11) limb12) (by kernel_rfl)) (by kernel_rfl)) (by kernel_rfl)) (by kernel_rfl)) (by kernel_rfl)) (by kernel_rfl)) (by kernel_rfl)) (by kernel_rfl)) (by kernel_rfl)) limb22) (by kernel_rfl)) limb24) limb25) limb26) limb27) (by kernel_rfl)) (by kernel_rfl)) (by kernel_rfl)) (by kernel_rfl))
end Go.Proofs.YtbhphcgpfjoppaaGreatDoor.suiteRunsM
