/-
  DERIVED. GIVEN WITH THE SEED: THE CARDS: each row of YtbhphcgpfjoppaaGreatDoorRows.lean that lists a variable, with what it lists TIED to the program's text (the seventh form; the later family's looks); each row that meets fmt, with fmt's text TOLD by the authors' own Lean function (tested against real Go, not proved from fmt's source: count such statements apart). THE CARD IS WHAT COUNTS. Prove the row's statement (the work); the ties are given (YtbhphcgpfjoppaaGreatDoorTie.lean); close each card by the builder's one call (the guide's Derived/Test/ToyasCard.lean, 'card_holds'). Laid BY PROGRAM, IN A SANDBOX (cutbox-door.mjs). By AI agents, Wed Nov 11 2026. No macro, syntax, notation, axiom, sorry.
-/
import Derived.Test.YtbhphcgpfjoppaaGreatDoorRows
import GoSem.ClaimSeven
namespace Go.Proofs.YtbhphcgpfjoppaaGreatDoor
namespace Rows

/-- THE TIED CARD OF 'salvorlaw25.DdRuns'. -/
def ddRunsCard : Claim7 := { stood := { row := ddRunsRow, standIns := [], harness := (true, "d5ae17681ed6529dea53a5900139dfd2db575d63baa10ef19b4d7818c4783ce6"), looks := true }, kinds := [], alts := [], laidByText := true, laidKinds := [.data, .data, .data, .data, .sentinel, .sentinel, .pinned], laidTests := true, laidLooks := .later }
def DdRunsCardSaid : Prop := Claim7.holds Tryz.pinned (.plain (OpenSpec.ofChange ddRunsSpec)) ddRunsCard

/-- THE TIED CARD OF 'salvorlaw31.SuiteRuns'. -/
def suiteRunsCard : Claim7 := { stood := { row := suiteRunsRow, standIns := [], harness := (true, "d5ae17681ed6529dea53a5900139dfd2db575d63baa10ef19b4d7818c4783ce6"), looks := true }, kinds := [], alts := [], laidByText := true, laidKinds := [.data, .data, .data, .data, .sentinel, .sentinel, .pinned, .pinned], laidTests := true, laidLooks := .later }
def SuiteRunsCardSaid : Prop := Claim7.holds Tryz.pinned (.plain (OpenSpec.ofChange suiteRunsSpec)) suiteRunsCard

/-- THE TIED CARD OF 'salvorlaw31.SuiteNames'. -/
def suiteNamesCard : Claim7 := { stood := { row := suiteNamesRow, standIns := [], harness := (true, "d5ae17681ed6529dea53a5900139dfd2db575d63baa10ef19b4d7818c4783ce6"), looks := true }, kinds := [], alts := [], laidByText := true, laidKinds := [.data, .data, .data, .data, .sentinel, .sentinel, .pinned, .pinned], laidTests := true, laidLooks := .later }
def SuiteNamesCardSaid : Prop := Claim7.holds Tryz.pinned (.plain (OpenSpec.ofChange suiteNamesSpec)) suiteNamesCard

/-- THE SECOND FORM's CARD OF 'salvorlaw25.DdRuns'. -/
def ddRunsUptoCard : Claim7 := { stood := { row := ddRunsUptoRow, standIns := [], harness := (true, "d5ae17681ed6529dea53a5900139dfd2db575d63baa10ef19b4d7818c4783ce6"), looks := true }, kinds := [], alts := [], laidByText := true, laidKinds := [.data, .data, .data, .data, .sentinel, .sentinel, .pinned], laidTests := true, laidLooks := .later }
def DdRunsUptoCardSaid : Prop := Claim7.holds Tryz.pinned (.plain (OpenSpec.upto ddRunsSpec)) ddRunsUptoCard

/-- THE SECOND FORM's CARD OF 'salvorlaw31.SuiteRuns'. -/
def suiteRunsUptoCard : Claim7 := { stood := { row := suiteRunsUptoRow, standIns := [], harness := (true, "d5ae17681ed6529dea53a5900139dfd2db575d63baa10ef19b4d7818c4783ce6"), looks := true }, kinds := [], alts := [], laidByText := true, laidKinds := [.data, .data, .data, .data, .sentinel, .sentinel, .pinned, .pinned], laidTests := true, laidLooks := .later }
def SuiteRunsUptoCardSaid : Prop := Claim7.holds Tryz.pinned (.plain (OpenSpec.upto suiteRunsSpec)) suiteRunsUptoCard

/-- THE SECOND FORM's CARD OF 'salvorlaw31.SuiteNames'. -/
def suiteNamesUptoCard : Claim7 := { stood := { row := suiteNamesUptoRow, standIns := [], harness := (true, "d5ae17681ed6529dea53a5900139dfd2db575d63baa10ef19b4d7818c4783ce6"), looks := true }, kinds := [], alts := [], laidByText := true, laidKinds := [.data, .data, .data, .data, .sentinel, .sentinel, .pinned, .pinned], laidTests := true, laidLooks := .later }
def SuiteNamesUptoCardSaid : Prop := Claim7.holds Tryz.pinned (.plain (OpenSpec.upto suiteNamesSpec)) suiteNamesUptoCard
end Rows
end Go.Proofs.YtbhphcgpfjoppaaGreatDoor
