/-
  DERIVED. GIVEN WITH THE SEED: THE CARDS: each row of YtbanpcnokkcjjaaGreatDoorRows.lean that lists a variable, with what it lists TIED to the program's text (the seventh form; the later family's looks); each row that meets fmt, with fmt's text TOLD by the authors' own Lean function (tested against real Go, not proved from fmt's source: count such statements apart). THE CARD IS WHAT COUNTS. Prove the row's statement (the work); the ties are given (YtbanpcnokkcjjaaGreatDoorTie.lean); close each card by the builder's one call (the guide's Derived/Test/ToyasCard.lean, 'card_holds'). Laid BY PROGRAM, IN A SANDBOX (cutbox-door.mjs). By AI agents, Wed Nov 11 2026. No macro, syntax, notation, axiom, sorry.
-/
import Derived.Test.YtbanpcnokkcjjaaGreatDoorRows
import GoSem.ClaimSeven
namespace Go.Proofs.YtbanpcnokkcjjaaGreatDoor
namespace Rows

/-- THE TIED CARD OF 'salvorlaw19.SaverRuns'. -/
def saverRunsCard : Claim7 := { stood := { row := saverRunsRow, standIns := [], harness := (true, "97396ba027455058628ef0e9f535ae2c90ab6d8eba0d71abb3019951585d4677"), looks := true }, kinds := [], alts := [], laidByText := true, laidKinds := [.data, .data, .data, .data, .sentinel, .sentinel, .pinned, .pinned], laidTests := true, laidLooks := .later }
def SaverRunsCardSaid : Prop := Claim7.holds Tryz.pinned (.plain (OpenSpec.ofChange saverRunsSpec)) saverRunsCard

/-- THE TIED CARD OF 'salvorlaw20.EngineRuns'. -/
def engineRunsCard : Claim7 := { stood := { row := engineRunsRow, standIns := [], harness := (true, "97396ba027455058628ef0e9f535ae2c90ab6d8eba0d71abb3019951585d4677"), looks := true }, kinds := [], alts := [], laidByText := true, laidKinds := [.data, .data, .data, .data, .sentinel, .sentinel, .pinned, .pinned], laidTests := true, laidLooks := .later }
def EngineRunsCardSaid : Prop := Claim7.holds Tryz.pinned (.plain (OpenSpec.ofChange engineRunsSpec)) engineRunsCard

/-- THE TIED CARD OF 'salvorlaw22.RescueRuns'. -/
def rescueRunsCard : Claim7 := { stood := { row := rescueRunsRow, standIns := [], harness := (true, "97396ba027455058628ef0e9f535ae2c90ab6d8eba0d71abb3019951585d4677"), looks := true }, kinds := [], alts := [], laidByText := true, laidKinds := [.data, .data, .data, .data, .sentinel, .sentinel, .pinned, .pinned], laidTests := true, laidLooks := .later }
def RescueRunsCardSaid : Prop := Claim7.holds Tryz.pinned (.plain (OpenSpec.ofChange rescueRunsSpec)) rescueRunsCard

/-- THE TIED CARD OF 'salvorlaw22.RescueWrong'. -/
def rescueWrongCard : Claim7 := { stood := { row := rescueWrongRow, standIns := [], harness := (true, "97396ba027455058628ef0e9f535ae2c90ab6d8eba0d71abb3019951585d4677"), looks := true }, kinds := [], alts := [], laidByText := true, laidKinds := [.data, .data, .data, .data, .sentinel, .sentinel, .pinned, .pinned], laidTests := true, laidLooks := .later }
def RescueWrongCardSaid : Prop := Claim7.holds Tryz.pinned (.plain (OpenSpec.ofChange rescueWrongSpec)) rescueWrongCard

/-- THE SECOND FORM's CARD OF 'salvorlaw19.SaverRuns'. -/
def saverRunsUptoCard : Claim7 := { stood := { row := saverRunsUptoRow, standIns := [], harness := (true, "97396ba027455058628ef0e9f535ae2c90ab6d8eba0d71abb3019951585d4677"), looks := true }, kinds := [], alts := [], laidByText := true, laidKinds := [.data, .data, .data, .data, .sentinel, .sentinel, .pinned, .pinned], laidTests := true, laidLooks := .later }
def SaverRunsUptoCardSaid : Prop := Claim7.holds Tryz.pinned (.plain (OpenSpec.upto saverRunsSpec)) saverRunsUptoCard

/-- THE SECOND FORM's CARD OF 'salvorlaw20.EngineRuns'. -/
def engineRunsUptoCard : Claim7 := { stood := { row := engineRunsUptoRow, standIns := [], harness := (true, "97396ba027455058628ef0e9f535ae2c90ab6d8eba0d71abb3019951585d4677"), looks := true }, kinds := [], alts := [], laidByText := true, laidKinds := [.data, .data, .data, .data, .sentinel, .sentinel, .pinned, .pinned], laidTests := true, laidLooks := .later }
def EngineRunsUptoCardSaid : Prop := Claim7.holds Tryz.pinned (.plain (OpenSpec.upto engineRunsSpec)) engineRunsUptoCard

/-- THE SECOND FORM's CARD OF 'salvorlaw22.RescueRuns'. -/
def rescueRunsUptoCard : Claim7 := { stood := { row := rescueRunsUptoRow, standIns := [], harness := (true, "97396ba027455058628ef0e9f535ae2c90ab6d8eba0d71abb3019951585d4677"), looks := true }, kinds := [], alts := [], laidByText := true, laidKinds := [.data, .data, .data, .data, .sentinel, .sentinel, .pinned, .pinned], laidTests := true, laidLooks := .later }
def RescueRunsUptoCardSaid : Prop := Claim7.holds Tryz.pinned (.plain (OpenSpec.upto rescueRunsSpec)) rescueRunsUptoCard

/-- THE SECOND FORM's CARD OF 'salvorlaw22.RescueWrong'. -/
def rescueWrongUptoCard : Claim7 := { stood := { row := rescueWrongUptoRow, standIns := [], harness := (true, "97396ba027455058628ef0e9f535ae2c90ab6d8eba0d71abb3019951585d4677"), looks := true }, kinds := [], alts := [], laidByText := true, laidKinds := [.data, .data, .data, .data, .sentinel, .sentinel, .pinned, .pinned], laidTests := true, laidLooks := .later }
def RescueWrongUptoCardSaid : Prop := Claim7.holds Tryz.pinned (.plain (OpenSpec.upto rescueWrongSpec)) rescueWrongUptoCard
end Rows
end Go.Proofs.YtbanpcnokkcjjaaGreatDoor
