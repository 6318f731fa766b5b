/-
  DERIVED. GIVEN WITH THE SEED: THE CARDS: each row of YtkldmbgeldgfhaaGreatDoorRows.lean that lists a variable, with what it lists TIED to the program's text (the seventh form; the later family's looks); each row that meets fmt, with fmt's text TOLD by the authors' own Lean function (tested against real Go, not proved from fmt's source: count such statements apart). THE CARD IS WHAT COUNTS. Prove the row's statement (the work); the ties are given (YtkldmbgeldgfhaaGreatDoorTie.lean); close each card by the builder's one call (the guide's Derived/Test/ToyasCard.lean, 'card_holds'). Laid BY PROGRAM, IN A SANDBOX (cutbox-door.mjs). By AI agents, Wed Nov 11 2026. No macro, syntax, notation, axiom, sorry.
-/
import Derived.Test.YtkldmbgeldgfhaaGreatDoorRows
import GoSem.ClaimSeven
namespace Go.Proofs.YtkldmbgeldgfhaaGreatDoor
namespace Rows

/-- THE TIED CARD OF 'salvorlaw29.FallocRuns'. -/
def fallocRunsCard : Claim7 := { stood := { row := fallocRunsRow, standIns := [], harness := (true, "47845ce40dfe7fa251363c12783d8e9c2f91766cfaf2cf3293e72df6c3bffd7e"), looks := true }, kinds := [], alts := [], laidByText := true, laidKinds := [.data, .data, .data, .data, .sentinel, .sentinel, .pinned], laidTests := true, laidLooks := .later }
def FallocRunsCardSaid : Prop := Claim7.holds Tryz.pinned (.plain (OpenSpec.ofChange fallocRunsSpec)) fallocRunsCard

/-- THE TIED CARD OF 'salvorlaw29.FallocWrong'. -/
def fallocWrongCard : Claim7 := { stood := { row := fallocWrongRow, standIns := [], harness := (true, "47845ce40dfe7fa251363c12783d8e9c2f91766cfaf2cf3293e72df6c3bffd7e"), looks := true }, kinds := [], alts := [], laidByText := true, laidKinds := [.data, .data, .data, .data, .sentinel, .sentinel, .pinned], laidTests := true, laidLooks := .later }
def FallocWrongCardSaid : Prop := Claim7.holds Tryz.pinned (.plain (OpenSpec.ofChange fallocWrongSpec)) fallocWrongCard

/-- THE TIED CARD OF 'salvorlaw28.TruncRuns'. -/
def truncRunsCard : Claim7 := { stood := { row := truncRunsRow, standIns := [], harness := (true, "47845ce40dfe7fa251363c12783d8e9c2f91766cfaf2cf3293e72df6c3bffd7e"), looks := true }, kinds := [], alts := [], laidByText := true, laidKinds := [.data, .data, .data, .data, .sentinel, .sentinel, .pinned], laidTests := true, laidLooks := .later }
def TruncRunsCardSaid : Prop := Claim7.holds Tryz.pinned (.plain (OpenSpec.ofChange truncRunsSpec)) truncRunsCard

/-- THE TIED CARD OF 'salvorlaw28.TruncSizes'. -/
def truncSizesCard : Claim7 := { stood := { row := truncSizesRow, standIns := [], harness := (true, "47845ce40dfe7fa251363c12783d8e9c2f91766cfaf2cf3293e72df6c3bffd7e"), looks := true }, kinds := [], alts := [], laidByText := true, laidKinds := [.data, .data, .data, .data, .sentinel, .sentinel, .pinned], laidTests := true, laidLooks := .later }
def TruncSizesCardSaid : Prop := Claim7.holds Tryz.pinned (.plain (OpenSpec.ofChange truncSizesSpec)) truncSizesCard

/-- THE TIED CARD OF 'salvorlaw28.TruncMods'. -/
def truncModsCard : Claim7 := { stood := { row := truncModsRow, standIns := [], harness := (true, "47845ce40dfe7fa251363c12783d8e9c2f91766cfaf2cf3293e72df6c3bffd7e"), looks := true }, kinds := [], alts := [], laidByText := true, laidKinds := [.data, .data, .data, .data, .sentinel, .sentinel, .pinned], laidTests := true, laidLooks := .later }
def TruncModsCardSaid : Prop := Claim7.holds Tryz.pinned (.plain (OpenSpec.ofChange truncModsSpec)) truncModsCard

/-- THE TIED CARD OF 'salvorlaw27.ShredRuns'. -/
def shredRunsCard : Claim7 := { stood := { row := shredRunsRow, standIns := [], harness := (true, "47845ce40dfe7fa251363c12783d8e9c2f91766cfaf2cf3293e72df6c3bffd7e"), looks := true }, kinds := [], alts := [], laidByText := true, laidKinds := [.data, .data, .data, .data, .sentinel, .sentinel, .pinned], laidTests := true, laidLooks := .later }
def ShredRunsCardSaid : Prop := Claim7.holds Tryz.pinned (.plain (OpenSpec.ofChange shredRunsSpec)) shredRunsCard

/-- THE TIED CARD OF 'salvorlaw27.ShredWrong'. -/
def shredWrongCard : Claim7 := { stood := { row := shredWrongRow, standIns := [], harness := (true, "47845ce40dfe7fa251363c12783d8e9c2f91766cfaf2cf3293e72df6c3bffd7e"), looks := true }, kinds := [], alts := [], laidByText := true, laidKinds := [.data, .data, .data, .data, .sentinel, .sentinel, .pinned], laidTests := true, laidLooks := .later }
def ShredWrongCardSaid : Prop := Claim7.holds Tryz.pinned (.plain (OpenSpec.ofChange shredWrongSpec)) shredWrongCard

/-- THE SECOND FORM's CARD OF 'salvorlaw29.FallocRuns'. -/
def fallocRunsUptoCard : Claim7 := { stood := { row := fallocRunsUptoRow, standIns := [], harness := (true, "47845ce40dfe7fa251363c12783d8e9c2f91766cfaf2cf3293e72df6c3bffd7e"), looks := true }, kinds := [], alts := [], laidByText := true, laidKinds := [.data, .data, .data, .data, .sentinel, .sentinel, .pinned], laidTests := true, laidLooks := .later }
def FallocRunsUptoCardSaid : Prop := Claim7.holds Tryz.pinned (.plain (OpenSpec.upto fallocRunsSpec)) fallocRunsUptoCard

/-- THE SECOND FORM's CARD OF 'salvorlaw29.FallocWrong'. -/
def fallocWrongUptoCard : Claim7 := { stood := { row := fallocWrongUptoRow, standIns := [], harness := (true, "47845ce40dfe7fa251363c12783d8e9c2f91766cfaf2cf3293e72df6c3bffd7e"), looks := true }, kinds := [], alts := [], laidByText := true, laidKinds := [.data, .data, .data, .data, .sentinel, .sentinel, .pinned], laidTests := true, laidLooks := .later }
def FallocWrongUptoCardSaid : Prop := Claim7.holds Tryz.pinned (.plain (OpenSpec.upto fallocWrongSpec)) fallocWrongUptoCard

/-- THE SECOND FORM's CARD OF 'salvorlaw28.TruncRuns'. -/
def truncRunsUptoCard : Claim7 := { stood := { row := truncRunsUptoRow, standIns := [], harness := (true, "47845ce40dfe7fa251363c12783d8e9c2f91766cfaf2cf3293e72df6c3bffd7e"), looks := true }, kinds := [], alts := [], laidByText := true, laidKinds := [.data, .data, .data, .data, .sentinel, .sentinel, .pinned], laidTests := true, laidLooks := .later }
def TruncRunsUptoCardSaid : Prop := Claim7.holds Tryz.pinned (.plain (OpenSpec.upto truncRunsSpec)) truncRunsUptoCard

/-- THE SECOND FORM's CARD OF 'salvorlaw28.TruncSizes'. -/
def truncSizesUptoCard : Claim7 := { stood := { row := truncSizesUptoRow, standIns := [], harness := (true, "47845ce40dfe7fa251363c12783d8e9c2f91766cfaf2cf3293e72df6c3bffd7e"), looks := true }, kinds := [], alts := [], laidByText := true, laidKinds := [.data, .data, .data, .data, .sentinel, .sentinel, .pinned], laidTests := true, laidLooks := .later }
def TruncSizesUptoCardSaid : Prop := Claim7.holds Tryz.pinned (.plain (OpenSpec.upto truncSizesSpec)) truncSizesUptoCard

/-- THE SECOND FORM's CARD OF 'salvorlaw28.TruncMods'. -/
def truncModsUptoCard : Claim7 := { stood := { row := truncModsUptoRow, standIns := [], harness := (true, "47845ce40dfe7fa251363c12783d8e9c2f91766cfaf2cf3293e72df6c3bffd7e"), looks := true }, kinds := [], alts := [], laidByText := true, laidKinds := [.data, .data, .data, .data, .sentinel, .sentinel, .pinned], laidTests := true, laidLooks := .later }
def TruncModsUptoCardSaid : Prop := Claim7.holds Tryz.pinned (.plain (OpenSpec.upto truncModsSpec)) truncModsUptoCard

/-- THE SECOND FORM's CARD OF 'salvorlaw27.ShredRuns'. -/
def shredRunsUptoCard : Claim7 := { stood := { row := shredRunsUptoRow, standIns := [], harness := (true, "47845ce40dfe7fa251363c12783d8e9c2f91766cfaf2cf3293e72df6c3bffd7e"), looks := true }, kinds := [], alts := [], laidByText := true, laidKinds := [.data, .data, .data, .data, .sentinel, .sentinel, .pinned], laidTests := true, laidLooks := .later }
def ShredRunsUptoCardSaid : Prop := Claim7.holds Tryz.pinned (.plain (OpenSpec.upto shredRunsSpec)) shredRunsUptoCard

/-- THE SECOND FORM's CARD OF 'salvorlaw27.ShredWrong'. -/
def shredWrongUptoCard : Claim7 := { stood := { row := shredWrongUptoRow, standIns := [], harness := (true, "47845ce40dfe7fa251363c12783d8e9c2f91766cfaf2cf3293e72df6c3bffd7e"), looks := true }, kinds := [], alts := [], laidByText := true, laidKinds := [.data, .data, .data, .data, .sentinel, .sentinel, .pinned], laidTests := true, laidLooks := .later }
def ShredWrongUptoCardSaid : Prop := Claim7.holds Tryz.pinned (.plain (OpenSpec.upto shredWrongSpec)) shredWrongUptoCard
end Rows
end Go.Proofs.YtkldmbgeldgfhaaGreatDoor
