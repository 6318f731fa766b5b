/-
  DERIVED. GIVEN WITH THE SEED: THE CARDS: each row of YthloojeefdjpjaaGreatDoorRows.lean that lists a variable, with what it lists TIED to the program's text (the seventh form; the later family's looks); each row that meets fmt, with fmt's text TOLD by the authors' own Lean function (tested against real Go, not proved from fmt's source: count such statements apart). THE CARD IS WHAT COUNTS. Prove the row's statement (the work); the ties are given (YthloojeefdjpjaaGreatDoorTie.lean); close each card by the builder's one call (the guide's Derived/Test/ToyasCard.lean, 'card_holds'). Laid BY PROGRAM, IN A SANDBOX (cutbox-door.mjs). By AI agents, Wed Nov 11 2026. No macro, syntax, notation, axiom, sorry.
-/
import Derived.Test.YthloojeefdjpjaaGreatDoorRows
import GoSem.ClaimSeven
namespace Go.Proofs.YthloojeefdjpjaaGreatDoor
namespace Rows

/-- THE TIED CARD OF 'salvorlaw25.DdRuns'. -/
def ddRunsCard : Claim7 := { stood := { row := ddRunsRow, standIns := [], harness := (true, "56e5b912f54241fdb74ce9cd301f54a671483a55f01bf417b49f194c91a5bcce"), looks := true }, kinds := [], alts := [], laidByText := true, laidKinds := [.data, .data, .data, .data, .sentinel, .sentinel, .pinned], laidTests := true, laidLooks := .later }
def DdRunsCardSaid : Prop := Claim7.holds Tryz.pinned (.plain (OpenSpec.ofChange ddRunsSpec)) ddRunsCard

/-- THE TIED CARD OF 'salvorlaw22.RescueWrong'. -/
def rescueWrongCard : Claim7 := { stood := { row := rescueWrongRow, standIns := [], harness := (true, "56e5b912f54241fdb74ce9cd301f54a671483a55f01bf417b49f194c91a5bcce"), looks := true }, kinds := [], alts := [], laidByText := true, laidKinds := [.data, .data, .data, .data, .sentinel, .sentinel, .pinned, .pinned], laidTests := true, laidLooks := .later }
def RescueWrongCardSaid : Prop := Claim7.holds Tryz.pinned (.plain (OpenSpec.ofChange rescueWrongSpec)) rescueWrongCard

/-- THE TIED CARD OF 'salvorlaw27.ShredWrong'. -/
def shredWrongCard : Claim7 := { stood := { row := shredWrongRow, standIns := [], harness := (true, "56e5b912f54241fdb74ce9cd301f54a671483a55f01bf417b49f194c91a5bcce"), looks := true }, kinds := [], alts := [], laidByText := true, laidKinds := [.data, .data, .data, .data, .sentinel, .sentinel, .pinned], laidTests := true, laidLooks := .later }
def ShredWrongCardSaid : Prop := Claim7.holds Tryz.pinned (.plain (OpenSpec.ofChange shredWrongSpec)) shredWrongCard

/-- THE TIED CARD OF 'salvorlaw25.DdWrong'. -/
def ddWrongCard : Claim7 := { stood := { row := ddWrongRow, standIns := [], harness := (true, "56e5b912f54241fdb74ce9cd301f54a671483a55f01bf417b49f194c91a5bcce"), looks := true }, kinds := [], alts := [], laidByText := true, laidKinds := [.data, .data, .data, .data, .sentinel, .sentinel, .pinned], laidTests := true, laidLooks := .later }
def DdWrongCardSaid : Prop := Claim7.holds Tryz.pinned (.plain (OpenSpec.ofChange ddWrongSpec)) ddWrongCard

/-- THE TIED CARD OF 'salvorlaw28.TruncNew'. -/
def truncNewCard : Claim7 := { stood := { row := truncNewRow, standIns := [], harness := (true, "56e5b912f54241fdb74ce9cd301f54a671483a55f01bf417b49f194c91a5bcce"), looks := true }, kinds := [], alts := [], laidByText := true, laidKinds := [.data, .data, .data, .data, .sentinel, .sentinel, .pinned], laidTests := true, laidLooks := .later }
def TruncNewCardSaid : Prop := Claim7.holds Tryz.pinned (.plain (OpenSpec.ofChange truncNewSpec)) truncNewCard

/-- THE TIED CARD OF 'salvorlaw22.RescueParses'. -/
def rescueParsesCard : Claim7 := { stood := { row := rescueParsesRow, standIns := [], harness := (true, "56e5b912f54241fdb74ce9cd301f54a671483a55f01bf417b49f194c91a5bcce"), looks := true }, kinds := [], alts := [], laidByText := true, laidKinds := [.data, .data, .data, .data, .sentinel, .sentinel, .pinned, .pinned], laidTests := true, laidLooks := .later }
def RescueParsesCardSaid : Prop := Claim7.holds Tryz.pinned (.plain (OpenSpec.ofChange rescueParsesSpec)) rescueParsesCard

/-- THE TIED CARD OF 'salvorlaw29.FallocBytes'. -/
def fallocBytesCard : Claim7 := { stood := { row := fallocBytesRow, standIns := [], harness := (true, "56e5b912f54241fdb74ce9cd301f54a671483a55f01bf417b49f194c91a5bcce"), looks := true }, kinds := [], alts := [], laidByText := true, laidKinds := [.data, .data, .data, .data, .sentinel, .sentinel, .pinned], laidTests := true, laidLooks := .later }
def FallocBytesCardSaid : Prop := Claim7.holds Tryz.pinned (.plain (OpenSpec.ofChange fallocBytesSpec)) fallocBytesCard

/-- THE TIED CARD OF 'salvorlaw29.FallocDigs'. -/
def fallocDigsCard : Claim7 := { stood := { row := fallocDigsRow, standIns := [], harness := (true, "56e5b912f54241fdb74ce9cd301f54a671483a55f01bf417b49f194c91a5bcce"), looks := true }, kinds := [], alts := [], laidByText := true, laidKinds := [.data, .data, .data, .data, .sentinel, .sentinel, .pinned], laidTests := true, laidLooks := .later }
def FallocDigsCardSaid : Prop := Claim7.holds Tryz.pinned (.plain (OpenSpec.ofChange fallocDigsSpec)) fallocDigsCard

/-- THE TIED CARD OF 'salvorlaw29.FallocFull'. -/
def fallocFullCard : Claim7 := { stood := { row := fallocFullRow, standIns := [], harness := (true, "56e5b912f54241fdb74ce9cd301f54a671483a55f01bf417b49f194c91a5bcce"), looks := true }, kinds := [], alts := [], laidByText := true, laidKinds := [.data, .data, .data, .data, .sentinel, .sentinel, .pinned], laidTests := true, laidLooks := .later }
def FallocFullCardSaid : Prop := Claim7.holds Tryz.pinned (.plain (OpenSpec.ofChange fallocFullSpec)) fallocFullCard

/-- THE TIED CARD OF 'salvorlaw28.TruncBytes'. -/
def truncBytesCard : Claim7 := { stood := { row := truncBytesRow, standIns := [], harness := (true, "56e5b912f54241fdb74ce9cd301f54a671483a55f01bf417b49f194c91a5bcce"), looks := true }, kinds := [], alts := [], laidByText := true, laidKinds := [.data, .data, .data, .data, .sentinel, .sentinel, .pinned], laidTests := true, laidLooks := .later }
def TruncBytesCardSaid : Prop := Claim7.holds Tryz.pinned (.plain (OpenSpec.ofChange truncBytesSpec)) truncBytesCard

/-- THE TIED CARD OF 'salvorlaw27.ShredGone'. -/
def shredGoneCard : Claim7 := { stood := { row := shredGoneRow, standIns := [], harness := (true, "56e5b912f54241fdb74ce9cd301f54a671483a55f01bf417b49f194c91a5bcce"), looks := true }, kinds := [], alts := [], laidByText := true, laidKinds := [.data, .data, .data, .data, .sentinel, .sentinel, .pinned], laidTests := true, laidLooks := .later }
def ShredGoneCardSaid : Prop := Claim7.holds Tryz.pinned (.plain (OpenSpec.ofChange shredGoneSpec)) shredGoneCard

/-- THE TIED CARD OF 'salvorlaw27.ShredFull'. -/
def shredFullCard : Claim7 := { stood := { row := shredFullRow, standIns := [], harness := (true, "56e5b912f54241fdb74ce9cd301f54a671483a55f01bf417b49f194c91a5bcce"), looks := true }, kinds := [], alts := [], laidByText := true, laidKinds := [.data, .data, .data, .data, .sentinel, .sentinel, .pinned], laidTests := true, laidLooks := .later }
def ShredFullCardSaid : Prop := Claim7.holds Tryz.pinned (.plain (OpenSpec.ofChange shredFullSpec)) shredFullCard

/-- THE SECOND FORM's CARD OF 'salvorlaw25.DdRuns'. -/
def ddRunsUptoCard : Claim7 := { stood := { row := ddRunsUptoRow, standIns := [], harness := (true, "56e5b912f54241fdb74ce9cd301f54a671483a55f01bf417b49f194c91a5bcce"), looks := true }, kinds := [], alts := [], laidByText := true, laidKinds := [.data, .data, .data, .data, .sentinel, .sentinel, .pinned], laidTests := true, laidLooks := .later }
def DdRunsUptoCardSaid : Prop := Claim7.holds Tryz.pinned (.plain (OpenSpec.upto ddRunsSpec)) ddRunsUptoCard

/-- THE SECOND FORM's CARD OF 'salvorlaw22.RescueWrong'. -/
def rescueWrongUptoCard : Claim7 := { stood := { row := rescueWrongUptoRow, standIns := [], harness := (true, "56e5b912f54241fdb74ce9cd301f54a671483a55f01bf417b49f194c91a5bcce"), looks := true }, kinds := [], alts := [], laidByText := true, laidKinds := [.data, .data, .data, .data, .sentinel, .sentinel, .pinned, .pinned], laidTests := true, laidLooks := .later }
def RescueWrongUptoCardSaid : Prop := Claim7.holds Tryz.pinned (.plain (OpenSpec.upto rescueWrongSpec)) rescueWrongUptoCard

/-- THE SECOND FORM's CARD OF 'salvorlaw27.ShredWrong'. -/
def shredWrongUptoCard : Claim7 := { stood := { row := shredWrongUptoRow, standIns := [], harness := (true, "56e5b912f54241fdb74ce9cd301f54a671483a55f01bf417b49f194c91a5bcce"), looks := true }, kinds := [], alts := [], laidByText := true, laidKinds := [.data, .data, .data, .data, .sentinel, .sentinel, .pinned], laidTests := true, laidLooks := .later }
def ShredWrongUptoCardSaid : Prop := Claim7.holds Tryz.pinned (.plain (OpenSpec.upto shredWrongSpec)) shredWrongUptoCard

/-- THE SECOND FORM's CARD OF 'salvorlaw25.DdWrong'. -/
def ddWrongUptoCard : Claim7 := { stood := { row := ddWrongUptoRow, standIns := [], harness := (true, "56e5b912f54241fdb74ce9cd301f54a671483a55f01bf417b49f194c91a5bcce"), looks := true }, kinds := [], alts := [], laidByText := true, laidKinds := [.data, .data, .data, .data, .sentinel, .sentinel, .pinned], laidTests := true, laidLooks := .later }
def DdWrongUptoCardSaid : Prop := Claim7.holds Tryz.pinned (.plain (OpenSpec.upto ddWrongSpec)) ddWrongUptoCard

/-- THE SECOND FORM's CARD OF 'salvorlaw28.TruncNew'. -/
def truncNewUptoCard : Claim7 := { stood := { row := truncNewUptoRow, standIns := [], harness := (true, "56e5b912f54241fdb74ce9cd301f54a671483a55f01bf417b49f194c91a5bcce"), looks := true }, kinds := [], alts := [], laidByText := true, laidKinds := [.data, .data, .data, .data, .sentinel, .sentinel, .pinned], laidTests := true, laidLooks := .later }
def TruncNewUptoCardSaid : Prop := Claim7.holds Tryz.pinned (.plain (OpenSpec.upto truncNewSpec)) truncNewUptoCard

/-- THE SECOND FORM's CARD OF 'salvorlaw22.RescueParses'. -/
def rescueParsesUptoCard : Claim7 := { stood := { row := rescueParsesUptoRow, standIns := [], harness := (true, "56e5b912f54241fdb74ce9cd301f54a671483a55f01bf417b49f194c91a5bcce"), looks := true }, kinds := [], alts := [], laidByText := true, laidKinds := [.data, .data, .data, .data, .sentinel, .sentinel, .pinned, .pinned], laidTests := true, laidLooks := .later }
def RescueParsesUptoCardSaid : Prop := Claim7.holds Tryz.pinned (.plain (OpenSpec.upto rescueParsesSpec)) rescueParsesUptoCard

/-- THE SECOND FORM's CARD OF 'salvorlaw29.FallocBytes'. -/
def fallocBytesUptoCard : Claim7 := { stood := { row := fallocBytesUptoRow, standIns := [], harness := (true, "56e5b912f54241fdb74ce9cd301f54a671483a55f01bf417b49f194c91a5bcce"), looks := true }, kinds := [], alts := [], laidByText := true, laidKinds := [.data, .data, .data, .data, .sentinel, .sentinel, .pinned], laidTests := true, laidLooks := .later }
def FallocBytesUptoCardSaid : Prop := Claim7.holds Tryz.pinned (.plain (OpenSpec.upto fallocBytesSpec)) fallocBytesUptoCard

/-- THE SECOND FORM's CARD OF 'salvorlaw29.FallocDigs'. -/
def fallocDigsUptoCard : Claim7 := { stood := { row := fallocDigsUptoRow, standIns := [], harness := (true, "56e5b912f54241fdb74ce9cd301f54a671483a55f01bf417b49f194c91a5bcce"), looks := true }, kinds := [], alts := [], laidByText := true, laidKinds := [.data, .data, .data, .data, .sentinel, .sentinel, .pinned], laidTests := true, laidLooks := .later }
def FallocDigsUptoCardSaid : Prop := Claim7.holds Tryz.pinned (.plain (OpenSpec.upto fallocDigsSpec)) fallocDigsUptoCard

/-- THE SECOND FORM's CARD OF 'salvorlaw29.FallocFull'. -/
def fallocFullUptoCard : Claim7 := { stood := { row := fallocFullUptoRow, standIns := [], harness := (true, "56e5b912f54241fdb74ce9cd301f54a671483a55f01bf417b49f194c91a5bcce"), looks := true }, kinds := [], alts := [], laidByText := true, laidKinds := [.data, .data, .data, .data, .sentinel, .sentinel, .pinned], laidTests := true, laidLooks := .later }
def FallocFullUptoCardSaid : Prop := Claim7.holds Tryz.pinned (.plain (OpenSpec.upto fallocFullSpec)) fallocFullUptoCard

/-- THE SECOND FORM's CARD OF 'salvorlaw28.TruncBytes'. -/
def truncBytesUptoCard : Claim7 := { stood := { row := truncBytesUptoRow, standIns := [], harness := (true, "56e5b912f54241fdb74ce9cd301f54a671483a55f01bf417b49f194c91a5bcce"), looks := true }, kinds := [], alts := [], laidByText := true, laidKinds := [.data, .data, .data, .data, .sentinel, .sentinel, .pinned], laidTests := true, laidLooks := .later }
def TruncBytesUptoCardSaid : Prop := Claim7.holds Tryz.pinned (.plain (OpenSpec.upto truncBytesSpec)) truncBytesUptoCard

/-- THE SECOND FORM's CARD OF 'salvorlaw27.ShredGone'. -/
def shredGoneUptoCard : Claim7 := { stood := { row := shredGoneUptoRow, standIns := [], harness := (true, "56e5b912f54241fdb74ce9cd301f54a671483a55f01bf417b49f194c91a5bcce"), looks := true }, kinds := [], alts := [], laidByText := true, laidKinds := [.data, .data, .data, .data, .sentinel, .sentinel, .pinned], laidTests := true, laidLooks := .later }
def ShredGoneUptoCardSaid : Prop := Claim7.holds Tryz.pinned (.plain (OpenSpec.upto shredGoneSpec)) shredGoneUptoCard

/-- THE SECOND FORM's CARD OF 'salvorlaw27.ShredFull'. -/
def shredFullUptoCard : Claim7 := { stood := { row := shredFullUptoRow, standIns := [], harness := (true, "56e5b912f54241fdb74ce9cd301f54a671483a55f01bf417b49f194c91a5bcce"), looks := true }, kinds := [], alts := [], laidByText := true, laidKinds := [.data, .data, .data, .data, .sentinel, .sentinel, .pinned], laidTests := true, laidLooks := .later }
def ShredFullUptoCardSaid : Prop := Claim7.holds Tryz.pinned (.plain (OpenSpec.upto shredFullSpec)) shredFullUptoCard
end Rows
end Go.Proofs.YthloojeefdjpjaaGreatDoor
