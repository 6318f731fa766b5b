/-
  DERIVED. GIVEN WITH THE SEED: THE CARDS: each row of YtponjccgpbgnoaaGreatDoorRows.lean that lists a variable, with what it lists TIED to the program's text (the seventh form; the later family's looks); each row that meets fmt, with fmt's text TOLD by the authors' own Lean function (tested against real Go, not proved from fmt's source: count such statements apart). THE CARD IS WHAT COUNTS. Prove the row's statement (the work); the ties are given (YtponjccgpbgnoaaGreatDoorTie.lean); close each card by the builder's one call (the guide's Derived/Test/ToyasCard.lean, 'card_holds'). Laid BY PROGRAM, IN A SANDBOX (cutbox-door.mjs). By AI agents, Wed Nov 11 2026. No macro, syntax, notation, axiom, sorry.
-/
import Derived.Test.YtponjccgpbgnoaaGreatDoorRows
import GoSem.ClaimSeven
namespace Go.Proofs.YtponjccgpbgnoaaGreatDoor
namespace Rows

/-- THE TIED CARD OF 'salvorlaw27.ShredWrong'. -/
def shredWrongCard : Claim7 := { stood := { row := shredWrongRow, standIns := [], harness := (true, "04f9594354cae27dc5441215c7c9cbc6178831e89c60a755bb84ccac3eff6356"), looks := true }, kinds := [], alts := [], laidByText := true, laidKinds := [.data, .data, .data, .data, .sentinel, .sentinel, .pinned], laidTests := true, laidLooks := .later }
def ShredWrongCardSaid : Prop := Claim7.holds Tryz.pinned (.plain (OpenSpec.ofChange shredWrongSpec)) shredWrongCard

/-- THE TIED CARD OF 'salvorlaw28.TruncBytes'. -/
def truncBytesCard : Claim7 := { stood := { row := truncBytesRow, standIns := [], harness := (true, "04f9594354cae27dc5441215c7c9cbc6178831e89c60a755bb84ccac3eff6356"), looks := true }, kinds := [], alts := [], laidByText := true, laidKinds := [.data, .data, .data, .data, .sentinel, .sentinel, .pinned], laidTests := true, laidLooks := .later }
def TruncBytesCardSaid : Prop := Claim7.holds Tryz.pinned (.plain (OpenSpec.ofChange truncBytesSpec)) truncBytesCard

/-- THE TIED CARD OF 'salvorlaw29.FallocFull'. -/
def fallocFullCard : Claim7 := { stood := { row := fallocFullRow, standIns := [], harness := (true, "04f9594354cae27dc5441215c7c9cbc6178831e89c60a755bb84ccac3eff6356"), looks := true }, kinds := [], alts := [], laidByText := true, laidKinds := [.data, .data, .data, .data, .sentinel, .sentinel, .pinned], laidTests := true, laidLooks := .later }
def FallocFullCardSaid : Prop := Claim7.holds Tryz.pinned (.plain (OpenSpec.ofChange fallocFullSpec)) fallocFullCard

/-- THE TIED CARD OF 'salvorlaw27.ShredGone'. -/
def shredGoneCard : Claim7 := { stood := { row := shredGoneRow, standIns := [], harness := (true, "04f9594354cae27dc5441215c7c9cbc6178831e89c60a755bb84ccac3eff6356"), looks := true }, kinds := [], alts := [], laidByText := true, laidKinds := [.data, .data, .data, .data, .sentinel, .sentinel, .pinned], laidTests := true, laidLooks := .later }
def ShredGoneCardSaid : Prop := Claim7.holds Tryz.pinned (.plain (OpenSpec.ofChange shredGoneSpec)) shredGoneCard

/-- THE SECOND FORM's CARD OF 'salvorlaw27.ShredWrong'. -/
def shredWrongUptoCard : Claim7 := { stood := { row := shredWrongUptoRow, standIns := [], harness := (true, "04f9594354cae27dc5441215c7c9cbc6178831e89c60a755bb84ccac3eff6356"), looks := true }, kinds := [], alts := [], laidByText := true, laidKinds := [.data, .data, .data, .data, .sentinel, .sentinel, .pinned], laidTests := true, laidLooks := .later }
def ShredWrongUptoCardSaid : Prop := Claim7.holds Tryz.pinned (.plain (OpenSpec.upto shredWrongSpec)) shredWrongUptoCard

/-- THE SECOND FORM's CARD OF 'salvorlaw28.TruncBytes'. -/
def truncBytesUptoCard : Claim7 := { stood := { row := truncBytesUptoRow, standIns := [], harness := (true, "04f9594354cae27dc5441215c7c9cbc6178831e89c60a755bb84ccac3eff6356"), looks := true }, kinds := [], alts := [], laidByText := true, laidKinds := [.data, .data, .data, .data, .sentinel, .sentinel, .pinned], laidTests := true, laidLooks := .later }
def TruncBytesUptoCardSaid : Prop := Claim7.holds Tryz.pinned (.plain (OpenSpec.upto truncBytesSpec)) truncBytesUptoCard

/-- THE SECOND FORM's CARD OF 'salvorlaw29.FallocFull'. -/
def fallocFullUptoCard : Claim7 := { stood := { row := fallocFullUptoRow, standIns := [], harness := (true, "04f9594354cae27dc5441215c7c9cbc6178831e89c60a755bb84ccac3eff6356"), looks := true }, kinds := [], alts := [], laidByText := true, laidKinds := [.data, .data, .data, .data, .sentinel, .sentinel, .pinned], laidTests := true, laidLooks := .later }
def FallocFullUptoCardSaid : Prop := Claim7.holds Tryz.pinned (.plain (OpenSpec.upto fallocFullSpec)) fallocFullUptoCard

/-- THE SECOND FORM's CARD OF 'salvorlaw27.ShredGone'. -/
def shredGoneUptoCard : Claim7 := { stood := { row := shredGoneUptoRow, standIns := [], harness := (true, "04f9594354cae27dc5441215c7c9cbc6178831e89c60a755bb84ccac3eff6356"), looks := true }, kinds := [], alts := [], laidByText := true, laidKinds := [.data, .data, .data, .data, .sentinel, .sentinel, .pinned], laidTests := true, laidLooks := .later }
def ShredGoneUptoCardSaid : Prop := Claim7.holds Tryz.pinned (.plain (OpenSpec.upto shredGoneSpec)) shredGoneUptoCard
end Rows
end Go.Proofs.YtponjccgpbgnoaaGreatDoor
