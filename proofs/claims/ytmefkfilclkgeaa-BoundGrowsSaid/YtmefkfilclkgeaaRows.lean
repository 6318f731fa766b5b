/-
  No cell of these rows narrows 'for every input' (looked for: loops, veiled, ifaces, maps, wideKeys, modest, calm, conditions, laid).
  DERIVED. THE GIVEN ROWS OF THIS SEAT. 8 by the template 'for every input the law returns true; each argument reads behind the call as it read before'; 0 by the template 'total and deterministic' (their statements: YtmefkfilclkgeaaTotals.lean).
  GIVEN WITH THE SEED: the statements are not yours to turn. If you find one false, say at which input.
  Laid BY PROGRAM, IN A SANDBOX (cutbox-rows.mjs): the forced cells as the released guide's own fill.sh prints them over the translation 32f8ffdfef4a4063… (all of the seat's roots in one cut). By AI agents, Wed Nov 11 2026. No macro, syntax, notation, axiom, sorry.
-/
import Derived.Test.YtmefkfilclkgeaaChecked
import GoSem.Claim
import GoSem.ClaimJoined
import GoSem.ClaimMapViews
import Derived.JoinedTies
import Derived.KernelRfl
namespace Go.Proofs.Ytmefkfilclkgeaa
/- THE CELL 'sum', in the pinned program and in every row, IS THE sha256 OF THE DUMP (.gsa) THAT YtmefkfilclkgeaaProg.lean LOADS. Nothing in Lean hashes anything: it is a label: what it is worth is what the hold of that sum in a sandbox is worth. -/
noncomputable def Try.pinned : Pinned := { name := "ytmefkfilclkgeaa", sum := "32f8ffdfef4a40636c59386e98364a196dbe04bbb261df2caa257e1d37ce6049", checked := Try.checked }
namespace Rows
def none {H : Type} : Left H := { results := [], args := [] }

/-- 'salvorlaw26.PatternRuns': WHATEVER THE INPUT: true; the input reads as it did. -/
def patternRunsSpec : ChangeSpec := { name := "patternRuns", fn := fun _ => fun
  | [] => { results := [.lit (.bool true)], args := [] }
  | _ => none }
def patternRunsRow : OpenClaim := { program := "ytmefkfilclkgeaa", sum := "32f8ffdfef4a40636c59386e98364a196dbe04bbb261df2caa257e1d37ce6049", func := "salvor/salvorlaw26.PatternRuns", spec := "patternRuns", apart := false }
def PatternRunsSaid : Prop := patternRunsRow.holds Try.pinned (OpenSpec.ofChange patternRunsSpec)

/-- ITS FALSE NEIGHBOUR: 'it returns false'. Refute it at one input. -/
def patternRunsWrong : ChangeSpec := { name := "patternRuns", fn := fun _ => fun
  | [] => { results := [.lit (.bool false)], args := [] }
  | _ => none }
def PatternRunsWrongFalsely : Prop := patternRunsRow.holds Try.pinned (OpenSpec.ofChange patternRunsWrong)

/-- 'salvorlaw26.PatternTells': WHATEVER THE INPUT: true; the input reads as it did. -/
def patternTellsSpec : ChangeSpec := { name := "patternTells", fn := fun _ => fun
  | [d1, d2, d3, d4, d5] => { results := [.lit (.bool true)], args := [d1, d2, d3, d4, d5] }
  | _ => none }
def patternTellsRow : OpenClaim := { program := "ytmefkfilclkgeaa", sum := "32f8ffdfef4a40636c59386e98364a196dbe04bbb261df2caa257e1d37ce6049", func := "salvor/salvorlaw26.PatternTells", spec := "patternTells", apart := false }
def PatternTellsSaid : Prop := patternTellsRow.holds Try.pinned (OpenSpec.ofChange patternTellsSpec)

/-- ITS FALSE NEIGHBOUR: 'it returns false'. Refute it at one input. -/
def patternTellsWrong : ChangeSpec := { name := "patternTells", fn := fun _ => fun
  | [d1, d2, d3, d4, d5] => { results := [.lit (.bool false)], args := [d1, d2, d3, d4, d5] }
  | _ => none }
def PatternTellsWrongFalsely : Prop := patternTellsRow.holds Try.pinned (OpenSpec.ofChange patternTellsWrong)

/-- 'salvorlaw26.PatternPieces': WHATEVER THE INPUT: true; the input reads as it did. -/
def patternPiecesSpec : ChangeSpec := { name := "patternPieces", fn := fun _ => fun
  | [d1, d2, d3, d4, d5, d6] => { results := [.lit (.bool true)], args := [d1, d2, d3, d4, d5, d6] }
  | _ => none }
def patternPiecesRow : OpenClaim := { program := "ytmefkfilclkgeaa", sum := "32f8ffdfef4a40636c59386e98364a196dbe04bbb261df2caa257e1d37ce6049", func := "salvor/salvorlaw26.PatternPieces", spec := "patternPieces", apart := false }
def PatternPiecesSaid : Prop := patternPiecesRow.holds Try.pinned (OpenSpec.ofChange patternPiecesSpec)

/-- ITS FALSE NEIGHBOUR: 'it returns false'. Refute it at one input. -/
def patternPiecesWrong : ChangeSpec := { name := "patternPieces", fn := fun _ => fun
  | [d1, d2, d3, d4, d5, d6] => { results := [.lit (.bool false)], args := [d1, d2, d3, d4, d5, d6] }
  | _ => none }
def PatternPiecesWrongFalsely : Prop := patternPiecesRow.holds Try.pinned (OpenSpec.ofChange patternPiecesWrong)

/-- 'salvorlaw26.PatternPasses': WHATEVER THE INPUT: true; the input reads as it did. -/
def patternPassesSpec : ChangeSpec := { name := "patternPasses", fn := fun _ => fun
  | [d1, d2, d3, d4, d5] => { results := [.lit (.bool true)], args := [d1, d2, d3, d4, d5] }
  | _ => none }
def patternPassesRow : OpenClaim := { program := "ytmefkfilclkgeaa", sum := "32f8ffdfef4a40636c59386e98364a196dbe04bbb261df2caa257e1d37ce6049", func := "salvor/salvorlaw26.PatternPasses", spec := "patternPasses", apart := false }
def PatternPassesSaid : Prop := patternPassesRow.holds Try.pinned (OpenSpec.ofChange patternPassesSpec)

/-- ITS FALSE NEIGHBOUR: 'it returns false'. Refute it at one input. -/
def patternPassesWrong : ChangeSpec := { name := "patternPasses", fn := fun _ => fun
  | [d1, d2, d3, d4, d5] => { results := [.lit (.bool false)], args := [d1, d2, d3, d4, d5] }
  | _ => none }
def PatternPassesWrongFalsely : Prop := patternPassesRow.holds Try.pinned (OpenSpec.ofChange patternPassesWrong)

/-- 'salvorlaw21.BoundRuns': WHATEVER THE INPUT: true; the input reads as it did. -/
def boundRunsSpec : ChangeSpec := { name := "boundRuns", fn := fun _ => fun
  | [] => { results := [.lit (.bool true)], args := [] }
  | _ => none }
def boundRunsRow : OpenClaim := { program := "ytmefkfilclkgeaa", sum := "32f8ffdfef4a40636c59386e98364a196dbe04bbb261df2caa257e1d37ce6049", func := "salvor/salvorlaw21.BoundRuns", spec := "boundRuns", apart := false }
def BoundRunsSaid : Prop := boundRunsRow.holds Try.pinned (OpenSpec.ofChange boundRunsSpec)

/-- ITS FALSE NEIGHBOUR: 'it returns false'. Refute it at one input. -/
def boundRunsWrong : ChangeSpec := { name := "boundRuns", fn := fun _ => fun
  | [] => { results := [.lit (.bool false)], args := [] }
  | _ => none }
def BoundRunsWrongFalsely : Prop := boundRunsRow.holds Try.pinned (OpenSpec.ofChange boundRunsWrong)

/-- 'salvorlaw21.BoundTells': WHATEVER THE INPUT: true; the input reads as it did. -/
def boundTellsSpec : ChangeSpec := { name := "boundTells", fn := fun _ => fun
  | [d1, d2, d3] => { results := [.lit (.bool true)], args := [d1, d2, d3] }
  | _ => none }
def boundTellsRow : OpenClaim := { program := "ytmefkfilclkgeaa", sum := "32f8ffdfef4a40636c59386e98364a196dbe04bbb261df2caa257e1d37ce6049", func := "salvor/salvorlaw21.BoundTells", spec := "boundTells", apart := false }
def BoundTellsSaid : Prop := boundTellsRow.holds Try.pinned (OpenSpec.ofChange boundTellsSpec)

/-- ITS FALSE NEIGHBOUR: 'it returns false'. Refute it at one input. -/
def boundTellsWrong : ChangeSpec := { name := "boundTells", fn := fun _ => fun
  | [d1, d2, d3] => { results := [.lit (.bool false)], args := [d1, d2, d3] }
  | _ => none }
def BoundTellsWrongFalsely : Prop := boundTellsRow.holds Try.pinned (OpenSpec.ofChange boundTellsWrong)

/-- 'salvorlaw21.BoundGrows': WHATEVER THE INPUT: true; the input reads as it did. -/
def boundGrowsSpec : ChangeSpec := { name := "boundGrows", fn := fun _ => fun
  | [d1, d2, d3, d4] => { results := [.lit (.bool true)], args := [d1, d2, d3, d4] }
  | _ => none }
def boundGrowsRow : OpenClaim := { program := "ytmefkfilclkgeaa", sum := "32f8ffdfef4a40636c59386e98364a196dbe04bbb261df2caa257e1d37ce6049", func := "salvor/salvorlaw21.BoundGrows", spec := "boundGrows", apart := false }
def BoundGrowsSaid : Prop := boundGrowsRow.holds Try.pinned (OpenSpec.ofChange boundGrowsSpec)

/-- ITS FALSE NEIGHBOUR: 'it returns false'. Refute it at one input. -/
def boundGrowsWrong : ChangeSpec := { name := "boundGrows", fn := fun _ => fun
  | [d1, d2, d3, d4] => { results := [.lit (.bool false)], args := [d1, d2, d3, d4] }
  | _ => none }
def BoundGrowsWrongFalsely : Prop := boundGrowsRow.holds Try.pinned (OpenSpec.ofChange boundGrowsWrong)

/-- 'salvorlaw21.BoundHolds': WHATEVER THE INPUT: true; the input reads as it did. -/
def boundHoldsSpec : ChangeSpec := { name := "boundHolds", fn := fun _ => fun
  | [d1, d2, d3, d4, d5, d6, d7, d8] => { results := [.lit (.bool true)], args := [d1, d2, d3, d4, d5, d6, d7, d8] }
  | _ => none }
def boundHoldsRow : OpenClaim := { program := "ytmefkfilclkgeaa", sum := "32f8ffdfef4a40636c59386e98364a196dbe04bbb261df2caa257e1d37ce6049", func := "salvor/salvorlaw21.BoundHolds", spec := "boundHolds", unfollowed := true, recurses := true, apart := false }
def BoundHoldsSaid : Prop := boundHoldsRow.holds Try.pinned (OpenSpec.ofChange boundHoldsSpec)

/-- ITS FALSE NEIGHBOUR: 'it returns false'. Refute it at one input. -/
def boundHoldsWrong : ChangeSpec := { name := "boundHolds", fn := fun _ => fun
  | [d1, d2, d3, d4, d5, d6, d7, d8] => { results := [.lit (.bool false)], args := [d1, d2, d3, d4, d5, d6, d7, d8] }
  | _ => none }
def BoundHoldsWrongFalsely : Prop := boundHoldsRow.holds Try.pinned (OpenSpec.ofChange boundHoldsWrong)

/- THE SECOND FORM. 'bulk': how many values and letters a reading holds, each counted each time it is reached (what is shared counts as often as it is met; a slice's spare places count too). A statement '..UptoSaid' is the law's where the arguments, and the package variables that the reading takes, are together of bulk at most 1048576: NARROWER than '..Said'. Prove '..Said' where nothing that the law and all that it calls make is longer than what came in: it says more and counts as full. Else prove '..UptoSaid'. A law counts once. -/
mutual
def uptoBulk {H : Type} : DataW H → Nat
  | .lit (.string bytes) => bytes.length + 1
  | .lit _ => 1
  | .nil => 1
  | .ptr d => uptoBulk d + 1
  | .slice elems spare => uptoBulkAll elems + uptoBulkAll spare + 1
  | .agg parts => uptoBulkAll parts + 1
  | .iface _ d => uptoBulk d + 1
  | .map entries => uptoBulkEntries entries + 1
  | .held _ => 1
def uptoBulkAll {H : Type} : List (DataW H) → Nat
  | [] => 0
  | d :: r => uptoBulk d + uptoBulkAll r
def uptoBulkEntries {H : Type} : List (Lit × DataW H) → Nat
  | [] => 0
  | x :: r => uptoBulkEntry x + uptoBulkEntries r
def uptoBulkEntry {H : Type} : Lit × DataW H → Nat
  | (.string bytes, d) => bytes.length + uptoBulk d + 1
  | (_, d) => uptoBulk d + 1
 end
def uptoSmall : (H : Type) → List (DataW H) → Bool := fun _ ds => decide (uptoBulkAll ds ≤ 1048576)
def OpenSpec.upto (s : _root_.Go.ChangeSpec) : _root_.Go.OpenSpec := { _root_.Go.OpenSpec.ofChange s with cond := some uptoSmall }

/-- 'salvorlaw26.PatternRuns', WHERE WHAT IT READS IS OF BULK AT MOST 1048576: true; the input reads as it did. -/
def patternRunsUptoRow : OpenClaim := { program := "ytmefkfilclkgeaa", sum := "32f8ffdfef4a40636c59386e98364a196dbe04bbb261df2caa257e1d37ce6049", func := "salvor/salvorlaw26.PatternRuns", spec := "patternRuns", apart := false, narrowed := true }
def PatternRunsUptoSaid : Prop := patternRunsUptoRow.holds Try.pinned (OpenSpec.upto patternRunsSpec)

/-- 'salvorlaw26.PatternTells', WHERE WHAT IT READS IS OF BULK AT MOST 1048576: true; the input reads as it did. -/
def patternTellsUptoRow : OpenClaim := { program := "ytmefkfilclkgeaa", sum := "32f8ffdfef4a40636c59386e98364a196dbe04bbb261df2caa257e1d37ce6049", func := "salvor/salvorlaw26.PatternTells", spec := "patternTells", apart := false, narrowed := true }
def PatternTellsUptoSaid : Prop := patternTellsUptoRow.holds Try.pinned (OpenSpec.upto patternTellsSpec)

/-- 'salvorlaw26.PatternPieces', WHERE WHAT IT READS IS OF BULK AT MOST 1048576: true; the input reads as it did. -/
def patternPiecesUptoRow : OpenClaim := { program := "ytmefkfilclkgeaa", sum := "32f8ffdfef4a40636c59386e98364a196dbe04bbb261df2caa257e1d37ce6049", func := "salvor/salvorlaw26.PatternPieces", spec := "patternPieces", apart := false, narrowed := true }
def PatternPiecesUptoSaid : Prop := patternPiecesUptoRow.holds Try.pinned (OpenSpec.upto patternPiecesSpec)

/-- 'salvorlaw26.PatternPasses', WHERE WHAT IT READS IS OF BULK AT MOST 1048576: true; the input reads as it did. -/
def patternPassesUptoRow : OpenClaim := { program := "ytmefkfilclkgeaa", sum := "32f8ffdfef4a40636c59386e98364a196dbe04bbb261df2caa257e1d37ce6049", func := "salvor/salvorlaw26.PatternPasses", spec := "patternPasses", apart := false, narrowed := true }
def PatternPassesUptoSaid : Prop := patternPassesUptoRow.holds Try.pinned (OpenSpec.upto patternPassesSpec)

/-- 'salvorlaw21.BoundRuns', WHERE WHAT IT READS IS OF BULK AT MOST 1048576: true; the input reads as it did. -/
def boundRunsUptoRow : OpenClaim := { program := "ytmefkfilclkgeaa", sum := "32f8ffdfef4a40636c59386e98364a196dbe04bbb261df2caa257e1d37ce6049", func := "salvor/salvorlaw21.BoundRuns", spec := "boundRuns", apart := false, narrowed := true }
def BoundRunsUptoSaid : Prop := boundRunsUptoRow.holds Try.pinned (OpenSpec.upto boundRunsSpec)

/-- 'salvorlaw21.BoundTells', WHERE WHAT IT READS IS OF BULK AT MOST 1048576: true; the input reads as it did. -/
def boundTellsUptoRow : OpenClaim := { program := "ytmefkfilclkgeaa", sum := "32f8ffdfef4a40636c59386e98364a196dbe04bbb261df2caa257e1d37ce6049", func := "salvor/salvorlaw21.BoundTells", spec := "boundTells", apart := false, narrowed := true }
def BoundTellsUptoSaid : Prop := boundTellsUptoRow.holds Try.pinned (OpenSpec.upto boundTellsSpec)

/-- 'salvorlaw21.BoundGrows', WHERE WHAT IT READS IS OF BULK AT MOST 1048576: true; the input reads as it did. -/
def boundGrowsUptoRow : OpenClaim := { program := "ytmefkfilclkgeaa", sum := "32f8ffdfef4a40636c59386e98364a196dbe04bbb261df2caa257e1d37ce6049", func := "salvor/salvorlaw21.BoundGrows", spec := "boundGrows", apart := false, narrowed := true }
def BoundGrowsUptoSaid : Prop := boundGrowsUptoRow.holds Try.pinned (OpenSpec.upto boundGrowsSpec)

/-- 'salvorlaw21.BoundHolds', WHERE WHAT IT READS IS OF BULK AT MOST 1048576: true; the input reads as it did. -/
def boundHoldsUptoRow : OpenClaim := { program := "ytmefkfilclkgeaa", sum := "32f8ffdfef4a40636c59386e98364a196dbe04bbb261df2caa257e1d37ce6049", func := "salvor/salvorlaw21.BoundHolds", spec := "boundHolds", unfollowed := true, recurses := true, apart := false, narrowed := true }
def BoundHoldsUptoSaid : Prop := boundHoldsUptoRow.holds Try.pinned (OpenSpec.upto boundHoldsSpec)

end Rows
end Go.Proofs.Ytmefkfilclkgeaa
