/-
  NARROWER THAN 'FOR EVERY INPUT', by the rows' own cells (each row's printed sentence says how): DdRuns: laid · RescueWrong: laid · ShredWrong: laid · DdWrong: laid · TruncNew: laid · RescueParses: laid · FallocBytes: laid · FallocDigs: laid · FallocFull: laid · TruncBytes: laid · ShredGone: laid · ShredFull: laid.
  DERIVED. THE GIVEN ROWS OF THIS SEAT. 12 by the template 'for every input the law returns true; each argument reads behind the call as it read before'; 0 by the template 'total and deterministic' (their statements: YthloojeefdjpjaaGreatDoorTotals.lean).
  GIVEN WITH THE SEED: the statements are not yours to turn. If you find one false, say at which input.
  Laid BY PROGRAM, IN A SANDBOX (cutbox-rows.mjs): the forced cells as the released guide's own fill.sh prints them over the translation f53f223a2b208b92… (all of the seat's roots in one cut). By AI agents, Wed Nov 11 2026. No macro, syntax, notation, axiom, sorry.
-/
import Derived.Test.YthloojeefdjpjaaGreatDoorChecked
import GoSem.PinnedTables
import GoSem.Claim
import GoSem.ClaimJoined
import GoSem.ClaimMapViews
import Derived.JoinedTies
import Derived.KernelRfl
namespace Go.Proofs.YthloojeefdjpjaaGreatDoor
/- THE CELL 'sum', in the pinned program and in every row, IS THE sha256 OF THE DUMP (.gsa) THAT YthloojeefdjpjaaGreatDoorProg.lean LOADS. Nothing in Lean hashes anything: it is a label: what it is worth is what the hold of that sum in a sandbox is worth. -/
noncomputable def Tryz.pinned : Pinned := { name := "ythloojeefdjpjaagreatdoor", sum := "f53f223a2b208b924f40bb36ab9fef1e52193a8f2f5bc94f1787eb88de72570b", checked := Tryz.checked }
namespace Rows
def none {H : Type} : Left H := { results := [], args := [] }

/- WHAT THE LISTED PACKAGE-LEVEL VARIABLES READ AS WHEN THE CALL BEGINS. Each datum BY PROGRAM (the guide's laid-datum.mjs) off the statement by which the dump's own 'gosem.cut.vars' lays the variable. In a bare row this is a premise. The card (YthloojeefdjpjaaGreatDoorCards.lean) ties it to the program's text. -/
def laid_math_bits_deBruijn32tab {H : Type} : DataW H := .agg [.lit (.int .u8 0), .lit (.int .u8 1), .lit (.int .u8 28), .lit (.int .u8 2), .lit (.int .u8 29), .lit (.int .u8 14), .lit (.int .u8 24), .lit (.int .u8 3), .lit (.int .u8 30), .lit (.int .u8 22), .lit (.int .u8 20), .lit (.int .u8 15), .lit (.int .u8 25), .lit (.int .u8 17), .lit (.int .u8 4), .lit (.int .u8 8), .lit (.int .u8 31), .lit (.int .u8 27), .lit (.int .u8 13), .lit (.int .u8 23), .lit (.int .u8 21), .lit (.int .u8 19), .lit (.int .u8 16), .lit (.int .u8 7), .lit (.int .u8 26), .lit (.int .u8 12), .lit (.int .u8 18), .lit (.int .u8 6), .lit (.int .u8 11), .lit (.int .u8 5), .lit (.int .u8 10), .lit (.int .u8 9)]
def laid_math_bits_deBruijn64tab {H : Type} : DataW H := .agg [.lit (.int .u8 0), .lit (.int .u8 1), .lit (.int .u8 56), .lit (.int .u8 2), .lit (.int .u8 57), .lit (.int .u8 49), .lit (.int .u8 28), .lit (.int .u8 3), .lit (.int .u8 61), .lit (.int .u8 58), .lit (.int .u8 42), .lit (.int .u8 50), .lit (.int .u8 38), .lit (.int .u8 29), .lit (.int .u8 17), .lit (.int .u8 4), .lit (.int .u8 62), .lit (.int .u8 47), .lit (.int .u8 59), .lit (.int .u8 36), .lit (.int .u8 45), .lit (.int .u8 43), .lit (.int .u8 51), .lit (.int .u8 22), .lit (.int .u8 53), .lit (.int .u8 39), .lit (.int .u8 33), .lit (.int .u8 30), .lit (.int .u8 24), .lit (.int .u8 18), .lit (.int .u8 12), .lit (.int .u8 5), .lit (.int .u8 63), .lit (.int .u8 55), .lit (.int .u8 48), .lit (.int .u8 27), .lit (.int .u8 60), .lit (.int .u8 41), .lit (.int .u8 37), .lit (.int .u8 16), .lit (.int .u8 46), .lit (.int .u8 35), .lit (.int .u8 44), .lit (.int .u8 21), .lit (.int .u8 52), .lit (.int .u8 32), .lit (.int .u8 23), .lit (.int .u8 11), .lit (.int .u8 54), .lit (.int .u8 26), .lit (.int .u8 40), .lit (.int .u8 15), .lit (.int .u8 34), .lit (.int .u8 20), .lit (.int .u8 31), .lit (.int .u8 10), .lit (.int .u8 25), .lit (.int .u8 14), .lit (.int .u8 19), .lit (.int .u8 9), .lit (.int .u8 13), .lit (.int .u8 8), .lit (.int .u8 7), .lit (.int .u8 6)]
def laid_internal_strconv_uint64pow10 {H : Type} : DataW H := .agg [.lit (.int .u64 1), .lit (.int .u64 10), .lit (.int .u64 100), .lit (.int .u64 1000), .lit (.int .u64 10000), .lit (.int .u64 100000), .lit (.int .u64 1000000), .lit (.int .u64 10000000), .lit (.int .u64 100000000), .lit (.int .u64 1000000000), .lit (.int .u64 10000000000), .lit (.int .u64 100000000000), .lit (.int .u64 1000000000000), .lit (.int .u64 10000000000000), .lit (.int .u64 100000000000000), .lit (.int .u64 1000000000000000), .lit (.int .u64 10000000000000000), .lit (.int .u64 100000000000000000), .lit (.int .u64 1000000000000000000), .lit (.int .u64 10000000000000000000)]
def laid_unicode_utf8_acceptRanges {H : Type} : DataW H := .agg [.agg [.lit (.int .u8 128), .lit (.int .u8 191)], .agg [.lit (.int .u8 160), .lit (.int .u8 191)], .agg [.lit (.int .u8 128), .lit (.int .u8 159)], .agg [.lit (.int .u8 144), .lit (.int .u8 191)], .agg [.lit (.int .u8 128), .lit (.int .u8 143)], .agg [.lit (.int .u8 0), .lit (.int .u8 0)], .agg [.lit (.int .u8 0), .lit (.int .u8 0)], .agg [.lit (.int .u8 0), .lit (.int .u8 0)], .agg [.lit (.int .u8 0), .lit (.int .u8 0)], .agg [.lit (.int .u8 0), .lit (.int .u8 0)], .agg [.lit (.int .u8 0), .lit (.int .u8 0)], .agg [.lit (.int .u8 0), .lit (.int .u8 0)], .agg [.lit (.int .u8 0), .lit (.int .u8 0)], .agg [.lit (.int .u8 0), .lit (.int .u8 0)], .agg [.lit (.int .u8 0), .lit (.int .u8 0)], .agg [.lit (.int .u8 0), .lit (.int .u8 0)]]
def laid_strconv_ErrRange {H : Type} : DataW H := .iface "*errors.errorString" (.ptr (.agg [.lit (.string [118, 97, 108, 117, 101, 32, 111, 117, 116, 32, 111, 102, 32, 114, 97, 110, 103, 101])]))
def laid_strconv_ErrSyntax {H : Type} : DataW H := .iface "*errors.errorString" (.ptr (.agg [.lit (.string [105, 110, 118, 97, 108, 105, 100, 32, 115, 121, 110, 116, 97, 120])]))
/-- One of Go's own tables, pinned by name: the form's constant. -/
def laid_unicode_utf8_first : DataW Unit := Go.Pinned.utf8First
/-- One of Go's own tables, pinned by name: the form's constant. -/
def laid_unicode_CaseRanges : DataW Unit := Go.Pinned.caseRanges

/-- 'salvorlaw25.DdRuns': WHATEVER THE INPUT: true; the input reads as it did. -/
def ddRunsSpec : ChangeSpec := { name := "ddRuns", fn := fun _ => fun
  | [] => { results := [.lit (.bool true)], args := [] }
  | _ => none }
def ddRunsRow : OpenClaim := { program := "ythloojeefdjpjaagreatdoor", sum := "f53f223a2b208b924f40bb36ab9fef1e52193a8f2f5bc94f1787eb88de72570b", func := "salvor/salvorlaw25.DdRuns", spec := "ddRuns", inPlace := ["internal/bytealg.abigen_runtime_cmpstring", "slices.overlaps[salvor/api.Name]", "slices.overlaps[salvor/api.Node]", "slices.overlaps[salvor/api.Ext]", "internal/bytealg.IndexByteString", "internal/bytealg.IndexString", "internal/bytealg.CountString", "internal/bytealg.MakeNoZero"], unfollowed := true, recurses := true, named := ["internal/bytealg.MaxLen", "unicode/utf8.first", "unicode/utf8.acceptRanges", "strconv.ErrSyntax", "strconv.ErrRange", "internal/strconv.uint64pow10", "math/bits.deBruijn32tab", "math/bits.deBruijn64tab"], apart := false, laid := [("math/bits.deBruijn32tab", laid_math_bits_deBruijn32tab), ("math/bits.deBruijn64tab", laid_math_bits_deBruijn64tab), ("internal/strconv.uint64pow10", laid_internal_strconv_uint64pow10), ("unicode/utf8.acceptRanges", laid_unicode_utf8_acceptRanges), ("strconv.ErrRange", laid_strconv_ErrRange), ("strconv.ErrSyntax", laid_strconv_ErrSyntax), ("unicode/utf8.first", laid_unicode_utf8_first)] }
def DdRunsSaid : Prop := ddRunsRow.holds Tryz.pinned (OpenSpec.ofChange ddRunsSpec)

/-- ITS FALSE NEIGHBOUR: 'it returns false'. Refute it at one input. -/
def ddRunsWrong : ChangeSpec := { name := "ddRuns", fn := fun _ => fun
  | [] => { results := [.lit (.bool false)], args := [] }
  | _ => none }
def DdRunsWrongFalsely : Prop := ddRunsRow.holds Tryz.pinned (OpenSpec.ofChange ddRunsWrong)

/-- 'salvorlaw22.RescueWrong': WHATEVER THE INPUT: true; the input reads as it did. -/
def rescueWrongSpec : ChangeSpec := { name := "rescueWrong", fn := fun _ => fun
  | [d1, d2] => { results := [.lit (.bool true)], args := [d1, d2] }
  | _ => none }
def rescueWrongRow : OpenClaim := { program := "ythloojeefdjpjaagreatdoor", sum := "f53f223a2b208b924f40bb36ab9fef1e52193a8f2f5bc94f1787eb88de72570b", func := "salvor/salvorlaw22.RescueWrong", spec := "rescueWrong", inPlace := ["internal/bytealg.IndexByteString", "internal/bytealg.IndexString", "internal/bytealg.abigen_runtime_cmpstring", "slices.overlaps[salvor/api.Name]", "slices.overlaps[salvor/api.Node]", "slices.overlaps[salvor/api.Ext]", "internal/bytealg.CountString", "internal/abi.NoEscape", "internal/bytealg.MakeNoZero"], unfollowed := true, recurses := true, named := ["internal/bytealg.MaxLen", "strconv.ErrSyntax", "strconv.ErrRange", "internal/strconv.uint64pow10", "math/bits.deBruijn32tab", "math/bits.deBruijn64tab", "unicode/utf8.first", "unicode/utf8.acceptRanges", "unicode.CaseRanges"], apart := false, laid := [("math/bits.deBruijn32tab", laid_math_bits_deBruijn32tab), ("math/bits.deBruijn64tab", laid_math_bits_deBruijn64tab), ("internal/strconv.uint64pow10", laid_internal_strconv_uint64pow10), ("unicode/utf8.acceptRanges", laid_unicode_utf8_acceptRanges), ("strconv.ErrRange", laid_strconv_ErrRange), ("strconv.ErrSyntax", laid_strconv_ErrSyntax), ("unicode.CaseRanges", laid_unicode_CaseRanges), ("unicode/utf8.first", laid_unicode_utf8_first)] }
def RescueWrongSaid : Prop := rescueWrongRow.holds Tryz.pinned (OpenSpec.ofChange rescueWrongSpec)

/-- ITS FALSE NEIGHBOUR: 'it returns false'. Refute it at one input. -/
def rescueWrongWrong : ChangeSpec := { name := "rescueWrong", fn := fun _ => fun
  | [d1, d2] => { results := [.lit (.bool false)], args := [d1, d2] }
  | _ => none }
def RescueWrongWrongFalsely : Prop := rescueWrongRow.holds Tryz.pinned (OpenSpec.ofChange rescueWrongWrong)

/-- 'salvorlaw27.ShredWrong': WHATEVER THE INPUT: true; the input reads as it did. -/
def shredWrongSpec : ChangeSpec := { name := "shredWrong", fn := fun _ => fun
  | [d1, d2] => { results := [.lit (.bool true)], args := [d1, d2] }
  | _ => none }
def shredWrongRow : OpenClaim := { program := "ythloojeefdjpjaagreatdoor", sum := "f53f223a2b208b924f40bb36ab9fef1e52193a8f2f5bc94f1787eb88de72570b", func := "salvor/salvorlaw27.ShredWrong", spec := "shredWrong", inPlace := ["internal/bytealg.abigen_runtime_cmpstring", "slices.overlaps[salvor/api.Name]", "slices.overlaps[salvor/api.Node]", "slices.overlaps[salvor/api.Ext]", "internal/bytealg.IndexByteString", "internal/bytealg.IndexString", "internal/bytealg.CountString"], unfollowed := true, recurses := true, named := ["internal/bytealg.MaxLen", "strconv.ErrSyntax", "strconv.ErrRange", "internal/strconv.uint64pow10", "math/bits.deBruijn32tab", "math/bits.deBruijn64tab", "unicode/utf8.first", "unicode/utf8.acceptRanges"], apart := false, laid := [("math/bits.deBruijn32tab", laid_math_bits_deBruijn32tab), ("math/bits.deBruijn64tab", laid_math_bits_deBruijn64tab), ("internal/strconv.uint64pow10", laid_internal_strconv_uint64pow10), ("unicode/utf8.acceptRanges", laid_unicode_utf8_acceptRanges), ("strconv.ErrRange", laid_strconv_ErrRange), ("strconv.ErrSyntax", laid_strconv_ErrSyntax), ("unicode/utf8.first", laid_unicode_utf8_first)] }
def ShredWrongSaid : Prop := shredWrongRow.holds Tryz.pinned (OpenSpec.ofChange shredWrongSpec)

/-- ITS FALSE NEIGHBOUR: 'it returns false'. Refute it at one input. -/
def shredWrongWrong : ChangeSpec := { name := "shredWrong", fn := fun _ => fun
  | [d1, d2] => { results := [.lit (.bool false)], args := [d1, d2] }
  | _ => none }
def ShredWrongWrongFalsely : Prop := shredWrongRow.holds Tryz.pinned (OpenSpec.ofChange shredWrongWrong)

/-- 'salvorlaw25.DdWrong': WHATEVER THE INPUT: true; the input reads as it did. -/
def ddWrongSpec : ChangeSpec := { name := "ddWrong", fn := fun _ => fun
  | [d1, d2] => { results := [.lit (.bool true)], args := [d1, d2] }
  | _ => none }
def ddWrongRow : OpenClaim := { program := "ythloojeefdjpjaagreatdoor", sum := "f53f223a2b208b924f40bb36ab9fef1e52193a8f2f5bc94f1787eb88de72570b", func := "salvor/salvorlaw25.DdWrong", spec := "ddWrong", inPlace := ["internal/bytealg.abigen_runtime_cmpstring", "slices.overlaps[salvor/api.Name]", "slices.overlaps[salvor/api.Node]", "slices.overlaps[salvor/api.Ext]", "internal/bytealg.IndexByteString", "internal/bytealg.IndexString", "internal/bytealg.CountString", "internal/bytealg.MakeNoZero"], unfollowed := true, recurses := true, named := ["internal/bytealg.MaxLen", "unicode/utf8.first", "unicode/utf8.acceptRanges", "strconv.ErrSyntax", "strconv.ErrRange", "internal/strconv.uint64pow10", "math/bits.deBruijn32tab", "math/bits.deBruijn64tab"], apart := false, laid := [("math/bits.deBruijn32tab", laid_math_bits_deBruijn32tab), ("math/bits.deBruijn64tab", laid_math_bits_deBruijn64tab), ("internal/strconv.uint64pow10", laid_internal_strconv_uint64pow10), ("unicode/utf8.acceptRanges", laid_unicode_utf8_acceptRanges), ("strconv.ErrRange", laid_strconv_ErrRange), ("strconv.ErrSyntax", laid_strconv_ErrSyntax), ("unicode/utf8.first", laid_unicode_utf8_first)] }
def DdWrongSaid : Prop := ddWrongRow.holds Tryz.pinned (OpenSpec.ofChange ddWrongSpec)

/-- ITS FALSE NEIGHBOUR: 'it returns false'. Refute it at one input. -/
def ddWrongWrong : ChangeSpec := { name := "ddWrong", fn := fun _ => fun
  | [d1, d2] => { results := [.lit (.bool false)], args := [d1, d2] }
  | _ => none }
def DdWrongWrongFalsely : Prop := ddWrongRow.holds Tryz.pinned (OpenSpec.ofChange ddWrongWrong)

/-- 'salvorlaw28.TruncNew': WHATEVER THE INPUT: true; the input reads as it did. -/
def truncNewSpec : ChangeSpec := { name := "truncNew", fn := fun _ => fun
  | [d1, d2, d3] => { results := [.lit (.bool true)], args := [d1, d2, d3] }
  | _ => none }
def truncNewRow : OpenClaim := { program := "ythloojeefdjpjaagreatdoor", sum := "f53f223a2b208b924f40bb36ab9fef1e52193a8f2f5bc94f1787eb88de72570b", func := "salvor/salvorlaw28.TruncNew", spec := "truncNew", inPlace := ["internal/bytealg.IndexByteString", "internal/bytealg.IndexString", "internal/bytealg.CountString", "internal/bytealg.abigen_runtime_cmpstring", "slices.overlaps[salvor/api.Name]", "slices.overlaps[salvor/api.Node]", "slices.overlaps[salvor/api.Ext]"], unfollowed := true, recurses := true, named := ["internal/strconv.uint64pow10", "math/bits.deBruijn32tab", "math/bits.deBruijn64tab", "internal/bytealg.MaxLen", "unicode/utf8.first", "unicode/utf8.acceptRanges", "strconv.ErrSyntax", "strconv.ErrRange"], apart := false, laid := [("math/bits.deBruijn32tab", laid_math_bits_deBruijn32tab), ("math/bits.deBruijn64tab", laid_math_bits_deBruijn64tab), ("internal/strconv.uint64pow10", laid_internal_strconv_uint64pow10), ("unicode/utf8.acceptRanges", laid_unicode_utf8_acceptRanges), ("strconv.ErrRange", laid_strconv_ErrRange), ("strconv.ErrSyntax", laid_strconv_ErrSyntax), ("unicode/utf8.first", laid_unicode_utf8_first)] }
def TruncNewSaid : Prop := truncNewRow.holds Tryz.pinned (OpenSpec.ofChange truncNewSpec)

/-- ITS FALSE NEIGHBOUR: 'it returns false'. Refute it at one input. -/
def truncNewWrong : ChangeSpec := { name := "truncNew", fn := fun _ => fun
  | [d1, d2, d3] => { results := [.lit (.bool false)], args := [d1, d2, d3] }
  | _ => none }
def TruncNewWrongFalsely : Prop := truncNewRow.holds Tryz.pinned (OpenSpec.ofChange truncNewWrong)

/-- 'salvorlaw22.RescueParses': WHATEVER THE INPUT: true; the input reads as it did. -/
def rescueParsesSpec : ChangeSpec := { name := "rescueParses", fn := fun _ => fun
  | [d] => { results := [.lit (.bool true)], args := [d] }
  | _ => none }
def rescueParsesRow : OpenClaim := { program := "ythloojeefdjpjaagreatdoor", sum := "f53f223a2b208b924f40bb36ab9fef1e52193a8f2f5bc94f1787eb88de72570b", func := "salvor/salvorlaw22.RescueParses", spec := "rescueParses", inPlace := ["internal/bytealg.IndexByteString", "internal/bytealg.IndexString", "internal/bytealg.abigen_runtime_cmpstring", "slices.overlaps[salvor/api.Name]", "slices.overlaps[salvor/api.Node]", "slices.overlaps[salvor/api.Ext]", "internal/bytealg.CountString", "internal/abi.NoEscape", "internal/bytealg.MakeNoZero"], unfollowed := true, recurses := true, named := ["internal/bytealg.MaxLen", "strconv.ErrSyntax", "strconv.ErrRange", "internal/strconv.uint64pow10", "math/bits.deBruijn32tab", "math/bits.deBruijn64tab", "unicode/utf8.first", "unicode/utf8.acceptRanges", "unicode.CaseRanges"], apart := false, laid := [("math/bits.deBruijn32tab", laid_math_bits_deBruijn32tab), ("math/bits.deBruijn64tab", laid_math_bits_deBruijn64tab), ("internal/strconv.uint64pow10", laid_internal_strconv_uint64pow10), ("unicode/utf8.acceptRanges", laid_unicode_utf8_acceptRanges), ("strconv.ErrRange", laid_strconv_ErrRange), ("strconv.ErrSyntax", laid_strconv_ErrSyntax), ("unicode.CaseRanges", laid_unicode_CaseRanges), ("unicode/utf8.first", laid_unicode_utf8_first)] }
def RescueParsesSaid : Prop := rescueParsesRow.holds Tryz.pinned (OpenSpec.ofChange rescueParsesSpec)

/-- ITS FALSE NEIGHBOUR: 'it returns false'. Refute it at one input. -/
def rescueParsesWrong : ChangeSpec := { name := "rescueParses", fn := fun _ => fun
  | [d] => { results := [.lit (.bool false)], args := [d] }
  | _ => none }
def RescueParsesWrongFalsely : Prop := rescueParsesRow.holds Tryz.pinned (OpenSpec.ofChange rescueParsesWrong)

/-- 'salvorlaw29.FallocBytes': WHATEVER THE INPUT: true; the input reads as it did. -/
def fallocBytesSpec : ChangeSpec := { name := "fallocBytes", fn := fun _ => fun
  | [d1, d2, d3, d4, d5] => { results := [.lit (.bool true)], args := [d1, d2, d3, d4, d5] }
  | _ => none }
def fallocBytesRow : OpenClaim := { program := "ythloojeefdjpjaagreatdoor", sum := "f53f223a2b208b924f40bb36ab9fef1e52193a8f2f5bc94f1787eb88de72570b", func := "salvor/salvorlaw29.FallocBytes", spec := "fallocBytes", inPlace := ["internal/bytealg.IndexByteString", "internal/bytealg.IndexString", "internal/bytealg.CountString", "internal/bytealg.abigen_runtime_cmpstring", "slices.overlaps[salvor/api.Name]", "slices.overlaps[salvor/api.Node]", "slices.overlaps[salvor/api.Ext]"], unfollowed := true, recurses := true, named := ["internal/bytealg.MaxLen", "unicode/utf8.first", "unicode/utf8.acceptRanges", "strconv.ErrSyntax", "strconv.ErrRange", "internal/strconv.uint64pow10", "math/bits.deBruijn32tab", "math/bits.deBruijn64tab"], apart := false, laid := [("math/bits.deBruijn32tab", laid_math_bits_deBruijn32tab), ("math/bits.deBruijn64tab", laid_math_bits_deBruijn64tab), ("internal/strconv.uint64pow10", laid_internal_strconv_uint64pow10), ("unicode/utf8.acceptRanges", laid_unicode_utf8_acceptRanges), ("strconv.ErrRange", laid_strconv_ErrRange), ("strconv.ErrSyntax", laid_strconv_ErrSyntax), ("unicode/utf8.first", laid_unicode_utf8_first)] }
def FallocBytesSaid : Prop := fallocBytesRow.holds Tryz.pinned (OpenSpec.ofChange fallocBytesSpec)

/-- ITS FALSE NEIGHBOUR: 'it returns false'. Refute it at one input. -/
def fallocBytesWrong : ChangeSpec := { name := "fallocBytes", fn := fun _ => fun
  | [d1, d2, d3, d4, d5] => { results := [.lit (.bool false)], args := [d1, d2, d3, d4, d5] }
  | _ => none }
def FallocBytesWrongFalsely : Prop := fallocBytesRow.holds Tryz.pinned (OpenSpec.ofChange fallocBytesWrong)

/-- 'salvorlaw29.FallocDigs': WHATEVER THE INPUT: true; the input reads as it did. -/
def fallocDigsSpec : ChangeSpec := { name := "fallocDigs", fn := fun _ => fun
  | [d1, d2, d3, d4, d5] => { results := [.lit (.bool true)], args := [d1, d2, d3, d4, d5] }
  | _ => none }
def fallocDigsRow : OpenClaim := { program := "ythloojeefdjpjaagreatdoor", sum := "f53f223a2b208b924f40bb36ab9fef1e52193a8f2f5bc94f1787eb88de72570b", func := "salvor/salvorlaw29.FallocDigs", spec := "fallocDigs", inPlace := ["internal/bytealg.abigen_runtime_cmpstring", "slices.overlaps[salvor/api.Name]", "slices.overlaps[salvor/api.Node]", "slices.overlaps[salvor/api.Ext]", "internal/bytealg.IndexByteString", "internal/bytealg.IndexString", "internal/bytealg.CountString"], unfollowed := true, recurses := true, named := ["internal/strconv.uint64pow10", "math/bits.deBruijn32tab", "math/bits.deBruijn64tab", "internal/bytealg.MaxLen", "unicode/utf8.first", "unicode/utf8.acceptRanges", "strconv.ErrSyntax", "strconv.ErrRange"], apart := false, laid := [("math/bits.deBruijn32tab", laid_math_bits_deBruijn32tab), ("math/bits.deBruijn64tab", laid_math_bits_deBruijn64tab), ("internal/strconv.uint64pow10", laid_internal_strconv_uint64pow10), ("unicode/utf8.acceptRanges", laid_unicode_utf8_acceptRanges), ("strconv.ErrRange", laid_strconv_ErrRange), ("strconv.ErrSyntax", laid_strconv_ErrSyntax), ("unicode/utf8.first", laid_unicode_utf8_first)] }
def FallocDigsSaid : Prop := fallocDigsRow.holds Tryz.pinned (OpenSpec.ofChange fallocDigsSpec)

/-- ITS FALSE NEIGHBOUR: 'it returns false'. Refute it at one input. -/
def fallocDigsWrong : ChangeSpec := { name := "fallocDigs", fn := fun _ => fun
  | [d1, d2, d3, d4, d5] => { results := [.lit (.bool false)], args := [d1, d2, d3, d4, d5] }
  | _ => none }
def FallocDigsWrongFalsely : Prop := fallocDigsRow.holds Tryz.pinned (OpenSpec.ofChange fallocDigsWrong)

/-- 'salvorlaw29.FallocFull': WHATEVER THE INPUT: true; the input reads as it did. -/
def fallocFullSpec : ChangeSpec := { name := "fallocFull", fn := fun _ => fun
  | [d1, d2, d3, d4] => { results := [.lit (.bool true)], args := [d1, d2, d3, d4] }
  | _ => none }
def fallocFullRow : OpenClaim := { program := "ythloojeefdjpjaagreatdoor", sum := "f53f223a2b208b924f40bb36ab9fef1e52193a8f2f5bc94f1787eb88de72570b", func := "salvor/salvorlaw29.FallocFull", spec := "fallocFull", inPlace := ["internal/bytealg.IndexByteString", "internal/bytealg.IndexString", "internal/bytealg.CountString", "internal/bytealg.abigen_runtime_cmpstring", "slices.overlaps[salvor/api.Name]", "slices.overlaps[salvor/api.Node]", "slices.overlaps[salvor/api.Ext]"], unfollowed := true, recurses := true, named := ["internal/bytealg.MaxLen", "unicode/utf8.first", "unicode/utf8.acceptRanges", "strconv.ErrSyntax", "strconv.ErrRange", "internal/strconv.uint64pow10", "math/bits.deBruijn32tab", "math/bits.deBruijn64tab"], apart := false, laid := [("math/bits.deBruijn32tab", laid_math_bits_deBruijn32tab), ("math/bits.deBruijn64tab", laid_math_bits_deBruijn64tab), ("internal/strconv.uint64pow10", laid_internal_strconv_uint64pow10), ("unicode/utf8.acceptRanges", laid_unicode_utf8_acceptRanges), ("strconv.ErrRange", laid_strconv_ErrRange), ("strconv.ErrSyntax", laid_strconv_ErrSyntax), ("unicode/utf8.first", laid_unicode_utf8_first)] }
def FallocFullSaid : Prop := fallocFullRow.holds Tryz.pinned (OpenSpec.ofChange fallocFullSpec)

/-- ITS FALSE NEIGHBOUR: 'it returns false'. Refute it at one input. -/
def fallocFullWrong : ChangeSpec := { name := "fallocFull", fn := fun _ => fun
  | [d1, d2, d3, d4] => { results := [.lit (.bool false)], args := [d1, d2, d3, d4] }
  | _ => none }
def FallocFullWrongFalsely : Prop := fallocFullRow.holds Tryz.pinned (OpenSpec.ofChange fallocFullWrong)

/-- 'salvorlaw28.TruncBytes': WHATEVER THE INPUT: true; the input reads as it did. -/
def truncBytesSpec : ChangeSpec := { name := "truncBytes", fn := fun _ => fun
  | [d1, d2, d3] => { results := [.lit (.bool true)], args := [d1, d2, d3] }
  | _ => none }
def truncBytesRow : OpenClaim := { program := "ythloojeefdjpjaagreatdoor", sum := "f53f223a2b208b924f40bb36ab9fef1e52193a8f2f5bc94f1787eb88de72570b", func := "salvor/salvorlaw28.TruncBytes", spec := "truncBytes", inPlace := ["internal/bytealg.abigen_runtime_cmpstring", "slices.overlaps[salvor/api.Name]", "slices.overlaps[salvor/api.Node]", "slices.overlaps[salvor/api.Ext]", "internal/bytealg.IndexByteString", "internal/bytealg.IndexString", "internal/bytealg.CountString"], unfollowed := true, recurses := true, named := ["internal/bytealg.MaxLen", "unicode/utf8.first", "unicode/utf8.acceptRanges", "strconv.ErrSyntax", "strconv.ErrRange", "internal/strconv.uint64pow10", "math/bits.deBruijn32tab", "math/bits.deBruijn64tab"], apart := false, laid := [("math/bits.deBruijn32tab", laid_math_bits_deBruijn32tab), ("math/bits.deBruijn64tab", laid_math_bits_deBruijn64tab), ("internal/strconv.uint64pow10", laid_internal_strconv_uint64pow10), ("unicode/utf8.acceptRanges", laid_unicode_utf8_acceptRanges), ("strconv.ErrRange", laid_strconv_ErrRange), ("strconv.ErrSyntax", laid_strconv_ErrSyntax), ("unicode/utf8.first", laid_unicode_utf8_first)] }
def TruncBytesSaid : Prop := truncBytesRow.holds Tryz.pinned (OpenSpec.ofChange truncBytesSpec)

/-- ITS FALSE NEIGHBOUR: 'it returns false'. Refute it at one input. -/
def truncBytesWrong : ChangeSpec := { name := "truncBytes", fn := fun _ => fun
  | [d1, d2, d3] => { results := [.lit (.bool false)], args := [d1, d2, d3] }
  | _ => none }
def TruncBytesWrongFalsely : Prop := truncBytesRow.holds Tryz.pinned (OpenSpec.ofChange truncBytesWrong)

/-- 'salvorlaw27.ShredGone': WHATEVER THE INPUT: true; the input reads as it did. -/
def shredGoneSpec : ChangeSpec := { name := "shredGone", fn := fun _ => fun
  | [d1, d2, d3] => { results := [.lit (.bool true)], args := [d1, d2, d3] }
  | _ => none }
def shredGoneRow : OpenClaim := { program := "ythloojeefdjpjaagreatdoor", sum := "f53f223a2b208b924f40bb36ab9fef1e52193a8f2f5bc94f1787eb88de72570b", func := "salvor/salvorlaw27.ShredGone", spec := "shredGone", inPlace := ["internal/bytealg.abigen_runtime_cmpstring", "slices.overlaps[salvor/api.Name]", "slices.overlaps[salvor/api.Node]", "slices.overlaps[salvor/api.Ext]", "internal/bytealg.IndexByteString", "internal/bytealg.IndexString", "internal/bytealg.CountString"], unfollowed := true, recurses := true, named := ["internal/bytealg.MaxLen", "strconv.ErrSyntax", "strconv.ErrRange", "internal/strconv.uint64pow10", "math/bits.deBruijn32tab", "math/bits.deBruijn64tab", "unicode/utf8.first", "unicode/utf8.acceptRanges"], apart := false, laid := [("math/bits.deBruijn32tab", laid_math_bits_deBruijn32tab), ("math/bits.deBruijn64tab", laid_math_bits_deBruijn64tab), ("internal/strconv.uint64pow10", laid_internal_strconv_uint64pow10), ("unicode/utf8.acceptRanges", laid_unicode_utf8_acceptRanges), ("strconv.ErrRange", laid_strconv_ErrRange), ("strconv.ErrSyntax", laid_strconv_ErrSyntax), ("unicode/utf8.first", laid_unicode_utf8_first)] }
def ShredGoneSaid : Prop := shredGoneRow.holds Tryz.pinned (OpenSpec.ofChange shredGoneSpec)

/-- ITS FALSE NEIGHBOUR: 'it returns false'. Refute it at one input. -/
def shredGoneWrong : ChangeSpec := { name := "shredGone", fn := fun _ => fun
  | [d1, d2, d3] => { results := [.lit (.bool false)], args := [d1, d2, d3] }
  | _ => none }
def ShredGoneWrongFalsely : Prop := shredGoneRow.holds Tryz.pinned (OpenSpec.ofChange shredGoneWrong)

/-- 'salvorlaw27.ShredFull': WHATEVER THE INPUT: true; the input reads as it did. -/
def shredFullSpec : ChangeSpec := { name := "shredFull", fn := fun _ => fun
  | [d1, d2, d3] => { results := [.lit (.bool true)], args := [d1, d2, d3] }
  | _ => none }
def shredFullRow : OpenClaim := { program := "ythloojeefdjpjaagreatdoor", sum := "f53f223a2b208b924f40bb36ab9fef1e52193a8f2f5bc94f1787eb88de72570b", func := "salvor/salvorlaw27.ShredFull", spec := "shredFull", inPlace := ["internal/bytealg.abigen_runtime_cmpstring", "slices.overlaps[salvor/api.Name]", "slices.overlaps[salvor/api.Node]", "slices.overlaps[salvor/api.Ext]", "internal/bytealg.IndexByteString", "internal/bytealg.IndexString", "internal/bytealg.CountString"], unfollowed := true, recurses := true, named := ["internal/bytealg.MaxLen", "strconv.ErrSyntax", "strconv.ErrRange", "internal/strconv.uint64pow10", "math/bits.deBruijn32tab", "math/bits.deBruijn64tab", "unicode/utf8.first", "unicode/utf8.acceptRanges"], apart := false, laid := [("math/bits.deBruijn32tab", laid_math_bits_deBruijn32tab), ("math/bits.deBruijn64tab", laid_math_bits_deBruijn64tab), ("internal/strconv.uint64pow10", laid_internal_strconv_uint64pow10), ("unicode/utf8.acceptRanges", laid_unicode_utf8_acceptRanges), ("strconv.ErrRange", laid_strconv_ErrRange), ("strconv.ErrSyntax", laid_strconv_ErrSyntax), ("unicode/utf8.first", laid_unicode_utf8_first)] }
def ShredFullSaid : Prop := shredFullRow.holds Tryz.pinned (OpenSpec.ofChange shredFullSpec)

/-- ITS FALSE NEIGHBOUR: 'it returns false'. Refute it at one input. -/
def shredFullWrong : ChangeSpec := { name := "shredFull", fn := fun _ => fun
  | [d1, d2, d3] => { results := [.lit (.bool false)], args := [d1, d2, d3] }
  | _ => none }
def ShredFullWrongFalsely : Prop := shredFullRow.holds Tryz.pinned (OpenSpec.ofChange shredFullWrong)

/- THE SECOND FORM. 'bulk': how many values and letters a reading holds, each counted each time it is reached (what is shared counts as often as it is met; a slice's spare places count too). A statement '..UptoSaid' is the law's where the arguments, and the package variables that the reading takes, are together of bulk at most 1048576: NARROWER than '..Said'. Prove '..Said' where nothing that the law and all that it calls make is longer than what came in: it says more and counts as full. Else prove '..UptoSaid'. A law counts once. -/
mutual
def uptoBulk {H : Type} : DataW H → Nat
  | .lit (.string bytes) => bytes.length + 1
  | .lit _ => 1
  | .nil => 1
  | .ptr d => uptoBulk d + 1
  | .slice elems spare => uptoBulkAll elems + uptoBulkAll spare + 1
  | .agg parts => uptoBulkAll parts + 1
  | .iface _ d => uptoBulk d + 1
  | .map entries => uptoBulkEntries entries + 1
  | .held _ => 1
def uptoBulkAll {H : Type} : List (DataW H) → Nat
  | [] => 0
  | d :: r => uptoBulk d + uptoBulkAll r
def uptoBulkEntries {H : Type} : List (Lit × DataW H) → Nat
  | [] => 0
  | x :: r => uptoBulkEntry x + uptoBulkEntries r
def uptoBulkEntry {H : Type} : Lit × DataW H → Nat
  | (.string bytes, d) => bytes.length + uptoBulk d + 1
  | (_, d) => uptoBulk d + 1
 end
def uptoSmall : (H : Type) → List (DataW H) → Bool := fun _ ds => decide (uptoBulkAll ds ≤ 1048576)
def OpenSpec.upto (s : _root_.Go.ChangeSpec) : _root_.Go.OpenSpec := { _root_.Go.OpenSpec.ofChange s with cond := some uptoSmall }

/-- 'salvorlaw25.DdRuns', WHERE WHAT IT READS IS OF BULK AT MOST 1048576: true; the input reads as it did. -/
def ddRunsUptoRow : OpenClaim := { program := "ythloojeefdjpjaagreatdoor", sum := "f53f223a2b208b924f40bb36ab9fef1e52193a8f2f5bc94f1787eb88de72570b", func := "salvor/salvorlaw25.DdRuns", spec := "ddRuns", inPlace := ["internal/bytealg.abigen_runtime_cmpstring", "slices.overlaps[salvor/api.Name]", "slices.overlaps[salvor/api.Node]", "slices.overlaps[salvor/api.Ext]", "internal/bytealg.IndexByteString", "internal/bytealg.IndexString", "internal/bytealg.CountString", "internal/bytealg.MakeNoZero"], unfollowed := true, recurses := true, named := ["internal/bytealg.MaxLen", "unicode/utf8.first", "unicode/utf8.acceptRanges", "strconv.ErrSyntax", "strconv.ErrRange", "internal/strconv.uint64pow10", "math/bits.deBruijn32tab", "math/bits.deBruijn64tab"], apart := false, laid := [("math/bits.deBruijn32tab", laid_math_bits_deBruijn32tab), ("math/bits.deBruijn64tab", laid_math_bits_deBruijn64tab), ("internal/strconv.uint64pow10", laid_internal_strconv_uint64pow10), ("unicode/utf8.acceptRanges", laid_unicode_utf8_acceptRanges), ("strconv.ErrRange", laid_strconv_ErrRange), ("strconv.ErrSyntax", laid_strconv_ErrSyntax), ("unicode/utf8.first", laid_unicode_utf8_first)], narrowed := true }
def DdRunsUptoSaid : Prop := ddRunsUptoRow.holds Tryz.pinned (OpenSpec.upto ddRunsSpec)

/-- 'salvorlaw22.RescueWrong', WHERE WHAT IT READS IS OF BULK AT MOST 1048576: true; the input reads as it did. -/
def rescueWrongUptoRow : OpenClaim := { program := "ythloojeefdjpjaagreatdoor", sum := "f53f223a2b208b924f40bb36ab9fef1e52193a8f2f5bc94f1787eb88de72570b", func := "salvor/salvorlaw22.RescueWrong", spec := "rescueWrong", inPlace := ["internal/bytealg.IndexByteString", "internal/bytealg.IndexString", "internal/bytealg.abigen_runtime_cmpstring", "slices.overlaps[salvor/api.Name]", "slices.overlaps[salvor/api.Node]", "slices.overlaps[salvor/api.Ext]", "internal/bytealg.CountString", "internal/abi.NoEscape", "internal/bytealg.MakeNoZero"], unfollowed := true, recurses := true, named := ["internal/bytealg.MaxLen", "strconv.ErrSyntax", "strconv.ErrRange", "internal/strconv.uint64pow10", "math/bits.deBruijn32tab", "math/bits.deBruijn64tab", "unicode/utf8.first", "unicode/utf8.acceptRanges", "unicode.CaseRanges"], apart := false, laid := [("math/bits.deBruijn32tab", laid_math_bits_deBruijn32tab), ("math/bits.deBruijn64tab", laid_math_bits_deBruijn64tab), ("internal/strconv.uint64pow10", laid_internal_strconv_uint64pow10), ("unicode/utf8.acceptRanges", laid_unicode_utf8_acceptRanges), ("strconv.ErrRange", laid_strconv_ErrRange), ("strconv.ErrSyntax", laid_strconv_ErrSyntax), ("unicode.CaseRanges", laid_unicode_CaseRanges), ("unicode/utf8.first", laid_unicode_utf8_first)], narrowed := true }
def RescueWrongUptoSaid : Prop := rescueWrongUptoRow.holds Tryz.pinned (OpenSpec.upto rescueWrongSpec)

/-- 'salvorlaw27.ShredWrong', WHERE WHAT IT READS IS OF BULK AT MOST 1048576: true; the input reads as it did. -/
def shredWrongUptoRow : OpenClaim := { program := "ythloojeefdjpjaagreatdoor", sum := "f53f223a2b208b924f40bb36ab9fef1e52193a8f2f5bc94f1787eb88de72570b", func := "salvor/salvorlaw27.ShredWrong", spec := "shredWrong", inPlace := ["internal/bytealg.abigen_runtime_cmpstring", "slices.overlaps[salvor/api.Name]", "slices.overlaps[salvor/api.Node]", "slices.overlaps[salvor/api.Ext]", "internal/bytealg.IndexByteString", "internal/bytealg.IndexString", "internal/bytealg.CountString"], unfollowed := true, recurses := true, named := ["internal/bytealg.MaxLen", "strconv.ErrSyntax", "strconv.ErrRange", "internal/strconv.uint64pow10", "math/bits.deBruijn32tab", "math/bits.deBruijn64tab", "unicode/utf8.first", "unicode/utf8.acceptRanges"], apart := false, laid := [("math/bits.deBruijn32tab", laid_math_bits_deBruijn32tab), ("math/bits.deBruijn64tab", laid_math_bits_deBruijn64tab), ("internal/strconv.uint64pow10", laid_internal_strconv_uint64pow10), ("unicode/utf8.acceptRanges", laid_unicode_utf8_acceptRanges), ("strconv.ErrRange", laid_strconv_ErrRange), ("strconv.ErrSyntax", laid_strconv_ErrSyntax), ("unicode/utf8.first", laid_unicode_utf8_first)], narrowed := true }
def ShredWrongUptoSaid : Prop := shredWrongUptoRow.holds Tryz.pinned (OpenSpec.upto shredWrongSpec)

/-- 'salvorlaw25.DdWrong', WHERE WHAT IT READS IS OF BULK AT MOST 1048576: true; the input reads as it did. -/
def ddWrongUptoRow : OpenClaim := { program := "ythloojeefdjpjaagreatdoor", sum := "f53f223a2b208b924f40bb36ab9fef1e52193a8f2f5bc94f1787eb88de72570b", func := "salvor/salvorlaw25.DdWrong", spec := "ddWrong", inPlace := ["internal/bytealg.abigen_runtime_cmpstring", "slices.overlaps[salvor/api.Name]", "slices.overlaps[salvor/api.Node]", "slices.overlaps[salvor/api.Ext]", "internal/bytealg.IndexByteString", "internal/bytealg.IndexString", "internal/bytealg.CountString", "internal/bytealg.MakeNoZero"], unfollowed := true, recurses := true, named := ["internal/bytealg.MaxLen", "unicode/utf8.first", "unicode/utf8.acceptRanges", "strconv.ErrSyntax", "strconv.ErrRange", "internal/strconv.uint64pow10", "math/bits.deBruijn32tab", "math/bits.deBruijn64tab"], apart := false, laid := [("math/bits.deBruijn32tab", laid_math_bits_deBruijn32tab), ("math/bits.deBruijn64tab", laid_math_bits_deBruijn64tab), ("internal/strconv.uint64pow10", laid_internal_strconv_uint64pow10), ("unicode/utf8.acceptRanges", laid_unicode_utf8_acceptRanges), ("strconv.ErrRange", laid_strconv_ErrRange), ("strconv.ErrSyntax", laid_strconv_ErrSyntax), ("unicode/utf8.first", laid_unicode_utf8_first)], narrowed := true }
def DdWrongUptoSaid : Prop := ddWrongUptoRow.holds Tryz.pinned (OpenSpec.upto ddWrongSpec)

/-- 'salvorlaw28.TruncNew', WHERE WHAT IT READS IS OF BULK AT MOST 1048576: true; the input reads as it did. -/
def truncNewUptoRow : OpenClaim := { program := "ythloojeefdjpjaagreatdoor", sum := "f53f223a2b208b924f40bb36ab9fef1e52193a8f2f5bc94f1787eb88de72570b", func := "salvor/salvorlaw28.TruncNew", spec := "truncNew", inPlace := ["internal/bytealg.IndexByteString", "internal/bytealg.IndexString", "internal/bytealg.CountString", "internal/bytealg.abigen_runtime_cmpstring", "slices.overlaps[salvor/api.Name]", "slices.overlaps[salvor/api.Node]", "slices.overlaps[salvor/api.Ext]"], unfollowed := true, recurses := true, named := ["internal/strconv.uint64pow10", "math/bits.deBruijn32tab", "math/bits.deBruijn64tab", "internal/bytealg.MaxLen", "unicode/utf8.first", "unicode/utf8.acceptRanges", "strconv.ErrSyntax", "strconv.ErrRange"], apart := false, laid := [("math/bits.deBruijn32tab", laid_math_bits_deBruijn32tab), ("math/bits.deBruijn64tab", laid_math_bits_deBruijn64tab), ("internal/strconv.uint64pow10", laid_internal_strconv_uint64pow10), ("unicode/utf8.acceptRanges", laid_unicode_utf8_acceptRanges), ("strconv.ErrRange", laid_strconv_ErrRange), ("strconv.ErrSyntax", laid_strconv_ErrSyntax), ("unicode/utf8.first", laid_unicode_utf8_first)], narrowed := true }
def TruncNewUptoSaid : Prop := truncNewUptoRow.holds Tryz.pinned (OpenSpec.upto truncNewSpec)

/-- 'salvorlaw22.RescueParses', WHERE WHAT IT READS IS OF BULK AT MOST 1048576: true; the input reads as it did. -/
def rescueParsesUptoRow : OpenClaim := { program := "ythloojeefdjpjaagreatdoor", sum := "f53f223a2b208b924f40bb36ab9fef1e52193a8f2f5bc94f1787eb88de72570b", func := "salvor/salvorlaw22.RescueParses", spec := "rescueParses", inPlace := ["internal/bytealg.IndexByteString", "internal/bytealg.IndexString", "internal/bytealg.abigen_runtime_cmpstring", "slices.overlaps[salvor/api.Name]", "slices.overlaps[salvor/api.Node]", "slices.overlaps[salvor/api.Ext]", "internal/bytealg.CountString", "internal/abi.NoEscape", "internal/bytealg.MakeNoZero"], unfollowed := true, recurses := true, named := ["internal/bytealg.MaxLen", "strconv.ErrSyntax", "strconv.ErrRange", "internal/strconv.uint64pow10", "math/bits.deBruijn32tab", "math/bits.deBruijn64tab", "unicode/utf8.first", "unicode/utf8.acceptRanges", "unicode.CaseRanges"], apart := false, laid := [("math/bits.deBruijn32tab", laid_math_bits_deBruijn32tab), ("math/bits.deBruijn64tab", laid_math_bits_deBruijn64tab), ("internal/strconv.uint64pow10", laid_internal_strconv_uint64pow10), ("unicode/utf8.acceptRanges", laid_unicode_utf8_acceptRanges), ("strconv.ErrRange", laid_strconv_ErrRange), ("strconv.ErrSyntax", laid_strconv_ErrSyntax), ("unicode.CaseRanges", laid_unicode_CaseRanges), ("unicode/utf8.first", laid_unicode_utf8_first)], narrowed := true }
def RescueParsesUptoSaid : Prop := rescueParsesUptoRow.holds Tryz.pinned (OpenSpec.upto rescueParsesSpec)

/-- 'salvorlaw29.FallocBytes', WHERE WHAT IT READS IS OF BULK AT MOST 1048576: true; the input reads as it did. -/
def fallocBytesUptoRow : OpenClaim := { program := "ythloojeefdjpjaagreatdoor", sum := "f53f223a2b208b924f40bb36ab9fef1e52193a8f2f5bc94f1787eb88de72570b", func := "salvor/salvorlaw29.FallocBytes", spec := "fallocBytes", inPlace := ["internal/bytealg.IndexByteString", "internal/bytealg.IndexString", "internal/bytealg.CountString", "internal/bytealg.abigen_runtime_cmpstring", "slices.overlaps[salvor/api.Name]", "slices.overlaps[salvor/api.Node]", "slices.overlaps[salvor/api.Ext]"], unfollowed := true, recurses := true, named := ["internal/bytealg.MaxLen", "unicode/utf8.first", "unicode/utf8.acceptRanges", "strconv.ErrSyntax", "strconv.ErrRange", "internal/strconv.uint64pow10", "math/bits.deBruijn32tab", "math/bits.deBruijn64tab"], apart := false, laid := [("math/bits.deBruijn32tab", laid_math_bits_deBruijn32tab), ("math/bits.deBruijn64tab", laid_math_bits_deBruijn64tab), ("internal/strconv.uint64pow10", laid_internal_strconv_uint64pow10), ("unicode/utf8.acceptRanges", laid_unicode_utf8_acceptRanges), ("strconv.ErrRange", laid_strconv_ErrRange), ("strconv.ErrSyntax", laid_strconv_ErrSyntax), ("unicode/utf8.first", laid_unicode_utf8_first)], narrowed := true }
def FallocBytesUptoSaid : Prop := fallocBytesUptoRow.holds Tryz.pinned (OpenSpec.upto fallocBytesSpec)

/-- 'salvorlaw29.FallocDigs', WHERE WHAT IT READS IS OF BULK AT MOST 1048576: true; the input reads as it did. -/
def fallocDigsUptoRow : OpenClaim := { program := "ythloojeefdjpjaagreatdoor", sum := "f53f223a2b208b924f40bb36ab9fef1e52193a8f2f5bc94f1787eb88de72570b", func := "salvor/salvorlaw29.FallocDigs", spec := "fallocDigs", inPlace := ["internal/bytealg.abigen_runtime_cmpstring", "slices.overlaps[salvor/api.Name]", "slices.overlaps[salvor/api.Node]", "slices.overlaps[salvor/api.Ext]", "internal/bytealg.IndexByteString", "internal/bytealg.IndexString", "internal/bytealg.CountString"], unfollowed := true, recurses := true, named := ["internal/strconv.uint64pow10", "math/bits.deBruijn32tab", "math/bits.deBruijn64tab", "internal/bytealg.MaxLen", "unicode/utf8.first", "unicode/utf8.acceptRanges", "strconv.ErrSyntax", "strconv.ErrRange"], apart := false, laid := [("math/bits.deBruijn32tab", laid_math_bits_deBruijn32tab), ("math/bits.deBruijn64tab", laid_math_bits_deBruijn64tab), ("internal/strconv.uint64pow10", laid_internal_strconv_uint64pow10), ("unicode/utf8.acceptRanges", laid_unicode_utf8_acceptRanges), ("strconv.ErrRange", laid_strconv_ErrRange), ("strconv.ErrSyntax", laid_strconv_ErrSyntax), ("unicode/utf8.first", laid_unicode_utf8_first)], narrowed := true }
def FallocDigsUptoSaid : Prop := fallocDigsUptoRow.holds Tryz.pinned (OpenSpec.upto fallocDigsSpec)

/-- 'salvorlaw29.FallocFull', WHERE WHAT IT READS IS OF BULK AT MOST 1048576: true; the input reads as it did. -/
def fallocFullUptoRow : OpenClaim := { program := "ythloojeefdjpjaagreatdoor", sum := "f53f223a2b208b924f40bb36ab9fef1e52193a8f2f5bc94f1787eb88de72570b", func := "salvor/salvorlaw29.FallocFull", spec := "fallocFull", inPlace := ["internal/bytealg.IndexByteString", "internal/bytealg.IndexString", "internal/bytealg.CountString", "internal/bytealg.abigen_runtime_cmpstring", "slices.overlaps[salvor/api.Name]", "slices.overlaps[salvor/api.Node]", "slices.overlaps[salvor/api.Ext]"], unfollowed := true, recurses := true, named := ["internal/bytealg.MaxLen", "unicode/utf8.first", "unicode/utf8.acceptRanges", "strconv.ErrSyntax", "strconv.ErrRange", "internal/strconv.uint64pow10", "math/bits.deBruijn32tab", "math/bits.deBruijn64tab"], apart := false, laid := [("math/bits.deBruijn32tab", laid_math_bits_deBruijn32tab), ("math/bits.deBruijn64tab", laid_math_bits_deBruijn64tab), ("internal/strconv.uint64pow10", laid_internal_strconv_uint64pow10), ("unicode/utf8.acceptRanges", laid_unicode_utf8_acceptRanges), ("strconv.ErrRange", laid_strconv_ErrRange), ("strconv.ErrSyntax", laid_strconv_ErrSyntax), ("unicode/utf8.first", laid_unicode_utf8_first)], narrowed := true }
def FallocFullUptoSaid : Prop := fallocFullUptoRow.holds Tryz.pinned (OpenSpec.upto fallocFullSpec)

/-- 'salvorlaw28.TruncBytes', WHERE WHAT IT READS IS OF BULK AT MOST 1048576: true; the input reads as it did. -/
def truncBytesUptoRow : OpenClaim := { program := "ythloojeefdjpjaagreatdoor", sum := "f53f223a2b208b924f40bb36ab9fef1e52193a8f2f5bc94f1787eb88de72570b", func := "salvor/salvorlaw28.TruncBytes", spec := "truncBytes", inPlace := ["internal/bytealg.abigen_runtime_cmpstring", "slices.overlaps[salvor/api.Name]", "slices.overlaps[salvor/api.Node]", "slices.overlaps[salvor/api.Ext]", "internal/bytealg.IndexByteString", "internal/bytealg.IndexString", "internal/bytealg.CountString"], unfollowed := true, recurses := true, named := ["internal/bytealg.MaxLen", "unicode/utf8.first", "unicode/utf8.acceptRanges", "strconv.ErrSyntax", "strconv.ErrRange", "internal/strconv.uint64pow10", "math/bits.deBruijn32tab", "math/bits.deBruijn64tab"], apart := false, laid := [("math/bits.deBruijn32tab", laid_math_bits_deBruijn32tab), ("math/bits.deBruijn64tab", laid_math_bits_deBruijn64tab), ("internal/strconv.uint64pow10", laid_internal_strconv_uint64pow10), ("unicode/utf8.acceptRanges", laid_unicode_utf8_acceptRanges), ("strconv.ErrRange", laid_strconv_ErrRange), ("strconv.ErrSyntax", laid_strconv_ErrSyntax), ("unicode/utf8.first", laid_unicode_utf8_first)], narrowed := true }
def TruncBytesUptoSaid : Prop := truncBytesUptoRow.holds Tryz.pinned (OpenSpec.upto truncBytesSpec)

/-- 'salvorlaw27.ShredGone', WHERE WHAT IT READS IS OF BULK AT MOST 1048576: true; the input reads as it did. -/
def shredGoneUptoRow : OpenClaim := { program := "ythloojeefdjpjaagreatdoor", sum := "f53f223a2b208b924f40bb36ab9fef1e52193a8f2f5bc94f1787eb88de72570b", func := "salvor/salvorlaw27.ShredGone", spec := "shredGone", inPlace := ["internal/bytealg.abigen_runtime_cmpstring", "slices.overlaps[salvor/api.Name]", "slices.overlaps[salvor/api.Node]", "slices.overlaps[salvor/api.Ext]", "internal/bytealg.IndexByteString", "internal/bytealg.IndexString", "internal/bytealg.CountString"], unfollowed := true, recurses := true, named := ["internal/bytealg.MaxLen", "strconv.ErrSyntax", "strconv.ErrRange", "internal/strconv.uint64pow10", "math/bits.deBruijn32tab", "math/bits.deBruijn64tab", "unicode/utf8.first", "unicode/utf8.acceptRanges"], apart := false, laid := [("math/bits.deBruijn32tab", laid_math_bits_deBruijn32tab), ("math/bits.deBruijn64tab", laid_math_bits_deBruijn64tab), ("internal/strconv.uint64pow10", laid_internal_strconv_uint64pow10), ("unicode/utf8.acceptRanges", laid_unicode_utf8_acceptRanges), ("strconv.ErrRange", laid_strconv_ErrRange), ("strconv.ErrSyntax", laid_strconv_ErrSyntax), ("unicode/utf8.first", laid_unicode_utf8_first)], narrowed := true }
def ShredGoneUptoSaid : Prop := shredGoneUptoRow.holds Tryz.pinned (OpenSpec.upto shredGoneSpec)

/-- 'salvorlaw27.ShredFull', WHERE WHAT IT READS IS OF BULK AT MOST 1048576: true; the input reads as it did. -/
def shredFullUptoRow : OpenClaim := { program := "ythloojeefdjpjaagreatdoor", sum := "f53f223a2b208b924f40bb36ab9fef1e52193a8f2f5bc94f1787eb88de72570b", func := "salvor/salvorlaw27.ShredFull", spec := "shredFull", inPlace := ["internal/bytealg.abigen_runtime_cmpstring", "slices.overlaps[salvor/api.Name]", "slices.overlaps[salvor/api.Node]", "slices.overlaps[salvor/api.Ext]", "internal/bytealg.IndexByteString", "internal/bytealg.IndexString", "internal/bytealg.CountString"], unfollowed := true, recurses := true, named := ["internal/bytealg.MaxLen", "strconv.ErrSyntax", "strconv.ErrRange", "internal/strconv.uint64pow10", "math/bits.deBruijn32tab", "math/bits.deBruijn64tab", "unicode/utf8.first", "unicode/utf8.acceptRanges"], apart := false, laid := [("math/bits.deBruijn32tab", laid_math_bits_deBruijn32tab), ("math/bits.deBruijn64tab", laid_math_bits_deBruijn64tab), ("internal/strconv.uint64pow10", laid_internal_strconv_uint64pow10), ("unicode/utf8.acceptRanges", laid_unicode_utf8_acceptRanges), ("strconv.ErrRange", laid_strconv_ErrRange), ("strconv.ErrSyntax", laid_strconv_ErrSyntax), ("unicode/utf8.first", laid_unicode_utf8_first)], narrowed := true }
def ShredFullUptoSaid : Prop := shredFullUptoRow.holds Tryz.pinned (OpenSpec.upto shredFullSpec)

end Rows
end Go.Proofs.YthloojeefdjpjaaGreatDoor
