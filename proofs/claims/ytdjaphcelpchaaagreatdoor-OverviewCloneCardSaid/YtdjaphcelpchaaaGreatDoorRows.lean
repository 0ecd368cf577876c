/-
  NARROWER THAN 'FOR EVERY INPUT', by the rows' own cells (each row's printed sentence says how): OverviewCheck: laid · OverviewParse: laid · OverviewOperations: laid · OverviewRange: laid · OverviewOrder: laid · OverviewViews: laid · OverviewClone: laid · OverviewNil: laid · OverviewDecode: laid · OverviewEncode: laid.
  DERIVED. THE GIVEN ROWS OF THIS SEAT. 10 by the template 'for every input the law returns true; each argument reads behind the call as it read before'; 0 by the template 'total and deterministic' (their statements: YtdjaphcelpchaaaGreatDoorTotals.lean).
  GIVEN WITH THE SEED: the statements are not yours to turn. If you find one false, say at which input.
  Laid BY PROGRAM, IN A SANDBOX (cutbox-rows.mjs): the forced cells as the released guide's own fill.sh prints them over the translation a6b5cd4312a7039f… (all of the seat's roots in one cut). By AI agents, Wed Nov 11 2026. No macro, syntax, notation, axiom, sorry.
-/
import Derived.Test.YtdjaphcelpchaaaGreatDoorChecked
import GoSem.PinnedTables
import GoSem.Claim
import GoSem.ClaimJoined
import GoSem.ClaimMapViews
import Derived.JoinedTies
import Derived.KernelRfl
namespace Go.Proofs.YtdjaphcelpchaaaGreatDoor
/- THE CELL 'sum', in the pinned program and in every row, IS THE sha256 OF THE DUMP (.gsa) THAT YtdjaphcelpchaaaGreatDoorProg.lean LOADS. Nothing in Lean hashes anything: it is a label: what it is worth is what the hold of that sum in a sandbox is worth. -/
noncomputable def Tryz.pinned : Pinned := { name := "ytdjaphcelpchaaagreatdoor", sum := "a6b5cd4312a7039f8ad2fdffc32880ed5477e496cb08fcf1b6214eafbad58adb", checked := Tryz.checked }
namespace Rows
def none {H : Type} : Left H := { results := [], args := [] }

/- WHAT THE LISTED PACKAGE-LEVEL VARIABLES READ AS WHEN THE CALL BEGINS. Each datum BY PROGRAM (the guide's laid-datum.mjs) off the statement by which the dump's own 'gosem.cut.vars' lays the variable. In a bare row this is a premise. The card (YtdjaphcelpchaaaGreatDoorCards.lean) ties it to the program's text. -/
def laid_math_bits_deBruijn32tab {H : Type} : DataW H := .agg [.lit (.int .u8 0), .lit (.int .u8 1), .lit (.int .u8 28), .lit (.int .u8 2), .lit (.int .u8 29), .lit (.int .u8 14), .lit (.int .u8 24), .lit (.int .u8 3), .lit (.int .u8 30), .lit (.int .u8 22), .lit (.int .u8 20), .lit (.int .u8 15), .lit (.int .u8 25), .lit (.int .u8 17), .lit (.int .u8 4), .lit (.int .u8 8), .lit (.int .u8 31), .lit (.int .u8 27), .lit (.int .u8 13), .lit (.int .u8 23), .lit (.int .u8 21), .lit (.int .u8 19), .lit (.int .u8 16), .lit (.int .u8 7), .lit (.int .u8 26), .lit (.int .u8 12), .lit (.int .u8 18), .lit (.int .u8 6), .lit (.int .u8 11), .lit (.int .u8 5), .lit (.int .u8 10), .lit (.int .u8 9)]
def laid_math_bits_deBruijn64tab {H : Type} : DataW H := .agg [.lit (.int .u8 0), .lit (.int .u8 1), .lit (.int .u8 56), .lit (.int .u8 2), .lit (.int .u8 57), .lit (.int .u8 49), .lit (.int .u8 28), .lit (.int .u8 3), .lit (.int .u8 61), .lit (.int .u8 58), .lit (.int .u8 42), .lit (.int .u8 50), .lit (.int .u8 38), .lit (.int .u8 29), .lit (.int .u8 17), .lit (.int .u8 4), .lit (.int .u8 62), .lit (.int .u8 47), .lit (.int .u8 59), .lit (.int .u8 36), .lit (.int .u8 45), .lit (.int .u8 43), .lit (.int .u8 51), .lit (.int .u8 22), .lit (.int .u8 53), .lit (.int .u8 39), .lit (.int .u8 33), .lit (.int .u8 30), .lit (.int .u8 24), .lit (.int .u8 18), .lit (.int .u8 12), .lit (.int .u8 5), .lit (.int .u8 63), .lit (.int .u8 55), .lit (.int .u8 48), .lit (.int .u8 27), .lit (.int .u8 60), .lit (.int .u8 41), .lit (.int .u8 37), .lit (.int .u8 16), .lit (.int .u8 46), .lit (.int .u8 35), .lit (.int .u8 44), .lit (.int .u8 21), .lit (.int .u8 52), .lit (.int .u8 32), .lit (.int .u8 23), .lit (.int .u8 11), .lit (.int .u8 54), .lit (.int .u8 26), .lit (.int .u8 40), .lit (.int .u8 15), .lit (.int .u8 34), .lit (.int .u8 20), .lit (.int .u8 31), .lit (.int .u8 10), .lit (.int .u8 25), .lit (.int .u8 14), .lit (.int .u8 19), .lit (.int .u8 9), .lit (.int .u8 13), .lit (.int .u8 8), .lit (.int .u8 7), .lit (.int .u8 6)]
def laid_internal_strconv_uint64pow10 {H : Type} : DataW H := .agg [.lit (.int .u64 1), .lit (.int .u64 10), .lit (.int .u64 100), .lit (.int .u64 1000), .lit (.int .u64 10000), .lit (.int .u64 100000), .lit (.int .u64 1000000), .lit (.int .u64 10000000), .lit (.int .u64 100000000), .lit (.int .u64 1000000000), .lit (.int .u64 10000000000), .lit (.int .u64 100000000000), .lit (.int .u64 1000000000000), .lit (.int .u64 10000000000000), .lit (.int .u64 100000000000000), .lit (.int .u64 1000000000000000), .lit (.int .u64 10000000000000000), .lit (.int .u64 100000000000000000), .lit (.int .u64 1000000000000000000), .lit (.int .u64 10000000000000000000)]
def laid_unicode_utf8_acceptRanges {H : Type} : DataW H := .agg [.agg [.lit (.int .u8 128), .lit (.int .u8 191)], .agg [.lit (.int .u8 160), .lit (.int .u8 191)], .agg [.lit (.int .u8 128), .lit (.int .u8 159)], .agg [.lit (.int .u8 144), .lit (.int .u8 191)], .agg [.lit (.int .u8 128), .lit (.int .u8 143)], .agg [.lit (.int .u8 0), .lit (.int .u8 0)], .agg [.lit (.int .u8 0), .lit (.int .u8 0)], .agg [.lit (.int .u8 0), .lit (.int .u8 0)], .agg [.lit (.int .u8 0), .lit (.int .u8 0)], .agg [.lit (.int .u8 0), .lit (.int .u8 0)], .agg [.lit (.int .u8 0), .lit (.int .u8 0)], .agg [.lit (.int .u8 0), .lit (.int .u8 0)], .agg [.lit (.int .u8 0), .lit (.int .u8 0)], .agg [.lit (.int .u8 0), .lit (.int .u8 0)], .agg [.lit (.int .u8 0), .lit (.int .u8 0)], .agg [.lit (.int .u8 0), .lit (.int .u8 0)]]
/-- One of Go's own tables, pinned by name: the form's constant. -/
def laid_unicode_utf8_first : DataW Unit := Go.Pinned.utf8First

/-- 'bulletinlaw28.OverviewCheck': WHATEVER THE INPUT: true; the input reads as it did. -/
def overviewCheckSpec : ChangeSpec := { name := "overviewCheck", fn := fun _ => fun
  | [d] => { results := [.lit (.bool true)], args := [d] }
  | _ => none }
def overviewCheckRow : OpenClaim := { program := "ytdjaphcelpchaaagreatdoor", sum := "a6b5cd4312a7039f8ad2fdffc32880ed5477e496cb08fcf1b6214eafbad58adb", func := "bulletin/bulletinlaw28.OverviewCheck", spec := "overviewCheck", inPlace := ["internal/abi.NoEscape", "internal/bytealg.MakeNoZero", "internal/bytealg.CountString", "internal/bytealg.IndexByteString", "internal/bytealg.IndexString", "slices.overlaps[bulletin/overview.Line]"], unfollowed := true, recurses := true, named := ["internal/strconv.uint64pow10", "math/bits.deBruijn32tab", "math/bits.deBruijn64tab", "unicode/utf8.first", "unicode/utf8.acceptRanges", "internal/bytealg.MaxLen"], plainKeys := false, apart := false, laid := [("math/bits.deBruijn32tab", laid_math_bits_deBruijn32tab), ("math/bits.deBruijn64tab", laid_math_bits_deBruijn64tab), ("internal/strconv.uint64pow10", laid_internal_strconv_uint64pow10), ("unicode/utf8.acceptRanges", laid_unicode_utf8_acceptRanges), ("unicode/utf8.first", laid_unicode_utf8_first)] }
def OverviewCheckSaid : Prop := overviewCheckRow.holds Tryz.pinned (OpenSpec.ofChange overviewCheckSpec)

/-- ITS FALSE NEIGHBOUR: 'it returns false'. Refute it at one input. -/
def overviewCheckWrong : ChangeSpec := { name := "overviewCheck", fn := fun _ => fun
  | [d] => { results := [.lit (.bool false)], args := [d] }
  | _ => none }
def OverviewCheckWrongFalsely : Prop := overviewCheckRow.holds Tryz.pinned (OpenSpec.ofChange overviewCheckWrong)

/-- 'bulletinlaw28.OverviewParse': WHATEVER THE INPUT: true; the input reads as it did. -/
def overviewParseSpec : ChangeSpec := { name := "overviewParse", fn := fun _ => fun
  | [d] => { results := [.lit (.bool true)], args := [d] }
  | _ => none }
def overviewParseRow : OpenClaim := { program := "ytdjaphcelpchaaagreatdoor", sum := "a6b5cd4312a7039f8ad2fdffc32880ed5477e496cb08fcf1b6214eafbad58adb", func := "bulletin/bulletinlaw28.OverviewParse", spec := "overviewParse", inPlace := ["internal/abi.NoEscape", "internal/bytealg.MakeNoZero", "internal/bytealg.CountString", "internal/bytealg.IndexByteString", "internal/bytealg.IndexString", "slices.overlaps[bulletin/overview.Line]"], unfollowed := true, recurses := true, named := ["internal/strconv.uint64pow10", "math/bits.deBruijn32tab", "math/bits.deBruijn64tab", "unicode/utf8.first", "unicode/utf8.acceptRanges", "internal/bytealg.MaxLen"], plainKeys := false, apart := false, laid := [("math/bits.deBruijn32tab", laid_math_bits_deBruijn32tab), ("math/bits.deBruijn64tab", laid_math_bits_deBruijn64tab), ("internal/strconv.uint64pow10", laid_internal_strconv_uint64pow10), ("unicode/utf8.acceptRanges", laid_unicode_utf8_acceptRanges), ("unicode/utf8.first", laid_unicode_utf8_first)] }
def OverviewParseSaid : Prop := overviewParseRow.holds Tryz.pinned (OpenSpec.ofChange overviewParseSpec)

/-- ITS FALSE NEIGHBOUR: 'it returns false'. Refute it at one input. -/
def overviewParseWrong : ChangeSpec := { name := "overviewParse", fn := fun _ => fun
  | [d] => { results := [.lit (.bool false)], args := [d] }
  | _ => none }
def OverviewParseWrongFalsely : Prop := overviewParseRow.holds Tryz.pinned (OpenSpec.ofChange overviewParseWrong)

/-- 'bulletinlaw28.OverviewOperations': WHATEVER THE INPUT: true; the input reads as it did. -/
def overviewOperationsSpec : ChangeSpec := { name := "overviewOperations", fn := fun _ => fun
  | [d] => { results := [.lit (.bool true)], args := [d] }
  | _ => none }
def overviewOperationsRow : OpenClaim := { program := "ytdjaphcelpchaaagreatdoor", sum := "a6b5cd4312a7039f8ad2fdffc32880ed5477e496cb08fcf1b6214eafbad58adb", func := "bulletin/bulletinlaw28.OverviewOperations", spec := "overviewOperations", inPlace := ["internal/abi.NoEscape", "internal/bytealg.MakeNoZero", "internal/bytealg.CountString", "internal/bytealg.IndexByteString", "internal/bytealg.IndexString", "slices.overlaps[bulletin/overview.Line]"], unfollowed := true, recurses := true, named := ["internal/strconv.uint64pow10", "math/bits.deBruijn32tab", "math/bits.deBruijn64tab", "unicode/utf8.first", "unicode/utf8.acceptRanges", "internal/bytealg.MaxLen"], plainKeys := false, apart := false, laid := [("math/bits.deBruijn32tab", laid_math_bits_deBruijn32tab), ("math/bits.deBruijn64tab", laid_math_bits_deBruijn64tab), ("internal/strconv.uint64pow10", laid_internal_strconv_uint64pow10), ("unicode/utf8.acceptRanges", laid_unicode_utf8_acceptRanges), ("unicode/utf8.first", laid_unicode_utf8_first)] }
def OverviewOperationsSaid : Prop := overviewOperationsRow.holds Tryz.pinned (OpenSpec.ofChange overviewOperationsSpec)

/-- ITS FALSE NEIGHBOUR: 'it returns false'. Refute it at one input. -/
def overviewOperationsWrong : ChangeSpec := { name := "overviewOperations", fn := fun _ => fun
  | [d] => { results := [.lit (.bool false)], args := [d] }
  | _ => none }
def OverviewOperationsWrongFalsely : Prop := overviewOperationsRow.holds Tryz.pinned (OpenSpec.ofChange overviewOperationsWrong)

/-- 'bulletinlaw28.OverviewRange': WHATEVER THE INPUT: true; the input reads as it did. -/
def overviewRangeSpec : ChangeSpec := { name := "overviewRange", fn := fun _ => fun
  | [d1, d2, d3] => { results := [.lit (.bool true)], args := [d1, d2, d3] }
  | _ => none }
def overviewRangeRow : OpenClaim := { program := "ytdjaphcelpchaaagreatdoor", sum := "a6b5cd4312a7039f8ad2fdffc32880ed5477e496cb08fcf1b6214eafbad58adb", func := "bulletin/bulletinlaw28.OverviewRange", spec := "overviewRange", inPlace := ["internal/abi.NoEscape", "internal/bytealg.MakeNoZero", "internal/bytealg.CountString", "internal/bytealg.IndexByteString", "internal/bytealg.IndexString", "slices.overlaps[bulletin/overview.Line]"], unfollowed := true, recurses := true, named := ["internal/strconv.uint64pow10", "math/bits.deBruijn32tab", "math/bits.deBruijn64tab", "unicode/utf8.first", "unicode/utf8.acceptRanges", "internal/bytealg.MaxLen"], plainKeys := false, apart := false, laid := [("math/bits.deBruijn32tab", laid_math_bits_deBruijn32tab), ("math/bits.deBruijn64tab", laid_math_bits_deBruijn64tab), ("internal/strconv.uint64pow10", laid_internal_strconv_uint64pow10), ("unicode/utf8.acceptRanges", laid_unicode_utf8_acceptRanges), ("unicode/utf8.first", laid_unicode_utf8_first)] }
def OverviewRangeSaid : Prop := overviewRangeRow.holds Tryz.pinned (OpenSpec.ofChange overviewRangeSpec)

/-- ITS FALSE NEIGHBOUR: 'it returns false'. Refute it at one input. -/
def overviewRangeWrong : ChangeSpec := { name := "overviewRange", fn := fun _ => fun
  | [d1, d2, d3] => { results := [.lit (.bool false)], args := [d1, d2, d3] }
  | _ => none }
def OverviewRangeWrongFalsely : Prop := overviewRangeRow.holds Tryz.pinned (OpenSpec.ofChange overviewRangeWrong)

/-- 'bulletinlaw28.OverviewOrder': WHATEVER THE INPUT: true; the input reads as it did. -/
def overviewOrderSpec : ChangeSpec := { name := "overviewOrder", fn := fun _ => fun
  | [d1, d2] => { results := [.lit (.bool true)], args := [d1, d2] }
  | _ => none }
def overviewOrderRow : OpenClaim := { program := "ytdjaphcelpchaaagreatdoor", sum := "a6b5cd4312a7039f8ad2fdffc32880ed5477e496cb08fcf1b6214eafbad58adb", func := "bulletin/bulletinlaw28.OverviewOrder", spec := "overviewOrder", inPlace := ["internal/abi.NoEscape", "internal/bytealg.MakeNoZero", "internal/bytealg.CountString", "internal/bytealg.IndexByteString", "internal/bytealg.IndexString", "slices.overlaps[bulletin/overview.Line]"], unfollowed := true, recurses := true, named := ["internal/strconv.uint64pow10", "math/bits.deBruijn32tab", "math/bits.deBruijn64tab", "unicode/utf8.first", "unicode/utf8.acceptRanges", "internal/bytealg.MaxLen"], plainKeys := false, apart := false, laid := [("math/bits.deBruijn32tab", laid_math_bits_deBruijn32tab), ("math/bits.deBruijn64tab", laid_math_bits_deBruijn64tab), ("internal/strconv.uint64pow10", laid_internal_strconv_uint64pow10), ("unicode/utf8.acceptRanges", laid_unicode_utf8_acceptRanges), ("unicode/utf8.first", laid_unicode_utf8_first)] }
def OverviewOrderSaid : Prop := overviewOrderRow.holds Tryz.pinned (OpenSpec.ofChange overviewOrderSpec)

/-- ITS FALSE NEIGHBOUR: 'it returns false'. Refute it at one input. -/
def overviewOrderWrong : ChangeSpec := { name := "overviewOrder", fn := fun _ => fun
  | [d1, d2] => { results := [.lit (.bool false)], args := [d1, d2] }
  | _ => none }
def OverviewOrderWrongFalsely : Prop := overviewOrderRow.holds Tryz.pinned (OpenSpec.ofChange overviewOrderWrong)

/-- 'bulletinlaw28.OverviewViews': WHATEVER THE INPUT: true; the input reads as it did. -/
def overviewViewsSpec : ChangeSpec := { name := "overviewViews", fn := fun _ => fun
  | [d1, d2, d3, d4, d5, d6] => { results := [.lit (.bool true)], args := [d1, d2, d3, d4, d5, d6] }
  | _ => none }
def overviewViewsRow : OpenClaim := { program := "ytdjaphcelpchaaagreatdoor", sum := "a6b5cd4312a7039f8ad2fdffc32880ed5477e496cb08fcf1b6214eafbad58adb", func := "bulletin/bulletinlaw28.OverviewViews", spec := "overviewViews", inPlace := ["internal/abi.NoEscape", "internal/bytealg.MakeNoZero", "internal/bytealg.CountString", "internal/bytealg.IndexByteString", "internal/bytealg.IndexString", "slices.overlaps[bulletin/overview.Line]"], unfollowed := true, recurses := true, named := ["internal/strconv.uint64pow10", "math/bits.deBruijn32tab", "math/bits.deBruijn64tab", "unicode/utf8.first", "unicode/utf8.acceptRanges", "internal/bytealg.MaxLen"], plainKeys := false, apart := false, laid := [("math/bits.deBruijn32tab", laid_math_bits_deBruijn32tab), ("math/bits.deBruijn64tab", laid_math_bits_deBruijn64tab), ("internal/strconv.uint64pow10", laid_internal_strconv_uint64pow10), ("unicode/utf8.acceptRanges", laid_unicode_utf8_acceptRanges), ("unicode/utf8.first", laid_unicode_utf8_first)] }
def OverviewViewsSaid : Prop := overviewViewsRow.holds Tryz.pinned (OpenSpec.ofChange overviewViewsSpec)

/-- ITS FALSE NEIGHBOUR: 'it returns false'. Refute it at one input. -/
def overviewViewsWrong : ChangeSpec := { name := "overviewViews", fn := fun _ => fun
  | [d1, d2, d3, d4, d5, d6] => { results := [.lit (.bool false)], args := [d1, d2, d3, d4, d5, d6] }
  | _ => none }
def OverviewViewsWrongFalsely : Prop := overviewViewsRow.holds Tryz.pinned (OpenSpec.ofChange overviewViewsWrong)

/-- 'bulletinlaw28.OverviewClone': WHATEVER THE INPUT: true; the input reads as it did. -/
def overviewCloneSpec : ChangeSpec := { name := "overviewClone", fn := fun _ => fun
  | [d1, d2] => { results := [.lit (.bool true)], args := [d1, d2] }
  | _ => none }
def overviewCloneRow : OpenClaim := { program := "ytdjaphcelpchaaagreatdoor", sum := "a6b5cd4312a7039f8ad2fdffc32880ed5477e496cb08fcf1b6214eafbad58adb", func := "bulletin/bulletinlaw28.OverviewClone", spec := "overviewClone", inPlace := ["internal/abi.NoEscape", "internal/bytealg.MakeNoZero", "internal/bytealg.CountString", "internal/bytealg.IndexByteString", "internal/bytealg.IndexString", "slices.overlaps[bulletin/overview.Line]", "maps.clone"], unfollowed := true, recurses := true, named := ["internal/strconv.uint64pow10", "math/bits.deBruijn32tab", "math/bits.deBruijn64tab", "unicode/utf8.first", "unicode/utf8.acceptRanges", "internal/bytealg.MaxLen"], plainKeys := false, apart := false, laid := [("math/bits.deBruijn32tab", laid_math_bits_deBruijn32tab), ("math/bits.deBruijn64tab", laid_math_bits_deBruijn64tab), ("internal/strconv.uint64pow10", laid_internal_strconv_uint64pow10), ("unicode/utf8.acceptRanges", laid_unicode_utf8_acceptRanges), ("unicode/utf8.first", laid_unicode_utf8_first)] }
def OverviewCloneSaid : Prop := overviewCloneRow.holds Tryz.pinned (OpenSpec.ofChange overviewCloneSpec)

/-- ITS FALSE NEIGHBOUR: 'it returns false'. Refute it at one input. -/
def overviewCloneWrong : ChangeSpec := { name := "overviewClone", fn := fun _ => fun
  | [d1, d2] => { results := [.lit (.bool false)], args := [d1, d2] }
  | _ => none }
def OverviewCloneWrongFalsely : Prop := overviewCloneRow.holds Tryz.pinned (OpenSpec.ofChange overviewCloneWrong)

/-- 'bulletinlaw28.OverviewNil': WHATEVER THE INPUT: true; the input reads as it did. -/
def overviewNilSpec : ChangeSpec := { name := "overviewNil", fn := fun _ => fun
  | [d] => { results := [.lit (.bool true)], args := [d] }
  | _ => none }
def overviewNilRow : OpenClaim := { program := "ytdjaphcelpchaaagreatdoor", sum := "a6b5cd4312a7039f8ad2fdffc32880ed5477e496cb08fcf1b6214eafbad58adb", func := "bulletin/bulletinlaw28.OverviewNil", spec := "overviewNil", inPlace := ["internal/abi.NoEscape", "internal/bytealg.MakeNoZero", "internal/bytealg.CountString", "internal/bytealg.IndexByteString", "internal/bytealg.IndexString", "slices.overlaps[bulletin/overview.Line]", "maps.clone"], unfollowed := true, recurses := true, named := ["internal/strconv.uint64pow10", "math/bits.deBruijn32tab", "math/bits.deBruijn64tab", "unicode/utf8.first", "unicode/utf8.acceptRanges", "internal/bytealg.MaxLen"], plainKeys := false, apart := false, laid := [("math/bits.deBruijn32tab", laid_math_bits_deBruijn32tab), ("math/bits.deBruijn64tab", laid_math_bits_deBruijn64tab), ("internal/strconv.uint64pow10", laid_internal_strconv_uint64pow10), ("unicode/utf8.acceptRanges", laid_unicode_utf8_acceptRanges), ("unicode/utf8.first", laid_unicode_utf8_first)] }
def OverviewNilSaid : Prop := overviewNilRow.holds Tryz.pinned (OpenSpec.ofChange overviewNilSpec)

/-- ITS FALSE NEIGHBOUR: 'it returns false'. Refute it at one input. -/
def overviewNilWrong : ChangeSpec := { name := "overviewNil", fn := fun _ => fun
  | [d] => { results := [.lit (.bool false)], args := [d] }
  | _ => none }
def OverviewNilWrongFalsely : Prop := overviewNilRow.holds Tryz.pinned (OpenSpec.ofChange overviewNilWrong)

/-- 'bulletinlaw28.OverviewDecode': WHATEVER THE INPUT: true; the input reads as it did. -/
def overviewDecodeSpec : ChangeSpec := { name := "overviewDecode", fn := fun _ => fun
  | [d] => { results := [.lit (.bool true)], args := [d] }
  | _ => none }
def overviewDecodeRow : OpenClaim := { program := "ytdjaphcelpchaaagreatdoor", sum := "a6b5cd4312a7039f8ad2fdffc32880ed5477e496cb08fcf1b6214eafbad58adb", func := "bulletin/bulletinlaw28.OverviewDecode", spec := "overviewDecode", inPlace := ["internal/abi.NoEscape", "internal/bytealg.MakeNoZero", "internal/bytealg.CountString", "internal/bytealg.IndexByteString", "internal/bytealg.IndexString", "slices.overlaps[bulletin/overview.Line]"], unfollowed := true, recurses := true, named := ["internal/strconv.uint64pow10", "math/bits.deBruijn32tab", "math/bits.deBruijn64tab", "unicode/utf8.first", "unicode/utf8.acceptRanges", "internal/bytealg.MaxLen"], plainKeys := false, apart := false, laid := [("math/bits.deBruijn32tab", laid_math_bits_deBruijn32tab), ("math/bits.deBruijn64tab", laid_math_bits_deBruijn64tab), ("internal/strconv.uint64pow10", laid_internal_strconv_uint64pow10), ("unicode/utf8.acceptRanges", laid_unicode_utf8_acceptRanges), ("unicode/utf8.first", laid_unicode_utf8_first)] }
def OverviewDecodeSaid : Prop := overviewDecodeRow.holds Tryz.pinned (OpenSpec.ofChange overviewDecodeSpec)

/-- ITS FALSE NEIGHBOUR: 'it returns false'. Refute it at one input. -/
def overviewDecodeWrong : ChangeSpec := { name := "overviewDecode", fn := fun _ => fun
  | [d] => { results := [.lit (.bool false)], args := [d] }
  | _ => none }
def OverviewDecodeWrongFalsely : Prop := overviewDecodeRow.holds Tryz.pinned (OpenSpec.ofChange overviewDecodeWrong)

/-- 'bulletinlaw28.OverviewEncode': WHATEVER THE INPUT: true; the input reads as it did. -/
def overviewEncodeSpec : ChangeSpec := { name := "overviewEncode", fn := fun _ => fun
  | [d] => { results := [.lit (.bool true)], args := [d] }
  | _ => none }
def overviewEncodeRow : OpenClaim := { program := "ytdjaphcelpchaaagreatdoor", sum := "a6b5cd4312a7039f8ad2fdffc32880ed5477e496cb08fcf1b6214eafbad58adb", func := "bulletin/bulletinlaw28.OverviewEncode", spec := "overviewEncode", inPlace := ["internal/abi.NoEscape", "internal/bytealg.MakeNoZero", "internal/bytealg.CountString", "internal/bytealg.IndexByteString", "internal/bytealg.IndexString", "slices.overlaps[bulletin/overview.Line]"], unfollowed := true, recurses := true, named := ["internal/strconv.uint64pow10", "math/bits.deBruijn32tab", "math/bits.deBruijn64tab", "unicode/utf8.first", "unicode/utf8.acceptRanges", "internal/bytealg.MaxLen"], plainKeys := false, apart := false, laid := [("math/bits.deBruijn32tab", laid_math_bits_deBruijn32tab), ("math/bits.deBruijn64tab", laid_math_bits_deBruijn64tab), ("internal/strconv.uint64pow10", laid_internal_strconv_uint64pow10), ("unicode/utf8.acceptRanges", laid_unicode_utf8_acceptRanges), ("unicode/utf8.first", laid_unicode_utf8_first)] }
def OverviewEncodeSaid : Prop := overviewEncodeRow.holds Tryz.pinned (OpenSpec.ofChange overviewEncodeSpec)

/-- ITS FALSE NEIGHBOUR: 'it returns false'. Refute it at one input. -/
def overviewEncodeWrong : ChangeSpec := { name := "overviewEncode", fn := fun _ => fun
  | [d] => { results := [.lit (.bool false)], args := [d] }
  | _ => none }
def OverviewEncodeWrongFalsely : Prop := overviewEncodeRow.holds Tryz.pinned (OpenSpec.ofChange overviewEncodeWrong)

/- THE SECOND FORM. 'bulk': how many values and letters a reading holds, each counted each time it is reached (what is shared counts as often as it is met; a slice's spare places count too). A statement '..UptoSaid' is the law's where the arguments, and the package variables that the reading takes, are together of bulk at most 1048576: NARROWER than '..Said'. Prove '..Said' where nothing that the law and all that it calls make is longer than what came in: it says more and counts as full. Else prove '..UptoSaid'. A law counts once. -/
mutual
def uptoBulk {H : Type} : DataW H → Nat
  | .lit (.string bytes) => bytes.length + 1
  | .lit _ => 1
  | .nil => 1
  | .ptr d => uptoBulk d + 1
  | .slice elems spare => uptoBulkAll elems + uptoBulkAll spare + 1
  | .agg parts => uptoBulkAll parts + 1
  | .iface _ d => uptoBulk d + 1
  | .map entries => uptoBulkEntries entries + 1
  | .held _ => 1
def uptoBulkAll {H : Type} : List (DataW H) → Nat
  | [] => 0
  | d :: r => uptoBulk d + uptoBulkAll r
def uptoBulkEntries {H : Type} : List (Lit × DataW H) → Nat
  | [] => 0
  | x :: r => uptoBulkEntry x + uptoBulkEntries r
def uptoBulkEntry {H : Type} : Lit × DataW H → Nat
  | (.string bytes, d) => bytes.length + uptoBulk d + 1
  | (_, d) => uptoBulk d + 1
 end
def uptoSmall : (H : Type) → List (DataW H) → Bool := fun _ ds => decide (uptoBulkAll ds ≤ 1048576)
def OpenSpec.upto (s : _root_.Go.ChangeSpec) : _root_.Go.OpenSpec := { _root_.Go.OpenSpec.ofChange s with cond := some uptoSmall }

/-- 'bulletinlaw28.OverviewCheck', WHERE WHAT IT READS IS OF BULK AT MOST 1048576: true; the input reads as it did. -/
def overviewCheckUptoRow : OpenClaim := { program := "ytdjaphcelpchaaagreatdoor", sum := "a6b5cd4312a7039f8ad2fdffc32880ed5477e496cb08fcf1b6214eafbad58adb", func := "bulletin/bulletinlaw28.OverviewCheck", spec := "overviewCheck", inPlace := ["internal/abi.NoEscape", "internal/bytealg.MakeNoZero", "internal/bytealg.CountString", "internal/bytealg.IndexByteString", "internal/bytealg.IndexString", "slices.overlaps[bulletin/overview.Line]"], unfollowed := true, recurses := true, named := ["internal/strconv.uint64pow10", "math/bits.deBruijn32tab", "math/bits.deBruijn64tab", "unicode/utf8.first", "unicode/utf8.acceptRanges", "internal/bytealg.MaxLen"], plainKeys := false, apart := false, laid := [("math/bits.deBruijn32tab", laid_math_bits_deBruijn32tab), ("math/bits.deBruijn64tab", laid_math_bits_deBruijn64tab), ("internal/strconv.uint64pow10", laid_internal_strconv_uint64pow10), ("unicode/utf8.acceptRanges", laid_unicode_utf8_acceptRanges), ("unicode/utf8.first", laid_unicode_utf8_first)], narrowed := true }
def OverviewCheckUptoSaid : Prop := overviewCheckUptoRow.holds Tryz.pinned (OpenSpec.upto overviewCheckSpec)

/-- 'bulletinlaw28.OverviewParse', WHERE WHAT IT READS IS OF BULK AT MOST 1048576: true; the input reads as it did. -/
def overviewParseUptoRow : OpenClaim := { program := "ytdjaphcelpchaaagreatdoor", sum := "a6b5cd4312a7039f8ad2fdffc32880ed5477e496cb08fcf1b6214eafbad58adb", func := "bulletin/bulletinlaw28.OverviewParse", spec := "overviewParse", inPlace := ["internal/abi.NoEscape", "internal/bytealg.MakeNoZero", "internal/bytealg.CountString", "internal/bytealg.IndexByteString", "internal/bytealg.IndexString", "slices.overlaps[bulletin/overview.Line]"], unfollowed := true, recurses := true, named := ["internal/strconv.uint64pow10", "math/bits.deBruijn32tab", "math/bits.deBruijn64tab", "unicode/utf8.first", "unicode/utf8.acceptRanges", "internal/bytealg.MaxLen"], plainKeys := false, apart := false, laid := [("math/bits.deBruijn32tab", laid_math_bits_deBruijn32tab), ("math/bits.deBruijn64tab", laid_math_bits_deBruijn64tab), ("internal/strconv.uint64pow10", laid_internal_strconv_uint64pow10), ("unicode/utf8.acceptRanges", laid_unicode_utf8_acceptRanges), ("unicode/utf8.first", laid_unicode_utf8_first)], narrowed := true }
def OverviewParseUptoSaid : Prop := overviewParseUptoRow.holds Tryz.pinned (OpenSpec.upto overviewParseSpec)

/-- 'bulletinlaw28.OverviewOperations', WHERE WHAT IT READS IS OF BULK AT MOST 1048576: true; the input reads as it did. -/
def overviewOperationsUptoRow : OpenClaim := { program := "ytdjaphcelpchaaagreatdoor", sum := "a6b5cd4312a7039f8ad2fdffc32880ed5477e496cb08fcf1b6214eafbad58adb", func := "bulletin/bulletinlaw28.OverviewOperations", spec := "overviewOperations", inPlace := ["internal/abi.NoEscape", "internal/bytealg.MakeNoZero", "internal/bytealg.CountString", "internal/bytealg.IndexByteString", "internal/bytealg.IndexString", "slices.overlaps[bulletin/overview.Line]"], unfollowed := true, recurses := true, named := ["internal/strconv.uint64pow10", "math/bits.deBruijn32tab", "math/bits.deBruijn64tab", "unicode/utf8.first", "unicode/utf8.acceptRanges", "internal/bytealg.MaxLen"], plainKeys := false, apart := false, laid := [("math/bits.deBruijn32tab", laid_math_bits_deBruijn32tab), ("math/bits.deBruijn64tab", laid_math_bits_deBruijn64tab), ("internal/strconv.uint64pow10", laid_internal_strconv_uint64pow10), ("unicode/utf8.acceptRanges", laid_unicode_utf8_acceptRanges), ("unicode/utf8.first", laid_unicode_utf8_first)], narrowed := true }
def OverviewOperationsUptoSaid : Prop := overviewOperationsUptoRow.holds Tryz.pinned (OpenSpec.upto overviewOperationsSpec)

/-- 'bulletinlaw28.OverviewRange', WHERE WHAT IT READS IS OF BULK AT MOST 1048576: true; the input reads as it did. -/
def overviewRangeUptoRow : OpenClaim := { program := "ytdjaphcelpchaaagreatdoor", sum := "a6b5cd4312a7039f8ad2fdffc32880ed5477e496cb08fcf1b6214eafbad58adb", func := "bulletin/bulletinlaw28.OverviewRange", spec := "overviewRange", inPlace := ["internal/abi.NoEscape", "internal/bytealg.MakeNoZero", "internal/bytealg.CountString", "internal/bytealg.IndexByteString", "internal/bytealg.IndexString", "slices.overlaps[bulletin/overview.Line]"], unfollowed := true, recurses := true, named := ["internal/strconv.uint64pow10", "math/bits.deBruijn32tab", "math/bits.deBruijn64tab", "unicode/utf8.first", "unicode/utf8.acceptRanges", "internal/bytealg.MaxLen"], plainKeys := false, apart := false, laid := [("math/bits.deBruijn32tab", laid_math_bits_deBruijn32tab), ("math/bits.deBruijn64tab", laid_math_bits_deBruijn64tab), ("internal/strconv.uint64pow10", laid_internal_strconv_uint64pow10), ("unicode/utf8.acceptRanges", laid_unicode_utf8_acceptRanges), ("unicode/utf8.first", laid_unicode_utf8_first)], narrowed := true }
def OverviewRangeUptoSaid : Prop := overviewRangeUptoRow.holds Tryz.pinned (OpenSpec.upto overviewRangeSpec)

/-- 'bulletinlaw28.OverviewOrder', WHERE WHAT IT READS IS OF BULK AT MOST 1048576: true; the input reads as it did. -/
def overviewOrderUptoRow : OpenClaim := { program := "ytdjaphcelpchaaagreatdoor", sum := "a6b5cd4312a7039f8ad2fdffc32880ed5477e496cb08fcf1b6214eafbad58adb", func := "bulletin/bulletinlaw28.OverviewOrder", spec := "overviewOrder", inPlace := ["internal/abi.NoEscape", "internal/bytealg.MakeNoZero", "internal/bytealg.CountString", "internal/bytealg.IndexByteString", "internal/bytealg.IndexString", "slices.overlaps[bulletin/overview.Line]"], unfollowed := true, recurses := true, named := ["internal/strconv.uint64pow10", "math/bits.deBruijn32tab", "math/bits.deBruijn64tab", "unicode/utf8.first", "unicode/utf8.acceptRanges", "internal/bytealg.MaxLen"], plainKeys := false, apart := false, laid := [("math/bits.deBruijn32tab", laid_math_bits_deBruijn32tab), ("math/bits.deBruijn64tab", laid_math_bits_deBruijn64tab), ("internal/strconv.uint64pow10", laid_internal_strconv_uint64pow10), ("unicode/utf8.acceptRanges", laid_unicode_utf8_acceptRanges), ("unicode/utf8.first", laid_unicode_utf8_first)], narrowed := true }
def OverviewOrderUptoSaid : Prop := overviewOrderUptoRow.holds Tryz.pinned (OpenSpec.upto overviewOrderSpec)

/-- 'bulletinlaw28.OverviewViews', WHERE WHAT IT READS IS OF BULK AT MOST 1048576: true; the input reads as it did. -/
def overviewViewsUptoRow : OpenClaim := { program := "ytdjaphcelpchaaagreatdoor", sum := "a6b5cd4312a7039f8ad2fdffc32880ed5477e496cb08fcf1b6214eafbad58adb", func := "bulletin/bulletinlaw28.OverviewViews", spec := "overviewViews", inPlace := ["internal/abi.NoEscape", "internal/bytealg.MakeNoZero", "internal/bytealg.CountString", "internal/bytealg.IndexByteString", "internal/bytealg.IndexString", "slices.overlaps[bulletin/overview.Line]"], unfollowed := true, recurses := true, named := ["internal/strconv.uint64pow10", "math/bits.deBruijn32tab", "math/bits.deBruijn64tab", "unicode/utf8.first", "unicode/utf8.acceptRanges", "internal/bytealg.MaxLen"], plainKeys := false, apart := false, laid := [("math/bits.deBruijn32tab", laid_math_bits_deBruijn32tab), ("math/bits.deBruijn64tab", laid_math_bits_deBruijn64tab), ("internal/strconv.uint64pow10", laid_internal_strconv_uint64pow10), ("unicode/utf8.acceptRanges", laid_unicode_utf8_acceptRanges), ("unicode/utf8.first", laid_unicode_utf8_first)], narrowed := true }
def OverviewViewsUptoSaid : Prop := overviewViewsUptoRow.holds Tryz.pinned (OpenSpec.upto overviewViewsSpec)

/-- 'bulletinlaw28.OverviewClone', WHERE WHAT IT READS IS OF BULK AT MOST 1048576: true; the input reads as it did. -/
def overviewCloneUptoRow : OpenClaim := { program := "ytdjaphcelpchaaagreatdoor", sum := "a6b5cd4312a7039f8ad2fdffc32880ed5477e496cb08fcf1b6214eafbad58adb", func := "bulletin/bulletinlaw28.OverviewClone", spec := "overviewClone", inPlace := ["internal/abi.NoEscape", "internal/bytealg.MakeNoZero", "internal/bytealg.CountString", "internal/bytealg.IndexByteString", "internal/bytealg.IndexString", "slices.overlaps[bulletin/overview.Line]", "maps.clone"], unfollowed := true, recurses := true, named := ["internal/strconv.uint64pow10", "math/bits.deBruijn32tab", "math/bits.deBruijn64tab", "unicode/utf8.first", "unicode/utf8.acceptRanges", "internal/bytealg.MaxLen"], plainKeys := false, apart := false, laid := [("math/bits.deBruijn32tab", laid_math_bits_deBruijn32tab), ("math/bits.deBruijn64tab", laid_math_bits_deBruijn64tab), ("internal/strconv.uint64pow10", laid_internal_strconv_uint64pow10), ("unicode/utf8.acceptRanges", laid_unicode_utf8_acceptRanges), ("unicode/utf8.first", laid_unicode_utf8_first)], narrowed := true }
def OverviewCloneUptoSaid : Prop := overviewCloneUptoRow.holds Tryz.pinned (OpenSpec.upto overviewCloneSpec)

/-- 'bulletinlaw28.OverviewNil', WHERE WHAT IT READS IS OF BULK AT MOST 1048576: true; the input reads as it did. -/
def overviewNilUptoRow : OpenClaim := { program := "ytdjaphcelpchaaagreatdoor", sum := "a6b5cd4312a7039f8ad2fdffc32880ed5477e496cb08fcf1b6214eafbad58adb", func := "bulletin/bulletinlaw28.OverviewNil", spec := "overviewNil", inPlace := ["internal/abi.NoEscape", "internal/bytealg.MakeNoZero", "internal/bytealg.CountString", "internal/bytealg.IndexByteString", "internal/bytealg.IndexString", "slices.overlaps[bulletin/overview.Line]", "maps.clone"], unfollowed := true, recurses := true, named := ["internal/strconv.uint64pow10", "math/bits.deBruijn32tab", "math/bits.deBruijn64tab", "unicode/utf8.first", "unicode/utf8.acceptRanges", "internal/bytealg.MaxLen"], plainKeys := false, apart := false, laid := [("math/bits.deBruijn32tab", laid_math_bits_deBruijn32tab), ("math/bits.deBruijn64tab", laid_math_bits_deBruijn64tab), ("internal/strconv.uint64pow10", laid_internal_strconv_uint64pow10), ("unicode/utf8.acceptRanges", laid_unicode_utf8_acceptRanges), ("unicode/utf8.first", laid_unicode_utf8_first)], narrowed := true }
def OverviewNilUptoSaid : Prop := overviewNilUptoRow.holds Tryz.pinned (OpenSpec.upto overviewNilSpec)

/-- 'bulletinlaw28.OverviewDecode', WHERE WHAT IT READS IS OF BULK AT MOST 1048576: true; the input reads as it did. -/
def overviewDecodeUptoRow : OpenClaim := { program := "ytdjaphcelpchaaagreatdoor", sum := "a6b5cd4312a7039f8ad2fdffc32880ed5477e496cb08fcf1b6214eafbad58adb", func := "bulletin/bulletinlaw28.OverviewDecode", spec := "overviewDecode", inPlace := ["internal/abi.NoEscape", "internal/bytealg.MakeNoZero", "internal/bytealg.CountString", "internal/bytealg.IndexByteString", "internal/bytealg.IndexString", "slices.overlaps[bulletin/overview.Line]"], unfollowed := true, recurses := true, named := ["internal/strconv.uint64pow10", "math/bits.deBruijn32tab", "math/bits.deBruijn64tab", "unicode/utf8.first", "unicode/utf8.acceptRanges", "internal/bytealg.MaxLen"], plainKeys := false, apart := false, laid := [("math/bits.deBruijn32tab", laid_math_bits_deBruijn32tab), ("math/bits.deBruijn64tab", laid_math_bits_deBruijn64tab), ("internal/strconv.uint64pow10", laid_internal_strconv_uint64pow10), ("unicode/utf8.acceptRanges", laid_unicode_utf8_acceptRanges), ("unicode/utf8.first", laid_unicode_utf8_first)], narrowed := true }
def OverviewDecodeUptoSaid : Prop := overviewDecodeUptoRow.holds Tryz.pinned (OpenSpec.upto overviewDecodeSpec)

/-- 'bulletinlaw28.OverviewEncode', WHERE WHAT IT READS IS OF BULK AT MOST 1048576: true; the input reads as it did. -/
def overviewEncodeUptoRow : OpenClaim := { program := "ytdjaphcelpchaaagreatdoor", sum := "a6b5cd4312a7039f8ad2fdffc32880ed5477e496cb08fcf1b6214eafbad58adb", func := "bulletin/bulletinlaw28.OverviewEncode", spec := "overviewEncode", inPlace := ["internal/abi.NoEscape", "internal/bytealg.MakeNoZero", "internal/bytealg.CountString", "internal/bytealg.IndexByteString", "internal/bytealg.IndexString", "slices.overlaps[bulletin/overview.Line]"], unfollowed := true, recurses := true, named := ["internal/strconv.uint64pow10", "math/bits.deBruijn32tab", "math/bits.deBruijn64tab", "unicode/utf8.first", "unicode/utf8.acceptRanges", "internal/bytealg.MaxLen"], plainKeys := false, apart := false, laid := [("math/bits.deBruijn32tab", laid_math_bits_deBruijn32tab), ("math/bits.deBruijn64tab", laid_math_bits_deBruijn64tab), ("internal/strconv.uint64pow10", laid_internal_strconv_uint64pow10), ("unicode/utf8.acceptRanges", laid_unicode_utf8_acceptRanges), ("unicode/utf8.first", laid_unicode_utf8_first)], narrowed := true }
def OverviewEncodeUptoSaid : Prop := overviewEncodeUptoRow.holds Tryz.pinned (OpenSpec.upto overviewEncodeSpec)

end Rows
end Go.Proofs.YtdjaphcelpchaaaGreatDoor
