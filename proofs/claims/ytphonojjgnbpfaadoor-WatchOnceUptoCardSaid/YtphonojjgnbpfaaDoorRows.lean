/-
  NARROWER THAN 'FOR EVERY INPUT', by the rows' own cells (each row's printed sentence says how): WatchOrder: laid · WatchSteps: laid · WatchRoom: laid · WatchLoads: laid · WatchOnce: laid · PathAnswers: laid · PathJoins: laid · PathRound: laid · PathNumbers: laid · PathWithin: laid · PathBounds: laid.
  DERIVED. THE GIVEN ROWS OF THIS SEAT. 11 by the template 'for every input the law returns true; each argument reads behind the call as it read before'; 0 by the template 'total and deterministic' (their statements: YtphonojjgnbpfaaDoorTotals.lean).
  GIVEN WITH THE SEED: the statements are not yours to turn. If you find one false, say at which input.
  Laid BY PROGRAM, IN A SANDBOX (cutbox-rows.mjs): the forced cells as the released guide's own fill.sh prints them over the translation 7ed6429e5879d2e3… (all of the seat's roots in one cut). By AI agents, Wed Nov 11 2026. No macro, syntax, notation, axiom, sorry.
-/
import Derived.Test.YtphonojjgnbpfaaDoorChecked
import GoSem.PinnedTables
import GoSem.Claim
import GoSem.ClaimJoined
import GoSem.ClaimMapViews
import Derived.JoinedTies
import Derived.KernelRfl
namespace Go.Proofs.YtphonojjgnbpfaaDoor
/- THE CELL 'sum', in the pinned program and in every row, IS THE sha256 OF THE DUMP (.gsa) THAT YtphonojjgnbpfaaDoorProg.lean LOADS. Nothing in Lean hashes anything: it is a label: what it is worth is what the hold of that sum in a sandbox is worth. -/
noncomputable def Tryd.pinned : Pinned := { name := "ytphonojjgnbpfaadoor", sum := "7ed6429e5879d2e365a3c0f808d17f76f778559a41840189caaaf73ad0381617", checked := Tryd.checked }
namespace Rows
def none {H : Type} : Left H := { results := [], args := [] }

/- WHAT THE LISTED PACKAGE-LEVEL VARIABLES READ AS WHEN THE CALL BEGINS. Each datum BY PROGRAM (the guide's laid-datum.mjs) off the statement by which the dump's own 'gosem.cut.vars' lays the variable. In a bare row this is a premise. The card (YtphonojjgnbpfaaDoorCards.lean) ties it to the program's text. -/
def laid_unicode_utf8_acceptRanges {H : Type} : DataW H := .agg [.agg [.lit (.int .u8 128), .lit (.int .u8 191)], .agg [.lit (.int .u8 160), .lit (.int .u8 191)], .agg [.lit (.int .u8 128), .lit (.int .u8 159)], .agg [.lit (.int .u8 144), .lit (.int .u8 191)], .agg [.lit (.int .u8 128), .lit (.int .u8 143)], .agg [.lit (.int .u8 0), .lit (.int .u8 0)], .agg [.lit (.int .u8 0), .lit (.int .u8 0)], .agg [.lit (.int .u8 0), .lit (.int .u8 0)], .agg [.lit (.int .u8 0), .lit (.int .u8 0)], .agg [.lit (.int .u8 0), .lit (.int .u8 0)], .agg [.lit (.int .u8 0), .lit (.int .u8 0)], .agg [.lit (.int .u8 0), .lit (.int .u8 0)], .agg [.lit (.int .u8 0), .lit (.int .u8 0)], .agg [.lit (.int .u8 0), .lit (.int .u8 0)], .agg [.lit (.int .u8 0), .lit (.int .u8 0)], .agg [.lit (.int .u8 0), .lit (.int .u8 0)]]
/-- One of Go's own tables, pinned by name: the form's constant. -/
def laid_unicode_utf8_first : DataW Unit := Go.Pinned.utf8First
def laid_math_bits_deBruijn32tab {H : Type} : DataW H := .agg [.lit (.int .u8 0), .lit (.int .u8 1), .lit (.int .u8 28), .lit (.int .u8 2), .lit (.int .u8 29), .lit (.int .u8 14), .lit (.int .u8 24), .lit (.int .u8 3), .lit (.int .u8 30), .lit (.int .u8 22), .lit (.int .u8 20), .lit (.int .u8 15), .lit (.int .u8 25), .lit (.int .u8 17), .lit (.int .u8 4), .lit (.int .u8 8), .lit (.int .u8 31), .lit (.int .u8 27), .lit (.int .u8 13), .lit (.int .u8 23), .lit (.int .u8 21), .lit (.int .u8 19), .lit (.int .u8 16), .lit (.int .u8 7), .lit (.int .u8 26), .lit (.int .u8 12), .lit (.int .u8 18), .lit (.int .u8 6), .lit (.int .u8 11), .lit (.int .u8 5), .lit (.int .u8 10), .lit (.int .u8 9)]
def laid_math_bits_deBruijn64tab {H : Type} : DataW H := .agg [.lit (.int .u8 0), .lit (.int .u8 1), .lit (.int .u8 56), .lit (.int .u8 2), .lit (.int .u8 57), .lit (.int .u8 49), .lit (.int .u8 28), .lit (.int .u8 3), .lit (.int .u8 61), .lit (.int .u8 58), .lit (.int .u8 42), .lit (.int .u8 50), .lit (.int .u8 38), .lit (.int .u8 29), .lit (.int .u8 17), .lit (.int .u8 4), .lit (.int .u8 62), .lit (.int .u8 47), .lit (.int .u8 59), .lit (.int .u8 36), .lit (.int .u8 45), .lit (.int .u8 43), .lit (.int .u8 51), .lit (.int .u8 22), .lit (.int .u8 53), .lit (.int .u8 39), .lit (.int .u8 33), .lit (.int .u8 30), .lit (.int .u8 24), .lit (.int .u8 18), .lit (.int .u8 12), .lit (.int .u8 5), .lit (.int .u8 63), .lit (.int .u8 55), .lit (.int .u8 48), .lit (.int .u8 27), .lit (.int .u8 60), .lit (.int .u8 41), .lit (.int .u8 37), .lit (.int .u8 16), .lit (.int .u8 46), .lit (.int .u8 35), .lit (.int .u8 44), .lit (.int .u8 21), .lit (.int .u8 52), .lit (.int .u8 32), .lit (.int .u8 23), .lit (.int .u8 11), .lit (.int .u8 54), .lit (.int .u8 26), .lit (.int .u8 40), .lit (.int .u8 15), .lit (.int .u8 34), .lit (.int .u8 20), .lit (.int .u8 31), .lit (.int .u8 10), .lit (.int .u8 25), .lit (.int .u8 14), .lit (.int .u8 19), .lit (.int .u8 9), .lit (.int .u8 13), .lit (.int .u8 8), .lit (.int .u8 7), .lit (.int .u8 6)]
def laid_internal_strconv_uint64pow10 {H : Type} : DataW H := .agg [.lit (.int .u64 1), .lit (.int .u64 10), .lit (.int .u64 100), .lit (.int .u64 1000), .lit (.int .u64 10000), .lit (.int .u64 100000), .lit (.int .u64 1000000), .lit (.int .u64 10000000), .lit (.int .u64 100000000), .lit (.int .u64 1000000000), .lit (.int .u64 10000000000), .lit (.int .u64 100000000000), .lit (.int .u64 1000000000000), .lit (.int .u64 10000000000000), .lit (.int .u64 100000000000000), .lit (.int .u64 1000000000000000), .lit (.int .u64 10000000000000000), .lit (.int .u64 100000000000000000), .lit (.int .u64 1000000000000000000), .lit (.int .u64 10000000000000000000)]

/-- 'stanchionlaw11.WatchOrder': WHATEVER THE INPUT: true; the input reads as it did. -/
def watchOrderSpec : ChangeSpec := { name := "watchOrder", fn := fun _ => fun
  | [d] => { results := [.lit (.bool true)], args := [d] }
  | _ => none }
def watchOrderRow : OpenClaim := { program := "ytphonojjgnbpfaadoor", sum := "7ed6429e5879d2e365a3c0f808d17f76f778559a41840189caaaf73ad0381617", func := "stanchion/stanchionlaw11.WatchOrder", spec := "watchOrder", inPlace := ["internal/bytealg.CountString", "internal/bytealg.IndexByteString", "internal/bytealg.IndexString", "slices.overlaps[stanchion/api.Watch]"], unfollowed := true, recurses := true, named := ["unicode/utf8.first", "unicode/utf8.acceptRanges", "internal/bytealg.MaxLen"], apart := false, laid := [("unicode/utf8.acceptRanges", laid_unicode_utf8_acceptRanges), ("unicode/utf8.first", laid_unicode_utf8_first)] }
def WatchOrderSaid : Prop := watchOrderRow.holds Tryd.pinned (OpenSpec.ofChange watchOrderSpec)

/-- ITS FALSE NEIGHBOUR: 'it returns false'. Refute it at one input. -/
def watchOrderWrong : ChangeSpec := { name := "watchOrder", fn := fun _ => fun
  | [d] => { results := [.lit (.bool false)], args := [d] }
  | _ => none }
def WatchOrderWrongFalsely : Prop := watchOrderRow.holds Tryd.pinned (OpenSpec.ofChange watchOrderWrong)

/-- 'stanchionlaw11.WatchSteps': WHATEVER THE INPUT: true; the input reads as it did. -/
def watchStepsSpec : ChangeSpec := { name := "watchSteps", fn := fun _ => fun
  | [d] => { results := [.lit (.bool true)], args := [d] }
  | _ => none }
def watchStepsRow : OpenClaim := { program := "ytphonojjgnbpfaadoor", sum := "7ed6429e5879d2e365a3c0f808d17f76f778559a41840189caaaf73ad0381617", func := "stanchion/stanchionlaw11.WatchSteps", spec := "watchSteps", inPlace := ["internal/bytealg.CountString", "internal/bytealg.IndexByteString", "internal/bytealg.IndexString", "slices.overlaps[stanchion/api.Watch]"], unfollowed := true, recurses := true, named := ["unicode/utf8.first", "unicode/utf8.acceptRanges", "internal/bytealg.MaxLen"], apart := false, laid := [("unicode/utf8.acceptRanges", laid_unicode_utf8_acceptRanges), ("unicode/utf8.first", laid_unicode_utf8_first)] }
def WatchStepsSaid : Prop := watchStepsRow.holds Tryd.pinned (OpenSpec.ofChange watchStepsSpec)

/-- ITS FALSE NEIGHBOUR: 'it returns false'. Refute it at one input. -/
def watchStepsWrong : ChangeSpec := { name := "watchSteps", fn := fun _ => fun
  | [d] => { results := [.lit (.bool false)], args := [d] }
  | _ => none }
def WatchStepsWrongFalsely : Prop := watchStepsRow.holds Tryd.pinned (OpenSpec.ofChange watchStepsWrong)

/-- 'stanchionlaw11.WatchRoom': WHATEVER THE INPUT: true; the input reads as it did. -/
def watchRoomSpec : ChangeSpec := { name := "watchRoom", fn := fun _ => fun
  | [d1, d2] => { results := [.lit (.bool true)], args := [d1, d2] }
  | _ => none }
def watchRoomRow : OpenClaim := { program := "ytphonojjgnbpfaadoor", sum := "7ed6429e5879d2e365a3c0f808d17f76f778559a41840189caaaf73ad0381617", func := "stanchion/stanchionlaw11.WatchRoom", spec := "watchRoom", inPlace := ["internal/bytealg.CountString", "internal/bytealg.IndexByteString", "internal/bytealg.IndexString", "slices.overlaps[stanchion/api.Watch]"], unfollowed := true, recurses := true, named := ["unicode/utf8.first", "unicode/utf8.acceptRanges", "internal/bytealg.MaxLen"], apart := false, laid := [("unicode/utf8.acceptRanges", laid_unicode_utf8_acceptRanges), ("unicode/utf8.first", laid_unicode_utf8_first)] }
def WatchRoomSaid : Prop := watchRoomRow.holds Tryd.pinned (OpenSpec.ofChange watchRoomSpec)

/-- ITS FALSE NEIGHBOUR: 'it returns false'. Refute it at one input. -/
def watchRoomWrong : ChangeSpec := { name := "watchRoom", fn := fun _ => fun
  | [d1, d2] => { results := [.lit (.bool false)], args := [d1, d2] }
  | _ => none }
def WatchRoomWrongFalsely : Prop := watchRoomRow.holds Tryd.pinned (OpenSpec.ofChange watchRoomWrong)

/-- 'stanchionlaw11.WatchLoads': WHATEVER THE INPUT: true; the input reads as it did. -/
def watchLoadsSpec : ChangeSpec := { name := "watchLoads", fn := fun _ => fun
  | [d1, d2] => { results := [.lit (.bool true)], args := [d1, d2] }
  | _ => none }
def watchLoadsRow : OpenClaim := { program := "ytphonojjgnbpfaadoor", sum := "7ed6429e5879d2e365a3c0f808d17f76f778559a41840189caaaf73ad0381617", func := "stanchion/stanchionlaw11.WatchLoads", spec := "watchLoads", inPlace := ["internal/bytealg.CountString", "internal/bytealg.IndexByteString", "internal/bytealg.IndexString", "slices.overlaps[stanchion/api.Watch]"], unfollowed := true, recurses := true, named := ["unicode/utf8.first", "unicode/utf8.acceptRanges", "internal/bytealg.MaxLen"], apart := false, laid := [("unicode/utf8.acceptRanges", laid_unicode_utf8_acceptRanges), ("unicode/utf8.first", laid_unicode_utf8_first)] }
def WatchLoadsSaid : Prop := watchLoadsRow.holds Tryd.pinned (OpenSpec.ofChange watchLoadsSpec)

/-- ITS FALSE NEIGHBOUR: 'it returns false'. Refute it at one input. -/
def watchLoadsWrong : ChangeSpec := { name := "watchLoads", fn := fun _ => fun
  | [d1, d2] => { results := [.lit (.bool false)], args := [d1, d2] }
  | _ => none }
def WatchLoadsWrongFalsely : Prop := watchLoadsRow.holds Tryd.pinned (OpenSpec.ofChange watchLoadsWrong)

/-- 'stanchionlaw11.WatchOnce': WHATEVER THE INPUT: true; the input reads as it did. -/
def watchOnceSpec : ChangeSpec := { name := "watchOnce", fn := fun _ => fun
  | [d1, d2, d3] => { results := [.lit (.bool true)], args := [d1, d2, d3] }
  | _ => none }
def watchOnceRow : OpenClaim := { program := "ytphonojjgnbpfaadoor", sum := "7ed6429e5879d2e365a3c0f808d17f76f778559a41840189caaaf73ad0381617", func := "stanchion/stanchionlaw11.WatchOnce", spec := "watchOnce", inPlace := ["internal/bytealg.CountString", "internal/bytealg.IndexByteString", "internal/bytealg.IndexString", "slices.overlaps[stanchion/api.Watch]"], unfollowed := true, recurses := true, named := ["unicode/utf8.first", "unicode/utf8.acceptRanges", "internal/bytealg.MaxLen"], apart := false, laid := [("unicode/utf8.acceptRanges", laid_unicode_utf8_acceptRanges), ("unicode/utf8.first", laid_unicode_utf8_first)] }
def WatchOnceSaid : Prop := watchOnceRow.holds Tryd.pinned (OpenSpec.ofChange watchOnceSpec)

/-- ITS FALSE NEIGHBOUR: 'it returns false'. Refute it at one input. -/
def watchOnceWrong : ChangeSpec := { name := "watchOnce", fn := fun _ => fun
  | [d1, d2, d3] => { results := [.lit (.bool false)], args := [d1, d2, d3] }
  | _ => none }
def WatchOnceWrongFalsely : Prop := watchOnceRow.holds Tryd.pinned (OpenSpec.ofChange watchOnceWrong)

/-- 'stanchionlaw09.PathAnswers': WHATEVER THE INPUT: true; the input reads as it did. -/
def pathAnswersSpec : ChangeSpec := { name := "pathAnswers", fn := fun _ => fun
  | [d1, d2, d3] => { results := [.lit (.bool true)], args := [d1, d2, d3] }
  | _ => none }
def pathAnswersRow : OpenClaim := { program := "ytphonojjgnbpfaadoor", sum := "7ed6429e5879d2e365a3c0f808d17f76f778559a41840189caaaf73ad0381617", func := "stanchion/stanchionlaw09.PathAnswers", spec := "pathAnswers", inPlace := ["internal/bytealg.CountString", "internal/bytealg.IndexByteString", "internal/bytealg.IndexString", "internal/abi.NoEscape", "internal/bytealg.MakeNoZero"], unfollowed := true, recurses := true, named := ["unicode/utf8.first", "unicode/utf8.acceptRanges", "internal/bytealg.MaxLen", "internal/strconv.uint64pow10", "math/bits.deBruijn32tab", "math/bits.deBruijn64tab"], apart := false, laid := [("math/bits.deBruijn32tab", laid_math_bits_deBruijn32tab), ("math/bits.deBruijn64tab", laid_math_bits_deBruijn64tab), ("internal/strconv.uint64pow10", laid_internal_strconv_uint64pow10), ("unicode/utf8.acceptRanges", laid_unicode_utf8_acceptRanges), ("unicode/utf8.first", laid_unicode_utf8_first)] }
def PathAnswersSaid : Prop := pathAnswersRow.holds Tryd.pinned (OpenSpec.ofChange pathAnswersSpec)

/-- ITS FALSE NEIGHBOUR: 'it returns false'. Refute it at one input. -/
def pathAnswersWrong : ChangeSpec := { name := "pathAnswers", fn := fun _ => fun
  | [d1, d2, d3] => { results := [.lit (.bool false)], args := [d1, d2, d3] }
  | _ => none }
def PathAnswersWrongFalsely : Prop := pathAnswersRow.holds Tryd.pinned (OpenSpec.ofChange pathAnswersWrong)

/-- 'stanchionlaw09.PathJoins': WHATEVER THE INPUT: true; the input reads as it did. -/
def pathJoinsSpec : ChangeSpec := { name := "pathJoins", fn := fun _ => fun
  | [d1, d2] => { results := [.lit (.bool true)], args := [d1, d2] }
  | _ => none }
def pathJoinsRow : OpenClaim := { program := "ytphonojjgnbpfaadoor", sum := "7ed6429e5879d2e365a3c0f808d17f76f778559a41840189caaaf73ad0381617", func := "stanchion/stanchionlaw09.PathJoins", spec := "pathJoins", inPlace := ["internal/bytealg.CountString", "internal/bytealg.IndexByteString", "internal/bytealg.IndexString", "internal/abi.NoEscape", "internal/bytealg.MakeNoZero"], unfollowed := true, recurses := true, named := ["unicode/utf8.first", "unicode/utf8.acceptRanges", "internal/bytealg.MaxLen", "internal/strconv.uint64pow10", "math/bits.deBruijn32tab", "math/bits.deBruijn64tab"], apart := false, laid := [("math/bits.deBruijn32tab", laid_math_bits_deBruijn32tab), ("math/bits.deBruijn64tab", laid_math_bits_deBruijn64tab), ("internal/strconv.uint64pow10", laid_internal_strconv_uint64pow10), ("unicode/utf8.acceptRanges", laid_unicode_utf8_acceptRanges), ("unicode/utf8.first", laid_unicode_utf8_first)] }
def PathJoinsSaid : Prop := pathJoinsRow.holds Tryd.pinned (OpenSpec.ofChange pathJoinsSpec)

/-- ITS FALSE NEIGHBOUR: 'it returns false'. Refute it at one input. -/
def pathJoinsWrong : ChangeSpec := { name := "pathJoins", fn := fun _ => fun
  | [d1, d2] => { results := [.lit (.bool false)], args := [d1, d2] }
  | _ => none }
def PathJoinsWrongFalsely : Prop := pathJoinsRow.holds Tryd.pinned (OpenSpec.ofChange pathJoinsWrong)

/-- 'stanchionlaw09.PathRound': WHATEVER THE INPUT: true; the input reads as it did. -/
def pathRoundSpec : ChangeSpec := { name := "pathRound", fn := fun _ => fun
  | [d1, d2] => { results := [.lit (.bool true)], args := [d1, d2] }
  | _ => none }
def pathRoundRow : OpenClaim := { program := "ytphonojjgnbpfaadoor", sum := "7ed6429e5879d2e365a3c0f808d17f76f778559a41840189caaaf73ad0381617", func := "stanchion/stanchionlaw09.PathRound", spec := "pathRound", inPlace := ["internal/bytealg.CountString", "internal/bytealg.IndexByteString", "internal/bytealg.IndexString", "internal/abi.NoEscape", "internal/bytealg.MakeNoZero"], unfollowed := true, recurses := true, named := ["unicode/utf8.first", "unicode/utf8.acceptRanges", "internal/bytealg.MaxLen", "internal/strconv.uint64pow10", "math/bits.deBruijn32tab", "math/bits.deBruijn64tab"], apart := false, laid := [("math/bits.deBruijn32tab", laid_math_bits_deBruijn32tab), ("math/bits.deBruijn64tab", laid_math_bits_deBruijn64tab), ("internal/strconv.uint64pow10", laid_internal_strconv_uint64pow10), ("unicode/utf8.acceptRanges", laid_unicode_utf8_acceptRanges), ("unicode/utf8.first", laid_unicode_utf8_first)] }
def PathRoundSaid : Prop := pathRoundRow.holds Tryd.pinned (OpenSpec.ofChange pathRoundSpec)

/-- ITS FALSE NEIGHBOUR: 'it returns false'. Refute it at one input. -/
def pathRoundWrong : ChangeSpec := { name := "pathRound", fn := fun _ => fun
  | [d1, d2] => { results := [.lit (.bool false)], args := [d1, d2] }
  | _ => none }
def PathRoundWrongFalsely : Prop := pathRoundRow.holds Tryd.pinned (OpenSpec.ofChange pathRoundWrong)

/-- 'stanchionlaw09.PathNumbers': WHATEVER THE INPUT: true; the input reads as it did. -/
def pathNumbersSpec : ChangeSpec := { name := "pathNumbers", fn := fun _ => fun
  | [d1, d2, d3] => { results := [.lit (.bool true)], args := [d1, d2, d3] }
  | _ => none }
def pathNumbersRow : OpenClaim := { program := "ytphonojjgnbpfaadoor", sum := "7ed6429e5879d2e365a3c0f808d17f76f778559a41840189caaaf73ad0381617", func := "stanchion/stanchionlaw09.PathNumbers", spec := "pathNumbers", inPlace := ["internal/bytealg.CountString", "internal/bytealg.IndexByteString", "internal/bytealg.IndexString", "internal/abi.NoEscape", "internal/bytealg.MakeNoZero"], unfollowed := true, recurses := true, named := ["unicode/utf8.first", "unicode/utf8.acceptRanges", "internal/bytealg.MaxLen", "internal/strconv.uint64pow10", "math/bits.deBruijn32tab", "math/bits.deBruijn64tab"], apart := false, laid := [("math/bits.deBruijn32tab", laid_math_bits_deBruijn32tab), ("math/bits.deBruijn64tab", laid_math_bits_deBruijn64tab), ("internal/strconv.uint64pow10", laid_internal_strconv_uint64pow10), ("unicode/utf8.acceptRanges", laid_unicode_utf8_acceptRanges), ("unicode/utf8.first", laid_unicode_utf8_first)] }
def PathNumbersSaid : Prop := pathNumbersRow.holds Tryd.pinned (OpenSpec.ofChange pathNumbersSpec)

/-- ITS FALSE NEIGHBOUR: 'it returns false'. Refute it at one input. -/
def pathNumbersWrong : ChangeSpec := { name := "pathNumbers", fn := fun _ => fun
  | [d1, d2, d3] => { results := [.lit (.bool false)], args := [d1, d2, d3] }
  | _ => none }
def PathNumbersWrongFalsely : Prop := pathNumbersRow.holds Tryd.pinned (OpenSpec.ofChange pathNumbersWrong)

/-- 'stanchionlaw09.PathWithin': WHATEVER THE INPUT: true; the input reads as it did. -/
def pathWithinSpec : ChangeSpec := { name := "pathWithin", fn := fun _ => fun
  | [d1, d2, d3] => { results := [.lit (.bool true)], args := [d1, d2, d3] }
  | _ => none }
def pathWithinRow : OpenClaim := { program := "ytphonojjgnbpfaadoor", sum := "7ed6429e5879d2e365a3c0f808d17f76f778559a41840189caaaf73ad0381617", func := "stanchion/stanchionlaw09.PathWithin", spec := "pathWithin", inPlace := ["internal/bytealg.CountString", "internal/bytealg.IndexByteString", "internal/bytealg.IndexString", "internal/abi.NoEscape", "internal/bytealg.MakeNoZero"], unfollowed := true, recurses := true, named := ["unicode/utf8.first", "unicode/utf8.acceptRanges", "internal/bytealg.MaxLen", "internal/strconv.uint64pow10", "math/bits.deBruijn32tab", "math/bits.deBruijn64tab"], apart := false, laid := [("math/bits.deBruijn32tab", laid_math_bits_deBruijn32tab), ("math/bits.deBruijn64tab", laid_math_bits_deBruijn64tab), ("internal/strconv.uint64pow10", laid_internal_strconv_uint64pow10), ("unicode/utf8.acceptRanges", laid_unicode_utf8_acceptRanges), ("unicode/utf8.first", laid_unicode_utf8_first)] }
def PathWithinSaid : Prop := pathWithinRow.holds Tryd.pinned (OpenSpec.ofChange pathWithinSpec)

/-- ITS FALSE NEIGHBOUR: 'it returns false'. Refute it at one input. -/
def pathWithinWrong : ChangeSpec := { name := "pathWithin", fn := fun _ => fun
  | [d1, d2, d3] => { results := [.lit (.bool false)], args := [d1, d2, d3] }
  | _ => none }
def PathWithinWrongFalsely : Prop := pathWithinRow.holds Tryd.pinned (OpenSpec.ofChange pathWithinWrong)

/-- 'stanchionlaw09.PathBounds': WHATEVER THE INPUT: true; the input reads as it did. -/
def pathBoundsSpec : ChangeSpec := { name := "pathBounds", fn := fun _ => fun
  | [d] => { results := [.lit (.bool true)], args := [d] }
  | _ => none }
def pathBoundsRow : OpenClaim := { program := "ytphonojjgnbpfaadoor", sum := "7ed6429e5879d2e365a3c0f808d17f76f778559a41840189caaaf73ad0381617", func := "stanchion/stanchionlaw09.PathBounds", spec := "pathBounds", inPlace := ["internal/bytealg.CountString", "internal/bytealg.IndexByteString", "internal/bytealg.IndexString", "internal/abi.NoEscape", "internal/bytealg.MakeNoZero"], unfollowed := true, recurses := true, named := ["unicode/utf8.first", "unicode/utf8.acceptRanges", "internal/bytealg.MaxLen", "internal/strconv.uint64pow10", "math/bits.deBruijn32tab", "math/bits.deBruijn64tab"], apart := false, laid := [("math/bits.deBruijn32tab", laid_math_bits_deBruijn32tab), ("math/bits.deBruijn64tab", laid_math_bits_deBruijn64tab), ("internal/strconv.uint64pow10", laid_internal_strconv_uint64pow10), ("unicode/utf8.acceptRanges", laid_unicode_utf8_acceptRanges), ("unicode/utf8.first", laid_unicode_utf8_first)] }
def PathBoundsSaid : Prop := pathBoundsRow.holds Tryd.pinned (OpenSpec.ofChange pathBoundsSpec)

/-- ITS FALSE NEIGHBOUR: 'it returns false'. Refute it at one input. -/
def pathBoundsWrong : ChangeSpec := { name := "pathBounds", fn := fun _ => fun
  | [d] => { results := [.lit (.bool false)], args := [d] }
  | _ => none }
def PathBoundsWrongFalsely : Prop := pathBoundsRow.holds Tryd.pinned (OpenSpec.ofChange pathBoundsWrong)

/- THE SECOND FORM. 'bulk': how many values and letters a reading holds, each counted each time it is reached (what is shared counts as often as it is met; a slice's spare places count too). A statement '..UptoSaid' is the law's where the arguments, and the package variables that the reading takes, are together of bulk at most 1048576: NARROWER than '..Said'. Prove '..Said' where nothing that the law and all that it calls make is longer than what came in: it says more and counts as full. Else prove '..UptoSaid'. A law counts once. -/
mutual
def uptoBulk {H : Type} : DataW H → Nat
  | .lit (.string bytes) => bytes.length + 1
  | .lit _ => 1
  | .nil => 1
  | .ptr d => uptoBulk d + 1
  | .slice elems spare => uptoBulkAll elems + uptoBulkAll spare + 1
  | .agg parts => uptoBulkAll parts + 1
  | .iface _ d => uptoBulk d + 1
  | .map entries => uptoBulkEntries entries + 1
  | .held _ => 1
def uptoBulkAll {H : Type} : List (DataW H) → Nat
  | [] => 0
  | d :: r => uptoBulk d + uptoBulkAll r
def uptoBulkEntries {H : Type} : List (Lit × DataW H) → Nat
  | [] => 0
  | x :: r => uptoBulkEntry x + uptoBulkEntries r
def uptoBulkEntry {H : Type} : Lit × DataW H → Nat
  | (.string bytes, d) => bytes.length + uptoBulk d + 1
  | (_, d) => uptoBulk d + 1
 end
def uptoSmall : (H : Type) → List (DataW H) → Bool := fun _ ds => decide (uptoBulkAll ds ≤ 1048576)
def OpenSpec.upto (s : _root_.Go.ChangeSpec) : _root_.Go.OpenSpec := { _root_.Go.OpenSpec.ofChange s with cond := some uptoSmall }

/-- 'stanchionlaw11.WatchOrder', WHERE WHAT IT READS IS OF BULK AT MOST 1048576: true; the input reads as it did. -/
def watchOrderUptoRow : OpenClaim := { program := "ytphonojjgnbpfaadoor", sum := "7ed6429e5879d2e365a3c0f808d17f76f778559a41840189caaaf73ad0381617", func := "stanchion/stanchionlaw11.WatchOrder", spec := "watchOrder", inPlace := ["internal/bytealg.CountString", "internal/bytealg.IndexByteString", "internal/bytealg.IndexString", "slices.overlaps[stanchion/api.Watch]"], unfollowed := true, recurses := true, named := ["unicode/utf8.first", "unicode/utf8.acceptRanges", "internal/bytealg.MaxLen"], apart := false, laid := [("unicode/utf8.acceptRanges", laid_unicode_utf8_acceptRanges), ("unicode/utf8.first", laid_unicode_utf8_first)], narrowed := true }
def WatchOrderUptoSaid : Prop := watchOrderUptoRow.holds Tryd.pinned (OpenSpec.upto watchOrderSpec)

/-- 'stanchionlaw11.WatchSteps', WHERE WHAT IT READS IS OF BULK AT MOST 1048576: true; the input reads as it did. -/
def watchStepsUptoRow : OpenClaim := { program := "ytphonojjgnbpfaadoor", sum := "7ed6429e5879d2e365a3c0f808d17f76f778559a41840189caaaf73ad0381617", func := "stanchion/stanchionlaw11.WatchSteps", spec := "watchSteps", inPlace := ["internal/bytealg.CountString", "internal/bytealg.IndexByteString", "internal/bytealg.IndexString", "slices.overlaps[stanchion/api.Watch]"], unfollowed := true, recurses := true, named := ["unicode/utf8.first", "unicode/utf8.acceptRanges", "internal/bytealg.MaxLen"], apart := false, laid := [("unicode/utf8.acceptRanges", laid_unicode_utf8_acceptRanges), ("unicode/utf8.first", laid_unicode_utf8_first)], narrowed := true }
def WatchStepsUptoSaid : Prop := watchStepsUptoRow.holds Tryd.pinned (OpenSpec.upto watchStepsSpec)

/-- 'stanchionlaw11.WatchRoom', WHERE WHAT IT READS IS OF BULK AT MOST 1048576: true; the input reads as it did. -/
def watchRoomUptoRow : OpenClaim := { program := "ytphonojjgnbpfaadoor", sum := "7ed6429e5879d2e365a3c0f808d17f76f778559a41840189caaaf73ad0381617", func := "stanchion/stanchionlaw11.WatchRoom", spec := "watchRoom", inPlace := ["internal/bytealg.CountString", "internal/bytealg.IndexByteString", "internal/bytealg.IndexString", "slices.overlaps[stanchion/api.Watch]"], unfollowed := true, recurses := true, named := ["unicode/utf8.first", "unicode/utf8.acceptRanges", "internal/bytealg.MaxLen"], apart := false, laid := [("unicode/utf8.acceptRanges", laid_unicode_utf8_acceptRanges), ("unicode/utf8.first", laid_unicode_utf8_first)], narrowed := true }
def WatchRoomUptoSaid : Prop := watchRoomUptoRow.holds Tryd.pinned (OpenSpec.upto watchRoomSpec)

/-- 'stanchionlaw11.WatchLoads', WHERE WHAT IT READS IS OF BULK AT MOST 1048576: true; the input reads as it did. -/
def watchLoadsUptoRow : OpenClaim := { program := "ytphonojjgnbpfaadoor", sum := "7ed6429e5879d2e365a3c0f808d17f76f778559a41840189caaaf73ad0381617", func := "stanchion/stanchionlaw11.WatchLoads", spec := "watchLoads", inPlace := ["internal/bytealg.CountString", "internal/bytealg.IndexByteString", "internal/bytealg.IndexString", "slices.overlaps[stanchion/api.Watch]"], unfollowed := true, recurses := true, named := ["unicode/utf8.first", "unicode/utf8.acceptRanges", "internal/bytealg.MaxLen"], apart := false, laid := [("unicode/utf8.acceptRanges", laid_unicode_utf8_acceptRanges), ("unicode/utf8.first", laid_unicode_utf8_first)], narrowed := true }
def WatchLoadsUptoSaid : Prop := watchLoadsUptoRow.holds Tryd.pinned (OpenSpec.upto watchLoadsSpec)

/-- 'stanchionlaw11.WatchOnce', WHERE WHAT IT READS IS OF BULK AT MOST 1048576: true; the input reads as it did. -/
def watchOnceUptoRow : OpenClaim := { program := "ytphonojjgnbpfaadoor", sum := "7ed6429e5879d2e365a3c0f808d17f76f778559a41840189caaaf73ad0381617", func := "stanchion/stanchionlaw11.WatchOnce", spec := "watchOnce", inPlace := ["internal/bytealg.CountString", "internal/bytealg.IndexByteString", "internal/bytealg.IndexString", "slices.overlaps[stanchion/api.Watch]"], unfollowed := true, recurses := true, named := ["unicode/utf8.first", "unicode/utf8.acceptRanges", "internal/bytealg.MaxLen"], apart := false, laid := [("unicode/utf8.acceptRanges", laid_unicode_utf8_acceptRanges), ("unicode/utf8.first", laid_unicode_utf8_first)], narrowed := true }
def WatchOnceUptoSaid : Prop := watchOnceUptoRow.holds Tryd.pinned (OpenSpec.upto watchOnceSpec)

/-- 'stanchionlaw09.PathAnswers', WHERE WHAT IT READS IS OF BULK AT MOST 1048576: true; the input reads as it did. -/
def pathAnswersUptoRow : OpenClaim := { program := "ytphonojjgnbpfaadoor", sum := "7ed6429e5879d2e365a3c0f808d17f76f778559a41840189caaaf73ad0381617", func := "stanchion/stanchionlaw09.PathAnswers", spec := "pathAnswers", inPlace := ["internal/bytealg.CountString", "internal/bytealg.IndexByteString", "internal/bytealg.IndexString", "internal/abi.NoEscape", "internal/bytealg.MakeNoZero"], unfollowed := true, recurses := true, named := ["unicode/utf8.first", "unicode/utf8.acceptRanges", "internal/bytealg.MaxLen", "internal/strconv.uint64pow10", "math/bits.deBruijn32tab", "math/bits.deBruijn64tab"], apart := false, laid := [("math/bits.deBruijn32tab", laid_math_bits_deBruijn32tab), ("math/bits.deBruijn64tab", laid_math_bits_deBruijn64tab), ("internal/strconv.uint64pow10", laid_internal_strconv_uint64pow10), ("unicode/utf8.acceptRanges", laid_unicode_utf8_acceptRanges), ("unicode/utf8.first", laid_unicode_utf8_first)], narrowed := true }
def PathAnswersUptoSaid : Prop := pathAnswersUptoRow.holds Tryd.pinned (OpenSpec.upto pathAnswersSpec)

/-- 'stanchionlaw09.PathJoins', WHERE WHAT IT READS IS OF BULK AT MOST 1048576: true; the input reads as it did. -/
def pathJoinsUptoRow : OpenClaim := { program := "ytphonojjgnbpfaadoor", sum := "7ed6429e5879d2e365a3c0f808d17f76f778559a41840189caaaf73ad0381617", func := "stanchion/stanchionlaw09.PathJoins", spec := "pathJoins", inPlace := ["internal/bytealg.CountString", "internal/bytealg.IndexByteString", "internal/bytealg.IndexString", "internal/abi.NoEscape", "internal/bytealg.MakeNoZero"], unfollowed := true, recurses := true, named := ["unicode/utf8.first", "unicode/utf8.acceptRanges", "internal/bytealg.MaxLen", "internal/strconv.uint64pow10", "math/bits.deBruijn32tab", "math/bits.deBruijn64tab"], apart := false, laid := [("math/bits.deBruijn32tab", laid_math_bits_deBruijn32tab), ("math/bits.deBruijn64tab", laid_math_bits_deBruijn64tab), ("internal/strconv.uint64pow10", laid_internal_strconv_uint64pow10), ("unicode/utf8.acceptRanges", laid_unicode_utf8_acceptRanges), ("unicode/utf8.first", laid_unicode_utf8_first)], narrowed := true }
def PathJoinsUptoSaid : Prop := pathJoinsUptoRow.holds Tryd.pinned (OpenSpec.upto pathJoinsSpec)

/-- 'stanchionlaw09.PathRound', WHERE WHAT IT READS IS OF BULK AT MOST 1048576: true; the input reads as it did. -/
def pathRoundUptoRow : OpenClaim := { program := "ytphonojjgnbpfaadoor", sum := "7ed6429e5879d2e365a3c0f808d17f76f778559a41840189caaaf73ad0381617", func := "stanchion/stanchionlaw09.PathRound", spec := "pathRound", inPlace := ["internal/bytealg.CountString", "internal/bytealg.IndexByteString", "internal/bytealg.IndexString", "internal/abi.NoEscape", "internal/bytealg.MakeNoZero"], unfollowed := true, recurses := true, named := ["unicode/utf8.first", "unicode/utf8.acceptRanges", "internal/bytealg.MaxLen", "internal/strconv.uint64pow10", "math/bits.deBruijn32tab", "math/bits.deBruijn64tab"], apart := false, laid := [("math/bits.deBruijn32tab", laid_math_bits_deBruijn32tab), ("math/bits.deBruijn64tab", laid_math_bits_deBruijn64tab), ("internal/strconv.uint64pow10", laid_internal_strconv_uint64pow10), ("unicode/utf8.acceptRanges", laid_unicode_utf8_acceptRanges), ("unicode/utf8.first", laid_unicode_utf8_first)], narrowed := true }
def PathRoundUptoSaid : Prop := pathRoundUptoRow.holds Tryd.pinned (OpenSpec.upto pathRoundSpec)

/-- 'stanchionlaw09.PathNumbers', WHERE WHAT IT READS IS OF BULK AT MOST 1048576: true; the input reads as it did. -/
def pathNumbersUptoRow : OpenClaim := { program := "ytphonojjgnbpfaadoor", sum := "7ed6429e5879d2e365a3c0f808d17f76f778559a41840189caaaf73ad0381617", func := "stanchion/stanchionlaw09.PathNumbers", spec := "pathNumbers", inPlace := ["internal/bytealg.CountString", "internal/bytealg.IndexByteString", "internal/bytealg.IndexString", "internal/abi.NoEscape", "internal/bytealg.MakeNoZero"], unfollowed := true, recurses := true, named := ["unicode/utf8.first", "unicode/utf8.acceptRanges", "internal/bytealg.MaxLen", "internal/strconv.uint64pow10", "math/bits.deBruijn32tab", "math/bits.deBruijn64tab"], apart := false, laid := [("math/bits.deBruijn32tab", laid_math_bits_deBruijn32tab), ("math/bits.deBruijn64tab", laid_math_bits_deBruijn64tab), ("internal/strconv.uint64pow10", laid_internal_strconv_uint64pow10), ("unicode/utf8.acceptRanges", laid_unicode_utf8_acceptRanges), ("unicode/utf8.first", laid_unicode_utf8_first)], narrowed := true }
def PathNumbersUptoSaid : Prop := pathNumbersUptoRow.holds Tryd.pinned (OpenSpec.upto pathNumbersSpec)

/-- 'stanchionlaw09.PathWithin', WHERE WHAT IT READS IS OF BULK AT MOST 1048576: true; the input reads as it did. -/
def pathWithinUptoRow : OpenClaim := { program := "ytphonojjgnbpfaadoor", sum := "7ed6429e5879d2e365a3c0f808d17f76f778559a41840189caaaf73ad0381617", func := "stanchion/stanchionlaw09.PathWithin", spec := "pathWithin", inPlace := ["internal/bytealg.CountString", "internal/bytealg.IndexByteString", "internal/bytealg.IndexString", "internal/abi.NoEscape", "internal/bytealg.MakeNoZero"], unfollowed := true, recurses := true, named := ["unicode/utf8.first", "unicode/utf8.acceptRanges", "internal/bytealg.MaxLen", "internal/strconv.uint64pow10", "math/bits.deBruijn32tab", "math/bits.deBruijn64tab"], apart := false, laid := [("math/bits.deBruijn32tab", laid_math_bits_deBruijn32tab), ("math/bits.deBruijn64tab", laid_math_bits_deBruijn64tab), ("internal/strconv.uint64pow10", laid_internal_strconv_uint64pow10), ("unicode/utf8.acceptRanges", laid_unicode_utf8_acceptRanges), ("unicode/utf8.first", laid_unicode_utf8_first)], narrowed := true }
def PathWithinUptoSaid : Prop := pathWithinUptoRow.holds Tryd.pinned (OpenSpec.upto pathWithinSpec)

/-- 'stanchionlaw09.PathBounds', WHERE WHAT IT READS IS OF BULK AT MOST 1048576: true; the input reads as it did. -/
def pathBoundsUptoRow : OpenClaim := { program := "ytphonojjgnbpfaadoor", sum := "7ed6429e5879d2e365a3c0f808d17f76f778559a41840189caaaf73ad0381617", func := "stanchion/stanchionlaw09.PathBounds", spec := "pathBounds", inPlace := ["internal/bytealg.CountString", "internal/bytealg.IndexByteString", "internal/bytealg.IndexString", "internal/abi.NoEscape", "internal/bytealg.MakeNoZero"], unfollowed := true, recurses := true, named := ["unicode/utf8.first", "unicode/utf8.acceptRanges", "internal/bytealg.MaxLen", "internal/strconv.uint64pow10", "math/bits.deBruijn32tab", "math/bits.deBruijn64tab"], apart := false, laid := [("math/bits.deBruijn32tab", laid_math_bits_deBruijn32tab), ("math/bits.deBruijn64tab", laid_math_bits_deBruijn64tab), ("internal/strconv.uint64pow10", laid_internal_strconv_uint64pow10), ("unicode/utf8.acceptRanges", laid_unicode_utf8_acceptRanges), ("unicode/utf8.first", laid_unicode_utf8_first)], narrowed := true }
def PathBoundsUptoSaid : Prop := pathBoundsUptoRow.holds Tryd.pinned (OpenSpec.upto pathBoundsSpec)

end Rows
end Go.Proofs.YtphonojjgnbpfaaDoor
