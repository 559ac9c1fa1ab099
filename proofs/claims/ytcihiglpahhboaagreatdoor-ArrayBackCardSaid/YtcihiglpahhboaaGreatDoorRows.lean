/-
  NARROWER THAN 'FOR EVERY INPUT', by the rows' own cells (each row's printed sentence says how): ArrayRepeats: laid · ArrayWeights: laid · ArrayProducts: laid · ArrayAudiences: laid · ArrayBeams: laid · ArrayPatterns: laid · ArrayPressures: laid · ArrayMoves: laid · ArrayWalls: laid · ArrayHarmonics: laid · ArrayBacks: laid · ArrayTurns: laid · ArrayTexts: laid · ArrayBack: laid.
  DERIVED. THE GIVEN ROWS OF THIS SEAT. 14 by the template 'for every input the law returns true; each argument reads behind the call as it read before'; 0 by the template 'total and deterministic' (their statements: YtcihiglpahhboaaGreatDoorTotals.lean).
  GIVEN WITH THE SEED: the statements are not yours to turn. If you find one false, say at which input.
  Laid BY PROGRAM, IN A SANDBOX (cutbox-rows.mjs): the forced cells as the released guide's own fill.sh prints them over the translation c06e0bd2eb0b347d… (all of the seat's roots in one cut). By AI agents, Wed Nov 11 2026. No macro, syntax, notation, axiom, sorry.
-/
import Derived.Test.YtcihiglpahhboaaGreatDoorChecked
import GoSem.PinnedTables
import GoSem.Claim
import GoSem.ClaimJoined
import GoSem.ClaimMapViews
import Derived.JoinedTies
import Derived.KernelRfl
namespace Go.Proofs.YtcihiglpahhboaaGreatDoor
/- THE CELL 'sum', in the pinned program and in every row, IS THE sha256 OF THE DUMP (.gsa) THAT YtcihiglpahhboaaGreatDoorProg.lean LOADS. Nothing in Lean hashes anything: it is a label: what it is worth is what the hold of that sum in a sandbox is worth. -/
noncomputable def Tryz.pinned : Pinned := { name := "ytcihiglpahhboaagreatdoor", sum := "c06e0bd2eb0b347db1a0a0d15ec321200881e186fbfed6e0b5c6e59a79e00bf8", checked := Tryz.checked }
namespace Rows
def none {H : Type} : Left H := { results := [], args := [] }

/- WHAT THE LISTED PACKAGE-LEVEL VARIABLES READ AS WHEN THE CALL BEGINS. Each datum BY PROGRAM (the guide's laid-datum.mjs) off the statement by which the dump's own 'gosem.cut.vars' lays the variable. In a bare row this is a premise. The card (YtcihiglpahhboaaGreatDoorCards.lean) ties it to the program's text. -/
def laid_math_bits_deBruijn32tab {H : Type} : DataW H := .agg [.lit (.int .u8 0), .lit (.int .u8 1), .lit (.int .u8 28), .lit (.int .u8 2), .lit (.int .u8 29), .lit (.int .u8 14), .lit (.int .u8 24), .lit (.int .u8 3), .lit (.int .u8 30), .lit (.int .u8 22), .lit (.int .u8 20), .lit (.int .u8 15), .lit (.int .u8 25), .lit (.int .u8 17), .lit (.int .u8 4), .lit (.int .u8 8), .lit (.int .u8 31), .lit (.int .u8 27), .lit (.int .u8 13), .lit (.int .u8 23), .lit (.int .u8 21), .lit (.int .u8 19), .lit (.int .u8 16), .lit (.int .u8 7), .lit (.int .u8 26), .lit (.int .u8 12), .lit (.int .u8 18), .lit (.int .u8 6), .lit (.int .u8 11), .lit (.int .u8 5), .lit (.int .u8 10), .lit (.int .u8 9)]
def laid_math_bits_deBruijn64tab {H : Type} : DataW H := .agg [.lit (.int .u8 0), .lit (.int .u8 1), .lit (.int .u8 56), .lit (.int .u8 2), .lit (.int .u8 57), .lit (.int .u8 49), .lit (.int .u8 28), .lit (.int .u8 3), .lit (.int .u8 61), .lit (.int .u8 58), .lit (.int .u8 42), .lit (.int .u8 50), .lit (.int .u8 38), .lit (.int .u8 29), .lit (.int .u8 17), .lit (.int .u8 4), .lit (.int .u8 62), .lit (.int .u8 47), .lit (.int .u8 59), .lit (.int .u8 36), .lit (.int .u8 45), .lit (.int .u8 43), .lit (.int .u8 51), .lit (.int .u8 22), .lit (.int .u8 53), .lit (.int .u8 39), .lit (.int .u8 33), .lit (.int .u8 30), .lit (.int .u8 24), .lit (.int .u8 18), .lit (.int .u8 12), .lit (.int .u8 5), .lit (.int .u8 63), .lit (.int .u8 55), .lit (.int .u8 48), .lit (.int .u8 27), .lit (.int .u8 60), .lit (.int .u8 41), .lit (.int .u8 37), .lit (.int .u8 16), .lit (.int .u8 46), .lit (.int .u8 35), .lit (.int .u8 44), .lit (.int .u8 21), .lit (.int .u8 52), .lit (.int .u8 32), .lit (.int .u8 23), .lit (.int .u8 11), .lit (.int .u8 54), .lit (.int .u8 26), .lit (.int .u8 40), .lit (.int .u8 15), .lit (.int .u8 34), .lit (.int .u8 20), .lit (.int .u8 31), .lit (.int .u8 10), .lit (.int .u8 25), .lit (.int .u8 14), .lit (.int .u8 19), .lit (.int .u8 9), .lit (.int .u8 13), .lit (.int .u8 8), .lit (.int .u8 7), .lit (.int .u8 6)]
def laid_internal_strconv_uint64pow10 {H : Type} : DataW H := .agg [.lit (.int .u64 1), .lit (.int .u64 10), .lit (.int .u64 100), .lit (.int .u64 1000), .lit (.int .u64 10000), .lit (.int .u64 100000), .lit (.int .u64 1000000), .lit (.int .u64 10000000), .lit (.int .u64 100000000), .lit (.int .u64 1000000000), .lit (.int .u64 10000000000), .lit (.int .u64 100000000000), .lit (.int .u64 1000000000000), .lit (.int .u64 10000000000000), .lit (.int .u64 100000000000000), .lit (.int .u64 1000000000000000), .lit (.int .u64 10000000000000000), .lit (.int .u64 100000000000000000), .lit (.int .u64 1000000000000000000), .lit (.int .u64 10000000000000000000)]
def laid_woofer_array_powers {H : Type} : DataW H := .agg [.agg [.lit (.int .i64 1), .lit (.int .i64 0)], .agg [.lit (.int .i64 0), .lit (.int .i64 1)], .agg [.lit (.int .i64 (-1)), .lit (.int .i64 0)], .agg [.lit (.int .i64 0), .lit (.int .i64 (-1))]]
def laid_woofer_array_steps {H : Type} : DataW H := .agg [.agg [.lit (.int .i64 1), .lit (.int .i64 0)], .agg [.lit (.int .i64 1), .lit (.int .i64 1)], .agg [.lit (.int .i64 0), .lit (.int .i64 1)], .agg [.lit (.int .i64 (-1)), .lit (.int .i64 1)], .agg [.lit (.int .i64 (-1)), .lit (.int .i64 0)], .agg [.lit (.int .i64 (-1)), .lit (.int .i64 (-1))], .agg [.lit (.int .i64 0), .lit (.int .i64 (-1))], .agg [.lit (.int .i64 1), .lit (.int .i64 (-1))]]
def laid_unicode_utf8_acceptRanges {H : Type} : DataW H := .agg [.agg [.lit (.int .u8 128), .lit (.int .u8 191)], .agg [.lit (.int .u8 160), .lit (.int .u8 191)], .agg [.lit (.int .u8 128), .lit (.int .u8 159)], .agg [.lit (.int .u8 144), .lit (.int .u8 191)], .agg [.lit (.int .u8 128), .lit (.int .u8 143)], .agg [.lit (.int .u8 0), .lit (.int .u8 0)], .agg [.lit (.int .u8 0), .lit (.int .u8 0)], .agg [.lit (.int .u8 0), .lit (.int .u8 0)], .agg [.lit (.int .u8 0), .lit (.int .u8 0)], .agg [.lit (.int .u8 0), .lit (.int .u8 0)], .agg [.lit (.int .u8 0), .lit (.int .u8 0)], .agg [.lit (.int .u8 0), .lit (.int .u8 0)], .agg [.lit (.int .u8 0), .lit (.int .u8 0)], .agg [.lit (.int .u8 0), .lit (.int .u8 0)], .agg [.lit (.int .u8 0), .lit (.int .u8 0)], .agg [.lit (.int .u8 0), .lit (.int .u8 0)]]
def laid_strconv_ErrRange {H : Type} : DataW H := .iface "*errors.errorString" (.ptr (.agg [.lit (.string [118, 97, 108, 117, 101, 32, 111, 117, 116, 32, 111, 102, 32, 114, 97, 110, 103, 101])]))
def laid_strconv_ErrSyntax {H : Type} : DataW H := .iface "*errors.errorString" (.ptr (.agg [.lit (.string [105, 110, 118, 97, 108, 105, 100, 32, 115, 121, 110, 116, 97, 120])]))
/-- One of Go's own tables, pinned by name: the form's constant. -/
def laid_unicode_utf8_first : DataW Unit := Go.Pinned.utf8First

/-- 'wooferlaw06.ArrayRepeats': WHATEVER THE INPUT: true; the input reads as it did. -/
def arrayRepeatsSpec : ChangeSpec := { name := "arrayRepeats", fn := fun _ => fun
  | [d1, d2, d3] => { results := [.lit (.bool true)], args := [d1, d2, d3] }
  | _ => none }
def arrayRepeatsRow : OpenClaim := { program := "ytcihiglpahhboaagreatdoor", sum := "c06e0bd2eb0b347db1a0a0d15ec321200881e186fbfed6e0b5c6e59a79e00bf8", func := "woofer/wooferlaw06.ArrayRepeats", spec := "arrayRepeats", inPlace := ["internal/abi.NoEscape", "internal/bytealg.MakeNoZero"], unfollowed := true, recurses := true, named := ["woofer/array.powers", "woofer/array.steps", "internal/strconv.uint64pow10", "math/bits.deBruijn32tab", "math/bits.deBruijn64tab"], plainKeys := false, apart := false, laid := [("math/bits.deBruijn32tab", laid_math_bits_deBruijn32tab), ("math/bits.deBruijn64tab", laid_math_bits_deBruijn64tab), ("internal/strconv.uint64pow10", laid_internal_strconv_uint64pow10), ("woofer/array.powers", laid_woofer_array_powers), ("woofer/array.steps", laid_woofer_array_steps)] }
def ArrayRepeatsSaid : Prop := arrayRepeatsRow.holds Tryz.pinned (OpenSpec.ofChange arrayRepeatsSpec)

/-- ITS FALSE NEIGHBOUR: 'it returns false'. Refute it at one input. -/
def arrayRepeatsWrong : ChangeSpec := { name := "arrayRepeats", fn := fun _ => fun
  | [d1, d2, d3] => { results := [.lit (.bool false)], args := [d1, d2, d3] }
  | _ => none }
def ArrayRepeatsWrongFalsely : Prop := arrayRepeatsRow.holds Tryz.pinned (OpenSpec.ofChange arrayRepeatsWrong)

/-- 'wooferlaw06.ArrayWeights': WHATEVER THE INPUT: true; the input reads as it did. -/
def arrayWeightsSpec : ChangeSpec := { name := "arrayWeights", fn := fun _ => fun
  | [d] => { results := [.lit (.bool true)], args := [d] }
  | _ => none }
def arrayWeightsRow : OpenClaim := { program := "ytcihiglpahhboaagreatdoor", sum := "c06e0bd2eb0b347db1a0a0d15ec321200881e186fbfed6e0b5c6e59a79e00bf8", func := "woofer/wooferlaw06.ArrayWeights", spec := "arrayWeights", inPlace := ["internal/abi.NoEscape", "internal/bytealg.MakeNoZero"], unfollowed := true, recurses := true, named := ["woofer/array.powers", "woofer/array.steps", "internal/strconv.uint64pow10", "math/bits.deBruijn32tab", "math/bits.deBruijn64tab"], plainKeys := false, apart := false, laid := [("math/bits.deBruijn32tab", laid_math_bits_deBruijn32tab), ("math/bits.deBruijn64tab", laid_math_bits_deBruijn64tab), ("internal/strconv.uint64pow10", laid_internal_strconv_uint64pow10), ("woofer/array.powers", laid_woofer_array_powers), ("woofer/array.steps", laid_woofer_array_steps)] }
def ArrayWeightsSaid : Prop := arrayWeightsRow.holds Tryz.pinned (OpenSpec.ofChange arrayWeightsSpec)

/-- ITS FALSE NEIGHBOUR: 'it returns false'. Refute it at one input. -/
def arrayWeightsWrong : ChangeSpec := { name := "arrayWeights", fn := fun _ => fun
  | [d] => { results := [.lit (.bool false)], args := [d] }
  | _ => none }
def ArrayWeightsWrongFalsely : Prop := arrayWeightsRow.holds Tryz.pinned (OpenSpec.ofChange arrayWeightsWrong)

/-- 'wooferlaw06.ArrayProducts': WHATEVER THE INPUT: true; the input reads as it did. -/
def arrayProductsSpec : ChangeSpec := { name := "arrayProducts", fn := fun _ => fun
  | [d1, d2, d3] => { results := [.lit (.bool true)], args := [d1, d2, d3] }
  | _ => none }
def arrayProductsRow : OpenClaim := { program := "ytcihiglpahhboaagreatdoor", sum := "c06e0bd2eb0b347db1a0a0d15ec321200881e186fbfed6e0b5c6e59a79e00bf8", func := "woofer/wooferlaw06.ArrayProducts", spec := "arrayProducts", inPlace := ["internal/abi.NoEscape", "internal/bytealg.MakeNoZero"], unfollowed := true, recurses := true, named := ["woofer/array.powers", "woofer/array.steps", "internal/strconv.uint64pow10", "math/bits.deBruijn32tab", "math/bits.deBruijn64tab"], plainKeys := false, apart := false, laid := [("math/bits.deBruijn32tab", laid_math_bits_deBruijn32tab), ("math/bits.deBruijn64tab", laid_math_bits_deBruijn64tab), ("internal/strconv.uint64pow10", laid_internal_strconv_uint64pow10), ("woofer/array.powers", laid_woofer_array_powers), ("woofer/array.steps", laid_woofer_array_steps)] }
def ArrayProductsSaid : Prop := arrayProductsRow.holds Tryz.pinned (OpenSpec.ofChange arrayProductsSpec)

/-- ITS FALSE NEIGHBOUR: 'it returns false'. Refute it at one input. -/
def arrayProductsWrong : ChangeSpec := { name := "arrayProducts", fn := fun _ => fun
  | [d1, d2, d3] => { results := [.lit (.bool false)], args := [d1, d2, d3] }
  | _ => none }
def ArrayProductsWrongFalsely : Prop := arrayProductsRow.holds Tryz.pinned (OpenSpec.ofChange arrayProductsWrong)

/-- 'wooferlaw06.ArrayAudiences': WHATEVER THE INPUT: true; the input reads as it did. -/
def arrayAudiencesSpec : ChangeSpec := { name := "arrayAudiences", fn := fun _ => fun
  | [d1, d2, d3] => { results := [.lit (.bool true)], args := [d1, d2, d3] }
  | _ => none }
def arrayAudiencesRow : OpenClaim := { program := "ytcihiglpahhboaagreatdoor", sum := "c06e0bd2eb0b347db1a0a0d15ec321200881e186fbfed6e0b5c6e59a79e00bf8", func := "woofer/wooferlaw06.ArrayAudiences", spec := "arrayAudiences", inPlace := ["internal/abi.NoEscape", "internal/bytealg.MakeNoZero"], unfollowed := true, recurses := true, named := ["woofer/array.powers", "woofer/array.steps", "internal/strconv.uint64pow10", "math/bits.deBruijn32tab", "math/bits.deBruijn64tab"], plainKeys := false, apart := false, laid := [("math/bits.deBruijn32tab", laid_math_bits_deBruijn32tab), ("math/bits.deBruijn64tab", laid_math_bits_deBruijn64tab), ("internal/strconv.uint64pow10", laid_internal_strconv_uint64pow10), ("woofer/array.powers", laid_woofer_array_powers), ("woofer/array.steps", laid_woofer_array_steps)] }
def ArrayAudiencesSaid : Prop := arrayAudiencesRow.holds Tryz.pinned (OpenSpec.ofChange arrayAudiencesSpec)

/-- ITS FALSE NEIGHBOUR: 'it returns false'. Refute it at one input. -/
def arrayAudiencesWrong : ChangeSpec := { name := "arrayAudiences", fn := fun _ => fun
  | [d1, d2, d3] => { results := [.lit (.bool false)], args := [d1, d2, d3] }
  | _ => none }
def ArrayAudiencesWrongFalsely : Prop := arrayAudiencesRow.holds Tryz.pinned (OpenSpec.ofChange arrayAudiencesWrong)

/-- 'wooferlaw06.ArrayBeams': WHATEVER THE INPUT: true; the input reads as it did. -/
def arrayBeamsSpec : ChangeSpec := { name := "arrayBeams", fn := fun _ => fun
  | [d1, d2, d3] => { results := [.lit (.bool true)], args := [d1, d2, d3] }
  | _ => none }
def arrayBeamsRow : OpenClaim := { program := "ytcihiglpahhboaagreatdoor", sum := "c06e0bd2eb0b347db1a0a0d15ec321200881e186fbfed6e0b5c6e59a79e00bf8", func := "woofer/wooferlaw06.ArrayBeams", spec := "arrayBeams", inPlace := ["internal/abi.NoEscape", "internal/bytealg.MakeNoZero"], unfollowed := true, recurses := true, named := ["woofer/array.powers", "woofer/array.steps", "internal/strconv.uint64pow10", "math/bits.deBruijn32tab", "math/bits.deBruijn64tab"], plainKeys := false, apart := false, laid := [("math/bits.deBruijn32tab", laid_math_bits_deBruijn32tab), ("math/bits.deBruijn64tab", laid_math_bits_deBruijn64tab), ("internal/strconv.uint64pow10", laid_internal_strconv_uint64pow10), ("woofer/array.powers", laid_woofer_array_powers), ("woofer/array.steps", laid_woofer_array_steps)] }
def ArrayBeamsSaid : Prop := arrayBeamsRow.holds Tryz.pinned (OpenSpec.ofChange arrayBeamsSpec)

/-- ITS FALSE NEIGHBOUR: 'it returns false'. Refute it at one input. -/
def arrayBeamsWrong : ChangeSpec := { name := "arrayBeams", fn := fun _ => fun
  | [d1, d2, d3] => { results := [.lit (.bool false)], args := [d1, d2, d3] }
  | _ => none }
def ArrayBeamsWrongFalsely : Prop := arrayBeamsRow.holds Tryz.pinned (OpenSpec.ofChange arrayBeamsWrong)

/-- 'wooferlaw06.ArrayPatterns': WHATEVER THE INPUT: true; the input reads as it did. -/
def arrayPatternsSpec : ChangeSpec := { name := "arrayPatterns", fn := fun _ => fun
  | [d1, d2] => { results := [.lit (.bool true)], args := [d1, d2] }
  | _ => none }
def arrayPatternsRow : OpenClaim := { program := "ytcihiglpahhboaagreatdoor", sum := "c06e0bd2eb0b347db1a0a0d15ec321200881e186fbfed6e0b5c6e59a79e00bf8", func := "woofer/wooferlaw06.ArrayPatterns", spec := "arrayPatterns", inPlace := ["internal/abi.NoEscape", "internal/bytealg.MakeNoZero"], unfollowed := true, recurses := true, named := ["woofer/array.powers", "woofer/array.steps", "internal/strconv.uint64pow10", "math/bits.deBruijn32tab", "math/bits.deBruijn64tab"], plainKeys := false, apart := false, laid := [("math/bits.deBruijn32tab", laid_math_bits_deBruijn32tab), ("math/bits.deBruijn64tab", laid_math_bits_deBruijn64tab), ("internal/strconv.uint64pow10", laid_internal_strconv_uint64pow10), ("woofer/array.powers", laid_woofer_array_powers), ("woofer/array.steps", laid_woofer_array_steps)] }
def ArrayPatternsSaid : Prop := arrayPatternsRow.holds Tryz.pinned (OpenSpec.ofChange arrayPatternsSpec)

/-- ITS FALSE NEIGHBOUR: 'it returns false'. Refute it at one input. -/
def arrayPatternsWrong : ChangeSpec := { name := "arrayPatterns", fn := fun _ => fun
  | [d1, d2] => { results := [.lit (.bool false)], args := [d1, d2] }
  | _ => none }
def ArrayPatternsWrongFalsely : Prop := arrayPatternsRow.holds Tryz.pinned (OpenSpec.ofChange arrayPatternsWrong)

/-- 'wooferlaw06.ArrayPressures': WHATEVER THE INPUT: true; the input reads as it did. -/
def arrayPressuresSpec : ChangeSpec := { name := "arrayPressures", fn := fun _ => fun
  | [d1, d2, d3] => { results := [.lit (.bool true)], args := [d1, d2, d3] }
  | _ => none }
def arrayPressuresRow : OpenClaim := { program := "ytcihiglpahhboaagreatdoor", sum := "c06e0bd2eb0b347db1a0a0d15ec321200881e186fbfed6e0b5c6e59a79e00bf8", func := "woofer/wooferlaw06.ArrayPressures", spec := "arrayPressures", inPlace := ["internal/abi.NoEscape", "internal/bytealg.MakeNoZero"], unfollowed := true, recurses := true, named := ["woofer/array.powers", "woofer/array.steps", "internal/strconv.uint64pow10", "math/bits.deBruijn32tab", "math/bits.deBruijn64tab"], plainKeys := false, apart := false, laid := [("math/bits.deBruijn32tab", laid_math_bits_deBruijn32tab), ("math/bits.deBruijn64tab", laid_math_bits_deBruijn64tab), ("internal/strconv.uint64pow10", laid_internal_strconv_uint64pow10), ("woofer/array.powers", laid_woofer_array_powers), ("woofer/array.steps", laid_woofer_array_steps)] }
def ArrayPressuresSaid : Prop := arrayPressuresRow.holds Tryz.pinned (OpenSpec.ofChange arrayPressuresSpec)

/-- ITS FALSE NEIGHBOUR: 'it returns false'. Refute it at one input. -/
def arrayPressuresWrong : ChangeSpec := { name := "arrayPressures", fn := fun _ => fun
  | [d1, d2, d3] => { results := [.lit (.bool false)], args := [d1, d2, d3] }
  | _ => none }
def ArrayPressuresWrongFalsely : Prop := arrayPressuresRow.holds Tryz.pinned (OpenSpec.ofChange arrayPressuresWrong)

/-- 'wooferlaw06.ArrayMoves': WHATEVER THE INPUT: true; the input reads as it did. -/
def arrayMovesSpec : ChangeSpec := { name := "arrayMoves", fn := fun _ => fun
  | [d1, d2] => { results := [.lit (.bool true)], args := [d1, d2] }
  | _ => none }
def arrayMovesRow : OpenClaim := { program := "ytcihiglpahhboaagreatdoor", sum := "c06e0bd2eb0b347db1a0a0d15ec321200881e186fbfed6e0b5c6e59a79e00bf8", func := "woofer/wooferlaw06.ArrayMoves", spec := "arrayMoves", inPlace := ["internal/abi.NoEscape", "internal/bytealg.MakeNoZero"], unfollowed := true, recurses := true, named := ["woofer/array.powers", "woofer/array.steps", "internal/strconv.uint64pow10", "math/bits.deBruijn32tab", "math/bits.deBruijn64tab"], plainKeys := false, apart := false, laid := [("math/bits.deBruijn32tab", laid_math_bits_deBruijn32tab), ("math/bits.deBruijn64tab", laid_math_bits_deBruijn64tab), ("internal/strconv.uint64pow10", laid_internal_strconv_uint64pow10), ("woofer/array.powers", laid_woofer_array_powers), ("woofer/array.steps", laid_woofer_array_steps)] }
def ArrayMovesSaid : Prop := arrayMovesRow.holds Tryz.pinned (OpenSpec.ofChange arrayMovesSpec)

/-- ITS FALSE NEIGHBOUR: 'it returns false'. Refute it at one input. -/
def arrayMovesWrong : ChangeSpec := { name := "arrayMoves", fn := fun _ => fun
  | [d1, d2] => { results := [.lit (.bool false)], args := [d1, d2] }
  | _ => none }
def ArrayMovesWrongFalsely : Prop := arrayMovesRow.holds Tryz.pinned (OpenSpec.ofChange arrayMovesWrong)

/-- 'wooferlaw06.ArrayWalls': WHATEVER THE INPUT: true; the input reads as it did. -/
def arrayWallsSpec : ChangeSpec := { name := "arrayWalls", fn := fun _ => fun
  | [d1, d2] => { results := [.lit (.bool true)], args := [d1, d2] }
  | _ => none }
def arrayWallsRow : OpenClaim := { program := "ytcihiglpahhboaagreatdoor", sum := "c06e0bd2eb0b347db1a0a0d15ec321200881e186fbfed6e0b5c6e59a79e00bf8", func := "woofer/wooferlaw06.ArrayWalls", spec := "arrayWalls", inPlace := ["internal/abi.NoEscape", "internal/bytealg.MakeNoZero"], unfollowed := true, recurses := true, named := ["woofer/array.powers", "woofer/array.steps", "internal/strconv.uint64pow10", "math/bits.deBruijn32tab", "math/bits.deBruijn64tab"], plainKeys := false, apart := false, laid := [("math/bits.deBruijn32tab", laid_math_bits_deBruijn32tab), ("math/bits.deBruijn64tab", laid_math_bits_deBruijn64tab), ("internal/strconv.uint64pow10", laid_internal_strconv_uint64pow10), ("woofer/array.powers", laid_woofer_array_powers), ("woofer/array.steps", laid_woofer_array_steps)] }
def ArrayWallsSaid : Prop := arrayWallsRow.holds Tryz.pinned (OpenSpec.ofChange arrayWallsSpec)

/-- ITS FALSE NEIGHBOUR: 'it returns false'. Refute it at one input. -/
def arrayWallsWrong : ChangeSpec := { name := "arrayWalls", fn := fun _ => fun
  | [d1, d2] => { results := [.lit (.bool false)], args := [d1, d2] }
  | _ => none }
def ArrayWallsWrongFalsely : Prop := arrayWallsRow.holds Tryz.pinned (OpenSpec.ofChange arrayWallsWrong)

/-- 'wooferlaw06.ArrayHarmonics': WHATEVER THE INPUT: true; the input reads as it did. -/
def arrayHarmonicsSpec : ChangeSpec := { name := "arrayHarmonics", fn := fun _ => fun
  | [d] => { results := [.lit (.bool true)], args := [d] }
  | _ => none }
def arrayHarmonicsRow : OpenClaim := { program := "ytcihiglpahhboaagreatdoor", sum := "c06e0bd2eb0b347db1a0a0d15ec321200881e186fbfed6e0b5c6e59a79e00bf8", func := "woofer/wooferlaw06.ArrayHarmonics", spec := "arrayHarmonics", inPlace := ["internal/abi.NoEscape", "internal/bytealg.MakeNoZero"], unfollowed := true, recurses := true, named := ["woofer/array.powers", "woofer/array.steps", "internal/strconv.uint64pow10", "math/bits.deBruijn32tab", "math/bits.deBruijn64tab"], plainKeys := false, apart := false, laid := [("math/bits.deBruijn32tab", laid_math_bits_deBruijn32tab), ("math/bits.deBruijn64tab", laid_math_bits_deBruijn64tab), ("internal/strconv.uint64pow10", laid_internal_strconv_uint64pow10), ("woofer/array.powers", laid_woofer_array_powers), ("woofer/array.steps", laid_woofer_array_steps)] }
def ArrayHarmonicsSaid : Prop := arrayHarmonicsRow.holds Tryz.pinned (OpenSpec.ofChange arrayHarmonicsSpec)

/-- ITS FALSE NEIGHBOUR: 'it returns false'. Refute it at one input. -/
def arrayHarmonicsWrong : ChangeSpec := { name := "arrayHarmonics", fn := fun _ => fun
  | [d] => { results := [.lit (.bool false)], args := [d] }
  | _ => none }
def ArrayHarmonicsWrongFalsely : Prop := arrayHarmonicsRow.holds Tryz.pinned (OpenSpec.ofChange arrayHarmonicsWrong)

/-- 'wooferlaw06.ArrayBacks': WHATEVER THE INPUT: true; the input reads as it did. -/
def arrayBacksSpec : ChangeSpec := { name := "arrayBacks", fn := fun _ => fun
  | [d] => { results := [.lit (.bool true)], args := [d] }
  | _ => none }
def arrayBacksRow : OpenClaim := { program := "ytcihiglpahhboaagreatdoor", sum := "c06e0bd2eb0b347db1a0a0d15ec321200881e186fbfed6e0b5c6e59a79e00bf8", func := "woofer/wooferlaw06.ArrayBacks", spec := "arrayBacks", inPlace := ["internal/abi.NoEscape", "internal/bytealg.MakeNoZero"], unfollowed := true, recurses := true, named := ["woofer/array.powers", "woofer/array.steps", "internal/strconv.uint64pow10", "math/bits.deBruijn32tab", "math/bits.deBruijn64tab"], plainKeys := false, apart := false, laid := [("math/bits.deBruijn32tab", laid_math_bits_deBruijn32tab), ("math/bits.deBruijn64tab", laid_math_bits_deBruijn64tab), ("internal/strconv.uint64pow10", laid_internal_strconv_uint64pow10), ("woofer/array.powers", laid_woofer_array_powers), ("woofer/array.steps", laid_woofer_array_steps)] }
def ArrayBacksSaid : Prop := arrayBacksRow.holds Tryz.pinned (OpenSpec.ofChange arrayBacksSpec)

/-- ITS FALSE NEIGHBOUR: 'it returns false'. Refute it at one input. -/
def arrayBacksWrong : ChangeSpec := { name := "arrayBacks", fn := fun _ => fun
  | [d] => { results := [.lit (.bool false)], args := [d] }
  | _ => none }
def ArrayBacksWrongFalsely : Prop := arrayBacksRow.holds Tryz.pinned (OpenSpec.ofChange arrayBacksWrong)

/-- 'wooferlaw06.ArrayTurns': WHATEVER THE INPUT: true; the input reads as it did. -/
def arrayTurnsSpec : ChangeSpec := { name := "arrayTurns", fn := fun _ => fun
  | [d1, d2] => { results := [.lit (.bool true)], args := [d1, d2] }
  | _ => none }
def arrayTurnsRow : OpenClaim := { program := "ytcihiglpahhboaagreatdoor", sum := "c06e0bd2eb0b347db1a0a0d15ec321200881e186fbfed6e0b5c6e59a79e00bf8", func := "woofer/wooferlaw06.ArrayTurns", spec := "arrayTurns", inPlace := ["internal/abi.NoEscape", "internal/bytealg.MakeNoZero"], unfollowed := true, recurses := true, named := ["woofer/array.powers", "woofer/array.steps", "internal/strconv.uint64pow10", "math/bits.deBruijn32tab", "math/bits.deBruijn64tab"], plainKeys := false, apart := false, laid := [("math/bits.deBruijn32tab", laid_math_bits_deBruijn32tab), ("math/bits.deBruijn64tab", laid_math_bits_deBruijn64tab), ("internal/strconv.uint64pow10", laid_internal_strconv_uint64pow10), ("woofer/array.powers", laid_woofer_array_powers), ("woofer/array.steps", laid_woofer_array_steps)] }
def ArrayTurnsSaid : Prop := arrayTurnsRow.holds Tryz.pinned (OpenSpec.ofChange arrayTurnsSpec)

/-- ITS FALSE NEIGHBOUR: 'it returns false'. Refute it at one input. -/
def arrayTurnsWrong : ChangeSpec := { name := "arrayTurns", fn := fun _ => fun
  | [d1, d2] => { results := [.lit (.bool false)], args := [d1, d2] }
  | _ => none }
def ArrayTurnsWrongFalsely : Prop := arrayTurnsRow.holds Tryz.pinned (OpenSpec.ofChange arrayTurnsWrong)

/-- 'wooferlaw06.ArrayTexts': WHATEVER THE INPUT: true; the input reads as it did. -/
def arrayTextsSpec : ChangeSpec := { name := "arrayTexts", fn := fun _ => fun
  | [d1, d2] => { results := [.lit (.bool true)], args := [d1, d2] }
  | _ => none }
def arrayTextsRow : OpenClaim := { program := "ytcihiglpahhboaagreatdoor", sum := "c06e0bd2eb0b347db1a0a0d15ec321200881e186fbfed6e0b5c6e59a79e00bf8", func := "woofer/wooferlaw06.ArrayTexts", spec := "arrayTexts", inPlace := ["internal/abi.NoEscape", "internal/bytealg.MakeNoZero", "internal/bytealg.IndexByteString", "internal/bytealg.IndexString", "internal/bytealg.CountString"], unfollowed := true, recurses := true, named := ["woofer/array.powers", "woofer/array.steps", "internal/strconv.uint64pow10", "math/bits.deBruijn32tab", "math/bits.deBruijn64tab", "internal/bytealg.MaxLen", "unicode/utf8.first", "unicode/utf8.acceptRanges", "strconv.ErrSyntax", "strconv.ErrRange"], plainKeys := false, apart := false, laid := [("math/bits.deBruijn32tab", laid_math_bits_deBruijn32tab), ("math/bits.deBruijn64tab", laid_math_bits_deBruijn64tab), ("internal/strconv.uint64pow10", laid_internal_strconv_uint64pow10), ("unicode/utf8.acceptRanges", laid_unicode_utf8_acceptRanges), ("strconv.ErrRange", laid_strconv_ErrRange), ("strconv.ErrSyntax", laid_strconv_ErrSyntax), ("woofer/array.powers", laid_woofer_array_powers), ("woofer/array.steps", laid_woofer_array_steps), ("unicode/utf8.first", laid_unicode_utf8_first)] }
def ArrayTextsSaid : Prop := arrayTextsRow.holds Tryz.pinned (OpenSpec.ofChange arrayTextsSpec)

/-- ITS FALSE NEIGHBOUR: 'it returns false'. Refute it at one input. -/
def arrayTextsWrong : ChangeSpec := { name := "arrayTexts", fn := fun _ => fun
  | [d1, d2] => { results := [.lit (.bool false)], args := [d1, d2] }
  | _ => none }
def ArrayTextsWrongFalsely : Prop := arrayTextsRow.holds Tryz.pinned (OpenSpec.ofChange arrayTextsWrong)

/-- 'wooferlaw06.ArrayBack': WHATEVER THE INPUT: true; the input reads as it did. -/
def arrayBackSpec : ChangeSpec := { name := "arrayBack", fn := fun _ => fun
  | [d1, d2] => { results := [.lit (.bool true)], args := [d1, d2] }
  | _ => none }
def arrayBackRow : OpenClaim := { program := "ytcihiglpahhboaagreatdoor", sum := "c06e0bd2eb0b347db1a0a0d15ec321200881e186fbfed6e0b5c6e59a79e00bf8", func := "woofer/wooferlaw06.ArrayBack", spec := "arrayBack", inPlace := ["internal/abi.NoEscape", "internal/bytealg.MakeNoZero", "internal/bytealg.IndexByteString", "internal/bytealg.IndexString", "internal/bytealg.CountString"], unfollowed := true, recurses := true, named := ["woofer/array.powers", "woofer/array.steps", "internal/strconv.uint64pow10", "math/bits.deBruijn32tab", "math/bits.deBruijn64tab", "internal/bytealg.MaxLen", "unicode/utf8.first", "unicode/utf8.acceptRanges", "strconv.ErrSyntax", "strconv.ErrRange"], plainKeys := false, apart := false, laid := [("math/bits.deBruijn32tab", laid_math_bits_deBruijn32tab), ("math/bits.deBruijn64tab", laid_math_bits_deBruijn64tab), ("internal/strconv.uint64pow10", laid_internal_strconv_uint64pow10), ("unicode/utf8.acceptRanges", laid_unicode_utf8_acceptRanges), ("strconv.ErrRange", laid_strconv_ErrRange), ("strconv.ErrSyntax", laid_strconv_ErrSyntax), ("woofer/array.powers", laid_woofer_array_powers), ("woofer/array.steps", laid_woofer_array_steps), ("unicode/utf8.first", laid_unicode_utf8_first)] }
def ArrayBackSaid : Prop := arrayBackRow.holds Tryz.pinned (OpenSpec.ofChange arrayBackSpec)

/-- ITS FALSE NEIGHBOUR: 'it returns false'. Refute it at one input. -/
def arrayBackWrong : ChangeSpec := { name := "arrayBack", fn := fun _ => fun
  | [d1, d2] => { results := [.lit (.bool false)], args := [d1, d2] }
  | _ => none }
def ArrayBackWrongFalsely : Prop := arrayBackRow.holds Tryz.pinned (OpenSpec.ofChange arrayBackWrong)

/- THE SECOND FORM. 'bulk': how many values and letters a reading holds, each counted each time it is reached (what is shared counts as often as it is met; a slice's spare places count too). A statement '..UptoSaid' is the law's where the arguments, and the package variables that the reading takes, are together of bulk at most 1048576: NARROWER than '..Said'. Prove '..Said' where nothing that the law and all that it calls make is longer than what came in: it says more and counts as full. Else prove '..UptoSaid'. A law counts once. -/
mutual
def uptoBulk {H : Type} : DataW H → Nat
  | .lit (.string bytes) => bytes.length + 1
  | .lit _ => 1
  | .nil => 1
  | .ptr d => uptoBulk d + 1
  | .slice elems spare => uptoBulkAll elems + uptoBulkAll spare + 1
  | .agg parts => uptoBulkAll parts + 1
  | .iface _ d => uptoBulk d + 1
  | .map entries => uptoBulkEntries entries + 1
  | .held _ => 1
def uptoBulkAll {H : Type} : List (DataW H) → Nat
  | [] => 0
  | d :: r => uptoBulk d + uptoBulkAll r
def uptoBulkEntries {H : Type} : List (Lit × DataW H) → Nat
  | [] => 0
  | x :: r => uptoBulkEntry x + uptoBulkEntries r
def uptoBulkEntry {H : Type} : Lit × DataW H → Nat
  | (.string bytes, d) => bytes.length + uptoBulk d + 1
  | (_, d) => uptoBulk d + 1
 end
def uptoSmall : (H : Type) → List (DataW H) → Bool := fun _ ds => decide (uptoBulkAll ds ≤ 1048576)
def OpenSpec.upto (s : _root_.Go.ChangeSpec) : _root_.Go.OpenSpec := { _root_.Go.OpenSpec.ofChange s with cond := some uptoSmall }

/-- 'wooferlaw06.ArrayRepeats', WHERE WHAT IT READS IS OF BULK AT MOST 1048576: true; the input reads as it did. -/
def arrayRepeatsUptoRow : OpenClaim := { program := "ytcihiglpahhboaagreatdoor", sum := "c06e0bd2eb0b347db1a0a0d15ec321200881e186fbfed6e0b5c6e59a79e00bf8", func := "woofer/wooferlaw06.ArrayRepeats", spec := "arrayRepeats", inPlace := ["internal/abi.NoEscape", "internal/bytealg.MakeNoZero"], unfollowed := true, recurses := true, named := ["woofer/array.powers", "woofer/array.steps", "internal/strconv.uint64pow10", "math/bits.deBruijn32tab", "math/bits.deBruijn64tab"], plainKeys := false, apart := false, laid := [("math/bits.deBruijn32tab", laid_math_bits_deBruijn32tab), ("math/bits.deBruijn64tab", laid_math_bits_deBruijn64tab), ("internal/strconv.uint64pow10", laid_internal_strconv_uint64pow10), ("woofer/array.powers", laid_woofer_array_powers), ("woofer/array.steps", laid_woofer_array_steps)], narrowed := true }
def ArrayRepeatsUptoSaid : Prop := arrayRepeatsUptoRow.holds Tryz.pinned (OpenSpec.upto arrayRepeatsSpec)

/-- 'wooferlaw06.ArrayWeights', WHERE WHAT IT READS IS OF BULK AT MOST 1048576: true; the input reads as it did. -/
def arrayWeightsUptoRow : OpenClaim := { program := "ytcihiglpahhboaagreatdoor", sum := "c06e0bd2eb0b347db1a0a0d15ec321200881e186fbfed6e0b5c6e59a79e00bf8", func := "woofer/wooferlaw06.ArrayWeights", spec := "arrayWeights", inPlace := ["internal/abi.NoEscape", "internal/bytealg.MakeNoZero"], unfollowed := true, recurses := true, named := ["woofer/array.powers", "woofer/array.steps", "internal/strconv.uint64pow10", "math/bits.deBruijn32tab", "math/bits.deBruijn64tab"], plainKeys := false, apart := false, laid := [("math/bits.deBruijn32tab", laid_math_bits_deBruijn32tab), ("math/bits.deBruijn64tab", laid_math_bits_deBruijn64tab), ("internal/strconv.uint64pow10", laid_internal_strconv_uint64pow10), ("woofer/array.powers", laid_woofer_array_powers), ("woofer/array.steps", laid_woofer_array_steps)], narrowed := true }
def ArrayWeightsUptoSaid : Prop := arrayWeightsUptoRow.holds Tryz.pinned (OpenSpec.upto arrayWeightsSpec)

/-- 'wooferlaw06.ArrayProducts', WHERE WHAT IT READS IS OF BULK AT MOST 1048576: true; the input reads as it did. -/
def arrayProductsUptoRow : OpenClaim := { program := "ytcihiglpahhboaagreatdoor", sum := "c06e0bd2eb0b347db1a0a0d15ec321200881e186fbfed6e0b5c6e59a79e00bf8", func := "woofer/wooferlaw06.ArrayProducts", spec := "arrayProducts", inPlace := ["internal/abi.NoEscape", "internal/bytealg.MakeNoZero"], unfollowed := true, recurses := true, named := ["woofer/array.powers", "woofer/array.steps", "internal/strconv.uint64pow10", "math/bits.deBruijn32tab", "math/bits.deBruijn64tab"], plainKeys := false, apart := false, laid := [("math/bits.deBruijn32tab", laid_math_bits_deBruijn32tab), ("math/bits.deBruijn64tab", laid_math_bits_deBruijn64tab), ("internal/strconv.uint64pow10", laid_internal_strconv_uint64pow10), ("woofer/array.powers", laid_woofer_array_powers), ("woofer/array.steps", laid_woofer_array_steps)], narrowed := true }
def ArrayProductsUptoSaid : Prop := arrayProductsUptoRow.holds Tryz.pinned (OpenSpec.upto arrayProductsSpec)

/-- 'wooferlaw06.ArrayAudiences', WHERE WHAT IT READS IS OF BULK AT MOST 1048576: true; the input reads as it did. -/
def arrayAudiencesUptoRow : OpenClaim := { program := "ytcihiglpahhboaagreatdoor", sum := "c06e0bd2eb0b347db1a0a0d15ec321200881e186fbfed6e0b5c6e59a79e00bf8", func := "woofer/wooferlaw06.ArrayAudiences", spec := "arrayAudiences", inPlace := ["internal/abi.NoEscape", "internal/bytealg.MakeNoZero"], unfollowed := true, recurses := true, named := ["woofer/array.powers", "woofer/array.steps", "internal/strconv.uint64pow10", "math/bits.deBruijn32tab", "math/bits.deBruijn64tab"], plainKeys := false, apart := false, laid := [("math/bits.deBruijn32tab", laid_math_bits_deBruijn32tab), ("math/bits.deBruijn64tab", laid_math_bits_deBruijn64tab), ("internal/strconv.uint64pow10", laid_internal_strconv_uint64pow10), ("woofer/array.powers", laid_woofer_array_powers), ("woofer/array.steps", laid_woofer_array_steps)], narrowed := true }
def ArrayAudiencesUptoSaid : Prop := arrayAudiencesUptoRow.holds Tryz.pinned (OpenSpec.upto arrayAudiencesSpec)

/-- 'wooferlaw06.ArrayBeams', WHERE WHAT IT READS IS OF BULK AT MOST 1048576: true; the input reads as it did. -/
def arrayBeamsUptoRow : OpenClaim := { program := "ytcihiglpahhboaagreatdoor", sum := "c06e0bd2eb0b347db1a0a0d15ec321200881e186fbfed6e0b5c6e59a79e00bf8", func := "woofer/wooferlaw06.ArrayBeams", spec := "arrayBeams", inPlace := ["internal/abi.NoEscape", "internal/bytealg.MakeNoZero"], unfollowed := true, recurses := true, named := ["woofer/array.powers", "woofer/array.steps", "internal/strconv.uint64pow10", "math/bits.deBruijn32tab", "math/bits.deBruijn64tab"], plainKeys := false, apart := false, laid := [("math/bits.deBruijn32tab", laid_math_bits_deBruijn32tab), ("math/bits.deBruijn64tab", laid_math_bits_deBruijn64tab), ("internal/strconv.uint64pow10", laid_internal_strconv_uint64pow10), ("woofer/array.powers", laid_woofer_array_powers), ("woofer/array.steps", laid_woofer_array_steps)], narrowed := true }
def ArrayBeamsUptoSaid : Prop := arrayBeamsUptoRow.holds Tryz.pinned (OpenSpec.upto arrayBeamsSpec)

/-- 'wooferlaw06.ArrayPatterns', WHERE WHAT IT READS IS OF BULK AT MOST 1048576: true; the input reads as it did. -/
def arrayPatternsUptoRow : OpenClaim := { program := "ytcihiglpahhboaagreatdoor", sum := "c06e0bd2eb0b347db1a0a0d15ec321200881e186fbfed6e0b5c6e59a79e00bf8", func := "woofer/wooferlaw06.ArrayPatterns", spec := "arrayPatterns", inPlace := ["internal/abi.NoEscape", "internal/bytealg.MakeNoZero"], unfollowed := true, recurses := true, named := ["woofer/array.powers", "woofer/array.steps", "internal/strconv.uint64pow10", "math/bits.deBruijn32tab", "math/bits.deBruijn64tab"], plainKeys := false, apart := false, laid := [("math/bits.deBruijn32tab", laid_math_bits_deBruijn32tab), ("math/bits.deBruijn64tab", laid_math_bits_deBruijn64tab), ("internal/strconv.uint64pow10", laid_internal_strconv_uint64pow10), ("woofer/array.powers", laid_woofer_array_powers), ("woofer/array.steps", laid_woofer_array_steps)], narrowed := true }
def ArrayPatternsUptoSaid : Prop := arrayPatternsUptoRow.holds Tryz.pinned (OpenSpec.upto arrayPatternsSpec)

/-- 'wooferlaw06.ArrayPressures', WHERE WHAT IT READS IS OF BULK AT MOST 1048576: true; the input reads as it did. -/
def arrayPressuresUptoRow : OpenClaim := { program := "ytcihiglpahhboaagreatdoor", sum := "c06e0bd2eb0b347db1a0a0d15ec321200881e186fbfed6e0b5c6e59a79e00bf8", func := "woofer/wooferlaw06.ArrayPressures", spec := "arrayPressures", inPlace := ["internal/abi.NoEscape", "internal/bytealg.MakeNoZero"], unfollowed := true, recurses := true, named := ["woofer/array.powers", "woofer/array.steps", "internal/strconv.uint64pow10", "math/bits.deBruijn32tab", "math/bits.deBruijn64tab"], plainKeys := false, apart := false, laid := [("math/bits.deBruijn32tab", laid_math_bits_deBruijn32tab), ("math/bits.deBruijn64tab", laid_math_bits_deBruijn64tab), ("internal/strconv.uint64pow10", laid_internal_strconv_uint64pow10), ("woofer/array.powers", laid_woofer_array_powers), ("woofer/array.steps", laid_woofer_array_steps)], narrowed := true }
def ArrayPressuresUptoSaid : Prop := arrayPressuresUptoRow.holds Tryz.pinned (OpenSpec.upto arrayPressuresSpec)

/-- 'wooferlaw06.ArrayMoves', WHERE WHAT IT READS IS OF BULK AT MOST 1048576: true; the input reads as it did. -/
def arrayMovesUptoRow : OpenClaim := { program := "ytcihiglpahhboaagreatdoor", sum := "c06e0bd2eb0b347db1a0a0d15ec321200881e186fbfed6e0b5c6e59a79e00bf8", func := "woofer/wooferlaw06.ArrayMoves", spec := "arrayMoves", inPlace := ["internal/abi.NoEscape", "internal/bytealg.MakeNoZero"], unfollowed := true, recurses := true, named := ["woofer/array.powers", "woofer/array.steps", "internal/strconv.uint64pow10", "math/bits.deBruijn32tab", "math/bits.deBruijn64tab"], plainKeys := false, apart := false, laid := [("math/bits.deBruijn32tab", laid_math_bits_deBruijn32tab), ("math/bits.deBruijn64tab", laid_math_bits_deBruijn64tab), ("internal/strconv.uint64pow10", laid_internal_strconv_uint64pow10), ("woofer/array.powers", laid_woofer_array_powers), ("woofer/array.steps", laid_woofer_array_steps)], narrowed := true }
def ArrayMovesUptoSaid : Prop := arrayMovesUptoRow.holds Tryz.pinned (OpenSpec.upto arrayMovesSpec)

/-- 'wooferlaw06.ArrayWalls', WHERE WHAT IT READS IS OF BULK AT MOST 1048576: true; the input reads as it did. -/
def arrayWallsUptoRow : OpenClaim := { program := "ytcihiglpahhboaagreatdoor", sum := "c06e0bd2eb0b347db1a0a0d15ec321200881e186fbfed6e0b5c6e59a79e00bf8", func := "woofer/wooferlaw06.ArrayWalls", spec := "arrayWalls", inPlace := ["internal/abi.NoEscape", "internal/bytealg.MakeNoZero"], unfollowed := true, recurses := true, named := ["woofer/array.powers", "woofer/array.steps", "internal/strconv.uint64pow10", "math/bits.deBruijn32tab", "math/bits.deBruijn64tab"], plainKeys := false, apart := false, laid := [("math/bits.deBruijn32tab", laid_math_bits_deBruijn32tab), ("math/bits.deBruijn64tab", laid_math_bits_deBruijn64tab), ("internal/strconv.uint64pow10", laid_internal_strconv_uint64pow10), ("woofer/array.powers", laid_woofer_array_powers), ("woofer/array.steps", laid_woofer_array_steps)], narrowed := true }
def ArrayWallsUptoSaid : Prop := arrayWallsUptoRow.holds Tryz.pinned (OpenSpec.upto arrayWallsSpec)

/-- 'wooferlaw06.ArrayHarmonics', WHERE WHAT IT READS IS OF BULK AT MOST 1048576: true; the input reads as it did. -/
def arrayHarmonicsUptoRow : OpenClaim := { program := "ytcihiglpahhboaagreatdoor", sum := "c06e0bd2eb0b347db1a0a0d15ec321200881e186fbfed6e0b5c6e59a79e00bf8", func := "woofer/wooferlaw06.ArrayHarmonics", spec := "arrayHarmonics", inPlace := ["internal/abi.NoEscape", "internal/bytealg.MakeNoZero"], unfollowed := true, recurses := true, named := ["woofer/array.powers", "woofer/array.steps", "internal/strconv.uint64pow10", "math/bits.deBruijn32tab", "math/bits.deBruijn64tab"], plainKeys := false, apart := false, laid := [("math/bits.deBruijn32tab", laid_math_bits_deBruijn32tab), ("math/bits.deBruijn64tab", laid_math_bits_deBruijn64tab), ("internal/strconv.uint64pow10", laid_internal_strconv_uint64pow10), ("woofer/array.powers", laid_woofer_array_powers), ("woofer/array.steps", laid_woofer_array_steps)], narrowed := true }
def ArrayHarmonicsUptoSaid : Prop := arrayHarmonicsUptoRow.holds Tryz.pinned (OpenSpec.upto arrayHarmonicsSpec)

/-- 'wooferlaw06.ArrayBacks', WHERE WHAT IT READS IS OF BULK AT MOST 1048576: true; the input reads as it did. -/
def arrayBacksUptoRow : OpenClaim := { program := "ytcihiglpahhboaagreatdoor", sum := "c06e0bd2eb0b347db1a0a0d15ec321200881e186fbfed6e0b5c6e59a79e00bf8", func := "woofer/wooferlaw06.ArrayBacks", spec := "arrayBacks", inPlace := ["internal/abi.NoEscape", "internal/bytealg.MakeNoZero"], unfollowed := true, recurses := true, named := ["woofer/array.powers", "woofer/array.steps", "internal/strconv.uint64pow10", "math/bits.deBruijn32tab", "math/bits.deBruijn64tab"], plainKeys := false, apart := false, laid := [("math/bits.deBruijn32tab", laid_math_bits_deBruijn32tab), ("math/bits.deBruijn64tab", laid_math_bits_deBruijn64tab), ("internal/strconv.uint64pow10", laid_internal_strconv_uint64pow10), ("woofer/array.powers", laid_woofer_array_powers), ("woofer/array.steps", laid_woofer_array_steps)], narrowed := true }
def ArrayBacksUptoSaid : Prop := arrayBacksUptoRow.holds Tryz.pinned (OpenSpec.upto arrayBacksSpec)

/-- 'wooferlaw06.ArrayTurns', WHERE WHAT IT READS IS OF BULK AT MOST 1048576: true; the input reads as it did. -/
def arrayTurnsUptoRow : OpenClaim := { program := "ytcihiglpahhboaagreatdoor", sum := "c06e0bd2eb0b347db1a0a0d15ec321200881e186fbfed6e0b5c6e59a79e00bf8", func := "woofer/wooferlaw06.ArrayTurns", spec := "arrayTurns", inPlace := ["internal/abi.NoEscape", "internal/bytealg.MakeNoZero"], unfollowed := true, recurses := true, named := ["woofer/array.powers", "woofer/array.steps", "internal/strconv.uint64pow10", "math/bits.deBruijn32tab", "math/bits.deBruijn64tab"], plainKeys := false, apart := false, laid := [("math/bits.deBruijn32tab", laid_math_bits_deBruijn32tab), ("math/bits.deBruijn64tab", laid_math_bits_deBruijn64tab), ("internal/strconv.uint64pow10", laid_internal_strconv_uint64pow10), ("woofer/array.powers", laid_woofer_array_powers), ("woofer/array.steps", laid_woofer_array_steps)], narrowed := true }
def ArrayTurnsUptoSaid : Prop := arrayTurnsUptoRow.holds Tryz.pinned (OpenSpec.upto arrayTurnsSpec)

/-- 'wooferlaw06.ArrayTexts', WHERE WHAT IT READS IS OF BULK AT MOST 1048576: true; the input reads as it did. -/
def arrayTextsUptoRow : OpenClaim := { program := "ytcihiglpahhboaagreatdoor", sum := "c06e0bd2eb0b347db1a0a0d15ec321200881e186fbfed6e0b5c6e59a79e00bf8", func := "woofer/wooferlaw06.ArrayTexts", spec := "arrayTexts", inPlace := ["internal/abi.NoEscape", "internal/bytealg.MakeNoZero", "internal/bytealg.IndexByteString", "internal/bytealg.IndexString", "internal/bytealg.CountString"], unfollowed := true, recurses := true, named := ["woofer/array.powers", "woofer/array.steps", "internal/strconv.uint64pow10", "math/bits.deBruijn32tab", "math/bits.deBruijn64tab", "internal/bytealg.MaxLen", "unicode/utf8.first", "unicode/utf8.acceptRanges", "strconv.ErrSyntax", "strconv.ErrRange"], plainKeys := false, apart := false, laid := [("math/bits.deBruijn32tab", laid_math_bits_deBruijn32tab), ("math/bits.deBruijn64tab", laid_math_bits_deBruijn64tab), ("internal/strconv.uint64pow10", laid_internal_strconv_uint64pow10), ("unicode/utf8.acceptRanges", laid_unicode_utf8_acceptRanges), ("strconv.ErrRange", laid_strconv_ErrRange), ("strconv.ErrSyntax", laid_strconv_ErrSyntax), ("woofer/array.powers", laid_woofer_array_powers), ("woofer/array.steps", laid_woofer_array_steps), ("unicode/utf8.first", laid_unicode_utf8_first)], narrowed := true }
def ArrayTextsUptoSaid : Prop := arrayTextsUptoRow.holds Tryz.pinned (OpenSpec.upto arrayTextsSpec)

/-- 'wooferlaw06.ArrayBack', WHERE WHAT IT READS IS OF BULK AT MOST 1048576: true; the input reads as it did. -/
def arrayBackUptoRow : OpenClaim := { program := "ytcihiglpahhboaagreatdoor", sum := "c06e0bd2eb0b347db1a0a0d15ec321200881e186fbfed6e0b5c6e59a79e00bf8", func := "woofer/wooferlaw06.ArrayBack", spec := "arrayBack", inPlace := ["internal/abi.NoEscape", "internal/bytealg.MakeNoZero", "internal/bytealg.IndexByteString", "internal/bytealg.IndexString", "internal/bytealg.CountString"], unfollowed := true, recurses := true, named := ["woofer/array.powers", "woofer/array.steps", "internal/strconv.uint64pow10", "math/bits.deBruijn32tab", "math/bits.deBruijn64tab", "internal/bytealg.MaxLen", "unicode/utf8.first", "unicode/utf8.acceptRanges", "strconv.ErrSyntax", "strconv.ErrRange"], plainKeys := false, apart := false, laid := [("math/bits.deBruijn32tab", laid_math_bits_deBruijn32tab), ("math/bits.deBruijn64tab", laid_math_bits_deBruijn64tab), ("internal/strconv.uint64pow10", laid_internal_strconv_uint64pow10), ("unicode/utf8.acceptRanges", laid_unicode_utf8_acceptRanges), ("strconv.ErrRange", laid_strconv_ErrRange), ("strconv.ErrSyntax", laid_strconv_ErrSyntax), ("woofer/array.powers", laid_woofer_array_powers), ("woofer/array.steps", laid_woofer_array_steps), ("unicode/utf8.first", laid_unicode_utf8_first)], narrowed := true }
def ArrayBackUptoSaid : Prop := arrayBackUptoRow.holds Tryz.pinned (OpenSpec.upto arrayBackSpec)

end Rows
end Go.Proofs.YtcihiglpahhboaaGreatDoor
