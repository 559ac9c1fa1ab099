/-
  NARROWER THAN 'FOR EVERY INPUT', by the rows' own cells (each row's printed sentence says how): SectionRuns: laid · SectionSettles: laid · SectionBounds: laid · SectionUndoes: laid · SectionLinear: laid · SectionRests: laid · SectionSteps: laid · SectionHolds: laid · SectionCascades: laid · SectionGoesOn: laid · SectionNearest: laid.
  DERIVED. THE GIVEN ROWS OF THIS SEAT. 11 by the template 'for every input the law returns true; each argument reads behind the call as it read before'; 0 by the template 'total and deterministic' (their statements: YtlaaajkehjoffaaDoorTotals.lean).
  GIVEN WITH THE SEED: the statements are not yours to turn. If you find one false, say at which input.
  Laid BY PROGRAM, IN A SANDBOX (cutbox-rows.mjs): the forced cells as the released guide's own fill.sh prints them over the translation ee424ee3487f8527… (all of the seat's roots in one cut). By AI agents, Wed Nov 11 2026. No macro, syntax, notation, axiom, sorry.
-/
import Derived.Test.YtlaaajkehjoffaaDoorChecked
import GoSem.Claim
import GoSem.ClaimJoined
import GoSem.ClaimMapViews
import Derived.JoinedTies
import Derived.KernelRfl
namespace Go.Proofs.YtlaaajkehjoffaaDoor
/- THE CELL 'sum', in the pinned program and in every row, IS THE sha256 OF THE DUMP (.gsa) THAT YtlaaajkehjoffaaDoorProg.lean LOADS. Nothing in Lean hashes anything: it is a label: what it is worth is what the hold of that sum in a sandbox is worth. -/
noncomputable def Tryd.pinned : Pinned := { name := "ytlaaajkehjoffaadoor", sum := "ee424ee3487f85275536305f9a8663df8f7f61bebf55614a2a549d1504c50795", checked := Tryd.checked }
namespace Rows
def none {H : Type} : Left H := { results := [], args := [] }

/- WHAT THE LISTED PACKAGE-LEVEL VARIABLES READ AS WHEN THE CALL BEGINS. Each datum BY PROGRAM (the guide's laid-datum.mjs) off the statement by which the dump's own 'gosem.cut.vars' lays the variable. In a bare row this is a premise. The card (YtlaaajkehjoffaaDoorCards.lean) ties it to the program's text. -/
def laid_math_bits_deBruijn32tab {H : Type} : DataW H := .agg [.lit (.int .u8 0), .lit (.int .u8 1), .lit (.int .u8 28), .lit (.int .u8 2), .lit (.int .u8 29), .lit (.int .u8 14), .lit (.int .u8 24), .lit (.int .u8 3), .lit (.int .u8 30), .lit (.int .u8 22), .lit (.int .u8 20), .lit (.int .u8 15), .lit (.int .u8 25), .lit (.int .u8 17), .lit (.int .u8 4), .lit (.int .u8 8), .lit (.int .u8 31), .lit (.int .u8 27), .lit (.int .u8 13), .lit (.int .u8 23), .lit (.int .u8 21), .lit (.int .u8 19), .lit (.int .u8 16), .lit (.int .u8 7), .lit (.int .u8 26), .lit (.int .u8 12), .lit (.int .u8 18), .lit (.int .u8 6), .lit (.int .u8 11), .lit (.int .u8 5), .lit (.int .u8 10), .lit (.int .u8 9)]
def laid_math_bits_deBruijn64tab {H : Type} : DataW H := .agg [.lit (.int .u8 0), .lit (.int .u8 1), .lit (.int .u8 56), .lit (.int .u8 2), .lit (.int .u8 57), .lit (.int .u8 49), .lit (.int .u8 28), .lit (.int .u8 3), .lit (.int .u8 61), .lit (.int .u8 58), .lit (.int .u8 42), .lit (.int .u8 50), .lit (.int .u8 38), .lit (.int .u8 29), .lit (.int .u8 17), .lit (.int .u8 4), .lit (.int .u8 62), .lit (.int .u8 47), .lit (.int .u8 59), .lit (.int .u8 36), .lit (.int .u8 45), .lit (.int .u8 43), .lit (.int .u8 51), .lit (.int .u8 22), .lit (.int .u8 53), .lit (.int .u8 39), .lit (.int .u8 33), .lit (.int .u8 30), .lit (.int .u8 24), .lit (.int .u8 18), .lit (.int .u8 12), .lit (.int .u8 5), .lit (.int .u8 63), .lit (.int .u8 55), .lit (.int .u8 48), .lit (.int .u8 27), .lit (.int .u8 60), .lit (.int .u8 41), .lit (.int .u8 37), .lit (.int .u8 16), .lit (.int .u8 46), .lit (.int .u8 35), .lit (.int .u8 44), .lit (.int .u8 21), .lit (.int .u8 52), .lit (.int .u8 32), .lit (.int .u8 23), .lit (.int .u8 11), .lit (.int .u8 54), .lit (.int .u8 26), .lit (.int .u8 40), .lit (.int .u8 15), .lit (.int .u8 34), .lit (.int .u8 20), .lit (.int .u8 31), .lit (.int .u8 10), .lit (.int .u8 25), .lit (.int .u8 14), .lit (.int .u8 19), .lit (.int .u8 9), .lit (.int .u8 13), .lit (.int .u8 8), .lit (.int .u8 7), .lit (.int .u8 6)]
def laid_internal_strconv_uint64pow10 {H : Type} : DataW H := .agg [.lit (.int .u64 1), .lit (.int .u64 10), .lit (.int .u64 100), .lit (.int .u64 1000), .lit (.int .u64 10000), .lit (.int .u64 100000), .lit (.int .u64 1000000), .lit (.int .u64 10000000), .lit (.int .u64 100000000), .lit (.int .u64 1000000000), .lit (.int .u64 10000000000), .lit (.int .u64 100000000000), .lit (.int .u64 1000000000000), .lit (.int .u64 10000000000000), .lit (.int .u64 100000000000000), .lit (.int .u64 1000000000000000), .lit (.int .u64 10000000000000000), .lit (.int .u64 100000000000000000), .lit (.int .u64 1000000000000000000), .lit (.int .u64 10000000000000000000)]
def laid_woofer_section_powers {H : Type} : DataW H := .agg [.agg [.lit (.int .i64 1), .lit (.int .i64 0)], .agg [.lit (.int .i64 0), .lit (.int .i64 (-1))], .agg [.lit (.int .i64 (-1)), .lit (.int .i64 0)], .agg [.lit (.int .i64 0), .lit (.int .i64 1)]]

/-- 'wooferlaw05.SectionRuns': WHATEVER THE INPUT: true; the input reads as it did. -/
def sectionRunsSpec : ChangeSpec := { name := "sectionRuns", fn := fun _ => fun
  | [d1, d2, d3] => { results := [.lit (.bool true)], args := [d1, d2, d3] }
  | _ => none }
def sectionRunsRow : OpenClaim := { program := "ytlaaajkehjoffaadoor", sum := "ee424ee3487f85275536305f9a8663df8f7f61bebf55614a2a549d1504c50795", func := "woofer/wooferlaw05.SectionRuns", spec := "sectionRuns", inPlace := ["internal/abi.NoEscape", "internal/bytealg.MakeNoZero"], unfollowed := true, recurses := true, named := ["woofer/section.powers", "internal/strconv.uint64pow10", "math/bits.deBruijn32tab", "math/bits.deBruijn64tab"], plainKeys := false, apart := false, laid := [("math/bits.deBruijn32tab", laid_math_bits_deBruijn32tab), ("math/bits.deBruijn64tab", laid_math_bits_deBruijn64tab), ("internal/strconv.uint64pow10", laid_internal_strconv_uint64pow10), ("woofer/section.powers", laid_woofer_section_powers)] }
def SectionRunsSaid : Prop := sectionRunsRow.holds Tryd.pinned (OpenSpec.ofChange sectionRunsSpec)

/-- ITS FALSE NEIGHBOUR: 'it returns false'. Refute it at one input. -/
def sectionRunsWrong : ChangeSpec := { name := "sectionRuns", fn := fun _ => fun
  | [d1, d2, d3] => { results := [.lit (.bool false)], args := [d1, d2, d3] }
  | _ => none }
def SectionRunsWrongFalsely : Prop := sectionRunsRow.holds Tryd.pinned (OpenSpec.ofChange sectionRunsWrong)

/-- 'wooferlaw05.SectionSettles': WHATEVER THE INPUT: true; the input reads as it did. -/
def sectionSettlesSpec : ChangeSpec := { name := "sectionSettles", fn := fun _ => fun
  | [d1, d2] => { results := [.lit (.bool true)], args := [d1, d2] }
  | _ => none }
def sectionSettlesRow : OpenClaim := { program := "ytlaaajkehjoffaadoor", sum := "ee424ee3487f85275536305f9a8663df8f7f61bebf55614a2a549d1504c50795", func := "woofer/wooferlaw05.SectionSettles", spec := "sectionSettles", inPlace := ["internal/abi.NoEscape", "internal/bytealg.MakeNoZero"], unfollowed := true, recurses := true, named := ["woofer/section.powers", "internal/strconv.uint64pow10", "math/bits.deBruijn32tab", "math/bits.deBruijn64tab"], plainKeys := false, apart := false, laid := [("math/bits.deBruijn32tab", laid_math_bits_deBruijn32tab), ("math/bits.deBruijn64tab", laid_math_bits_deBruijn64tab), ("internal/strconv.uint64pow10", laid_internal_strconv_uint64pow10), ("woofer/section.powers", laid_woofer_section_powers)] }
def SectionSettlesSaid : Prop := sectionSettlesRow.holds Tryd.pinned (OpenSpec.ofChange sectionSettlesSpec)

/-- ITS FALSE NEIGHBOUR: 'it returns false'. Refute it at one input. -/
def sectionSettlesWrong : ChangeSpec := { name := "sectionSettles", fn := fun _ => fun
  | [d1, d2] => { results := [.lit (.bool false)], args := [d1, d2] }
  | _ => none }
def SectionSettlesWrongFalsely : Prop := sectionSettlesRow.holds Tryd.pinned (OpenSpec.ofChange sectionSettlesWrong)

/-- 'wooferlaw05.SectionBounds': WHATEVER THE INPUT: true; the input reads as it did. -/
def sectionBoundsSpec : ChangeSpec := { name := "sectionBounds", fn := fun _ => fun
  | [d1, d2, d3] => { results := [.lit (.bool true)], args := [d1, d2, d3] }
  | _ => none }
def sectionBoundsRow : OpenClaim := { program := "ytlaaajkehjoffaadoor", sum := "ee424ee3487f85275536305f9a8663df8f7f61bebf55614a2a549d1504c50795", func := "woofer/wooferlaw05.SectionBounds", spec := "sectionBounds", inPlace := ["internal/abi.NoEscape", "internal/bytealg.MakeNoZero"], unfollowed := true, recurses := true, named := ["woofer/section.powers", "internal/strconv.uint64pow10", "math/bits.deBruijn32tab", "math/bits.deBruijn64tab"], plainKeys := false, apart := false, laid := [("math/bits.deBruijn32tab", laid_math_bits_deBruijn32tab), ("math/bits.deBruijn64tab", laid_math_bits_deBruijn64tab), ("internal/strconv.uint64pow10", laid_internal_strconv_uint64pow10), ("woofer/section.powers", laid_woofer_section_powers)] }
def SectionBoundsSaid : Prop := sectionBoundsRow.holds Tryd.pinned (OpenSpec.ofChange sectionBoundsSpec)

/-- ITS FALSE NEIGHBOUR: 'it returns false'. Refute it at one input. -/
def sectionBoundsWrong : ChangeSpec := { name := "sectionBounds", fn := fun _ => fun
  | [d1, d2, d3] => { results := [.lit (.bool false)], args := [d1, d2, d3] }
  | _ => none }
def SectionBoundsWrongFalsely : Prop := sectionBoundsRow.holds Tryd.pinned (OpenSpec.ofChange sectionBoundsWrong)

/-- 'wooferlaw05.SectionUndoes': WHATEVER THE INPUT: true; the input reads as it did. -/
def sectionUndoesSpec : ChangeSpec := { name := "sectionUndoes", fn := fun _ => fun
  | [d1, d2] => { results := [.lit (.bool true)], args := [d1, d2] }
  | _ => none }
def sectionUndoesRow : OpenClaim := { program := "ytlaaajkehjoffaadoor", sum := "ee424ee3487f85275536305f9a8663df8f7f61bebf55614a2a549d1504c50795", func := "woofer/wooferlaw05.SectionUndoes", spec := "sectionUndoes", inPlace := ["internal/abi.NoEscape", "internal/bytealg.MakeNoZero"], unfollowed := true, recurses := true, named := ["woofer/section.powers", "internal/strconv.uint64pow10", "math/bits.deBruijn32tab", "math/bits.deBruijn64tab"], plainKeys := false, apart := false, laid := [("math/bits.deBruijn32tab", laid_math_bits_deBruijn32tab), ("math/bits.deBruijn64tab", laid_math_bits_deBruijn64tab), ("internal/strconv.uint64pow10", laid_internal_strconv_uint64pow10), ("woofer/section.powers", laid_woofer_section_powers)] }
def SectionUndoesSaid : Prop := sectionUndoesRow.holds Tryd.pinned (OpenSpec.ofChange sectionUndoesSpec)

/-- ITS FALSE NEIGHBOUR: 'it returns false'. Refute it at one input. -/
def sectionUndoesWrong : ChangeSpec := { name := "sectionUndoes", fn := fun _ => fun
  | [d1, d2] => { results := [.lit (.bool false)], args := [d1, d2] }
  | _ => none }
def SectionUndoesWrongFalsely : Prop := sectionUndoesRow.holds Tryd.pinned (OpenSpec.ofChange sectionUndoesWrong)

/-- 'wooferlaw05.SectionLinear': WHATEVER THE INPUT: true; the input reads as it did. -/
def sectionLinearSpec : ChangeSpec := { name := "sectionLinear", fn := fun _ => fun
  | [d1, d2, d3] => { results := [.lit (.bool true)], args := [d1, d2, d3] }
  | _ => none }
def sectionLinearRow : OpenClaim := { program := "ytlaaajkehjoffaadoor", sum := "ee424ee3487f85275536305f9a8663df8f7f61bebf55614a2a549d1504c50795", func := "woofer/wooferlaw05.SectionLinear", spec := "sectionLinear", inPlace := ["internal/abi.NoEscape", "internal/bytealg.MakeNoZero"], unfollowed := true, recurses := true, named := ["woofer/section.powers", "internal/strconv.uint64pow10", "math/bits.deBruijn32tab", "math/bits.deBruijn64tab"], plainKeys := false, apart := false, laid := [("math/bits.deBruijn32tab", laid_math_bits_deBruijn32tab), ("math/bits.deBruijn64tab", laid_math_bits_deBruijn64tab), ("internal/strconv.uint64pow10", laid_internal_strconv_uint64pow10), ("woofer/section.powers", laid_woofer_section_powers)] }
def SectionLinearSaid : Prop := sectionLinearRow.holds Tryd.pinned (OpenSpec.ofChange sectionLinearSpec)

/-- ITS FALSE NEIGHBOUR: 'it returns false'. Refute it at one input. -/
def sectionLinearWrong : ChangeSpec := { name := "sectionLinear", fn := fun _ => fun
  | [d1, d2, d3] => { results := [.lit (.bool false)], args := [d1, d2, d3] }
  | _ => none }
def SectionLinearWrongFalsely : Prop := sectionLinearRow.holds Tryd.pinned (OpenSpec.ofChange sectionLinearWrong)

/-- 'wooferlaw05.SectionRests': WHATEVER THE INPUT: true; the input reads as it did. -/
def sectionRestsSpec : ChangeSpec := { name := "sectionRests", fn := fun _ => fun
  | [d1, d2] => { results := [.lit (.bool true)], args := [d1, d2] }
  | _ => none }
def sectionRestsRow : OpenClaim := { program := "ytlaaajkehjoffaadoor", sum := "ee424ee3487f85275536305f9a8663df8f7f61bebf55614a2a549d1504c50795", func := "woofer/wooferlaw05.SectionRests", spec := "sectionRests", inPlace := ["internal/abi.NoEscape", "internal/bytealg.MakeNoZero"], unfollowed := true, recurses := true, named := ["woofer/section.powers", "internal/strconv.uint64pow10", "math/bits.deBruijn32tab", "math/bits.deBruijn64tab"], plainKeys := false, apart := false, laid := [("math/bits.deBruijn32tab", laid_math_bits_deBruijn32tab), ("math/bits.deBruijn64tab", laid_math_bits_deBruijn64tab), ("internal/strconv.uint64pow10", laid_internal_strconv_uint64pow10), ("woofer/section.powers", laid_woofer_section_powers)] }
def SectionRestsSaid : Prop := sectionRestsRow.holds Tryd.pinned (OpenSpec.ofChange sectionRestsSpec)

/-- ITS FALSE NEIGHBOUR: 'it returns false'. Refute it at one input. -/
def sectionRestsWrong : ChangeSpec := { name := "sectionRests", fn := fun _ => fun
  | [d1, d2] => { results := [.lit (.bool false)], args := [d1, d2] }
  | _ => none }
def SectionRestsWrongFalsely : Prop := sectionRestsRow.holds Tryd.pinned (OpenSpec.ofChange sectionRestsWrong)

/-- 'wooferlaw05.SectionSteps': WHATEVER THE INPUT: true; the input reads as it did. -/
def sectionStepsSpec : ChangeSpec := { name := "sectionSteps", fn := fun _ => fun
  | [d1, d2, d3] => { results := [.lit (.bool true)], args := [d1, d2, d3] }
  | _ => none }
def sectionStepsRow : OpenClaim := { program := "ytlaaajkehjoffaadoor", sum := "ee424ee3487f85275536305f9a8663df8f7f61bebf55614a2a549d1504c50795", func := "woofer/wooferlaw05.SectionSteps", spec := "sectionSteps", inPlace := ["internal/abi.NoEscape", "internal/bytealg.MakeNoZero"], unfollowed := true, recurses := true, named := ["woofer/section.powers", "internal/strconv.uint64pow10", "math/bits.deBruijn32tab", "math/bits.deBruijn64tab"], plainKeys := false, apart := false, laid := [("math/bits.deBruijn32tab", laid_math_bits_deBruijn32tab), ("math/bits.deBruijn64tab", laid_math_bits_deBruijn64tab), ("internal/strconv.uint64pow10", laid_internal_strconv_uint64pow10), ("woofer/section.powers", laid_woofer_section_powers)] }
def SectionStepsSaid : Prop := sectionStepsRow.holds Tryd.pinned (OpenSpec.ofChange sectionStepsSpec)

/-- ITS FALSE NEIGHBOUR: 'it returns false'. Refute it at one input. -/
def sectionStepsWrong : ChangeSpec := { name := "sectionSteps", fn := fun _ => fun
  | [d1, d2, d3] => { results := [.lit (.bool false)], args := [d1, d2, d3] }
  | _ => none }
def SectionStepsWrongFalsely : Prop := sectionStepsRow.holds Tryd.pinned (OpenSpec.ofChange sectionStepsWrong)

/-- 'wooferlaw05.SectionHolds': WHATEVER THE INPUT: true; the input reads as it did. -/
def sectionHoldsSpec : ChangeSpec := { name := "sectionHolds", fn := fun _ => fun
  | [d1, d2] => { results := [.lit (.bool true)], args := [d1, d2] }
  | _ => none }
def sectionHoldsRow : OpenClaim := { program := "ytlaaajkehjoffaadoor", sum := "ee424ee3487f85275536305f9a8663df8f7f61bebf55614a2a549d1504c50795", func := "woofer/wooferlaw05.SectionHolds", spec := "sectionHolds", inPlace := ["internal/abi.NoEscape", "internal/bytealg.MakeNoZero"], unfollowed := true, recurses := true, named := ["woofer/section.powers", "internal/strconv.uint64pow10", "math/bits.deBruijn32tab", "math/bits.deBruijn64tab"], plainKeys := false, apart := false, laid := [("math/bits.deBruijn32tab", laid_math_bits_deBruijn32tab), ("math/bits.deBruijn64tab", laid_math_bits_deBruijn64tab), ("internal/strconv.uint64pow10", laid_internal_strconv_uint64pow10), ("woofer/section.powers", laid_woofer_section_powers)] }
def SectionHoldsSaid : Prop := sectionHoldsRow.holds Tryd.pinned (OpenSpec.ofChange sectionHoldsSpec)

/-- ITS FALSE NEIGHBOUR: 'it returns false'. Refute it at one input. -/
def sectionHoldsWrong : ChangeSpec := { name := "sectionHolds", fn := fun _ => fun
  | [d1, d2] => { results := [.lit (.bool false)], args := [d1, d2] }
  | _ => none }
def SectionHoldsWrongFalsely : Prop := sectionHoldsRow.holds Tryd.pinned (OpenSpec.ofChange sectionHoldsWrong)

/-- 'wooferlaw05.SectionCascades': WHATEVER THE INPUT: true; the input reads as it did. -/
def sectionCascadesSpec : ChangeSpec := { name := "sectionCascades", fn := fun _ => fun
  | [d1, d2, d3] => { results := [.lit (.bool true)], args := [d1, d2, d3] }
  | _ => none }
def sectionCascadesRow : OpenClaim := { program := "ytlaaajkehjoffaadoor", sum := "ee424ee3487f85275536305f9a8663df8f7f61bebf55614a2a549d1504c50795", func := "woofer/wooferlaw05.SectionCascades", spec := "sectionCascades", inPlace := ["internal/abi.NoEscape", "internal/bytealg.MakeNoZero"], unfollowed := true, recurses := true, named := ["woofer/section.powers", "internal/strconv.uint64pow10", "math/bits.deBruijn32tab", "math/bits.deBruijn64tab"], plainKeys := false, apart := false, laid := [("math/bits.deBruijn32tab", laid_math_bits_deBruijn32tab), ("math/bits.deBruijn64tab", laid_math_bits_deBruijn64tab), ("internal/strconv.uint64pow10", laid_internal_strconv_uint64pow10), ("woofer/section.powers", laid_woofer_section_powers)] }
def SectionCascadesSaid : Prop := sectionCascadesRow.holds Tryd.pinned (OpenSpec.ofChange sectionCascadesSpec)

/-- ITS FALSE NEIGHBOUR: 'it returns false'. Refute it at one input. -/
def sectionCascadesWrong : ChangeSpec := { name := "sectionCascades", fn := fun _ => fun
  | [d1, d2, d3] => { results := [.lit (.bool false)], args := [d1, d2, d3] }
  | _ => none }
def SectionCascadesWrongFalsely : Prop := sectionCascadesRow.holds Tryd.pinned (OpenSpec.ofChange sectionCascadesWrong)

/-- 'wooferlaw05.SectionGoesOn': WHATEVER THE INPUT: true; the input reads as it did. -/
def sectionGoesOnSpec : ChangeSpec := { name := "sectionGoesOn", fn := fun _ => fun
  | [d1, d2, d3] => { results := [.lit (.bool true)], args := [d1, d2, d3] }
  | _ => none }
def sectionGoesOnRow : OpenClaim := { program := "ytlaaajkehjoffaadoor", sum := "ee424ee3487f85275536305f9a8663df8f7f61bebf55614a2a549d1504c50795", func := "woofer/wooferlaw05.SectionGoesOn", spec := "sectionGoesOn", inPlace := ["internal/abi.NoEscape", "internal/bytealg.MakeNoZero"], unfollowed := true, recurses := true, named := ["woofer/section.powers", "internal/strconv.uint64pow10", "math/bits.deBruijn32tab", "math/bits.deBruijn64tab"], plainKeys := false, apart := false, laid := [("math/bits.deBruijn32tab", laid_math_bits_deBruijn32tab), ("math/bits.deBruijn64tab", laid_math_bits_deBruijn64tab), ("internal/strconv.uint64pow10", laid_internal_strconv_uint64pow10), ("woofer/section.powers", laid_woofer_section_powers)] }
def SectionGoesOnSaid : Prop := sectionGoesOnRow.holds Tryd.pinned (OpenSpec.ofChange sectionGoesOnSpec)

/-- ITS FALSE NEIGHBOUR: 'it returns false'. Refute it at one input. -/
def sectionGoesOnWrong : ChangeSpec := { name := "sectionGoesOn", fn := fun _ => fun
  | [d1, d2, d3] => { results := [.lit (.bool false)], args := [d1, d2, d3] }
  | _ => none }
def SectionGoesOnWrongFalsely : Prop := sectionGoesOnRow.holds Tryd.pinned (OpenSpec.ofChange sectionGoesOnWrong)

/-- 'wooferlaw05.SectionNearest': WHATEVER THE INPUT: true; the input reads as it did. -/
def sectionNearestSpec : ChangeSpec := { name := "sectionNearest", fn := fun _ => fun
  | [d1, d2] => { results := [.lit (.bool true)], args := [d1, d2] }
  | _ => none }
def sectionNearestRow : OpenClaim := { program := "ytlaaajkehjoffaadoor", sum := "ee424ee3487f85275536305f9a8663df8f7f61bebf55614a2a549d1504c50795", func := "woofer/wooferlaw05.SectionNearest", spec := "sectionNearest", inPlace := ["internal/abi.NoEscape", "internal/bytealg.MakeNoZero"], unfollowed := true, recurses := true, named := ["woofer/section.powers", "internal/strconv.uint64pow10", "math/bits.deBruijn32tab", "math/bits.deBruijn64tab"], plainKeys := false, apart := false, laid := [("math/bits.deBruijn32tab", laid_math_bits_deBruijn32tab), ("math/bits.deBruijn64tab", laid_math_bits_deBruijn64tab), ("internal/strconv.uint64pow10", laid_internal_strconv_uint64pow10), ("woofer/section.powers", laid_woofer_section_powers)] }
def SectionNearestSaid : Prop := sectionNearestRow.holds Tryd.pinned (OpenSpec.ofChange sectionNearestSpec)

/-- ITS FALSE NEIGHBOUR: 'it returns false'. Refute it at one input. -/
def sectionNearestWrong : ChangeSpec := { name := "sectionNearest", fn := fun _ => fun
  | [d1, d2] => { results := [.lit (.bool false)], args := [d1, d2] }
  | _ => none }
def SectionNearestWrongFalsely : Prop := sectionNearestRow.holds Tryd.pinned (OpenSpec.ofChange sectionNearestWrong)

/- THE SECOND FORM. 'bulk': how many values and letters a reading holds, each counted each time it is reached (what is shared counts as often as it is met; a slice's spare places count too). A statement '..UptoSaid' is the law's where the arguments, and the package variables that the reading takes, are together of bulk at most 1048576: NARROWER than '..Said'. Prove '..Said' where nothing that the law and all that it calls make is longer than what came in: it says more and counts as full. Else prove '..UptoSaid'. A law counts once. -/
mutual
def uptoBulk {H : Type} : DataW H → Nat
  | .lit (.string bytes) => bytes.length + 1
  | .lit _ => 1
  | .nil => 1
  | .ptr d => uptoBulk d + 1
  | .slice elems spare => uptoBulkAll elems + uptoBulkAll spare + 1
  | .agg parts => uptoBulkAll parts + 1
  | .iface _ d => uptoBulk d + 1
  | .map entries => uptoBulkEntries entries + 1
  | .held _ => 1
def uptoBulkAll {H : Type} : List (DataW H) → Nat
  | [] => 0
  | d :: r => uptoBulk d + uptoBulkAll r
def uptoBulkEntries {H : Type} : List (Lit × DataW H) → Nat
  | [] => 0
  | x :: r => uptoBulkEntry x + uptoBulkEntries r
def uptoBulkEntry {H : Type} : Lit × DataW H → Nat
  | (.string bytes, d) => bytes.length + uptoBulk d + 1
  | (_, d) => uptoBulk d + 1
 end
def uptoSmall : (H : Type) → List (DataW H) → Bool := fun _ ds => decide (uptoBulkAll ds ≤ 1048576)
def OpenSpec.upto (s : _root_.Go.ChangeSpec) : _root_.Go.OpenSpec := { _root_.Go.OpenSpec.ofChange s with cond := some uptoSmall }

/-- 'wooferlaw05.SectionRuns', WHERE WHAT IT READS IS OF BULK AT MOST 1048576: true; the input reads as it did. -/
def sectionRunsUptoRow : OpenClaim := { program := "ytlaaajkehjoffaadoor", sum := "ee424ee3487f85275536305f9a8663df8f7f61bebf55614a2a549d1504c50795", func := "woofer/wooferlaw05.SectionRuns", spec := "sectionRuns", inPlace := ["internal/abi.NoEscape", "internal/bytealg.MakeNoZero"], unfollowed := true, recurses := true, named := ["woofer/section.powers", "internal/strconv.uint64pow10", "math/bits.deBruijn32tab", "math/bits.deBruijn64tab"], plainKeys := false, apart := false, laid := [("math/bits.deBruijn32tab", laid_math_bits_deBruijn32tab), ("math/bits.deBruijn64tab", laid_math_bits_deBruijn64tab), ("internal/strconv.uint64pow10", laid_internal_strconv_uint64pow10), ("woofer/section.powers", laid_woofer_section_powers)], narrowed := true }
def SectionRunsUptoSaid : Prop := sectionRunsUptoRow.holds Tryd.pinned (OpenSpec.upto sectionRunsSpec)

/-- 'wooferlaw05.SectionSettles', WHERE WHAT IT READS IS OF BULK AT MOST 1048576: true; the input reads as it did. -/
def sectionSettlesUptoRow : OpenClaim := { program := "ytlaaajkehjoffaadoor", sum := "ee424ee3487f85275536305f9a8663df8f7f61bebf55614a2a549d1504c50795", func := "woofer/wooferlaw05.SectionSettles", spec := "sectionSettles", inPlace := ["internal/abi.NoEscape", "internal/bytealg.MakeNoZero"], unfollowed := true, recurses := true, named := ["woofer/section.powers", "internal/strconv.uint64pow10", "math/bits.deBruijn32tab", "math/bits.deBruijn64tab"], plainKeys := false, apart := false, laid := [("math/bits.deBruijn32tab", laid_math_bits_deBruijn32tab), ("math/bits.deBruijn64tab", laid_math_bits_deBruijn64tab), ("internal/strconv.uint64pow10", laid_internal_strconv_uint64pow10), ("woofer/section.powers", laid_woofer_section_powers)], narrowed := true }
def SectionSettlesUptoSaid : Prop := sectionSettlesUptoRow.holds Tryd.pinned (OpenSpec.upto sectionSettlesSpec)

/-- 'wooferlaw05.SectionBounds', WHERE WHAT IT READS IS OF BULK AT MOST 1048576: true; the input reads as it did. -/
def sectionBoundsUptoRow : OpenClaim := { program := "ytlaaajkehjoffaadoor", sum := "ee424ee3487f85275536305f9a8663df8f7f61bebf55614a2a549d1504c50795", func := "woofer/wooferlaw05.SectionBounds", spec := "sectionBounds", inPlace := ["internal/abi.NoEscape", "internal/bytealg.MakeNoZero"], unfollowed := true, recurses := true, named := ["woofer/section.powers", "internal/strconv.uint64pow10", "math/bits.deBruijn32tab", "math/bits.deBruijn64tab"], plainKeys := false, apart := false, laid := [("math/bits.deBruijn32tab", laid_math_bits_deBruijn32tab), ("math/bits.deBruijn64tab", laid_math_bits_deBruijn64tab), ("internal/strconv.uint64pow10", laid_internal_strconv_uint64pow10), ("woofer/section.powers", laid_woofer_section_powers)], narrowed := true }
def SectionBoundsUptoSaid : Prop := sectionBoundsUptoRow.holds Tryd.pinned (OpenSpec.upto sectionBoundsSpec)

/-- 'wooferlaw05.SectionUndoes', WHERE WHAT IT READS IS OF BULK AT MOST 1048576: true; the input reads as it did. -/
def sectionUndoesUptoRow : OpenClaim := { program := "ytlaaajkehjoffaadoor", sum := "ee424ee3487f85275536305f9a8663df8f7f61bebf55614a2a549d1504c50795", func := "woofer/wooferlaw05.SectionUndoes", spec := "sectionUndoes", inPlace := ["internal/abi.NoEscape", "internal/bytealg.MakeNoZero"], unfollowed := true, recurses := true, named := ["woofer/section.powers", "internal/strconv.uint64pow10", "math/bits.deBruijn32tab", "math/bits.deBruijn64tab"], plainKeys := false, apart := false, laid := [("math/bits.deBruijn32tab", laid_math_bits_deBruijn32tab), ("math/bits.deBruijn64tab", laid_math_bits_deBruijn64tab), ("internal/strconv.uint64pow10", laid_internal_strconv_uint64pow10), ("woofer/section.powers", laid_woofer_section_powers)], narrowed := true }
def SectionUndoesUptoSaid : Prop := sectionUndoesUptoRow.holds Tryd.pinned (OpenSpec.upto sectionUndoesSpec)

/-- 'wooferlaw05.SectionLinear', WHERE WHAT IT READS IS OF BULK AT MOST 1048576: true; the input reads as it did. -/
def sectionLinearUptoRow : OpenClaim := { program := "ytlaaajkehjoffaadoor", sum := "ee424ee3487f85275536305f9a8663df8f7f61bebf55614a2a549d1504c50795", func := "woofer/wooferlaw05.SectionLinear", spec := "sectionLinear", inPlace := ["internal/abi.NoEscape", "internal/bytealg.MakeNoZero"], unfollowed := true, recurses := true, named := ["woofer/section.powers", "internal/strconv.uint64pow10", "math/bits.deBruijn32tab", "math/bits.deBruijn64tab"], plainKeys := false, apart := false, laid := [("math/bits.deBruijn32tab", laid_math_bits_deBruijn32tab), ("math/bits.deBruijn64tab", laid_math_bits_deBruijn64tab), ("internal/strconv.uint64pow10", laid_internal_strconv_uint64pow10), ("woofer/section.powers", laid_woofer_section_powers)], narrowed := true }
def SectionLinearUptoSaid : Prop := sectionLinearUptoRow.holds Tryd.pinned (OpenSpec.upto sectionLinearSpec)

/-- 'wooferlaw05.SectionRests', WHERE WHAT IT READS IS OF BULK AT MOST 1048576: true; the input reads as it did. -/
def sectionRestsUptoRow : OpenClaim := { program := "ytlaaajkehjoffaadoor", sum := "ee424ee3487f85275536305f9a8663df8f7f61bebf55614a2a549d1504c50795", func := "woofer/wooferlaw05.SectionRests", spec := "sectionRests", inPlace := ["internal/abi.NoEscape", "internal/bytealg.MakeNoZero"], unfollowed := true, recurses := true, named := ["woofer/section.powers", "internal/strconv.uint64pow10", "math/bits.deBruijn32tab", "math/bits.deBruijn64tab"], plainKeys := false, apart := false, laid := [("math/bits.deBruijn32tab", laid_math_bits_deBruijn32tab), ("math/bits.deBruijn64tab", laid_math_bits_deBruijn64tab), ("internal/strconv.uint64pow10", laid_internal_strconv_uint64pow10), ("woofer/section.powers", laid_woofer_section_powers)], narrowed := true }
def SectionRestsUptoSaid : Prop := sectionRestsUptoRow.holds Tryd.pinned (OpenSpec.upto sectionRestsSpec)

/-- 'wooferlaw05.SectionSteps', WHERE WHAT IT READS IS OF BULK AT MOST 1048576: true; the input reads as it did. -/
def sectionStepsUptoRow : OpenClaim := { program := "ytlaaajkehjoffaadoor", sum := "ee424ee3487f85275536305f9a8663df8f7f61bebf55614a2a549d1504c50795", func := "woofer/wooferlaw05.SectionSteps", spec := "sectionSteps", inPlace := ["internal/abi.NoEscape", "internal/bytealg.MakeNoZero"], unfollowed := true, recurses := true, named := ["woofer/section.powers", "internal/strconv.uint64pow10", "math/bits.deBruijn32tab", "math/bits.deBruijn64tab"], plainKeys := false, apart := false, laid := [("math/bits.deBruijn32tab", laid_math_bits_deBruijn32tab), ("math/bits.deBruijn64tab", laid_math_bits_deBruijn64tab), ("internal/strconv.uint64pow10", laid_internal_strconv_uint64pow10), ("woofer/section.powers", laid_woofer_section_powers)], narrowed := true }
def SectionStepsUptoSaid : Prop := sectionStepsUptoRow.holds Tryd.pinned (OpenSpec.upto sectionStepsSpec)

/-- 'wooferlaw05.SectionHolds', WHERE WHAT IT READS IS OF BULK AT MOST 1048576: true; the input reads as it did. -/
def sectionHoldsUptoRow : OpenClaim := { program := "ytlaaajkehjoffaadoor", sum := "ee424ee3487f85275536305f9a8663df8f7f61bebf55614a2a549d1504c50795", func := "woofer/wooferlaw05.SectionHolds", spec := "sectionHolds", inPlace := ["internal/abi.NoEscape", "internal/bytealg.MakeNoZero"], unfollowed := true, recurses := true, named := ["woofer/section.powers", "internal/strconv.uint64pow10", "math/bits.deBruijn32tab", "math/bits.deBruijn64tab"], plainKeys := false, apart := false, laid := [("math/bits.deBruijn32tab", laid_math_bits_deBruijn32tab), ("math/bits.deBruijn64tab", laid_math_bits_deBruijn64tab), ("internal/strconv.uint64pow10", laid_internal_strconv_uint64pow10), ("woofer/section.powers", laid_woofer_section_powers)], narrowed := true }
def SectionHoldsUptoSaid : Prop := sectionHoldsUptoRow.holds Tryd.pinned (OpenSpec.upto sectionHoldsSpec)

/-- 'wooferlaw05.SectionCascades', WHERE WHAT IT READS IS OF BULK AT MOST 1048576: true; the input reads as it did. -/
def sectionCascadesUptoRow : OpenClaim := { program := "ytlaaajkehjoffaadoor", sum := "ee424ee3487f85275536305f9a8663df8f7f61bebf55614a2a549d1504c50795", func := "woofer/wooferlaw05.SectionCascades", spec := "sectionCascades", inPlace := ["internal/abi.NoEscape", "internal/bytealg.MakeNoZero"], unfollowed := true, recurses := true, named := ["woofer/section.powers", "internal/strconv.uint64pow10", "math/bits.deBruijn32tab", "math/bits.deBruijn64tab"], plainKeys := false, apart := false, laid := [("math/bits.deBruijn32tab", laid_math_bits_deBruijn32tab), ("math/bits.deBruijn64tab", laid_math_bits_deBruijn64tab), ("internal/strconv.uint64pow10", laid_internal_strconv_uint64pow10), ("woofer/section.powers", laid_woofer_section_powers)], narrowed := true }
def SectionCascadesUptoSaid : Prop := sectionCascadesUptoRow.holds Tryd.pinned (OpenSpec.upto sectionCascadesSpec)

/-- 'wooferlaw05.SectionGoesOn', WHERE WHAT IT READS IS OF BULK AT MOST 1048576: true; the input reads as it did. -/
def sectionGoesOnUptoRow : OpenClaim := { program := "ytlaaajkehjoffaadoor", sum := "ee424ee3487f85275536305f9a8663df8f7f61bebf55614a2a549d1504c50795", func := "woofer/wooferlaw05.SectionGoesOn", spec := "sectionGoesOn", inPlace := ["internal/abi.NoEscape", "internal/bytealg.MakeNoZero"], unfollowed := true, recurses := true, named := ["woofer/section.powers", "internal/strconv.uint64pow10", "math/bits.deBruijn32tab", "math/bits.deBruijn64tab"], plainKeys := false, apart := false, laid := [("math/bits.deBruijn32tab", laid_math_bits_deBruijn32tab), ("math/bits.deBruijn64tab", laid_math_bits_deBruijn64tab), ("internal/strconv.uint64pow10", laid_internal_strconv_uint64pow10), ("woofer/section.powers", laid_woofer_section_powers)], narrowed := true }
def SectionGoesOnUptoSaid : Prop := sectionGoesOnUptoRow.holds Tryd.pinned (OpenSpec.upto sectionGoesOnSpec)

/-- 'wooferlaw05.SectionNearest', WHERE WHAT IT READS IS OF BULK AT MOST 1048576: true; the input reads as it did. -/
def sectionNearestUptoRow : OpenClaim := { program := "ytlaaajkehjoffaadoor", sum := "ee424ee3487f85275536305f9a8663df8f7f61bebf55614a2a549d1504c50795", func := "woofer/wooferlaw05.SectionNearest", spec := "sectionNearest", inPlace := ["internal/abi.NoEscape", "internal/bytealg.MakeNoZero"], unfollowed := true, recurses := true, named := ["woofer/section.powers", "internal/strconv.uint64pow10", "math/bits.deBruijn32tab", "math/bits.deBruijn64tab"], plainKeys := false, apart := false, laid := [("math/bits.deBruijn32tab", laid_math_bits_deBruijn32tab), ("math/bits.deBruijn64tab", laid_math_bits_deBruijn64tab), ("internal/strconv.uint64pow10", laid_internal_strconv_uint64pow10), ("woofer/section.powers", laid_woofer_section_powers)], narrowed := true }
def SectionNearestUptoSaid : Prop := sectionNearestUptoRow.holds Tryd.pinned (OpenSpec.upto sectionNearestSpec)

end Rows
end Go.Proofs.YtlaaajkehjoffaaDoor
