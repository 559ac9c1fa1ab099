/-
  NARROWER THAN 'FOR EVERY INPUT', by the rows' own cells (each row's printed sentence says how): NetworkNumbers: laid · NetworkPolynomials: laid · NetworkTables: laid · NetworkMatrices: laid · NetworkImpedances: laid · NetworkPassive: laid · NetworkReciprocal: laid · NetworkLadders: laid · NetworkJoined: laid · NetworkTexts: laid · NetworkReads: laid.
  DERIVED. THE GIVEN ROWS OF THIS SEAT. 11 by the template 'for every input the law returns true; each argument reads behind the call as it read before'; 0 by the template 'total and deterministic' (their statements: YtnndaipnfniciaaGreatDoorTotals.lean).
  GIVEN WITH THE SEED: the statements are not yours to turn. If you find one false, say at which input.
  Laid BY PROGRAM, IN A SANDBOX (cutbox-rows.mjs): the forced cells as the released guide's own fill.sh prints them over the translation 7665749ecdd4503b… (all of the seat's roots in one cut). By AI agents, Wed Nov 11 2026. No macro, syntax, notation, axiom, sorry.
-/
import Derived.Test.YtnndaipnfniciaaGreatDoorChecked
import GoSem.PinnedTables
import GoSem.Claim
import GoSem.ClaimJoined
import GoSem.ClaimMapViews
import Derived.JoinedTies
import Derived.KernelRfl
namespace Go.Proofs.YtnndaipnfniciaaGreatDoor
/- THE CELL 'sum', in the pinned program and in every row, IS THE sha256 OF THE DUMP (.gsa) THAT YtnndaipnfniciaaGreatDoorProg.lean LOADS. Nothing in Lean hashes anything: it is a label: what it is worth is what the hold of that sum in a sandbox is worth. -/
noncomputable def Tryz.pinned : Pinned := { name := "ytnndaipnfniciaagreatdoor", sum := "7665749ecdd4503ba72e61c8e173837adfcce7a4e37d4dc4df8acbafd9a2e9cb", checked := Tryz.checked }
namespace Rows
def none {H : Type} : Left H := { results := [], args := [] }

/- WHAT THE LISTED PACKAGE-LEVEL VARIABLES READ AS WHEN THE CALL BEGINS. Each datum BY PROGRAM (the guide's laid-datum.mjs) off the statement by which the dump's own 'gosem.cut.vars' lays the variable. In a bare row this is a premise. The card (YtnndaipnfniciaaGreatDoorCards.lean) ties it to the program's text. -/
def laid_math_bits_deBruijn32tab {H : Type} : DataW H := .agg [.lit (.int .u8 0), .lit (.int .u8 1), .lit (.int .u8 28), .lit (.int .u8 2), .lit (.int .u8 29), .lit (.int .u8 14), .lit (.int .u8 24), .lit (.int .u8 3), .lit (.int .u8 30), .lit (.int .u8 22), .lit (.int .u8 20), .lit (.int .u8 15), .lit (.int .u8 25), .lit (.int .u8 17), .lit (.int .u8 4), .lit (.int .u8 8), .lit (.int .u8 31), .lit (.int .u8 27), .lit (.int .u8 13), .lit (.int .u8 23), .lit (.int .u8 21), .lit (.int .u8 19), .lit (.int .u8 16), .lit (.int .u8 7), .lit (.int .u8 26), .lit (.int .u8 12), .lit (.int .u8 18), .lit (.int .u8 6), .lit (.int .u8 11), .lit (.int .u8 5), .lit (.int .u8 10), .lit (.int .u8 9)]
def laid_math_bits_deBruijn64tab {H : Type} : DataW H := .agg [.lit (.int .u8 0), .lit (.int .u8 1), .lit (.int .u8 56), .lit (.int .u8 2), .lit (.int .u8 57), .lit (.int .u8 49), .lit (.int .u8 28), .lit (.int .u8 3), .lit (.int .u8 61), .lit (.int .u8 58), .lit (.int .u8 42), .lit (.int .u8 50), .lit (.int .u8 38), .lit (.int .u8 29), .lit (.int .u8 17), .lit (.int .u8 4), .lit (.int .u8 62), .lit (.int .u8 47), .lit (.int .u8 59), .lit (.int .u8 36), .lit (.int .u8 45), .lit (.int .u8 43), .lit (.int .u8 51), .lit (.int .u8 22), .lit (.int .u8 53), .lit (.int .u8 39), .lit (.int .u8 33), .lit (.int .u8 30), .lit (.int .u8 24), .lit (.int .u8 18), .lit (.int .u8 12), .lit (.int .u8 5), .lit (.int .u8 63), .lit (.int .u8 55), .lit (.int .u8 48), .lit (.int .u8 27), .lit (.int .u8 60), .lit (.int .u8 41), .lit (.int .u8 37), .lit (.int .u8 16), .lit (.int .u8 46), .lit (.int .u8 35), .lit (.int .u8 44), .lit (.int .u8 21), .lit (.int .u8 52), .lit (.int .u8 32), .lit (.int .u8 23), .lit (.int .u8 11), .lit (.int .u8 54), .lit (.int .u8 26), .lit (.int .u8 40), .lit (.int .u8 15), .lit (.int .u8 34), .lit (.int .u8 20), .lit (.int .u8 31), .lit (.int .u8 10), .lit (.int .u8 25), .lit (.int .u8 14), .lit (.int .u8 19), .lit (.int .u8 9), .lit (.int .u8 13), .lit (.int .u8 8), .lit (.int .u8 7), .lit (.int .u8 6)]
def laid_internal_strconv_uint64pow10 {H : Type} : DataW H := .agg [.lit (.int .u64 1), .lit (.int .u64 10), .lit (.int .u64 100), .lit (.int .u64 1000), .lit (.int .u64 10000), .lit (.int .u64 100000), .lit (.int .u64 1000000), .lit (.int .u64 10000000), .lit (.int .u64 100000000), .lit (.int .u64 1000000000), .lit (.int .u64 10000000000), .lit (.int .u64 100000000000), .lit (.int .u64 1000000000000), .lit (.int .u64 10000000000000), .lit (.int .u64 100000000000000), .lit (.int .u64 1000000000000000), .lit (.int .u64 10000000000000000), .lit (.int .u64 100000000000000000), .lit (.int .u64 1000000000000000000), .lit (.int .u64 10000000000000000000)]
def laid_woofer_network_none {H : Type} : DataW H := .agg [.lit (.int .i64 0), .lit (.int .i64 0)]
def laid_woofer_network_one {H : Type} : DataW H := .agg [.lit (.int .i64 1), .lit (.int .i64 0)]
def laid_woofer_network_turns {H : Type} : DataW H := .agg [.agg [.lit (.int .i64 1), .lit (.int .i64 0)], .agg [.lit (.int .i64 0), .lit (.int .i64 1)], .agg [.lit (.int .i64 (-1)), .lit (.int .i64 0)], .agg [.lit (.int .i64 0), .lit (.int .i64 (-1))]]
def laid_unicode_utf8_acceptRanges {H : Type} : DataW H := .agg [.agg [.lit (.int .u8 128), .lit (.int .u8 191)], .agg [.lit (.int .u8 160), .lit (.int .u8 191)], .agg [.lit (.int .u8 128), .lit (.int .u8 159)], .agg [.lit (.int .u8 144), .lit (.int .u8 191)], .agg [.lit (.int .u8 128), .lit (.int .u8 143)], .agg [.lit (.int .u8 0), .lit (.int .u8 0)], .agg [.lit (.int .u8 0), .lit (.int .u8 0)], .agg [.lit (.int .u8 0), .lit (.int .u8 0)], .agg [.lit (.int .u8 0), .lit (.int .u8 0)], .agg [.lit (.int .u8 0), .lit (.int .u8 0)], .agg [.lit (.int .u8 0), .lit (.int .u8 0)], .agg [.lit (.int .u8 0), .lit (.int .u8 0)], .agg [.lit (.int .u8 0), .lit (.int .u8 0)], .agg [.lit (.int .u8 0), .lit (.int .u8 0)], .agg [.lit (.int .u8 0), .lit (.int .u8 0)], .agg [.lit (.int .u8 0), .lit (.int .u8 0)]]
def laid_strconv_ErrRange {H : Type} : DataW H := .iface "*errors.errorString" (.ptr (.agg [.lit (.string [118, 97, 108, 117, 101, 32, 111, 117, 116, 32, 111, 102, 32, 114, 97, 110, 103, 101])]))
def laid_strconv_ErrSyntax {H : Type} : DataW H := .iface "*errors.errorString" (.ptr (.agg [.lit (.string [105, 110, 118, 97, 108, 105, 100, 32, 115, 121, 110, 116, 97, 120])]))
/-- One of Go's own tables, pinned by name: the form's constant. -/
def laid_unicode_utf8_first : DataW Unit := Go.Pinned.utf8First

/-- 'wooferlaw02.NetworkNumbers': WHATEVER THE INPUT: true; the input reads as it did. -/
def networkNumbersSpec : ChangeSpec := { name := "networkNumbers", fn := fun _ => fun
  | [d1, d2, d3] => { results := [.lit (.bool true)], args := [d1, d2, d3] }
  | _ => none }
def networkNumbersRow : OpenClaim := { program := "ytnndaipnfniciaagreatdoor", sum := "7665749ecdd4503ba72e61c8e173837adfcce7a4e37d4dc4df8acbafd9a2e9cb", func := "woofer/wooferlaw02.NetworkNumbers", spec := "networkNumbers", inPlace := ["internal/abi.NoEscape", "internal/bytealg.MakeNoZero"], unfollowed := true, recurses := true, named := ["woofer/network.one", "woofer/network.none", "woofer/network.turns", "internal/strconv.uint64pow10", "math/bits.deBruijn32tab", "math/bits.deBruijn64tab"], apart := false, laid := [("math/bits.deBruijn32tab", laid_math_bits_deBruijn32tab), ("math/bits.deBruijn64tab", laid_math_bits_deBruijn64tab), ("internal/strconv.uint64pow10", laid_internal_strconv_uint64pow10), ("woofer/network.none", laid_woofer_network_none), ("woofer/network.one", laid_woofer_network_one), ("woofer/network.turns", laid_woofer_network_turns)] }
def NetworkNumbersSaid : Prop := networkNumbersRow.holds Tryz.pinned (OpenSpec.ofChange networkNumbersSpec)

/-- ITS FALSE NEIGHBOUR: 'it returns false'. Refute it at one input. -/
def networkNumbersWrong : ChangeSpec := { name := "networkNumbers", fn := fun _ => fun
  | [d1, d2, d3] => { results := [.lit (.bool false)], args := [d1, d2, d3] }
  | _ => none }
def NetworkNumbersWrongFalsely : Prop := networkNumbersRow.holds Tryz.pinned (OpenSpec.ofChange networkNumbersWrong)

/-- 'wooferlaw02.NetworkPolynomials': WHATEVER THE INPUT: true; the input reads as it did. -/
def networkPolynomialsSpec : ChangeSpec := { name := "networkPolynomials", fn := fun _ => fun
  | [d] => { results := [.lit (.bool true)], args := [d] }
  | _ => none }
def networkPolynomialsRow : OpenClaim := { program := "ytnndaipnfniciaagreatdoor", sum := "7665749ecdd4503ba72e61c8e173837adfcce7a4e37d4dc4df8acbafd9a2e9cb", func := "woofer/wooferlaw02.NetworkPolynomials", spec := "networkPolynomials", inPlace := ["internal/abi.NoEscape", "internal/bytealg.MakeNoZero"], unfollowed := true, recurses := true, named := ["woofer/network.one", "woofer/network.none", "woofer/network.turns", "internal/strconv.uint64pow10", "math/bits.deBruijn32tab", "math/bits.deBruijn64tab"], apart := false, laid := [("math/bits.deBruijn32tab", laid_math_bits_deBruijn32tab), ("math/bits.deBruijn64tab", laid_math_bits_deBruijn64tab), ("internal/strconv.uint64pow10", laid_internal_strconv_uint64pow10), ("woofer/network.none", laid_woofer_network_none), ("woofer/network.one", laid_woofer_network_one), ("woofer/network.turns", laid_woofer_network_turns)] }
def NetworkPolynomialsSaid : Prop := networkPolynomialsRow.holds Tryz.pinned (OpenSpec.ofChange networkPolynomialsSpec)

/-- ITS FALSE NEIGHBOUR: 'it returns false'. Refute it at one input. -/
def networkPolynomialsWrong : ChangeSpec := { name := "networkPolynomials", fn := fun _ => fun
  | [d] => { results := [.lit (.bool false)], args := [d] }
  | _ => none }
def NetworkPolynomialsWrongFalsely : Prop := networkPolynomialsRow.holds Tryz.pinned (OpenSpec.ofChange networkPolynomialsWrong)

/-- 'wooferlaw02.NetworkTables': WHATEVER THE INPUT: true; the input reads as it did. -/
def networkTablesSpec : ChangeSpec := { name := "networkTables", fn := fun _ => fun
  | [d1, d2] => { results := [.lit (.bool true)], args := [d1, d2] }
  | _ => none }
def networkTablesRow : OpenClaim := { program := "ytnndaipnfniciaagreatdoor", sum := "7665749ecdd4503ba72e61c8e173837adfcce7a4e37d4dc4df8acbafd9a2e9cb", func := "woofer/wooferlaw02.NetworkTables", spec := "networkTables", inPlace := ["internal/abi.NoEscape", "internal/bytealg.MakeNoZero"], unfollowed := true, recurses := true, named := ["woofer/network.one", "woofer/network.none", "woofer/network.turns", "internal/strconv.uint64pow10", "math/bits.deBruijn32tab", "math/bits.deBruijn64tab"], apart := false, laid := [("math/bits.deBruijn32tab", laid_math_bits_deBruijn32tab), ("math/bits.deBruijn64tab", laid_math_bits_deBruijn64tab), ("internal/strconv.uint64pow10", laid_internal_strconv_uint64pow10), ("woofer/network.none", laid_woofer_network_none), ("woofer/network.one", laid_woofer_network_one), ("woofer/network.turns", laid_woofer_network_turns)] }
def NetworkTablesSaid : Prop := networkTablesRow.holds Tryz.pinned (OpenSpec.ofChange networkTablesSpec)

/-- ITS FALSE NEIGHBOUR: 'it returns false'. Refute it at one input. -/
def networkTablesWrong : ChangeSpec := { name := "networkTables", fn := fun _ => fun
  | [d1, d2] => { results := [.lit (.bool false)], args := [d1, d2] }
  | _ => none }
def NetworkTablesWrongFalsely : Prop := networkTablesRow.holds Tryz.pinned (OpenSpec.ofChange networkTablesWrong)

/-- 'wooferlaw02.NetworkMatrices': WHATEVER THE INPUT: true; the input reads as it did. -/
def networkMatricesSpec : ChangeSpec := { name := "networkMatrices", fn := fun _ => fun
  | [d1, d2] => { results := [.lit (.bool true)], args := [d1, d2] }
  | _ => none }
def networkMatricesRow : OpenClaim := { program := "ytnndaipnfniciaagreatdoor", sum := "7665749ecdd4503ba72e61c8e173837adfcce7a4e37d4dc4df8acbafd9a2e9cb", func := "woofer/wooferlaw02.NetworkMatrices", spec := "networkMatrices", inPlace := ["internal/abi.NoEscape", "internal/bytealg.MakeNoZero"], unfollowed := true, recurses := true, named := ["woofer/network.one", "woofer/network.none", "woofer/network.turns", "internal/strconv.uint64pow10", "math/bits.deBruijn32tab", "math/bits.deBruijn64tab"], apart := false, laid := [("math/bits.deBruijn32tab", laid_math_bits_deBruijn32tab), ("math/bits.deBruijn64tab", laid_math_bits_deBruijn64tab), ("internal/strconv.uint64pow10", laid_internal_strconv_uint64pow10), ("woofer/network.none", laid_woofer_network_none), ("woofer/network.one", laid_woofer_network_one), ("woofer/network.turns", laid_woofer_network_turns)] }
def NetworkMatricesSaid : Prop := networkMatricesRow.holds Tryz.pinned (OpenSpec.ofChange networkMatricesSpec)

/-- ITS FALSE NEIGHBOUR: 'it returns false'. Refute it at one input. -/
def networkMatricesWrong : ChangeSpec := { name := "networkMatrices", fn := fun _ => fun
  | [d1, d2] => { results := [.lit (.bool false)], args := [d1, d2] }
  | _ => none }
def NetworkMatricesWrongFalsely : Prop := networkMatricesRow.holds Tryz.pinned (OpenSpec.ofChange networkMatricesWrong)

/-- 'wooferlaw02.NetworkImpedances': WHATEVER THE INPUT: true; the input reads as it did. -/
def networkImpedancesSpec : ChangeSpec := { name := "networkImpedances", fn := fun _ => fun
  | [d1, d2] => { results := [.lit (.bool true)], args := [d1, d2] }
  | _ => none }
def networkImpedancesRow : OpenClaim := { program := "ytnndaipnfniciaagreatdoor", sum := "7665749ecdd4503ba72e61c8e173837adfcce7a4e37d4dc4df8acbafd9a2e9cb", func := "woofer/wooferlaw02.NetworkImpedances", spec := "networkImpedances", inPlace := ["internal/abi.NoEscape", "internal/bytealg.MakeNoZero"], unfollowed := true, recurses := true, named := ["woofer/network.one", "woofer/network.none", "woofer/network.turns", "internal/strconv.uint64pow10", "math/bits.deBruijn32tab", "math/bits.deBruijn64tab"], apart := false, laid := [("math/bits.deBruijn32tab", laid_math_bits_deBruijn32tab), ("math/bits.deBruijn64tab", laid_math_bits_deBruijn64tab), ("internal/strconv.uint64pow10", laid_internal_strconv_uint64pow10), ("woofer/network.none", laid_woofer_network_none), ("woofer/network.one", laid_woofer_network_one), ("woofer/network.turns", laid_woofer_network_turns)] }
def NetworkImpedancesSaid : Prop := networkImpedancesRow.holds Tryz.pinned (OpenSpec.ofChange networkImpedancesSpec)

/-- ITS FALSE NEIGHBOUR: 'it returns false'. Refute it at one input. -/
def networkImpedancesWrong : ChangeSpec := { name := "networkImpedances", fn := fun _ => fun
  | [d1, d2] => { results := [.lit (.bool false)], args := [d1, d2] }
  | _ => none }
def NetworkImpedancesWrongFalsely : Prop := networkImpedancesRow.holds Tryz.pinned (OpenSpec.ofChange networkImpedancesWrong)

/-- 'wooferlaw02.NetworkPassive': WHATEVER THE INPUT: true; the input reads as it did. -/
def networkPassiveSpec : ChangeSpec := { name := "networkPassive", fn := fun _ => fun
  | [d1, d2] => { results := [.lit (.bool true)], args := [d1, d2] }
  | _ => none }
def networkPassiveRow : OpenClaim := { program := "ytnndaipnfniciaagreatdoor", sum := "7665749ecdd4503ba72e61c8e173837adfcce7a4e37d4dc4df8acbafd9a2e9cb", func := "woofer/wooferlaw02.NetworkPassive", spec := "networkPassive", inPlace := ["internal/abi.NoEscape", "internal/bytealg.MakeNoZero"], unfollowed := true, recurses := true, named := ["woofer/network.one", "woofer/network.none", "woofer/network.turns", "internal/strconv.uint64pow10", "math/bits.deBruijn32tab", "math/bits.deBruijn64tab"], apart := false, laid := [("math/bits.deBruijn32tab", laid_math_bits_deBruijn32tab), ("math/bits.deBruijn64tab", laid_math_bits_deBruijn64tab), ("internal/strconv.uint64pow10", laid_internal_strconv_uint64pow10), ("woofer/network.none", laid_woofer_network_none), ("woofer/network.one", laid_woofer_network_one), ("woofer/network.turns", laid_woofer_network_turns)] }
def NetworkPassiveSaid : Prop := networkPassiveRow.holds Tryz.pinned (OpenSpec.ofChange networkPassiveSpec)

/-- ITS FALSE NEIGHBOUR: 'it returns false'. Refute it at one input. -/
def networkPassiveWrong : ChangeSpec := { name := "networkPassive", fn := fun _ => fun
  | [d1, d2] => { results := [.lit (.bool false)], args := [d1, d2] }
  | _ => none }
def NetworkPassiveWrongFalsely : Prop := networkPassiveRow.holds Tryz.pinned (OpenSpec.ofChange networkPassiveWrong)

/-- 'wooferlaw02.NetworkReciprocal': WHATEVER THE INPUT: true; the input reads as it did. -/
def networkReciprocalSpec : ChangeSpec := { name := "networkReciprocal", fn := fun _ => fun
  | [d1, d2] => { results := [.lit (.bool true)], args := [d1, d2] }
  | _ => none }
def networkReciprocalRow : OpenClaim := { program := "ytnndaipnfniciaagreatdoor", sum := "7665749ecdd4503ba72e61c8e173837adfcce7a4e37d4dc4df8acbafd9a2e9cb", func := "woofer/wooferlaw02.NetworkReciprocal", spec := "networkReciprocal", inPlace := ["internal/abi.NoEscape", "internal/bytealg.MakeNoZero"], unfollowed := true, recurses := true, named := ["woofer/network.one", "woofer/network.none", "woofer/network.turns", "internal/strconv.uint64pow10", "math/bits.deBruijn32tab", "math/bits.deBruijn64tab"], apart := false, laid := [("math/bits.deBruijn32tab", laid_math_bits_deBruijn32tab), ("math/bits.deBruijn64tab", laid_math_bits_deBruijn64tab), ("internal/strconv.uint64pow10", laid_internal_strconv_uint64pow10), ("woofer/network.none", laid_woofer_network_none), ("woofer/network.one", laid_woofer_network_one), ("woofer/network.turns", laid_woofer_network_turns)] }
def NetworkReciprocalSaid : Prop := networkReciprocalRow.holds Tryz.pinned (OpenSpec.ofChange networkReciprocalSpec)

/-- ITS FALSE NEIGHBOUR: 'it returns false'. Refute it at one input. -/
def networkReciprocalWrong : ChangeSpec := { name := "networkReciprocal", fn := fun _ => fun
  | [d1, d2] => { results := [.lit (.bool false)], args := [d1, d2] }
  | _ => none }
def NetworkReciprocalWrongFalsely : Prop := networkReciprocalRow.holds Tryz.pinned (OpenSpec.ofChange networkReciprocalWrong)

/-- 'wooferlaw02.NetworkLadders': WHATEVER THE INPUT: true; the input reads as it did. -/
def networkLaddersSpec : ChangeSpec := { name := "networkLadders", fn := fun _ => fun
  | [d1, d2] => { results := [.lit (.bool true)], args := [d1, d2] }
  | _ => none }
def networkLaddersRow : OpenClaim := { program := "ytnndaipnfniciaagreatdoor", sum := "7665749ecdd4503ba72e61c8e173837adfcce7a4e37d4dc4df8acbafd9a2e9cb", func := "woofer/wooferlaw02.NetworkLadders", spec := "networkLadders", inPlace := ["internal/abi.NoEscape", "internal/bytealg.MakeNoZero"], unfollowed := true, recurses := true, named := ["woofer/network.one", "woofer/network.none", "woofer/network.turns", "internal/strconv.uint64pow10", "math/bits.deBruijn32tab", "math/bits.deBruijn64tab"], apart := false, laid := [("math/bits.deBruijn32tab", laid_math_bits_deBruijn32tab), ("math/bits.deBruijn64tab", laid_math_bits_deBruijn64tab), ("internal/strconv.uint64pow10", laid_internal_strconv_uint64pow10), ("woofer/network.none", laid_woofer_network_none), ("woofer/network.one", laid_woofer_network_one), ("woofer/network.turns", laid_woofer_network_turns)] }
def NetworkLaddersSaid : Prop := networkLaddersRow.holds Tryz.pinned (OpenSpec.ofChange networkLaddersSpec)

/-- ITS FALSE NEIGHBOUR: 'it returns false'. Refute it at one input. -/
def networkLaddersWrong : ChangeSpec := { name := "networkLadders", fn := fun _ => fun
  | [d1, d2] => { results := [.lit (.bool false)], args := [d1, d2] }
  | _ => none }
def NetworkLaddersWrongFalsely : Prop := networkLaddersRow.holds Tryz.pinned (OpenSpec.ofChange networkLaddersWrong)

/-- 'wooferlaw02.NetworkJoined': WHATEVER THE INPUT: true; the input reads as it did. -/
def networkJoinedSpec : ChangeSpec := { name := "networkJoined", fn := fun _ => fun
  | [d1, d2, d3] => { results := [.lit (.bool true)], args := [d1, d2, d3] }
  | _ => none }
def networkJoinedRow : OpenClaim := { program := "ytnndaipnfniciaagreatdoor", sum := "7665749ecdd4503ba72e61c8e173837adfcce7a4e37d4dc4df8acbafd9a2e9cb", func := "woofer/wooferlaw02.NetworkJoined", spec := "networkJoined", inPlace := ["internal/abi.NoEscape", "internal/bytealg.MakeNoZero"], unfollowed := true, recurses := true, named := ["woofer/network.one", "woofer/network.none", "woofer/network.turns", "internal/strconv.uint64pow10", "math/bits.deBruijn32tab", "math/bits.deBruijn64tab"], apart := false, laid := [("math/bits.deBruijn32tab", laid_math_bits_deBruijn32tab), ("math/bits.deBruijn64tab", laid_math_bits_deBruijn64tab), ("internal/strconv.uint64pow10", laid_internal_strconv_uint64pow10), ("woofer/network.none", laid_woofer_network_none), ("woofer/network.one", laid_woofer_network_one), ("woofer/network.turns", laid_woofer_network_turns)] }
def NetworkJoinedSaid : Prop := networkJoinedRow.holds Tryz.pinned (OpenSpec.ofChange networkJoinedSpec)

/-- ITS FALSE NEIGHBOUR: 'it returns false'. Refute it at one input. -/
def networkJoinedWrong : ChangeSpec := { name := "networkJoined", fn := fun _ => fun
  | [d1, d2, d3] => { results := [.lit (.bool false)], args := [d1, d2, d3] }
  | _ => none }
def NetworkJoinedWrongFalsely : Prop := networkJoinedRow.holds Tryz.pinned (OpenSpec.ofChange networkJoinedWrong)

/-- 'wooferlaw02.NetworkTexts': WHATEVER THE INPUT: true; the input reads as it did. -/
def networkTextsSpec : ChangeSpec := { name := "networkTexts", fn := fun _ => fun
  | [d1, d2] => { results := [.lit (.bool true)], args := [d1, d2] }
  | _ => none }
def networkTextsRow : OpenClaim := { program := "ytnndaipnfniciaagreatdoor", sum := "7665749ecdd4503ba72e61c8e173837adfcce7a4e37d4dc4df8acbafd9a2e9cb", func := "woofer/wooferlaw02.NetworkTexts", spec := "networkTexts", inPlace := ["internal/abi.NoEscape", "internal/bytealg.MakeNoZero", "internal/bytealg.CountString", "internal/bytealg.IndexByteString", "internal/bytealg.IndexString"], unfollowed := true, recurses := true, named := ["woofer/network.one", "woofer/network.none", "woofer/network.turns", "internal/strconv.uint64pow10", "math/bits.deBruijn32tab", "math/bits.deBruijn64tab", "unicode/utf8.first", "unicode/utf8.acceptRanges", "internal/bytealg.MaxLen", "strconv.ErrSyntax", "strconv.ErrRange"], apart := false, laid := [("math/bits.deBruijn32tab", laid_math_bits_deBruijn32tab), ("math/bits.deBruijn64tab", laid_math_bits_deBruijn64tab), ("internal/strconv.uint64pow10", laid_internal_strconv_uint64pow10), ("unicode/utf8.acceptRanges", laid_unicode_utf8_acceptRanges), ("strconv.ErrRange", laid_strconv_ErrRange), ("strconv.ErrSyntax", laid_strconv_ErrSyntax), ("woofer/network.none", laid_woofer_network_none), ("woofer/network.one", laid_woofer_network_one), ("woofer/network.turns", laid_woofer_network_turns), ("unicode/utf8.first", laid_unicode_utf8_first)] }
def NetworkTextsSaid : Prop := networkTextsRow.holds Tryz.pinned (OpenSpec.ofChange networkTextsSpec)

/-- ITS FALSE NEIGHBOUR: 'it returns false'. Refute it at one input. -/
def networkTextsWrong : ChangeSpec := { name := "networkTexts", fn := fun _ => fun
  | [d1, d2] => { results := [.lit (.bool false)], args := [d1, d2] }
  | _ => none }
def NetworkTextsWrongFalsely : Prop := networkTextsRow.holds Tryz.pinned (OpenSpec.ofChange networkTextsWrong)

/-- 'wooferlaw02.NetworkReads': WHATEVER THE INPUT: true; the input reads as it did. -/
def networkReadsSpec : ChangeSpec := { name := "networkReads", fn := fun _ => fun
  | [d1, d2] => { results := [.lit (.bool true)], args := [d1, d2] }
  | _ => none }
def networkReadsRow : OpenClaim := { program := "ytnndaipnfniciaagreatdoor", sum := "7665749ecdd4503ba72e61c8e173837adfcce7a4e37d4dc4df8acbafd9a2e9cb", func := "woofer/wooferlaw02.NetworkReads", spec := "networkReads", inPlace := ["internal/abi.NoEscape", "internal/bytealg.MakeNoZero", "internal/bytealg.CountString", "internal/bytealg.IndexByteString", "internal/bytealg.IndexString"], unfollowed := true, recurses := true, named := ["woofer/network.one", "woofer/network.none", "woofer/network.turns", "internal/strconv.uint64pow10", "math/bits.deBruijn32tab", "math/bits.deBruijn64tab", "unicode/utf8.first", "unicode/utf8.acceptRanges", "internal/bytealg.MaxLen", "strconv.ErrSyntax", "strconv.ErrRange"], apart := false, laid := [("math/bits.deBruijn32tab", laid_math_bits_deBruijn32tab), ("math/bits.deBruijn64tab", laid_math_bits_deBruijn64tab), ("internal/strconv.uint64pow10", laid_internal_strconv_uint64pow10), ("unicode/utf8.acceptRanges", laid_unicode_utf8_acceptRanges), ("strconv.ErrRange", laid_strconv_ErrRange), ("strconv.ErrSyntax", laid_strconv_ErrSyntax), ("woofer/network.none", laid_woofer_network_none), ("woofer/network.one", laid_woofer_network_one), ("woofer/network.turns", laid_woofer_network_turns), ("unicode/utf8.first", laid_unicode_utf8_first)] }
def NetworkReadsSaid : Prop := networkReadsRow.holds Tryz.pinned (OpenSpec.ofChange networkReadsSpec)

/-- ITS FALSE NEIGHBOUR: 'it returns false'. Refute it at one input. -/
def networkReadsWrong : ChangeSpec := { name := "networkReads", fn := fun _ => fun
  | [d1, d2] => { results := [.lit (.bool false)], args := [d1, d2] }
  | _ => none }
def NetworkReadsWrongFalsely : Prop := networkReadsRow.holds Tryz.pinned (OpenSpec.ofChange networkReadsWrong)

/- THE SECOND FORM. 'bulk': how many values and letters a reading holds, each counted each time it is reached (what is shared counts as often as it is met; a slice's spare places count too). A statement '..UptoSaid' is the law's where the arguments, and the package variables that the reading takes, are together of bulk at most 1048576: NARROWER than '..Said'. Prove '..Said' where nothing that the law and all that it calls make is longer than what came in: it says more and counts as full. Else prove '..UptoSaid'. A law counts once. -/
mutual
def uptoBulk {H : Type} : DataW H → Nat
  | .lit (.string bytes) => bytes.length + 1
  | .lit _ => 1
  | .nil => 1
  | .ptr d => uptoBulk d + 1
  | .slice elems spare => uptoBulkAll elems + uptoBulkAll spare + 1
  | .agg parts => uptoBulkAll parts + 1
  | .iface _ d => uptoBulk d + 1
  | .map entries => uptoBulkEntries entries + 1
  | .held _ => 1
def uptoBulkAll {H : Type} : List (DataW H) → Nat
  | [] => 0
  | d :: r => uptoBulk d + uptoBulkAll r
def uptoBulkEntries {H : Type} : List (Lit × DataW H) → Nat
  | [] => 0
  | x :: r => uptoBulkEntry x + uptoBulkEntries r
def uptoBulkEntry {H : Type} : Lit × DataW H → Nat
  | (.string bytes, d) => bytes.length + uptoBulk d + 1
  | (_, d) => uptoBulk d + 1
 end
def uptoSmall : (H : Type) → List (DataW H) → Bool := fun _ ds => decide (uptoBulkAll ds ≤ 1048576)
def OpenSpec.upto (s : _root_.Go.ChangeSpec) : _root_.Go.OpenSpec := { _root_.Go.OpenSpec.ofChange s with cond := some uptoSmall }

/-- 'wooferlaw02.NetworkNumbers', WHERE WHAT IT READS IS OF BULK AT MOST 1048576: true; the input reads as it did. -/
def networkNumbersUptoRow : OpenClaim := { program := "ytnndaipnfniciaagreatdoor", sum := "7665749ecdd4503ba72e61c8e173837adfcce7a4e37d4dc4df8acbafd9a2e9cb", func := "woofer/wooferlaw02.NetworkNumbers", spec := "networkNumbers", inPlace := ["internal/abi.NoEscape", "internal/bytealg.MakeNoZero"], unfollowed := true, recurses := true, named := ["woofer/network.one", "woofer/network.none", "woofer/network.turns", "internal/strconv.uint64pow10", "math/bits.deBruijn32tab", "math/bits.deBruijn64tab"], apart := false, laid := [("math/bits.deBruijn32tab", laid_math_bits_deBruijn32tab), ("math/bits.deBruijn64tab", laid_math_bits_deBruijn64tab), ("internal/strconv.uint64pow10", laid_internal_strconv_uint64pow10), ("woofer/network.none", laid_woofer_network_none), ("woofer/network.one", laid_woofer_network_one), ("woofer/network.turns", laid_woofer_network_turns)], narrowed := true }
def NetworkNumbersUptoSaid : Prop := networkNumbersUptoRow.holds Tryz.pinned (OpenSpec.upto networkNumbersSpec)

/-- 'wooferlaw02.NetworkPolynomials', WHERE WHAT IT READS IS OF BULK AT MOST 1048576: true; the input reads as it did. -/
def networkPolynomialsUptoRow : OpenClaim := { program := "ytnndaipnfniciaagreatdoor", sum := "7665749ecdd4503ba72e61c8e173837adfcce7a4e37d4dc4df8acbafd9a2e9cb", func := "woofer/wooferlaw02.NetworkPolynomials", spec := "networkPolynomials", inPlace := ["internal/abi.NoEscape", "internal/bytealg.MakeNoZero"], unfollowed := true, recurses := true, named := ["woofer/network.one", "woofer/network.none", "woofer/network.turns", "internal/strconv.uint64pow10", "math/bits.deBruijn32tab", "math/bits.deBruijn64tab"], apart := false, laid := [("math/bits.deBruijn32tab", laid_math_bits_deBruijn32tab), ("math/bits.deBruijn64tab", laid_math_bits_deBruijn64tab), ("internal/strconv.uint64pow10", laid_internal_strconv_uint64pow10), ("woofer/network.none", laid_woofer_network_none), ("woofer/network.one", laid_woofer_network_one), ("woofer/network.turns", laid_woofer_network_turns)], narrowed := true }
def NetworkPolynomialsUptoSaid : Prop := networkPolynomialsUptoRow.holds Tryz.pinned (OpenSpec.upto networkPolynomialsSpec)

/-- 'wooferlaw02.NetworkTables', WHERE WHAT IT READS IS OF BULK AT MOST 1048576: true; the input reads as it did. -/
def networkTablesUptoRow : OpenClaim := { program := "ytnndaipnfniciaagreatdoor", sum := "7665749ecdd4503ba72e61c8e173837adfcce7a4e37d4dc4df8acbafd9a2e9cb", func := "woofer/wooferlaw02.NetworkTables", spec := "networkTables", inPlace := ["internal/abi.NoEscape", "internal/bytealg.MakeNoZero"], unfollowed := true, recurses := true, named := ["woofer/network.one", "woofer/network.none", "woofer/network.turns", "internal/strconv.uint64pow10", "math/bits.deBruijn32tab", "math/bits.deBruijn64tab"], apart := false, laid := [("math/bits.deBruijn32tab", laid_math_bits_deBruijn32tab), ("math/bits.deBruijn64tab", laid_math_bits_deBruijn64tab), ("internal/strconv.uint64pow10", laid_internal_strconv_uint64pow10), ("woofer/network.none", laid_woofer_network_none), ("woofer/network.one", laid_woofer_network_one), ("woofer/network.turns", laid_woofer_network_turns)], narrowed := true }
def NetworkTablesUptoSaid : Prop := networkTablesUptoRow.holds Tryz.pinned (OpenSpec.upto networkTablesSpec)

/-- 'wooferlaw02.NetworkMatrices', WHERE WHAT IT READS IS OF BULK AT MOST 1048576: true; the input reads as it did. -/
def networkMatricesUptoRow : OpenClaim := { program := "ytnndaipnfniciaagreatdoor", sum := "7665749ecdd4503ba72e61c8e173837adfcce7a4e37d4dc4df8acbafd9a2e9cb", func := "woofer/wooferlaw02.NetworkMatrices", spec := "networkMatrices", inPlace := ["internal/abi.NoEscape", "internal/bytealg.MakeNoZero"], unfollowed := true, recurses := true, named := ["woofer/network.one", "woofer/network.none", "woofer/network.turns", "internal/strconv.uint64pow10", "math/bits.deBruijn32tab", "math/bits.deBruijn64tab"], apart := false, laid := [("math/bits.deBruijn32tab", laid_math_bits_deBruijn32tab), ("math/bits.deBruijn64tab", laid_math_bits_deBruijn64tab), ("internal/strconv.uint64pow10", laid_internal_strconv_uint64pow10), ("woofer/network.none", laid_woofer_network_none), ("woofer/network.one", laid_woofer_network_one), ("woofer/network.turns", laid_woofer_network_turns)], narrowed := true }
def NetworkMatricesUptoSaid : Prop := networkMatricesUptoRow.holds Tryz.pinned (OpenSpec.upto networkMatricesSpec)

/-- 'wooferlaw02.NetworkImpedances', WHERE WHAT IT READS IS OF BULK AT MOST 1048576: true; the input reads as it did. -/
def networkImpedancesUptoRow : OpenClaim := { program := "ytnndaipnfniciaagreatdoor", sum := "7665749ecdd4503ba72e61c8e173837adfcce7a4e37d4dc4df8acbafd9a2e9cb", func := "woofer/wooferlaw02.NetworkImpedances", spec := "networkImpedances", inPlace := ["internal/abi.NoEscape", "internal/bytealg.MakeNoZero"], unfollowed := true, recurses := true, named := ["woofer/network.one", "woofer/network.none", "woofer/network.turns", "internal/strconv.uint64pow10", "math/bits.deBruijn32tab", "math/bits.deBruijn64tab"], apart := false, laid := [("math/bits.deBruijn32tab", laid_math_bits_deBruijn32tab), ("math/bits.deBruijn64tab", laid_math_bits_deBruijn64tab), ("internal/strconv.uint64pow10", laid_internal_strconv_uint64pow10), ("woofer/network.none", laid_woofer_network_none), ("woofer/network.one", laid_woofer_network_one), ("woofer/network.turns", laid_woofer_network_turns)], narrowed := true }
def NetworkImpedancesUptoSaid : Prop := networkImpedancesUptoRow.holds Tryz.pinned (OpenSpec.upto networkImpedancesSpec)

/-- 'wooferlaw02.NetworkPassive', WHERE WHAT IT READS IS OF BULK AT MOST 1048576: true; the input reads as it did. -/
def networkPassiveUptoRow : OpenClaim := { program := "ytnndaipnfniciaagreatdoor", sum := "7665749ecdd4503ba72e61c8e173837adfcce7a4e37d4dc4df8acbafd9a2e9cb", func := "woofer/wooferlaw02.NetworkPassive", spec := "networkPassive", inPlace := ["internal/abi.NoEscape", "internal/bytealg.MakeNoZero"], unfollowed := true, recurses := true, named := ["woofer/network.one", "woofer/network.none", "woofer/network.turns", "internal/strconv.uint64pow10", "math/bits.deBruijn32tab", "math/bits.deBruijn64tab"], apart := false, laid := [("math/bits.deBruijn32tab", laid_math_bits_deBruijn32tab), ("math/bits.deBruijn64tab", laid_math_bits_deBruijn64tab), ("internal/strconv.uint64pow10", laid_internal_strconv_uint64pow10), ("woofer/network.none", laid_woofer_network_none), ("woofer/network.one", laid_woofer_network_one), ("woofer/network.turns", laid_woofer_network_turns)], narrowed := true }
def NetworkPassiveUptoSaid : Prop := networkPassiveUptoRow.holds Tryz.pinned (OpenSpec.upto networkPassiveSpec)

/-- 'wooferlaw02.NetworkReciprocal', WHERE WHAT IT READS IS OF BULK AT MOST 1048576: true; the input reads as it did. -/
def networkReciprocalUptoRow : OpenClaim := { program := "ytnndaipnfniciaagreatdoor", sum := "7665749ecdd4503ba72e61c8e173837adfcce7a4e37d4dc4df8acbafd9a2e9cb", func := "woofer/wooferlaw02.NetworkReciprocal", spec := "networkReciprocal", inPlace := ["internal/abi.NoEscape", "internal/bytealg.MakeNoZero"], unfollowed := true, recurses := true, named := ["woofer/network.one", "woofer/network.none", "woofer/network.turns", "internal/strconv.uint64pow10", "math/bits.deBruijn32tab", "math/bits.deBruijn64tab"], apart := false, laid := [("math/bits.deBruijn32tab", laid_math_bits_deBruijn32tab), ("math/bits.deBruijn64tab", laid_math_bits_deBruijn64tab), ("internal/strconv.uint64pow10", laid_internal_strconv_uint64pow10), ("woofer/network.none", laid_woofer_network_none), ("woofer/network.one", laid_woofer_network_one), ("woofer/network.turns", laid_woofer_network_turns)], narrowed := true }
def NetworkReciprocalUptoSaid : Prop := networkReciprocalUptoRow.holds Tryz.pinned (OpenSpec.upto networkReciprocalSpec)

/-- 'wooferlaw02.NetworkLadders', WHERE WHAT IT READS IS OF BULK AT MOST 1048576: true; the input reads as it did. -/
def networkLaddersUptoRow : OpenClaim := { program := "ytnndaipnfniciaagreatdoor", sum := "7665749ecdd4503ba72e61c8e173837adfcce7a4e37d4dc4df8acbafd9a2e9cb", func := "woofer/wooferlaw02.NetworkLadders", spec := "networkLadders", inPlace := ["internal/abi.NoEscape", "internal/bytealg.MakeNoZero"], unfollowed := true, recurses := true, named := ["woofer/network.one", "woofer/network.none", "woofer/network.turns", "internal/strconv.uint64pow10", "math/bits.deBruijn32tab", "math/bits.deBruijn64tab"], apart := false, laid := [("math/bits.deBruijn32tab", laid_math_bits_deBruijn32tab), ("math/bits.deBruijn64tab", laid_math_bits_deBruijn64tab), ("internal/strconv.uint64pow10", laid_internal_strconv_uint64pow10), ("woofer/network.none", laid_woofer_network_none), ("woofer/network.one", laid_woofer_network_one), ("woofer/network.turns", laid_woofer_network_turns)], narrowed := true }
def NetworkLaddersUptoSaid : Prop := networkLaddersUptoRow.holds Tryz.pinned (OpenSpec.upto networkLaddersSpec)

/-- 'wooferlaw02.NetworkJoined', WHERE WHAT IT READS IS OF BULK AT MOST 1048576: true; the input reads as it did. -/
def networkJoinedUptoRow : OpenClaim := { program := "ytnndaipnfniciaagreatdoor", sum := "7665749ecdd4503ba72e61c8e173837adfcce7a4e37d4dc4df8acbafd9a2e9cb", func := "woofer/wooferlaw02.NetworkJoined", spec := "networkJoined", inPlace := ["internal/abi.NoEscape", "internal/bytealg.MakeNoZero"], unfollowed := true, recurses := true, named := ["woofer/network.one", "woofer/network.none", "woofer/network.turns", "internal/strconv.uint64pow10", "math/bits.deBruijn32tab", "math/bits.deBruijn64tab"], apart := false, laid := [("math/bits.deBruijn32tab", laid_math_bits_deBruijn32tab), ("math/bits.deBruijn64tab", laid_math_bits_deBruijn64tab), ("internal/strconv.uint64pow10", laid_internal_strconv_uint64pow10), ("woofer/network.none", laid_woofer_network_none), ("woofer/network.one", laid_woofer_network_one), ("woofer/network.turns", laid_woofer_network_turns)], narrowed := true }
def NetworkJoinedUptoSaid : Prop := networkJoinedUptoRow.holds Tryz.pinned (OpenSpec.upto networkJoinedSpec)

/-- 'wooferlaw02.NetworkTexts', WHERE WHAT IT READS IS OF BULK AT MOST 1048576: true; the input reads as it did. -/
def networkTextsUptoRow : OpenClaim := { program := "ytnndaipnfniciaagreatdoor", sum := "7665749ecdd4503ba72e61c8e173837adfcce7a4e37d4dc4df8acbafd9a2e9cb", func := "woofer/wooferlaw02.NetworkTexts", spec := "networkTexts", inPlace := ["internal/abi.NoEscape", "internal/bytealg.MakeNoZero", "internal/bytealg.CountString", "internal/bytealg.IndexByteString", "internal/bytealg.IndexString"], unfollowed := true, recurses := true, named := ["woofer/network.one", "woofer/network.none", "woofer/network.turns", "internal/strconv.uint64pow10", "math/bits.deBruijn32tab", "math/bits.deBruijn64tab", "unicode/utf8.first", "unicode/utf8.acceptRanges", "internal/bytealg.MaxLen", "strconv.ErrSyntax", "strconv.ErrRange"], apart := false, laid := [("math/bits.deBruijn32tab", laid_math_bits_deBruijn32tab), ("math/bits.deBruijn64tab", laid_math_bits_deBruijn64tab), ("internal/strconv.uint64pow10", laid_internal_strconv_uint64pow10), ("unicode/utf8.acceptRanges", laid_unicode_utf8_acceptRanges), ("strconv.ErrRange", laid_strconv_ErrRange), ("strconv.ErrSyntax", laid_strconv_ErrSyntax), ("woofer/network.none", laid_woofer_network_none), ("woofer/network.one", laid_woofer_network_one), ("woofer/network.turns", laid_woofer_network_turns), ("unicode/utf8.first", laid_unicode_utf8_first)], narrowed := true }
def NetworkTextsUptoSaid : Prop := networkTextsUptoRow.holds Tryz.pinned (OpenSpec.upto networkTextsSpec)

/-- 'wooferlaw02.NetworkReads', WHERE WHAT IT READS IS OF BULK AT MOST 1048576: true; the input reads as it did. -/
def networkReadsUptoRow : OpenClaim := { program := "ytnndaipnfniciaagreatdoor", sum := "7665749ecdd4503ba72e61c8e173837adfcce7a4e37d4dc4df8acbafd9a2e9cb", func := "woofer/wooferlaw02.NetworkReads", spec := "networkReads", inPlace := ["internal/abi.NoEscape", "internal/bytealg.MakeNoZero", "internal/bytealg.CountString", "internal/bytealg.IndexByteString", "internal/bytealg.IndexString"], unfollowed := true, recurses := true, named := ["woofer/network.one", "woofer/network.none", "woofer/network.turns", "internal/strconv.uint64pow10", "math/bits.deBruijn32tab", "math/bits.deBruijn64tab", "unicode/utf8.first", "unicode/utf8.acceptRanges", "internal/bytealg.MaxLen", "strconv.ErrSyntax", "strconv.ErrRange"], apart := false, laid := [("math/bits.deBruijn32tab", laid_math_bits_deBruijn32tab), ("math/bits.deBruijn64tab", laid_math_bits_deBruijn64tab), ("internal/strconv.uint64pow10", laid_internal_strconv_uint64pow10), ("unicode/utf8.acceptRanges", laid_unicode_utf8_acceptRanges), ("strconv.ErrRange", laid_strconv_ErrRange), ("strconv.ErrSyntax", laid_strconv_ErrSyntax), ("woofer/network.none", laid_woofer_network_none), ("woofer/network.one", laid_woofer_network_one), ("woofer/network.turns", laid_woofer_network_turns), ("unicode/utf8.first", laid_unicode_utf8_first)], narrowed := true }
def NetworkReadsUptoSaid : Prop := networkReadsUptoRow.holds Tryz.pinned (OpenSpec.upto networkReadsSpec)

end Rows
end Go.Proofs.YtnndaipnfniciaaGreatDoor
