/-
  NARROWER THAN 'FOR EVERY INPUT', by the rows' own cells (each row's printed sentence says how): TopSpiderPower: laid · TopDustLossless: laid · TopSpiderCircuit: laid · TopDustRows: laid.
  DERIVED. THE GIVEN ROWS OF THIS SEAT. 4 by the template 'for every input the law returns true; each argument reads behind the call as it read before'; 0 by the template 'total and deterministic' (their statements: YthlnmoecmicofaaDoorTotals.lean).
  GIVEN WITH THE SEED: the statements are not yours to turn. If you find one false, say at which input.
  Laid BY PROGRAM, IN A SANDBOX (cutbox-rows.mjs): the forced cells as the released guide's own fill.sh prints them over the translation 56cbab0a1073053c… (all of the seat's roots in one cut). By AI agents, Wed Nov 11 2026. No macro, syntax, notation, axiom, sorry.
-/
import Derived.Test.YthlnmoecmicofaaDoorChecked
import GoSem.Claim
import GoSem.ClaimJoined
import GoSem.ClaimMapViews
import Derived.JoinedTies
import Derived.KernelRfl
namespace Go.Proofs.YthlnmoecmicofaaDoor
/- THE CELL 'sum', in the pinned program and in every row, IS THE sha256 OF THE DUMP (.gsa) THAT YthlnmoecmicofaaDoorProg.lean LOADS. Nothing in Lean hashes anything: it is a label: what it is worth is what the hold of that sum in a sandbox is worth. -/
noncomputable def Tryd.pinned : Pinned := { name := "ythlnmoecmicofaadoor", sum := "56cbab0a1073053c6a78e5ca668350283f46cc2516038b6a66dbf1a7c5ee4d78", checked := Tryd.checked }
namespace Rows
def none {H : Type} : Left H := { results := [], args := [] }

/- WHAT THE LISTED PACKAGE-LEVEL VARIABLES READ AS WHEN THE CALL BEGINS. Each datum BY PROGRAM (the guide's laid-datum.mjs) off the statement by which the dump's own 'gosem.cut.vars' lays the variable. In a bare row this is a premise. The card (YthlnmoecmicofaaDoorCards.lean) ties it to the program's text. -/
def laid_woofer_network_none {H : Type} : DataW H := .agg [.lit (.int .i64 0), .lit (.int .i64 0)]
def laid_woofer_network_one {H : Type} : DataW H := .agg [.lit (.int .i64 1), .lit (.int .i64 0)]
def laid_woofer_driver_limits {H : Type} : DataW H := .agg [.agg [.lit (.int .i64 1), .lit (.int .i64 50)], .agg [.lit (.int .i64 0), .lit (.int .i64 10)], .agg [.lit (.int .i64 1), .lit (.int .i64 20)], .agg [.lit (.int .i64 1), .lit (.int .i64 100)], .agg [.lit (.int .i64 1), .lit (.int .i64 5000)], .agg [.lit (.int .i64 1), .lit (.int .i64 100)]]

/-- 'woofertop.TopSpiderPower': WHATEVER THE INPUT: true; the input reads as it did. -/
def topSpiderPowerSpec : ChangeSpec := { name := "topSpiderPower", fn := fun _ => fun
  | [d1, d2, d3] => { results := [.lit (.bool true)], args := [d1, d2, d3] }
  | _ => none }
def topSpiderPowerRow : OpenClaim := { program := "ythlnmoecmicofaadoor", sum := "56cbab0a1073053c6a78e5ca668350283f46cc2516038b6a66dbf1a7c5ee4d78", func := "woofer/woofertop.TopSpiderPower", spec := "topSpiderPower", unfollowed := true, recurses := true, named := ["woofer/driver.limits", "woofer/network.one", "woofer/network.none"], apart := false, laid := [("woofer/network.none", laid_woofer_network_none), ("woofer/network.one", laid_woofer_network_one), ("woofer/driver.limits", laid_woofer_driver_limits)] }
def TopSpiderPowerSaid : Prop := topSpiderPowerRow.holds Tryd.pinned (OpenSpec.ofChange topSpiderPowerSpec)

/-- ITS FALSE NEIGHBOUR: 'it returns false'. Refute it at one input. -/
def topSpiderPowerWrong : ChangeSpec := { name := "topSpiderPower", fn := fun _ => fun
  | [d1, d2, d3] => { results := [.lit (.bool false)], args := [d1, d2, d3] }
  | _ => none }
def TopSpiderPowerWrongFalsely : Prop := topSpiderPowerRow.holds Tryd.pinned (OpenSpec.ofChange topSpiderPowerWrong)

/-- 'woofertop.TopDustLossless': WHATEVER THE INPUT: true; the input reads as it did. -/
def topDustLosslessSpec : ChangeSpec := { name := "topDustLossless", fn := fun _ => fun
  | [d1, d2] => { results := [.lit (.bool true)], args := [d1, d2] }
  | _ => none }
def topDustLosslessRow : OpenClaim := { program := "ythlnmoecmicofaadoor", sum := "56cbab0a1073053c6a78e5ca668350283f46cc2516038b6a66dbf1a7c5ee4d78", func := "woofer/woofertop.TopDustLossless", spec := "topDustLossless", unfollowed := true, recurses := true, named := ["woofer/network.one", "woofer/network.none"], apart := false, laid := [("woofer/network.none", laid_woofer_network_none), ("woofer/network.one", laid_woofer_network_one)] }
def TopDustLosslessSaid : Prop := topDustLosslessRow.holds Tryd.pinned (OpenSpec.ofChange topDustLosslessSpec)

/-- ITS FALSE NEIGHBOUR: 'it returns false'. Refute it at one input. -/
def topDustLosslessWrong : ChangeSpec := { name := "topDustLossless", fn := fun _ => fun
  | [d1, d2] => { results := [.lit (.bool false)], args := [d1, d2] }
  | _ => none }
def TopDustLosslessWrongFalsely : Prop := topDustLosslessRow.holds Tryd.pinned (OpenSpec.ofChange topDustLosslessWrong)

/-- 'woofertop.TopSpiderCircuit': WHATEVER THE INPUT: true; the input reads as it did. -/
def topSpiderCircuitSpec : ChangeSpec := { name := "topSpiderCircuit", fn := fun _ => fun
  | [d1, d2, d3] => { results := [.lit (.bool true)], args := [d1, d2, d3] }
  | _ => none }
def topSpiderCircuitRow : OpenClaim := { program := "ythlnmoecmicofaadoor", sum := "56cbab0a1073053c6a78e5ca668350283f46cc2516038b6a66dbf1a7c5ee4d78", func := "woofer/woofertop.TopSpiderCircuit", spec := "topSpiderCircuit", unfollowed := true, recurses := true, named := ["woofer/driver.limits", "woofer/network.one", "woofer/network.none"], apart := false, laid := [("woofer/network.none", laid_woofer_network_none), ("woofer/network.one", laid_woofer_network_one), ("woofer/driver.limits", laid_woofer_driver_limits)] }
def TopSpiderCircuitSaid : Prop := topSpiderCircuitRow.holds Tryd.pinned (OpenSpec.ofChange topSpiderCircuitSpec)

/-- ITS FALSE NEIGHBOUR: 'it returns false'. Refute it at one input. -/
def topSpiderCircuitWrong : ChangeSpec := { name := "topSpiderCircuit", fn := fun _ => fun
  | [d1, d2, d3] => { results := [.lit (.bool false)], args := [d1, d2, d3] }
  | _ => none }
def TopSpiderCircuitWrongFalsely : Prop := topSpiderCircuitRow.holds Tryd.pinned (OpenSpec.ofChange topSpiderCircuitWrong)

/-- 'woofertop.TopDustRows': WHATEVER THE INPUT: true; the input reads as it did. -/
def topDustRowsSpec : ChangeSpec := { name := "topDustRows", fn := fun _ => fun
  | [d1, d2, d3] => { results := [.lit (.bool true)], args := [d1, d2, d3] }
  | _ => none }
def topDustRowsRow : OpenClaim := { program := "ythlnmoecmicofaadoor", sum := "56cbab0a1073053c6a78e5ca668350283f46cc2516038b6a66dbf1a7c5ee4d78", func := "woofer/woofertop.TopDustRows", spec := "topDustRows", unfollowed := true, recurses := true, named := ["woofer/network.one", "woofer/network.none"], apart := false, laid := [("woofer/network.none", laid_woofer_network_none), ("woofer/network.one", laid_woofer_network_one)] }
def TopDustRowsSaid : Prop := topDustRowsRow.holds Tryd.pinned (OpenSpec.ofChange topDustRowsSpec)

/-- ITS FALSE NEIGHBOUR: 'it returns false'. Refute it at one input. -/
def topDustRowsWrong : ChangeSpec := { name := "topDustRows", fn := fun _ => fun
  | [d1, d2, d3] => { results := [.lit (.bool false)], args := [d1, d2, d3] }
  | _ => none }
def TopDustRowsWrongFalsely : Prop := topDustRowsRow.holds Tryd.pinned (OpenSpec.ofChange topDustRowsWrong)

/- THE SECOND FORM. 'bulk': how many values and letters a reading holds, each counted each time it is reached (what is shared counts as often as it is met; a slice's spare places count too). A statement '..UptoSaid' is the law's where the arguments, and the package variables that the reading takes, are together of bulk at most 1048576: NARROWER than '..Said'. Prove '..Said' where nothing that the law and all that it calls make is longer than what came in: it says more and counts as full. Else prove '..UptoSaid'. A law counts once. -/
mutual
def uptoBulk {H : Type} : DataW H → Nat
  | .lit (.string bytes) => bytes.length + 1
  | .lit _ => 1
  | .nil => 1
  | .ptr d => uptoBulk d + 1
  | .slice elems spare => uptoBulkAll elems + uptoBulkAll spare + 1
  | .agg parts => uptoBulkAll parts + 1
  | .iface _ d => uptoBulk d + 1
  | .map entries => uptoBulkEntries entries + 1
  | .held _ => 1
def uptoBulkAll {H : Type} : List (DataW H) → Nat
  | [] => 0
  | d :: r => uptoBulk d + uptoBulkAll r
def uptoBulkEntries {H : Type} : List (Lit × DataW H) → Nat
  | [] => 0
  | x :: r => uptoBulkEntry x + uptoBulkEntries r
def uptoBulkEntry {H : Type} : Lit × DataW H → Nat
  | (.string bytes, d) => bytes.length + uptoBulk d + 1
  | (_, d) => uptoBulk d + 1
 end
def uptoSmall : (H : Type) → List (DataW H) → Bool := fun _ ds => decide (uptoBulkAll ds ≤ 1048576)
def OpenSpec.upto (s : _root_.Go.ChangeSpec) : _root_.Go.OpenSpec := { _root_.Go.OpenSpec.ofChange s with cond := some uptoSmall }

/-- 'woofertop.TopSpiderPower', WHERE WHAT IT READS IS OF BULK AT MOST 1048576: true; the input reads as it did. -/
def topSpiderPowerUptoRow : OpenClaim := { program := "ythlnmoecmicofaadoor", sum := "56cbab0a1073053c6a78e5ca668350283f46cc2516038b6a66dbf1a7c5ee4d78", func := "woofer/woofertop.TopSpiderPower", spec := "topSpiderPower", unfollowed := true, recurses := true, named := ["woofer/driver.limits", "woofer/network.one", "woofer/network.none"], apart := false, laid := [("woofer/network.none", laid_woofer_network_none), ("woofer/network.one", laid_woofer_network_one), ("woofer/driver.limits", laid_woofer_driver_limits)], narrowed := true }
def TopSpiderPowerUptoSaid : Prop := topSpiderPowerUptoRow.holds Tryd.pinned (OpenSpec.upto topSpiderPowerSpec)

/-- 'woofertop.TopDustLossless', WHERE WHAT IT READS IS OF BULK AT MOST 1048576: true; the input reads as it did. -/
def topDustLosslessUptoRow : OpenClaim := { program := "ythlnmoecmicofaadoor", sum := "56cbab0a1073053c6a78e5ca668350283f46cc2516038b6a66dbf1a7c5ee4d78", func := "woofer/woofertop.TopDustLossless", spec := "topDustLossless", unfollowed := true, recurses := true, named := ["woofer/network.one", "woofer/network.none"], apart := false, laid := [("woofer/network.none", laid_woofer_network_none), ("woofer/network.one", laid_woofer_network_one)], narrowed := true }
def TopDustLosslessUptoSaid : Prop := topDustLosslessUptoRow.holds Tryd.pinned (OpenSpec.upto topDustLosslessSpec)

/-- 'woofertop.TopSpiderCircuit', WHERE WHAT IT READS IS OF BULK AT MOST 1048576: true; the input reads as it did. -/
def topSpiderCircuitUptoRow : OpenClaim := { program := "ythlnmoecmicofaadoor", sum := "56cbab0a1073053c6a78e5ca668350283f46cc2516038b6a66dbf1a7c5ee4d78", func := "woofer/woofertop.TopSpiderCircuit", spec := "topSpiderCircuit", unfollowed := true, recurses := true, named := ["woofer/driver.limits", "woofer/network.one", "woofer/network.none"], apart := false, laid := [("woofer/network.none", laid_woofer_network_none), ("woofer/network.one", laid_woofer_network_one), ("woofer/driver.limits", laid_woofer_driver_limits)], narrowed := true }
def TopSpiderCircuitUptoSaid : Prop := topSpiderCircuitUptoRow.holds Tryd.pinned (OpenSpec.upto topSpiderCircuitSpec)

/-- 'woofertop.TopDustRows', WHERE WHAT IT READS IS OF BULK AT MOST 1048576: true; the input reads as it did. -/
def topDustRowsUptoRow : OpenClaim := { program := "ythlnmoecmicofaadoor", sum := "56cbab0a1073053c6a78e5ca668350283f46cc2516038b6a66dbf1a7c5ee4d78", func := "woofer/woofertop.TopDustRows", spec := "topDustRows", unfollowed := true, recurses := true, named := ["woofer/network.one", "woofer/network.none"], apart := false, laid := [("woofer/network.none", laid_woofer_network_none), ("woofer/network.one", laid_woofer_network_one)], narrowed := true }
def TopDustRowsUptoSaid : Prop := topDustRowsUptoRow.holds Tryd.pinned (OpenSpec.upto topDustRowsSpec)

end Rows
end Go.Proofs.YthlnmoecmicofaaDoor
