/-
  DERIVED. GIVEN WITH THE SEED: THE CARDS: each row of YtnndaipnfniciaaDoorRows.lean that lists a variable, with what it lists TIED to the program's text (the seventh form; the later family's looks); each row that meets fmt, with fmt's text TOLD by the authors' own Lean function (tested against real Go, not proved from fmt's source: count such statements apart). THE CARD IS WHAT COUNTS. Prove the row's statement (the work); the ties are given (YtnndaipnfniciaaDoorTie.lean); close each card by the builder's one call (the guide's Derived/Test/ToyasCard.lean, 'card_holds'). Laid BY PROGRAM, IN A SANDBOX (cutbox-door.mjs). By AI agents, Wed Nov 11 2026. No macro, syntax, notation, axiom, sorry.
-/
import Derived.Test.YtnndaipnfniciaaDoorRows
import GoSem.ClaimSeven
namespace Go.Proofs.YtnndaipnfniciaaDoor
namespace Rows

/-- THE TIED CARD OF 'wooferlaw02.NetworkValues'. -/
def networkValuesCard : Claim7 := { stood := { row := networkValuesRow, standIns := [], harness := (true, "761be606e9bdf33ddb83ba9db3a96ad5867c25aec71b6acb0323dbe0f40c7ee2"), looks := false }, kinds := [], alts := [], laidByText := true, laidKinds := [.data, .data, .data, .data, .data, .data], laidTests := true, laidLooks := .later }
def NetworkValuesCardSaid : Prop := Claim7.holds Tryd.pinned (.plain (OpenSpec.ofChange networkValuesSpec)) networkValuesCard

/-- THE TIED CARD OF 'wooferlaw02.NetworkProducts'. -/
def networkProductsCard : Claim7 := { stood := { row := networkProductsRow, standIns := [], harness := (true, "761be606e9bdf33ddb83ba9db3a96ad5867c25aec71b6acb0323dbe0f40c7ee2"), looks := false }, kinds := [], alts := [], laidByText := true, laidKinds := [.data, .data, .data, .data, .data, .data], laidTests := true, laidLooks := .later }
def NetworkProductsCardSaid : Prop := Claim7.holds Tryd.pinned (.plain (OpenSpec.ofChange networkProductsSpec)) networkProductsCard

/-- THE SECOND FORM's CARD OF 'wooferlaw02.NetworkValues'. -/
def networkValuesUptoCard : Claim7 := { stood := { row := networkValuesUptoRow, standIns := [], harness := (true, "761be606e9bdf33ddb83ba9db3a96ad5867c25aec71b6acb0323dbe0f40c7ee2"), looks := false }, kinds := [], alts := [], laidByText := true, laidKinds := [.data, .data, .data, .data, .data, .data], laidTests := true, laidLooks := .later }
def NetworkValuesUptoCardSaid : Prop := Claim7.holds Tryd.pinned (.plain (OpenSpec.upto networkValuesSpec)) networkValuesUptoCard

/-- THE SECOND FORM's CARD OF 'wooferlaw02.NetworkProducts'. -/
def networkProductsUptoCard : Claim7 := { stood := { row := networkProductsUptoRow, standIns := [], harness := (true, "761be606e9bdf33ddb83ba9db3a96ad5867c25aec71b6acb0323dbe0f40c7ee2"), looks := false }, kinds := [], alts := [], laidByText := true, laidKinds := [.data, .data, .data, .data, .data, .data], laidTests := true, laidLooks := .later }
def NetworkProductsUptoCardSaid : Prop := Claim7.holds Tryd.pinned (.plain (OpenSpec.upto networkProductsSpec)) networkProductsUptoCard
end Rows
end Go.Proofs.YtnndaipnfniciaaDoor
