/-
  DERIVED. GIVEN WITH THE SEED: THE CARDS: each row of YtnndaipnfniciaaGreatDoorRows.lean that lists a variable, with what it lists TIED to the program's text (the seventh form; the later family's looks); each row that meets fmt, with fmt's text TOLD by the authors' own Lean function (tested against real Go, not proved from fmt's source: count such statements apart). THE CARD IS WHAT COUNTS. Prove the row's statement (the work); the ties are given (YtnndaipnfniciaaGreatDoorTie.lean); close each card by the builder's one call (the guide's Derived/Test/ToyasCard.lean, 'card_holds'). Laid BY PROGRAM, IN A SANDBOX (cutbox-door.mjs). By AI agents, Wed Nov 11 2026. No macro, syntax, notation, axiom, sorry.
-/
import Derived.Test.YtnndaipnfniciaaGreatDoorRows
import GoSem.ClaimSeven
namespace Go.Proofs.YtnndaipnfniciaaGreatDoor
namespace Rows

/-- THE TIED CARD OF 'wooferlaw02.NetworkNumbers'. -/
def networkNumbersCard : Claim7 := { stood := { row := networkNumbersRow, standIns := [], harness := (true, "8f086a16cc91acf5b59258056af186d4262de4ef25086a39fb1144ec18147cd8"), looks := true }, kinds := [], alts := [], laidByText := true, laidKinds := [.data, .data, .data, .data, .data, .data], laidTests := true, laidLooks := .later }
def NetworkNumbersCardSaid : Prop := Claim7.holds Tryz.pinned (.plain (OpenSpec.ofChange networkNumbersSpec)) networkNumbersCard

/-- THE TIED CARD OF 'wooferlaw02.NetworkPolynomials'. -/
def networkPolynomialsCard : Claim7 := { stood := { row := networkPolynomialsRow, standIns := [], harness := (true, "8f086a16cc91acf5b59258056af186d4262de4ef25086a39fb1144ec18147cd8"), looks := true }, kinds := [], alts := [], laidByText := true, laidKinds := [.data, .data, .data, .data, .data, .data], laidTests := true, laidLooks := .later }
def NetworkPolynomialsCardSaid : Prop := Claim7.holds Tryz.pinned (.plain (OpenSpec.ofChange networkPolynomialsSpec)) networkPolynomialsCard

/-- THE TIED CARD OF 'wooferlaw02.NetworkTables'. -/
def networkTablesCard : Claim7 := { stood := { row := networkTablesRow, standIns := [], harness := (true, "8f086a16cc91acf5b59258056af186d4262de4ef25086a39fb1144ec18147cd8"), looks := true }, kinds := [], alts := [], laidByText := true, laidKinds := [.data, .data, .data, .data, .data, .data], laidTests := true, laidLooks := .later }
def NetworkTablesCardSaid : Prop := Claim7.holds Tryz.pinned (.plain (OpenSpec.ofChange networkTablesSpec)) networkTablesCard

/-- THE TIED CARD OF 'wooferlaw02.NetworkMatrices'. -/
def networkMatricesCard : Claim7 := { stood := { row := networkMatricesRow, standIns := [], harness := (true, "8f086a16cc91acf5b59258056af186d4262de4ef25086a39fb1144ec18147cd8"), looks := true }, kinds := [], alts := [], laidByText := true, laidKinds := [.data, .data, .data, .data, .data, .data], laidTests := true, laidLooks := .later }
def NetworkMatricesCardSaid : Prop := Claim7.holds Tryz.pinned (.plain (OpenSpec.ofChange networkMatricesSpec)) networkMatricesCard

/-- THE TIED CARD OF 'wooferlaw02.NetworkImpedances'. -/
def networkImpedancesCard : Claim7 := { stood := { row := networkImpedancesRow, standIns := [], harness := (true, "8f086a16cc91acf5b59258056af186d4262de4ef25086a39fb1144ec18147cd8"), looks := true }, kinds := [], alts := [], laidByText := true, laidKinds := [.data, .data, .data, .data, .data, .data], laidTests := true, laidLooks := .later }
def NetworkImpedancesCardSaid : Prop := Claim7.holds Tryz.pinned (.plain (OpenSpec.ofChange networkImpedancesSpec)) networkImpedancesCard

/-- THE TIED CARD OF 'wooferlaw02.NetworkPassive'. -/
def networkPassiveCard : Claim7 := { stood := { row := networkPassiveRow, standIns := [], harness := (true, "8f086a16cc91acf5b59258056af186d4262de4ef25086a39fb1144ec18147cd8"), looks := true }, kinds := [], alts := [], laidByText := true, laidKinds := [.data, .data, .data, .data, .data, .data], laidTests := true, laidLooks := .later }
def NetworkPassiveCardSaid : Prop := Claim7.holds Tryz.pinned (.plain (OpenSpec.ofChange networkPassiveSpec)) networkPassiveCard

/-- THE TIED CARD OF 'wooferlaw02.NetworkReciprocal'. -/
def networkReciprocalCard : Claim7 := { stood := { row := networkReciprocalRow, standIns := [], harness := (true, "8f086a16cc91acf5b59258056af186d4262de4ef25086a39fb1144ec18147cd8"), looks := true }, kinds := [], alts := [], laidByText := true, laidKinds := [.data, .data, .data, .data, .data, .data], laidTests := true, laidLooks := .later }
def NetworkReciprocalCardSaid : Prop := Claim7.holds Tryz.pinned (.plain (OpenSpec.ofChange networkReciprocalSpec)) networkReciprocalCard

/-- THE TIED CARD OF 'wooferlaw02.NetworkLadders'. -/
def networkLaddersCard : Claim7 := { stood := { row := networkLaddersRow, standIns := [], harness := (true, "8f086a16cc91acf5b59258056af186d4262de4ef25086a39fb1144ec18147cd8"), looks := true }, kinds := [], alts := [], laidByText := true, laidKinds := [.data, .data, .data, .data, .data, .data], laidTests := true, laidLooks := .later }
def NetworkLaddersCardSaid : Prop := Claim7.holds Tryz.pinned (.plain (OpenSpec.ofChange networkLaddersSpec)) networkLaddersCard

/-- THE TIED CARD OF 'wooferlaw02.NetworkJoined'. -/
def networkJoinedCard : Claim7 := { stood := { row := networkJoinedRow, standIns := [], harness := (true, "8f086a16cc91acf5b59258056af186d4262de4ef25086a39fb1144ec18147cd8"), looks := true }, kinds := [], alts := [], laidByText := true, laidKinds := [.data, .data, .data, .data, .data, .data], laidTests := true, laidLooks := .later }
def NetworkJoinedCardSaid : Prop := Claim7.holds Tryz.pinned (.plain (OpenSpec.ofChange networkJoinedSpec)) networkJoinedCard

/-- THE TIED CARD OF 'wooferlaw02.NetworkTexts'. -/
def networkTextsCard : Claim7 := { stood := { row := networkTextsRow, standIns := [], harness := (true, "8f086a16cc91acf5b59258056af186d4262de4ef25086a39fb1144ec18147cd8"), looks := true }, kinds := [], alts := [], laidByText := true, laidKinds := [.data, .data, .data, .data, .sentinel, .sentinel, .data, .data, .data, .pinned], laidTests := true, laidLooks := .later }
def NetworkTextsCardSaid : Prop := Claim7.holds Tryz.pinned (.plain (OpenSpec.ofChange networkTextsSpec)) networkTextsCard

/-- THE TIED CARD OF 'wooferlaw02.NetworkReads'. -/
def networkReadsCard : Claim7 := { stood := { row := networkReadsRow, standIns := [], harness := (true, "8f086a16cc91acf5b59258056af186d4262de4ef25086a39fb1144ec18147cd8"), looks := true }, kinds := [], alts := [], laidByText := true, laidKinds := [.data, .data, .data, .data, .sentinel, .sentinel, .data, .data, .data, .pinned], laidTests := true, laidLooks := .later }
def NetworkReadsCardSaid : Prop := Claim7.holds Tryz.pinned (.plain (OpenSpec.ofChange networkReadsSpec)) networkReadsCard

/-- THE SECOND FORM's CARD OF 'wooferlaw02.NetworkNumbers'. -/
def networkNumbersUptoCard : Claim7 := { stood := { row := networkNumbersUptoRow, standIns := [], harness := (true, "8f086a16cc91acf5b59258056af186d4262de4ef25086a39fb1144ec18147cd8"), looks := true }, kinds := [], alts := [], laidByText := true, laidKinds := [.data, .data, .data, .data, .data, .data], laidTests := true, laidLooks := .later }
def NetworkNumbersUptoCardSaid : Prop := Claim7.holds Tryz.pinned (.plain (OpenSpec.upto networkNumbersSpec)) networkNumbersUptoCard

/-- THE SECOND FORM's CARD OF 'wooferlaw02.NetworkPolynomials'. -/
def networkPolynomialsUptoCard : Claim7 := { stood := { row := networkPolynomialsUptoRow, standIns := [], harness := (true, "8f086a16cc91acf5b59258056af186d4262de4ef25086a39fb1144ec18147cd8"), looks := true }, kinds := [], alts := [], laidByText := true, laidKinds := [.data, .data, .data, .data, .data, .data], laidTests := true, laidLooks := .later }
def NetworkPolynomialsUptoCardSaid : Prop := Claim7.holds Tryz.pinned (.plain (OpenSpec.upto networkPolynomialsSpec)) networkPolynomialsUptoCard

/-- THE SECOND FORM's CARD OF 'wooferlaw02.NetworkTables'. -/
def networkTablesUptoCard : Claim7 := { stood := { row := networkTablesUptoRow, standIns := [], harness := (true, "8f086a16cc91acf5b59258056af186d4262de4ef25086a39fb1144ec18147cd8"), looks := true }, kinds := [], alts := [], laidByText := true, laidKinds := [.data, .data, .data, .data, .data, .data], laidTests := true, laidLooks := .later }
def NetworkTablesUptoCardSaid : Prop := Claim7.holds Tryz.pinned (.plain (OpenSpec.upto networkTablesSpec)) networkTablesUptoCard

/-- THE SECOND FORM's CARD OF 'wooferlaw02.NetworkMatrices'. -/
def networkMatricesUptoCard : Claim7 := { stood := { row := networkMatricesUptoRow, standIns := [], harness := (true, "8f086a16cc91acf5b59258056af186d4262de4ef25086a39fb1144ec18147cd8"), looks := true }, kinds := [], alts := [], laidByText := true, laidKinds := [.data, .data, .data, .data, .data, .data], laidTests := true, laidLooks := .later }
def NetworkMatricesUptoCardSaid : Prop := Claim7.holds Tryz.pinned (.plain (OpenSpec.upto networkMatricesSpec)) networkMatricesUptoCard

/-- THE SECOND FORM's CARD OF 'wooferlaw02.NetworkImpedances'. -/
def networkImpedancesUptoCard : Claim7 := { stood := { row := networkImpedancesUptoRow, standIns := [], harness := (true, "8f086a16cc91acf5b59258056af186d4262de4ef25086a39fb1144ec18147cd8"), looks := true }, kinds := [], alts := [], laidByText := true, laidKinds := [.data, .data, .data, .data, .data, .data], laidTests := true, laidLooks := .later }
def NetworkImpedancesUptoCardSaid : Prop := Claim7.holds Tryz.pinned (.plain (OpenSpec.upto networkImpedancesSpec)) networkImpedancesUptoCard

/-- THE SECOND FORM's CARD OF 'wooferlaw02.NetworkPassive'. -/
def networkPassiveUptoCard : Claim7 := { stood := { row := networkPassiveUptoRow, standIns := [], harness := (true, "8f086a16cc91acf5b59258056af186d4262de4ef25086a39fb1144ec18147cd8"), looks := true }, kinds := [], alts := [], laidByText := true, laidKinds := [.data, .data, .data, .data, .data, .data], laidTests := true, laidLooks := .later }
def NetworkPassiveUptoCardSaid : Prop := Claim7.holds Tryz.pinned (.plain (OpenSpec.upto networkPassiveSpec)) networkPassiveUptoCard

/-- THE SECOND FORM's CARD OF 'wooferlaw02.NetworkReciprocal'. -/
def networkReciprocalUptoCard : Claim7 := { stood := { row := networkReciprocalUptoRow, standIns := [], harness := (true, "8f086a16cc91acf5b59258056af186d4262de4ef25086a39fb1144ec18147cd8"), looks := true }, kinds := [], alts := [], laidByText := true, laidKinds := [.data, .data, .data, .data, .data, .data], laidTests := true, laidLooks := .later }
def NetworkReciprocalUptoCardSaid : Prop := Claim7.holds Tryz.pinned (.plain (OpenSpec.upto networkReciprocalSpec)) networkReciprocalUptoCard

/-- THE SECOND FORM's CARD OF 'wooferlaw02.NetworkLadders'. -/
def networkLaddersUptoCard : Claim7 := { stood := { row := networkLaddersUptoRow, standIns := [], harness := (true, "8f086a16cc91acf5b59258056af186d4262de4ef25086a39fb1144ec18147cd8"), looks := true }, kinds := [], alts := [], laidByText := true, laidKinds := [.data, .data, .data, .data, .data, .data], laidTests := true, laidLooks := .later }
def NetworkLaddersUptoCardSaid : Prop := Claim7.holds Tryz.pinned (.plain (OpenSpec.upto networkLaddersSpec)) networkLaddersUptoCard

/-- THE SECOND FORM's CARD OF 'wooferlaw02.NetworkJoined'. -/
def networkJoinedUptoCard : Claim7 := { stood := { row := networkJoinedUptoRow, standIns := [], harness := (true, "8f086a16cc91acf5b59258056af186d4262de4ef25086a39fb1144ec18147cd8"), looks := true }, kinds := [], alts := [], laidByText := true, laidKinds := [.data, .data, .data, .data, .data, .data], laidTests := true, laidLooks := .later }
def NetworkJoinedUptoCardSaid : Prop := Claim7.holds Tryz.pinned (.plain (OpenSpec.upto networkJoinedSpec)) networkJoinedUptoCard

/-- THE SECOND FORM's CARD OF 'wooferlaw02.NetworkTexts'. -/
def networkTextsUptoCard : Claim7 := { stood := { row := networkTextsUptoRow, standIns := [], harness := (true, "8f086a16cc91acf5b59258056af186d4262de4ef25086a39fb1144ec18147cd8"), looks := true }, kinds := [], alts := [], laidByText := true, laidKinds := [.data, .data, .data, .data, .sentinel, .sentinel, .data, .data, .data, .pinned], laidTests := true, laidLooks := .later }
def NetworkTextsUptoCardSaid : Prop := Claim7.holds Tryz.pinned (.plain (OpenSpec.upto networkTextsSpec)) networkTextsUptoCard

/-- THE SECOND FORM's CARD OF 'wooferlaw02.NetworkReads'. -/
def networkReadsUptoCard : Claim7 := { stood := { row := networkReadsUptoRow, standIns := [], harness := (true, "8f086a16cc91acf5b59258056af186d4262de4ef25086a39fb1144ec18147cd8"), looks := true }, kinds := [], alts := [], laidByText := true, laidKinds := [.data, .data, .data, .data, .sentinel, .sentinel, .data, .data, .data, .pinned], laidTests := true, laidLooks := .later }
def NetworkReadsUptoCardSaid : Prop := Claim7.holds Tryz.pinned (.plain (OpenSpec.upto networkReadsSpec)) networkReadsUptoCard
end Rows
end Go.Proofs.YtnndaipnfniciaaGreatDoor
