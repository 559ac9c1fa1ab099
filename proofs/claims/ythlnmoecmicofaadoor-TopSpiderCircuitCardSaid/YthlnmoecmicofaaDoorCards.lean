/-
  DERIVED. GIVEN WITH THE SEED: THE CARDS: each row of YthlnmoecmicofaaDoorRows.lean that lists a variable, with what it lists TIED to the program's text (the seventh form; the later family's looks); each row that meets fmt, with fmt's text TOLD by the authors' own Lean function (tested against real Go, not proved from fmt's source: count such statements apart). THE CARD IS WHAT COUNTS. Prove the row's statement (the work); the ties are given (YthlnmoecmicofaaDoorTie.lean); close each card by the builder's one call (the guide's Derived/Test/ToyasCard.lean, 'card_holds'). Laid BY PROGRAM, IN A SANDBOX (cutbox-door.mjs). By AI agents, Wed Nov 11 2026. No macro, syntax, notation, axiom, sorry.
-/
import Derived.Test.YthlnmoecmicofaaDoorRows
import GoSem.ClaimSeven
namespace Go.Proofs.YthlnmoecmicofaaDoor
namespace Rows

/-- THE TIED CARD OF 'woofertop.TopSpiderPower'. -/
def topSpiderPowerCard : Claim7 := { stood := { row := topSpiderPowerRow, standIns := [], harness := (true, "249953a26925d5051aa81c1358bd5810bbd6b011e2025c7a1ffd000bbeaf5979"), looks := false }, kinds := [], alts := [], laidByText := true, laidKinds := [.data, .data, .data], laidTests := true, laidLooks := .later }
def TopSpiderPowerCardSaid : Prop := Claim7.holds Tryd.pinned (.plain (OpenSpec.ofChange topSpiderPowerSpec)) topSpiderPowerCard

/-- THE TIED CARD OF 'woofertop.TopDustLossless'. -/
def topDustLosslessCard : Claim7 := { stood := { row := topDustLosslessRow, standIns := [], harness := (true, "249953a26925d5051aa81c1358bd5810bbd6b011e2025c7a1ffd000bbeaf5979"), looks := false }, kinds := [], alts := [], laidByText := true, laidKinds := [.data, .data], laidTests := true, laidLooks := .later }
def TopDustLosslessCardSaid : Prop := Claim7.holds Tryd.pinned (.plain (OpenSpec.ofChange topDustLosslessSpec)) topDustLosslessCard

/-- THE TIED CARD OF 'woofertop.TopSpiderCircuit'. -/
def topSpiderCircuitCard : Claim7 := { stood := { row := topSpiderCircuitRow, standIns := [], harness := (true, "249953a26925d5051aa81c1358bd5810bbd6b011e2025c7a1ffd000bbeaf5979"), looks := false }, kinds := [], alts := [], laidByText := true, laidKinds := [.data, .data, .data], laidTests := true, laidLooks := .later }
def TopSpiderCircuitCardSaid : Prop := Claim7.holds Tryd.pinned (.plain (OpenSpec.ofChange topSpiderCircuitSpec)) topSpiderCircuitCard

/-- THE TIED CARD OF 'woofertop.TopDustRows'. -/
def topDustRowsCard : Claim7 := { stood := { row := topDustRowsRow, standIns := [], harness := (true, "249953a26925d5051aa81c1358bd5810bbd6b011e2025c7a1ffd000bbeaf5979"), looks := false }, kinds := [], alts := [], laidByText := true, laidKinds := [.data, .data], laidTests := true, laidLooks := .later }
def TopDustRowsCardSaid : Prop := Claim7.holds Tryd.pinned (.plain (OpenSpec.ofChange topDustRowsSpec)) topDustRowsCard

/-- THE SECOND FORM's CARD OF 'woofertop.TopSpiderPower'. -/
def topSpiderPowerUptoCard : Claim7 := { stood := { row := topSpiderPowerUptoRow, standIns := [], harness := (true, "249953a26925d5051aa81c1358bd5810bbd6b011e2025c7a1ffd000bbeaf5979"), looks := false }, kinds := [], alts := [], laidByText := true, laidKinds := [.data, .data, .data], laidTests := true, laidLooks := .later }
def TopSpiderPowerUptoCardSaid : Prop := Claim7.holds Tryd.pinned (.plain (OpenSpec.upto topSpiderPowerSpec)) topSpiderPowerUptoCard

/-- THE SECOND FORM's CARD OF 'woofertop.TopDustLossless'. -/
def topDustLosslessUptoCard : Claim7 := { stood := { row := topDustLosslessUptoRow, standIns := [], harness := (true, "249953a26925d5051aa81c1358bd5810bbd6b011e2025c7a1ffd000bbeaf5979"), looks := false }, kinds := [], alts := [], laidByText := true, laidKinds := [.data, .data], laidTests := true, laidLooks := .later }
def TopDustLosslessUptoCardSaid : Prop := Claim7.holds Tryd.pinned (.plain (OpenSpec.upto topDustLosslessSpec)) topDustLosslessUptoCard

/-- THE SECOND FORM's CARD OF 'woofertop.TopSpiderCircuit'. -/
def topSpiderCircuitUptoCard : Claim7 := { stood := { row := topSpiderCircuitUptoRow, standIns := [], harness := (true, "249953a26925d5051aa81c1358bd5810bbd6b011e2025c7a1ffd000bbeaf5979"), looks := false }, kinds := [], alts := [], laidByText := true, laidKinds := [.data, .data, .data], laidTests := true, laidLooks := .later }
def TopSpiderCircuitUptoCardSaid : Prop := Claim7.holds Tryd.pinned (.plain (OpenSpec.upto topSpiderCircuitSpec)) topSpiderCircuitUptoCard

/-- THE SECOND FORM's CARD OF 'woofertop.TopDustRows'. -/
def topDustRowsUptoCard : Claim7 := { stood := { row := topDustRowsUptoRow, standIns := [], harness := (true, "249953a26925d5051aa81c1358bd5810bbd6b011e2025c7a1ffd000bbeaf5979"), looks := false }, kinds := [], alts := [], laidByText := true, laidKinds := [.data, .data], laidTests := true, laidLooks := .later }
def TopDustRowsUptoCardSaid : Prop := Claim7.holds Tryd.pinned (.plain (OpenSpec.upto topDustRowsSpec)) topDustRowsUptoCard
end Rows
end Go.Proofs.YthlnmoecmicofaaDoor
