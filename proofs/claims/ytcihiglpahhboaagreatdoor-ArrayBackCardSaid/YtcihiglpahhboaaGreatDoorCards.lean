/-
  DERIVED. GIVEN WITH THE SEED: THE CARDS: each row of YtcihiglpahhboaaGreatDoorRows.lean that lists a variable, with what it lists TIED to the program's text (the seventh form; the later family's looks); each row that meets fmt, with fmt's text TOLD by the authors' own Lean function (tested against real Go, not proved from fmt's source: count such statements apart). THE CARD IS WHAT COUNTS. Prove the row's statement (the work); the ties are given (YtcihiglpahhboaaGreatDoorTie.lean); close each card by the builder's one call (the guide's Derived/Test/ToyasCard.lean, 'card_holds'). Laid BY PROGRAM, IN A SANDBOX (cutbox-door.mjs). By AI agents, Wed Nov 11 2026. No macro, syntax, notation, axiom, sorry.
-/
import Derived.Test.YtcihiglpahhboaaGreatDoorRows
import GoSem.ClaimSeven
namespace Go.Proofs.YtcihiglpahhboaaGreatDoor
namespace Rows

/-- THE TIED CARD OF 'wooferlaw06.ArrayRepeats'. -/
def arrayRepeatsCard : Claim7 := { stood := { row := arrayRepeatsRow, standIns := [], harness := (true, "c9a2b617f93045f5d414ac8c2d2f38f1e8e703108bdef3db1dc06e1650ef4a7c"), looks := true }, kinds := [], alts := [], laidByText := true, laidKinds := [.data, .data, .data, .data, .data], laidTests := true, laidLooks := .later }
def ArrayRepeatsCardSaid : Prop := Claim7.holds Tryz.pinned (.plain (OpenSpec.ofChange arrayRepeatsSpec)) arrayRepeatsCard

/-- THE TIED CARD OF 'wooferlaw06.ArrayWeights'. -/
def arrayWeightsCard : Claim7 := { stood := { row := arrayWeightsRow, standIns := [], harness := (true, "c9a2b617f93045f5d414ac8c2d2f38f1e8e703108bdef3db1dc06e1650ef4a7c"), looks := true }, kinds := [], alts := [], laidByText := true, laidKinds := [.data, .data, .data, .data, .data], laidTests := true, laidLooks := .later }
def ArrayWeightsCardSaid : Prop := Claim7.holds Tryz.pinned (.plain (OpenSpec.ofChange arrayWeightsSpec)) arrayWeightsCard

/-- THE TIED CARD OF 'wooferlaw06.ArrayProducts'. -/
def arrayProductsCard : Claim7 := { stood := { row := arrayProductsRow, standIns := [], harness := (true, "c9a2b617f93045f5d414ac8c2d2f38f1e8e703108bdef3db1dc06e1650ef4a7c"), looks := true }, kinds := [], alts := [], laidByText := true, laidKinds := [.data, .data, .data, .data, .data], laidTests := true, laidLooks := .later }
def ArrayProductsCardSaid : Prop := Claim7.holds Tryz.pinned (.plain (OpenSpec.ofChange arrayProductsSpec)) arrayProductsCard

/-- THE TIED CARD OF 'wooferlaw06.ArrayAudiences'. -/
def arrayAudiencesCard : Claim7 := { stood := { row := arrayAudiencesRow, standIns := [], harness := (true, "c9a2b617f93045f5d414ac8c2d2f38f1e8e703108bdef3db1dc06e1650ef4a7c"), looks := true }, kinds := [], alts := [], laidByText := true, laidKinds := [.data, .data, .data, .data, .data], laidTests := true, laidLooks := .later }
def ArrayAudiencesCardSaid : Prop := Claim7.holds Tryz.pinned (.plain (OpenSpec.ofChange arrayAudiencesSpec)) arrayAudiencesCard

/-- THE TIED CARD OF 'wooferlaw06.ArrayBeams'. -/
def arrayBeamsCard : Claim7 := { stood := { row := arrayBeamsRow, standIns := [], harness := (true, "c9a2b617f93045f5d414ac8c2d2f38f1e8e703108bdef3db1dc06e1650ef4a7c"), looks := true }, kinds := [], alts := [], laidByText := true, laidKinds := [.data, .data, .data, .data, .data], laidTests := true, laidLooks := .later }
def ArrayBeamsCardSaid : Prop := Claim7.holds Tryz.pinned (.plain (OpenSpec.ofChange arrayBeamsSpec)) arrayBeamsCard

/-- THE TIED CARD OF 'wooferlaw06.ArrayPatterns'. -/
def arrayPatternsCard : Claim7 := { stood := { row := arrayPatternsRow, standIns := [], harness := (true, "c9a2b617f93045f5d414ac8c2d2f38f1e8e703108bdef3db1dc06e1650ef4a7c"), looks := true }, kinds := [], alts := [], laidByText := true, laidKinds := [.data, .data, .data, .data, .data], laidTests := true, laidLooks := .later }
def ArrayPatternsCardSaid : Prop := Claim7.holds Tryz.pinned (.plain (OpenSpec.ofChange arrayPatternsSpec)) arrayPatternsCard

/-- THE TIED CARD OF 'wooferlaw06.ArrayPressures'. -/
def arrayPressuresCard : Claim7 := { stood := { row := arrayPressuresRow, standIns := [], harness := (true, "c9a2b617f93045f5d414ac8c2d2f38f1e8e703108bdef3db1dc06e1650ef4a7c"), looks := true }, kinds := [], alts := [], laidByText := true, laidKinds := [.data, .data, .data, .data, .data], laidTests := true, laidLooks := .later }
def ArrayPressuresCardSaid : Prop := Claim7.holds Tryz.pinned (.plain (OpenSpec.ofChange arrayPressuresSpec)) arrayPressuresCard

/-- THE TIED CARD OF 'wooferlaw06.ArrayMoves'. -/
def arrayMovesCard : Claim7 := { stood := { row := arrayMovesRow, standIns := [], harness := (true, "c9a2b617f93045f5d414ac8c2d2f38f1e8e703108bdef3db1dc06e1650ef4a7c"), looks := true }, kinds := [], alts := [], laidByText := true, laidKinds := [.data, .data, .data, .data, .data], laidTests := true, laidLooks := .later }
def ArrayMovesCardSaid : Prop := Claim7.holds Tryz.pinned (.plain (OpenSpec.ofChange arrayMovesSpec)) arrayMovesCard

/-- THE TIED CARD OF 'wooferlaw06.ArrayWalls'. -/
def arrayWallsCard : Claim7 := { stood := { row := arrayWallsRow, standIns := [], harness := (true, "c9a2b617f93045f5d414ac8c2d2f38f1e8e703108bdef3db1dc06e1650ef4a7c"), looks := true }, kinds := [], alts := [], laidByText := true, laidKinds := [.data, .data, .data, .data, .data], laidTests := true, laidLooks := .later }
def ArrayWallsCardSaid : Prop := Claim7.holds Tryz.pinned (.plain (OpenSpec.ofChange arrayWallsSpec)) arrayWallsCard

/-- THE TIED CARD OF 'wooferlaw06.ArrayHarmonics'. -/
def arrayHarmonicsCard : Claim7 := { stood := { row := arrayHarmonicsRow, standIns := [], harness := (true, "c9a2b617f93045f5d414ac8c2d2f38f1e8e703108bdef3db1dc06e1650ef4a7c"), looks := true }, kinds := [], alts := [], laidByText := true, laidKinds := [.data, .data, .data, .data, .data], laidTests := true, laidLooks := .later }
def ArrayHarmonicsCardSaid : Prop := Claim7.holds Tryz.pinned (.plain (OpenSpec.ofChange arrayHarmonicsSpec)) arrayHarmonicsCard

/-- THE TIED CARD OF 'wooferlaw06.ArrayBacks'. -/
def arrayBacksCard : Claim7 := { stood := { row := arrayBacksRow, standIns := [], harness := (true, "c9a2b617f93045f5d414ac8c2d2f38f1e8e703108bdef3db1dc06e1650ef4a7c"), looks := true }, kinds := [], alts := [], laidByText := true, laidKinds := [.data, .data, .data, .data, .data], laidTests := true, laidLooks := .later }
def ArrayBacksCardSaid : Prop := Claim7.holds Tryz.pinned (.plain (OpenSpec.ofChange arrayBacksSpec)) arrayBacksCard

/-- THE TIED CARD OF 'wooferlaw06.ArrayTurns'. -/
def arrayTurnsCard : Claim7 := { stood := { row := arrayTurnsRow, standIns := [], harness := (true, "c9a2b617f93045f5d414ac8c2d2f38f1e8e703108bdef3db1dc06e1650ef4a7c"), looks := true }, kinds := [], alts := [], laidByText := true, laidKinds := [.data, .data, .data, .data, .data], laidTests := true, laidLooks := .later }
def ArrayTurnsCardSaid : Prop := Claim7.holds Tryz.pinned (.plain (OpenSpec.ofChange arrayTurnsSpec)) arrayTurnsCard

/-- THE TIED CARD OF 'wooferlaw06.ArrayTexts'. -/
def arrayTextsCard : Claim7 := { stood := { row := arrayTextsRow, standIns := [], harness := (true, "c9a2b617f93045f5d414ac8c2d2f38f1e8e703108bdef3db1dc06e1650ef4a7c"), looks := true }, kinds := [], alts := [], laidByText := true, laidKinds := [.data, .data, .data, .data, .sentinel, .sentinel, .data, .data, .pinned], laidTests := true, laidLooks := .later }
def ArrayTextsCardSaid : Prop := Claim7.holds Tryz.pinned (.plain (OpenSpec.ofChange arrayTextsSpec)) arrayTextsCard

/-- THE TIED CARD OF 'wooferlaw06.ArrayBack'. -/
def arrayBackCard : Claim7 := { stood := { row := arrayBackRow, standIns := [], harness := (true, "c9a2b617f93045f5d414ac8c2d2f38f1e8e703108bdef3db1dc06e1650ef4a7c"), looks := true }, kinds := [], alts := [], laidByText := true, laidKinds := [.data, .data, .data, .data, .sentinel, .sentinel, .data, .data, .pinned], laidTests := true, laidLooks := .later }
def ArrayBackCardSaid : Prop := Claim7.holds Tryz.pinned (.plain (OpenSpec.ofChange arrayBackSpec)) arrayBackCard

/-- THE SECOND FORM's CARD OF 'wooferlaw06.ArrayRepeats'. -/
def arrayRepeatsUptoCard : Claim7 := { stood := { row := arrayRepeatsUptoRow, standIns := [], harness := (true, "c9a2b617f93045f5d414ac8c2d2f38f1e8e703108bdef3db1dc06e1650ef4a7c"), looks := true }, kinds := [], alts := [], laidByText := true, laidKinds := [.data, .data, .data, .data, .data], laidTests := true, laidLooks := .later }
def ArrayRepeatsUptoCardSaid : Prop := Claim7.holds Tryz.pinned (.plain (OpenSpec.upto arrayRepeatsSpec)) arrayRepeatsUptoCard

/-- THE SECOND FORM's CARD OF 'wooferlaw06.ArrayWeights'. -/
def arrayWeightsUptoCard : Claim7 := { stood := { row := arrayWeightsUptoRow, standIns := [], harness := (true, "c9a2b617f93045f5d414ac8c2d2f38f1e8e703108bdef3db1dc06e1650ef4a7c"), looks := true }, kinds := [], alts := [], laidByText := true, laidKinds := [.data, .data, .data, .data, .data], laidTests := true, laidLooks := .later }
def ArrayWeightsUptoCardSaid : Prop := Claim7.holds Tryz.pinned (.plain (OpenSpec.upto arrayWeightsSpec)) arrayWeightsUptoCard

/-- THE SECOND FORM's CARD OF 'wooferlaw06.ArrayProducts'. -/
def arrayProductsUptoCard : Claim7 := { stood := { row := arrayProductsUptoRow, standIns := [], harness := (true, "c9a2b617f93045f5d414ac8c2d2f38f1e8e703108bdef3db1dc06e1650ef4a7c"), looks := true }, kinds := [], alts := [], laidByText := true, laidKinds := [.data, .data, .data, .data, .data], laidTests := true, laidLooks := .later }
def ArrayProductsUptoCardSaid : Prop := Claim7.holds Tryz.pinned (.plain (OpenSpec.upto arrayProductsSpec)) arrayProductsUptoCard

/-- THE SECOND FORM's CARD OF 'wooferlaw06.ArrayAudiences'. -/
def arrayAudiencesUptoCard : Claim7 := { stood := { row := arrayAudiencesUptoRow, standIns := [], harness := (true, "c9a2b617f93045f5d414ac8c2d2f38f1e8e703108bdef3db1dc06e1650ef4a7c"), looks := true }, kinds := [], alts := [], laidByText := true, laidKinds := [.data, .data, .data, .data, .data], laidTests := true, laidLooks := .later }
def ArrayAudiencesUptoCardSaid : Prop := Claim7.holds Tryz.pinned (.plain (OpenSpec.upto arrayAudiencesSpec)) arrayAudiencesUptoCard

/-- THE SECOND FORM's CARD OF 'wooferlaw06.ArrayBeams'. -/
def arrayBeamsUptoCard : Claim7 := { stood := { row := arrayBeamsUptoRow, standIns := [], harness := (true, "c9a2b617f93045f5d414ac8c2d2f38f1e8e703108bdef3db1dc06e1650ef4a7c"), looks := true }, kinds := [], alts := [], laidByText := true, laidKinds := [.data, .data, .data, .data, .data], laidTests := true, laidLooks := .later }
def ArrayBeamsUptoCardSaid : Prop := Claim7.holds Tryz.pinned (.plain (OpenSpec.upto arrayBeamsSpec)) arrayBeamsUptoCard

/-- THE SECOND FORM's CARD OF 'wooferlaw06.ArrayPatterns'. -/
def arrayPatternsUptoCard : Claim7 := { stood := { row := arrayPatternsUptoRow, standIns := [], harness := (true, "c9a2b617f93045f5d414ac8c2d2f38f1e8e703108bdef3db1dc06e1650ef4a7c"), looks := true }, kinds := [], alts := [], laidByText := true, laidKinds := [.data, .data, .data, .data, .data], laidTests := true, laidLooks := .later }
def ArrayPatternsUptoCardSaid : Prop := Claim7.holds Tryz.pinned (.plain (OpenSpec.upto arrayPatternsSpec)) arrayPatternsUptoCard

/-- THE SECOND FORM's CARD OF 'wooferlaw06.ArrayPressures'. -/
def arrayPressuresUptoCard : Claim7 := { stood := { row := arrayPressuresUptoRow, standIns := [], harness := (true, "c9a2b617f93045f5d414ac8c2d2f38f1e8e703108bdef3db1dc06e1650ef4a7c"), looks := true }, kinds := [], alts := [], laidByText := true, laidKinds := [.data, .data, .data, .data, .data], laidTests := true, laidLooks := .later }
def ArrayPressuresUptoCardSaid : Prop := Claim7.holds Tryz.pinned (.plain (OpenSpec.upto arrayPressuresSpec)) arrayPressuresUptoCard

/-- THE SECOND FORM's CARD OF 'wooferlaw06.ArrayMoves'. -/
def arrayMovesUptoCard : Claim7 := { stood := { row := arrayMovesUptoRow, standIns := [], harness := (true, "c9a2b617f93045f5d414ac8c2d2f38f1e8e703108bdef3db1dc06e1650ef4a7c"), looks := true }, kinds := [], alts := [], laidByText := true, laidKinds := [.data, .data, .data, .data, .data], laidTests := true, laidLooks := .later }
def ArrayMovesUptoCardSaid : Prop := Claim7.holds Tryz.pinned (.plain (OpenSpec.upto arrayMovesSpec)) arrayMovesUptoCard

/-- THE SECOND FORM's CARD OF 'wooferlaw06.ArrayWalls'. -/
def arrayWallsUptoCard : Claim7 := { stood := { row := arrayWallsUptoRow, standIns := [], harness := (true, "c9a2b617f93045f5d414ac8c2d2f38f1e8e703108bdef3db1dc06e1650ef4a7c"), looks := true }, kinds := [], alts := [], laidByText := true, laidKinds := [.data, .data, .data, .data, .data], laidTests := true, laidLooks := .later }
def ArrayWallsUptoCardSaid : Prop := Claim7.holds Tryz.pinned (.plain (OpenSpec.upto arrayWallsSpec)) arrayWallsUptoCard

/-- THE SECOND FORM's CARD OF 'wooferlaw06.ArrayHarmonics'. -/
def arrayHarmonicsUptoCard : Claim7 := { stood := { row := arrayHarmonicsUptoRow, standIns := [], harness := (true, "c9a2b617f93045f5d414ac8c2d2f38f1e8e703108bdef3db1dc06e1650ef4a7c"), looks := true }, kinds := [], alts := [], laidByText := true, laidKinds := [.data, .data, .data, .data, .data], laidTests := true, laidLooks := .later }
def ArrayHarmonicsUptoCardSaid : Prop := Claim7.holds Tryz.pinned (.plain (OpenSpec.upto arrayHarmonicsSpec)) arrayHarmonicsUptoCard

/-- THE SECOND FORM's CARD OF 'wooferlaw06.ArrayBacks'. -/
def arrayBacksUptoCard : Claim7 := { stood := { row := arrayBacksUptoRow, standIns := [], harness := (true, "c9a2b617f93045f5d414ac8c2d2f38f1e8e703108bdef3db1dc06e1650ef4a7c"), looks := true }, kinds := [], alts := [], laidByText := true, laidKinds := [.data, .data, .data, .data, .data], laidTests := true, laidLooks := .later }
def ArrayBacksUptoCardSaid : Prop := Claim7.holds Tryz.pinned (.plain (OpenSpec.upto arrayBacksSpec)) arrayBacksUptoCard

/-- THE SECOND FORM's CARD OF 'wooferlaw06.ArrayTurns'. -/
def arrayTurnsUptoCard : Claim7 := { stood := { row := arrayTurnsUptoRow, standIns := [], harness := (true, "c9a2b617f93045f5d414ac8c2d2f38f1e8e703108bdef3db1dc06e1650ef4a7c"), looks := true }, kinds := [], alts := [], laidByText := true, laidKinds := [.data, .data, .data, .data, .data], laidTests := true, laidLooks := .later }
def ArrayTurnsUptoCardSaid : Prop := Claim7.holds Tryz.pinned (.plain (OpenSpec.upto arrayTurnsSpec)) arrayTurnsUptoCard

/-- THE SECOND FORM's CARD OF 'wooferlaw06.ArrayTexts'. -/
def arrayTextsUptoCard : Claim7 := { stood := { row := arrayTextsUptoRow, standIns := [], harness := (true, "c9a2b617f93045f5d414ac8c2d2f38f1e8e703108bdef3db1dc06e1650ef4a7c"), looks := true }, kinds := [], alts := [], laidByText := true, laidKinds := [.data, .data, .data, .data, .sentinel, .sentinel, .data, .data, .pinned], laidTests := true, laidLooks := .later }
def ArrayTextsUptoCardSaid : Prop := Claim7.holds Tryz.pinned (.plain (OpenSpec.upto arrayTextsSpec)) arrayTextsUptoCard

/-- THE SECOND FORM's CARD OF 'wooferlaw06.ArrayBack'. -/
def arrayBackUptoCard : Claim7 := { stood := { row := arrayBackUptoRow, standIns := [], harness := (true, "c9a2b617f93045f5d414ac8c2d2f38f1e8e703108bdef3db1dc06e1650ef4a7c"), looks := true }, kinds := [], alts := [], laidByText := true, laidKinds := [.data, .data, .data, .data, .sentinel, .sentinel, .data, .data, .pinned], laidTests := true, laidLooks := .later }
def ArrayBackUptoCardSaid : Prop := Claim7.holds Tryz.pinned (.plain (OpenSpec.upto arrayBackSpec)) arrayBackUptoCard
end Rows
end Go.Proofs.YtcihiglpahhboaaGreatDoor
