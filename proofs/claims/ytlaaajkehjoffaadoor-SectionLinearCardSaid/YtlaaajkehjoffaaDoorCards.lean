/-
  DERIVED. GIVEN WITH THE SEED: THE CARDS: each row of YtlaaajkehjoffaaDoorRows.lean that lists a variable, with what it lists TIED to the program's text (the seventh form; the later family's looks); each row that meets fmt, with fmt's text TOLD by the authors' own Lean function (tested against real Go, not proved from fmt's source: count such statements apart). THE CARD IS WHAT COUNTS. Prove the row's statement (the work); the ties are given (YtlaaajkehjoffaaDoorTie.lean); close each card by the builder's one call (the guide's Derived/Test/ToyasCard.lean, 'card_holds'). Laid BY PROGRAM, IN A SANDBOX (cutbox-door.mjs). By AI agents, Wed Nov 11 2026. No macro, syntax, notation, axiom, sorry.
-/
import Derived.Test.YtlaaajkehjoffaaDoorRows
import GoSem.ClaimSeven
namespace Go.Proofs.YtlaaajkehjoffaaDoor
namespace Rows

/-- THE TIED CARD OF 'wooferlaw05.SectionRuns'. -/
def sectionRunsCard : Claim7 := { stood := { row := sectionRunsRow, standIns := [], harness := (true, "4a47ff3dfe3438b3cf5e761ea7641f3a6a1a9e5e4fd627207ae86f8bd07bd807"), looks := false }, kinds := [], alts := [], laidByText := true, laidKinds := [.data, .data, .data, .data], laidTests := true, laidLooks := .later }
def SectionRunsCardSaid : Prop := Claim7.holds Tryd.pinned (.plain (OpenSpec.ofChange sectionRunsSpec)) sectionRunsCard

/-- THE TIED CARD OF 'wooferlaw05.SectionSettles'. -/
def sectionSettlesCard : Claim7 := { stood := { row := sectionSettlesRow, standIns := [], harness := (true, "4a47ff3dfe3438b3cf5e761ea7641f3a6a1a9e5e4fd627207ae86f8bd07bd807"), looks := false }, kinds := [], alts := [], laidByText := true, laidKinds := [.data, .data, .data, .data], laidTests := true, laidLooks := .later }
def SectionSettlesCardSaid : Prop := Claim7.holds Tryd.pinned (.plain (OpenSpec.ofChange sectionSettlesSpec)) sectionSettlesCard

/-- THE TIED CARD OF 'wooferlaw05.SectionBounds'. -/
def sectionBoundsCard : Claim7 := { stood := { row := sectionBoundsRow, standIns := [], harness := (true, "4a47ff3dfe3438b3cf5e761ea7641f3a6a1a9e5e4fd627207ae86f8bd07bd807"), looks := false }, kinds := [], alts := [], laidByText := true, laidKinds := [.data, .data, .data, .data], laidTests := true, laidLooks := .later }
def SectionBoundsCardSaid : Prop := Claim7.holds Tryd.pinned (.plain (OpenSpec.ofChange sectionBoundsSpec)) sectionBoundsCard

/-- THE TIED CARD OF 'wooferlaw05.SectionUndoes'. -/
def sectionUndoesCard : Claim7 := { stood := { row := sectionUndoesRow, standIns := [], harness := (true, "4a47ff3dfe3438b3cf5e761ea7641f3a6a1a9e5e4fd627207ae86f8bd07bd807"), looks := false }, kinds := [], alts := [], laidByText := true, laidKinds := [.data, .data, .data, .data], laidTests := true, laidLooks := .later }
def SectionUndoesCardSaid : Prop := Claim7.holds Tryd.pinned (.plain (OpenSpec.ofChange sectionUndoesSpec)) sectionUndoesCard

/-- THE TIED CARD OF 'wooferlaw05.SectionLinear'. -/
def sectionLinearCard : Claim7 := { stood := { row := sectionLinearRow, standIns := [], harness := (true, "4a47ff3dfe3438b3cf5e761ea7641f3a6a1a9e5e4fd627207ae86f8bd07bd807"), looks := false }, kinds := [], alts := [], laidByText := true, laidKinds := [.data, .data, .data, .data], laidTests := true, laidLooks := .later }
def SectionLinearCardSaid : Prop := Claim7.holds Tryd.pinned (.plain (OpenSpec.ofChange sectionLinearSpec)) sectionLinearCard

/-- THE TIED CARD OF 'wooferlaw05.SectionRests'. -/
def sectionRestsCard : Claim7 := { stood := { row := sectionRestsRow, standIns := [], harness := (true, "4a47ff3dfe3438b3cf5e761ea7641f3a6a1a9e5e4fd627207ae86f8bd07bd807"), looks := false }, kinds := [], alts := [], laidByText := true, laidKinds := [.data, .data, .data, .data], laidTests := true, laidLooks := .later }
def SectionRestsCardSaid : Prop := Claim7.holds Tryd.pinned (.plain (OpenSpec.ofChange sectionRestsSpec)) sectionRestsCard

/-- THE TIED CARD OF 'wooferlaw05.SectionSteps'. -/
def sectionStepsCard : Claim7 := { stood := { row := sectionStepsRow, standIns := [], harness := (true, "4a47ff3dfe3438b3cf5e761ea7641f3a6a1a9e5e4fd627207ae86f8bd07bd807"), looks := false }, kinds := [], alts := [], laidByText := true, laidKinds := [.data, .data, .data, .data], laidTests := true, laidLooks := .later }
def SectionStepsCardSaid : Prop := Claim7.holds Tryd.pinned (.plain (OpenSpec.ofChange sectionStepsSpec)) sectionStepsCard

/-- THE TIED CARD OF 'wooferlaw05.SectionHolds'. -/
def sectionHoldsCard : Claim7 := { stood := { row := sectionHoldsRow, standIns := [], harness := (true, "4a47ff3dfe3438b3cf5e761ea7641f3a6a1a9e5e4fd627207ae86f8bd07bd807"), looks := false }, kinds := [], alts := [], laidByText := true, laidKinds := [.data, .data, .data, .data], laidTests := true, laidLooks := .later }
def SectionHoldsCardSaid : Prop := Claim7.holds Tryd.pinned (.plain (OpenSpec.ofChange sectionHoldsSpec)) sectionHoldsCard

/-- THE TIED CARD OF 'wooferlaw05.SectionCascades'. -/
def sectionCascadesCard : Claim7 := { stood := { row := sectionCascadesRow, standIns := [], harness := (true, "4a47ff3dfe3438b3cf5e761ea7641f3a6a1a9e5e4fd627207ae86f8bd07bd807"), looks := false }, kinds := [], alts := [], laidByText := true, laidKinds := [.data, .data, .data, .data], laidTests := true, laidLooks := .later }
def SectionCascadesCardSaid : Prop := Claim7.holds Tryd.pinned (.plain (OpenSpec.ofChange sectionCascadesSpec)) sectionCascadesCard

/-- THE TIED CARD OF 'wooferlaw05.SectionGoesOn'. -/
def sectionGoesOnCard : Claim7 := { stood := { row := sectionGoesOnRow, standIns := [], harness := (true, "4a47ff3dfe3438b3cf5e761ea7641f3a6a1a9e5e4fd627207ae86f8bd07bd807"), looks := false }, kinds := [], alts := [], laidByText := true, laidKinds := [.data, .data, .data, .data], laidTests := true, laidLooks := .later }
def SectionGoesOnCardSaid : Prop := Claim7.holds Tryd.pinned (.plain (OpenSpec.ofChange sectionGoesOnSpec)) sectionGoesOnCard

/-- THE TIED CARD OF 'wooferlaw05.SectionNearest'. -/
def sectionNearestCard : Claim7 := { stood := { row := sectionNearestRow, standIns := [], harness := (true, "4a47ff3dfe3438b3cf5e761ea7641f3a6a1a9e5e4fd627207ae86f8bd07bd807"), looks := false }, kinds := [], alts := [], laidByText := true, laidKinds := [.data, .data, .data, .data], laidTests := true, laidLooks := .later }
def SectionNearestCardSaid : Prop := Claim7.holds Tryd.pinned (.plain (OpenSpec.ofChange sectionNearestSpec)) sectionNearestCard

/-- THE SECOND FORM's CARD OF 'wooferlaw05.SectionRuns'. -/
def sectionRunsUptoCard : Claim7 := { stood := { row := sectionRunsUptoRow, standIns := [], harness := (true, "4a47ff3dfe3438b3cf5e761ea7641f3a6a1a9e5e4fd627207ae86f8bd07bd807"), looks := false }, kinds := [], alts := [], laidByText := true, laidKinds := [.data, .data, .data, .data], laidTests := true, laidLooks := .later }
def SectionRunsUptoCardSaid : Prop := Claim7.holds Tryd.pinned (.plain (OpenSpec.upto sectionRunsSpec)) sectionRunsUptoCard

/-- THE SECOND FORM's CARD OF 'wooferlaw05.SectionSettles'. -/
def sectionSettlesUptoCard : Claim7 := { stood := { row := sectionSettlesUptoRow, standIns := [], harness := (true, "4a47ff3dfe3438b3cf5e761ea7641f3a6a1a9e5e4fd627207ae86f8bd07bd807"), looks := false }, kinds := [], alts := [], laidByText := true, laidKinds := [.data, .data, .data, .data], laidTests := true, laidLooks := .later }
def SectionSettlesUptoCardSaid : Prop := Claim7.holds Tryd.pinned (.plain (OpenSpec.upto sectionSettlesSpec)) sectionSettlesUptoCard

/-- THE SECOND FORM's CARD OF 'wooferlaw05.SectionBounds'. -/
def sectionBoundsUptoCard : Claim7 := { stood := { row := sectionBoundsUptoRow, standIns := [], harness := (true, "4a47ff3dfe3438b3cf5e761ea7641f3a6a1a9e5e4fd627207ae86f8bd07bd807"), looks := false }, kinds := [], alts := [], laidByText := true, laidKinds := [.data, .data, .data, .data], laidTests := true, laidLooks := .later }
def SectionBoundsUptoCardSaid : Prop := Claim7.holds Tryd.pinned (.plain (OpenSpec.upto sectionBoundsSpec)) sectionBoundsUptoCard

/-- THE SECOND FORM's CARD OF 'wooferlaw05.SectionUndoes'. -/
def sectionUndoesUptoCard : Claim7 := { stood := { row := sectionUndoesUptoRow, standIns := [], harness := (true, "4a47ff3dfe3438b3cf5e761ea7641f3a6a1a9e5e4fd627207ae86f8bd07bd807"), looks := false }, kinds := [], alts := [], laidByText := true, laidKinds := [.data, .data, .data, .data], laidTests := true, laidLooks := .later }
def SectionUndoesUptoCardSaid : Prop := Claim7.holds Tryd.pinned (.plain (OpenSpec.upto sectionUndoesSpec)) sectionUndoesUptoCard

/-- THE SECOND FORM's CARD OF 'wooferlaw05.SectionLinear'. -/
def sectionLinearUptoCard : Claim7 := { stood := { row := sectionLinearUptoRow, standIns := [], harness := (true, "4a47ff3dfe3438b3cf5e761ea7641f3a6a1a9e5e4fd627207ae86f8bd07bd807"), looks := false }, kinds := [], alts := [], laidByText := true, laidKinds := [.data, .data, .data, .data], laidTests := true, laidLooks := .later }
def SectionLinearUptoCardSaid : Prop := Claim7.holds Tryd.pinned (.plain (OpenSpec.upto sectionLinearSpec)) sectionLinearUptoCard

/-- THE SECOND FORM's CARD OF 'wooferlaw05.SectionRests'. -/
def sectionRestsUptoCard : Claim7 := { stood := { row := sectionRestsUptoRow, standIns := [], harness := (true, "4a47ff3dfe3438b3cf5e761ea7641f3a6a1a9e5e4fd627207ae86f8bd07bd807"), looks := false }, kinds := [], alts := [], laidByText := true, laidKinds := [.data, .data, .data, .data], laidTests := true, laidLooks := .later }
def SectionRestsUptoCardSaid : Prop := Claim7.holds Tryd.pinned (.plain (OpenSpec.upto sectionRestsSpec)) sectionRestsUptoCard

/-- THE SECOND FORM's CARD OF 'wooferlaw05.SectionSteps'. -/
def sectionStepsUptoCard : Claim7 := { stood := { row := sectionStepsUptoRow, standIns := [], harness := (true, "4a47ff3dfe3438b3cf5e761ea7641f3a6a1a9e5e4fd627207ae86f8bd07bd807"), looks := false }, kinds := [], alts := [], laidByText := true, laidKinds := [.data, .data, .data, .data], laidTests := true, laidLooks := .later }
def SectionStepsUptoCardSaid : Prop := Claim7.holds Tryd.pinned (.plain (OpenSpec.upto sectionStepsSpec)) sectionStepsUptoCard

/-- THE SECOND FORM's CARD OF 'wooferlaw05.SectionHolds'. -/
def sectionHoldsUptoCard : Claim7 := { stood := { row := sectionHoldsUptoRow, standIns := [], harness := (true, "4a47ff3dfe3438b3cf5e761ea7641f3a6a1a9e5e4fd627207ae86f8bd07bd807"), looks := false }, kinds := [], alts := [], laidByText := true, laidKinds := [.data, .data, .data, .data], laidTests := true, laidLooks := .later }
def SectionHoldsUptoCardSaid : Prop := Claim7.holds Tryd.pinned (.plain (OpenSpec.upto sectionHoldsSpec)) sectionHoldsUptoCard

/-- THE SECOND FORM's CARD OF 'wooferlaw05.SectionCascades'. -/
def sectionCascadesUptoCard : Claim7 := { stood := { row := sectionCascadesUptoRow, standIns := [], harness := (true, "4a47ff3dfe3438b3cf5e761ea7641f3a6a1a9e5e4fd627207ae86f8bd07bd807"), looks := false }, kinds := [], alts := [], laidByText := true, laidKinds := [.data, .data, .data, .data], laidTests := true, laidLooks := .later }
def SectionCascadesUptoCardSaid : Prop := Claim7.holds Tryd.pinned (.plain (OpenSpec.upto sectionCascadesSpec)) sectionCascadesUptoCard

/-- THE SECOND FORM's CARD OF 'wooferlaw05.SectionGoesOn'. -/
def sectionGoesOnUptoCard : Claim7 := { stood := { row := sectionGoesOnUptoRow, standIns := [], harness := (true, "4a47ff3dfe3438b3cf5e761ea7641f3a6a1a9e5e4fd627207ae86f8bd07bd807"), looks := false }, kinds := [], alts := [], laidByText := true, laidKinds := [.data, .data, .data, .data], laidTests := true, laidLooks := .later }
def SectionGoesOnUptoCardSaid : Prop := Claim7.holds Tryd.pinned (.plain (OpenSpec.upto sectionGoesOnSpec)) sectionGoesOnUptoCard

/-- THE SECOND FORM's CARD OF 'wooferlaw05.SectionNearest'. -/
def sectionNearestUptoCard : Claim7 := { stood := { row := sectionNearestUptoRow, standIns := [], harness := (true, "4a47ff3dfe3438b3cf5e761ea7641f3a6a1a9e5e4fd627207ae86f8bd07bd807"), looks := false }, kinds := [], alts := [], laidByText := true, laidKinds := [.data, .data, .data, .data], laidTests := true, laidLooks := .later }
def SectionNearestUptoCardSaid : Prop := Claim7.holds Tryd.pinned (.plain (OpenSpec.upto sectionNearestSpec)) sectionNearestUptoCard
end Rows
end Go.Proofs.YtlaaajkehjoffaaDoor
