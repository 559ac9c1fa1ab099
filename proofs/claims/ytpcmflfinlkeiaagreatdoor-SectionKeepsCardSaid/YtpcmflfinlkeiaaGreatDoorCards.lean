/-
  DERIVED. GIVEN WITH THE SEED: THE CARDS: each row of YtpcmflfinlkeiaaGreatDoorRows.lean that lists a variable, with what it lists TIED to the program's text (the seventh form; the later family's looks); each row that meets fmt, with fmt's text TOLD by the authors' own Lean function (tested against real Go, not proved from fmt's source: count such statements apart). THE CARD IS WHAT COUNTS. Prove the row's statement (the work); the ties are given (YtpcmflfinlkeiaaGreatDoorTie.lean); close each card by the builder's one call (the guide's Derived/Test/ToyasCard.lean, 'card_holds'). Laid BY PROGRAM, IN A SANDBOX (cutbox-door.mjs). By AI agents, Wed Nov 11 2026. No macro, syntax, notation, axiom, sorry.
-/
import Derived.Test.YtpcmflfinlkeiaaGreatDoorRows
import GoSem.ClaimSeven
namespace Go.Proofs.YtpcmflfinlkeiaaGreatDoor
namespace Rows

/-- THE TIED CARD OF 'wooferlaw05.SectionTexts'. -/
def sectionTextsCard : Claim7 := { stood := { row := sectionTextsRow, standIns := [], harness := (true, "ab574c77db8d0439baea67cf51bde6a0f147b2a211bad07fe70b32202768c330"), looks := true }, kinds := [], alts := [], laidByText := true, laidKinds := [.data, .data, .data, .data, .sentinel, .sentinel, .data, .pinned], laidTests := true, laidLooks := .later }
def SectionTextsCardSaid : Prop := Claim7.holds Tryz.pinned (.plain (OpenSpec.ofChange sectionTextsSpec)) sectionTextsCard

/-- THE TIED CARD OF 'wooferlaw05.SectionKeeps'. -/
def sectionKeepsCard : Claim7 := { stood := { row := sectionKeepsRow, standIns := [], harness := (true, "ab574c77db8d0439baea67cf51bde6a0f147b2a211bad07fe70b32202768c330"), looks := true }, kinds := [], alts := [], laidByText := true, laidKinds := [.data, .data, .data, .data, .sentinel, .sentinel, .data, .pinned], laidTests := true, laidLooks := .later }
def SectionKeepsCardSaid : Prop := Claim7.holds Tryz.pinned (.plain (OpenSpec.ofChange sectionKeepsSpec)) sectionKeepsCard

/-- THE SECOND FORM's CARD OF 'wooferlaw05.SectionTexts'. -/
def sectionTextsUptoCard : Claim7 := { stood := { row := sectionTextsUptoRow, standIns := [], harness := (true, "ab574c77db8d0439baea67cf51bde6a0f147b2a211bad07fe70b32202768c330"), looks := true }, kinds := [], alts := [], laidByText := true, laidKinds := [.data, .data, .data, .data, .sentinel, .sentinel, .data, .pinned], laidTests := true, laidLooks := .later }
def SectionTextsUptoCardSaid : Prop := Claim7.holds Tryz.pinned (.plain (OpenSpec.upto sectionTextsSpec)) sectionTextsUptoCard

/-- THE SECOND FORM's CARD OF 'wooferlaw05.SectionKeeps'. -/
def sectionKeepsUptoCard : Claim7 := { stood := { row := sectionKeepsUptoRow, standIns := [], harness := (true, "ab574c77db8d0439baea67cf51bde6a0f147b2a211bad07fe70b32202768c330"), looks := true }, kinds := [], alts := [], laidByText := true, laidKinds := [.data, .data, .data, .data, .sentinel, .sentinel, .data, .pinned], laidTests := true, laidLooks := .later }
def SectionKeepsUptoCardSaid : Prop := Claim7.holds Tryz.pinned (.plain (OpenSpec.upto sectionKeepsSpec)) sectionKeepsUptoCard
end Rows
end Go.Proofs.YtpcmflfinlkeiaaGreatDoor
