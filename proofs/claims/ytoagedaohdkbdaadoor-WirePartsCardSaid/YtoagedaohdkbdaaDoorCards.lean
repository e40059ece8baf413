/-
  DERIVED. GIVEN WITH THE SEED: THE CARDS: each row of YtoagedaohdkbdaaDoorRows.lean that lists a variable, with what it lists TIED to the program's text (the seventh form; the later family's looks); each row that meets fmt, with fmt's text TOLD by the authors' own Lean function (tested against real Go, not proved from fmt's source: count such statements apart). THE CARD IS WHAT COUNTS. Prove the row's statement (the work); the ties are given (YtoagedaohdkbdaaDoorTie.lean); close each card by the builder's one call (the guide's Derived/Test/ToyasCard.lean, 'card_holds'). Laid BY PROGRAM, IN A SANDBOX (cutbox-door.mjs). By AI agents, Wed Nov 11 2026. No macro, syntax, notation, axiom, sorry.
-/
import Derived.Test.YtoagedaohdkbdaaDoorRows
import GoSem.ClaimSeven
namespace Go.Proofs.YtoagedaohdkbdaaDoor
namespace Rows

/-- THE TIED CARD OF 'cornicelaw05.WireLong'. -/
def wireLongCard : Claim7 := { stood := { row := wireLongRow, standIns := [], harness := (true, "99b630245aeb2f75ce6df57025f9fc90d5440af42ed415bc6172d3c1c87ac26d"), looks := false }, kinds := [], alts := [], laidByText := true, laidKinds := [.widerDeep, .data], laidTests := true, laidLooks := .later }
def WireLongCardSaid : Prop := Claim7.holds Tryd.pinned (.plain (OpenSpec.ofChange wireLongSpec)) wireLongCard

/-- THE TIED CARD OF 'cornicelaw05.WireEncodes'. -/
def wireEncodesCard : Claim7 := { stood := { row := wireEncodesRow, standIns := [], harness := (true, "99b630245aeb2f75ce6df57025f9fc90d5440af42ed415bc6172d3c1c87ac26d"), looks := false }, kinds := [], alts := [], laidByText := true, laidKinds := [.widerDeep, .data], laidTests := true, laidLooks := .later }
def WireEncodesCardSaid : Prop := Claim7.holds Tryd.pinned (.plain (OpenSpec.ofChange wireEncodesSpec)) wireEncodesCard

/-- THE TIED CARD OF 'cornicelaw05.WireDecodes'. -/
def wireDecodesCard : Claim7 := { stood := { row := wireDecodesRow, standIns := [], harness := (true, "99b630245aeb2f75ce6df57025f9fc90d5440af42ed415bc6172d3c1c87ac26d"), looks := false }, kinds := [], alts := [], laidByText := true, laidKinds := [.widerDeep, .data], laidTests := true, laidLooks := .later }
def WireDecodesCardSaid : Prop := Claim7.holds Tryd.pinned (.plain (OpenSpec.ofChange wireDecodesSpec)) wireDecodesCard

/-- THE TIED CARD OF 'cornicelaw05.WireCuts'. -/
def wireCutsCard : Claim7 := { stood := { row := wireCutsRow, standIns := [], harness := (true, "99b630245aeb2f75ce6df57025f9fc90d5440af42ed415bc6172d3c1c87ac26d"), looks := false }, kinds := [], alts := [], laidByText := true, laidKinds := [.widerDeep, .data], laidTests := true, laidLooks := .later }
def WireCutsCardSaid : Prop := Claim7.holds Tryd.pinned (.plain (OpenSpec.ofChange wireCutsSpec)) wireCutsCard

/-- THE TIED CARD OF 'cornicelaw05.WirePacks'. -/
def wirePacksCard : Claim7 := { stood := { row := wirePacksRow, standIns := [], harness := (true, "99b630245aeb2f75ce6df57025f9fc90d5440af42ed415bc6172d3c1c87ac26d"), looks := false }, kinds := [], alts := [], laidByText := true, laidKinds := [.widerDeep, .data], laidTests := true, laidLooks := .later }
def WirePacksCardSaid : Prop := Claim7.holds Tryd.pinned (.plain (OpenSpec.ofChange wirePacksSpec)) wirePacksCard

/-- THE TIED CARD OF 'cornicelaw05.WireParts'. -/
def wirePartsCard : Claim7 := { stood := { row := wirePartsRow, standIns := [], harness := (true, "99b630245aeb2f75ce6df57025f9fc90d5440af42ed415bc6172d3c1c87ac26d"), looks := false }, kinds := [], alts := [], laidByText := true, laidKinds := [.widerDeep, .data], laidTests := true, laidLooks := .later }
def WirePartsCardSaid : Prop := Claim7.holds Tryd.pinned (.plain (OpenSpec.ofChange wirePartsSpec)) wirePartsCard

/-- THE SECOND FORM's CARD OF 'cornicelaw05.WireLong'. -/
def wireLongUptoCard : Claim7 := { stood := { row := wireLongUptoRow, standIns := [], harness := (true, "99b630245aeb2f75ce6df57025f9fc90d5440af42ed415bc6172d3c1c87ac26d"), looks := false }, kinds := [], alts := [], laidByText := true, laidKinds := [.widerDeep, .data], laidTests := true, laidLooks := .later }
def WireLongUptoCardSaid : Prop := Claim7.holds Tryd.pinned (.plain (OpenSpec.upto wireLongSpec)) wireLongUptoCard

/-- THE SECOND FORM's CARD OF 'cornicelaw05.WireEncodes'. -/
def wireEncodesUptoCard : Claim7 := { stood := { row := wireEncodesUptoRow, standIns := [], harness := (true, "99b630245aeb2f75ce6df57025f9fc90d5440af42ed415bc6172d3c1c87ac26d"), looks := false }, kinds := [], alts := [], laidByText := true, laidKinds := [.widerDeep, .data], laidTests := true, laidLooks := .later }
def WireEncodesUptoCardSaid : Prop := Claim7.holds Tryd.pinned (.plain (OpenSpec.upto wireEncodesSpec)) wireEncodesUptoCard

/-- THE SECOND FORM's CARD OF 'cornicelaw05.WireDecodes'. -/
def wireDecodesUptoCard : Claim7 := { stood := { row := wireDecodesUptoRow, standIns := [], harness := (true, "99b630245aeb2f75ce6df57025f9fc90d5440af42ed415bc6172d3c1c87ac26d"), looks := false }, kinds := [], alts := [], laidByText := true, laidKinds := [.widerDeep, .data], laidTests := true, laidLooks := .later }
def WireDecodesUptoCardSaid : Prop := Claim7.holds Tryd.pinned (.plain (OpenSpec.upto wireDecodesSpec)) wireDecodesUptoCard

/-- THE SECOND FORM's CARD OF 'cornicelaw05.WireCuts'. -/
def wireCutsUptoCard : Claim7 := { stood := { row := wireCutsUptoRow, standIns := [], harness := (true, "99b630245aeb2f75ce6df57025f9fc90d5440af42ed415bc6172d3c1c87ac26d"), looks := false }, kinds := [], alts := [], laidByText := true, laidKinds := [.widerDeep, .data], laidTests := true, laidLooks := .later }
def WireCutsUptoCardSaid : Prop := Claim7.holds Tryd.pinned (.plain (OpenSpec.upto wireCutsSpec)) wireCutsUptoCard

/-- THE SECOND FORM's CARD OF 'cornicelaw05.WirePacks'. -/
def wirePacksUptoCard : Claim7 := { stood := { row := wirePacksUptoRow, standIns := [], harness := (true, "99b630245aeb2f75ce6df57025f9fc90d5440af42ed415bc6172d3c1c87ac26d"), looks := false }, kinds := [], alts := [], laidByText := true, laidKinds := [.widerDeep, .data], laidTests := true, laidLooks := .later }
def WirePacksUptoCardSaid : Prop := Claim7.holds Tryd.pinned (.plain (OpenSpec.upto wirePacksSpec)) wirePacksUptoCard

/-- THE SECOND FORM's CARD OF 'cornicelaw05.WireParts'. -/
def wirePartsUptoCard : Claim7 := { stood := { row := wirePartsUptoRow, standIns := [], harness := (true, "99b630245aeb2f75ce6df57025f9fc90d5440af42ed415bc6172d3c1c87ac26d"), looks := false }, kinds := [], alts := [], laidByText := true, laidKinds := [.widerDeep, .data], laidTests := true, laidLooks := .later }
def WirePartsUptoCardSaid : Prop := Claim7.holds Tryd.pinned (.plain (OpenSpec.upto wirePartsSpec)) wirePartsUptoCard
end Rows
end Go.Proofs.YtoagedaohdkbdaaDoor
