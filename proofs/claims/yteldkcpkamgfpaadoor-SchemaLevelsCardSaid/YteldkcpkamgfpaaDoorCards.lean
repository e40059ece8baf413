/-
  DERIVED. GIVEN WITH THE SEED: THE CARDS: each row of YteldkcpkamgfpaaDoorRows.lean that lists a variable, with what it lists TIED to the program's text (the seventh form; the later family's looks); each row that meets fmt, with fmt's text TOLD by the authors' own Lean function (tested against real Go, not proved from fmt's source: count such statements apart). THE CARD IS WHAT COUNTS. Prove the row's statement (the work); the ties are given (YteldkcpkamgfpaaDoorTie.lean); close each card by the builder's one call (the guide's Derived/Test/ToyasCard.lean, 'card_holds'). Laid BY PROGRAM, IN A SANDBOX (cutbox-door.mjs). By AI agents, Wed Nov 11 2026. No macro, syntax, notation, axiom, sorry.
-/
import Derived.Test.YteldkcpkamgfpaaDoorRows
import GoSem.ClaimSeven
namespace Go.Proofs.YteldkcpkamgfpaaDoor
namespace Rows

/-- THE TIED CARD OF 'cornicelaw17.SchemaFree'. -/
def schemaFreeCard : Claim7 := { stood := { row := schemaFreeRow, standIns := [], harness := (true, "52d728f80417548bb69dfc51519672d22ce6ff4a8a71c020e281f3788f1442f9"), looks := false }, kinds := [], alts := [], laidByText := true, laidKinds := [.widerDeep], laidTests := true, laidLooks := .later }
def SchemaFreeCardSaid : Prop := Claim7.holds Tryd.pinned (.plain (OpenSpec.ofChange schemaFreeSpec)) schemaFreeCard

/-- THE TIED CARD OF 'cornicelaw17.SchemaParts'. -/
def schemaPartsCard : Claim7 := { stood := { row := schemaPartsRow, standIns := [], harness := (true, "52d728f80417548bb69dfc51519672d22ce6ff4a8a71c020e281f3788f1442f9"), looks := false }, kinds := [], alts := [], laidByText := true, laidKinds := [.widerDeep], laidTests := true, laidLooks := .later }
def SchemaPartsCardSaid : Prop := Claim7.holds Tryd.pinned (.plain (OpenSpec.ofChange schemaPartsSpec)) schemaPartsCard

/-- THE TIED CARD OF 'cornicelaw17.SchemaNames'. -/
def schemaNamesCard : Claim7 := { stood := { row := schemaNamesRow, standIns := [], harness := (true, "52d728f80417548bb69dfc51519672d22ce6ff4a8a71c020e281f3788f1442f9"), looks := false }, kinds := [], alts := [], laidByText := true, laidKinds := [.widerDeep], laidTests := true, laidLooks := .later }
def SchemaNamesCardSaid : Prop := Claim7.holds Tryd.pinned (.plain (OpenSpec.ofChange schemaNamesSpec)) schemaNamesCard

/-- THE TIED CARD OF 'cornicelaw17.SchemaTells'. -/
def schemaTellsCard : Claim7 := { stood := { row := schemaTellsRow, standIns := [], harness := (true, "52d728f80417548bb69dfc51519672d22ce6ff4a8a71c020e281f3788f1442f9"), looks := false }, kinds := [], alts := [], laidByText := true, laidKinds := [.widerDeep], laidTests := true, laidLooks := .later }
def SchemaTellsCardSaid : Prop := Claim7.holds Tryd.pinned (.plain (OpenSpec.ofChange schemaTellsSpec)) schemaTellsCard

/-- THE TIED CARD OF 'cornicelaw17.SchemaLevels'. -/
def schemaLevelsCard : Claim7 := { stood := { row := schemaLevelsRow, standIns := [], harness := (true, "52d728f80417548bb69dfc51519672d22ce6ff4a8a71c020e281f3788f1442f9"), looks := false }, kinds := [], alts := [], laidByText := true, laidKinds := [.widerDeep], laidTests := true, laidLooks := .later }
def SchemaLevelsCardSaid : Prop := Claim7.holds Tryd.pinned (.plain (OpenSpec.ofChange schemaLevelsSpec)) schemaLevelsCard

/-- THE SECOND FORM's CARD OF 'cornicelaw17.SchemaFree'. -/
def schemaFreeUptoCard : Claim7 := { stood := { row := schemaFreeUptoRow, standIns := [], harness := (true, "52d728f80417548bb69dfc51519672d22ce6ff4a8a71c020e281f3788f1442f9"), looks := false }, kinds := [], alts := [], laidByText := true, laidKinds := [.widerDeep], laidTests := true, laidLooks := .later }
def SchemaFreeUptoCardSaid : Prop := Claim7.holds Tryd.pinned (.plain (OpenSpec.upto schemaFreeSpec)) schemaFreeUptoCard

/-- THE SECOND FORM's CARD OF 'cornicelaw17.SchemaParts'. -/
def schemaPartsUptoCard : Claim7 := { stood := { row := schemaPartsUptoRow, standIns := [], harness := (true, "52d728f80417548bb69dfc51519672d22ce6ff4a8a71c020e281f3788f1442f9"), looks := false }, kinds := [], alts := [], laidByText := true, laidKinds := [.widerDeep], laidTests := true, laidLooks := .later }
def SchemaPartsUptoCardSaid : Prop := Claim7.holds Tryd.pinned (.plain (OpenSpec.upto schemaPartsSpec)) schemaPartsUptoCard

/-- THE SECOND FORM's CARD OF 'cornicelaw17.SchemaNames'. -/
def schemaNamesUptoCard : Claim7 := { stood := { row := schemaNamesUptoRow, standIns := [], harness := (true, "52d728f80417548bb69dfc51519672d22ce6ff4a8a71c020e281f3788f1442f9"), looks := false }, kinds := [], alts := [], laidByText := true, laidKinds := [.widerDeep], laidTests := true, laidLooks := .later }
def SchemaNamesUptoCardSaid : Prop := Claim7.holds Tryd.pinned (.plain (OpenSpec.upto schemaNamesSpec)) schemaNamesUptoCard

/-- THE SECOND FORM's CARD OF 'cornicelaw17.SchemaTells'. -/
def schemaTellsUptoCard : Claim7 := { stood := { row := schemaTellsUptoRow, standIns := [], harness := (true, "52d728f80417548bb69dfc51519672d22ce6ff4a8a71c020e281f3788f1442f9"), looks := false }, kinds := [], alts := [], laidByText := true, laidKinds := [.widerDeep], laidTests := true, laidLooks := .later }
def SchemaTellsUptoCardSaid : Prop := Claim7.holds Tryd.pinned (.plain (OpenSpec.upto schemaTellsSpec)) schemaTellsUptoCard

/-- THE SECOND FORM's CARD OF 'cornicelaw17.SchemaLevels'. -/
def schemaLevelsUptoCard : Claim7 := { stood := { row := schemaLevelsUptoRow, standIns := [], harness := (true, "52d728f80417548bb69dfc51519672d22ce6ff4a8a71c020e281f3788f1442f9"), looks := false }, kinds := [], alts := [], laidByText := true, laidKinds := [.widerDeep], laidTests := true, laidLooks := .later }
def SchemaLevelsUptoCardSaid : Prop := Claim7.holds Tryd.pinned (.plain (OpenSpec.upto schemaLevelsSpec)) schemaLevelsUptoCard
end Rows
end Go.Proofs.YteldkcpkamgfpaaDoor
