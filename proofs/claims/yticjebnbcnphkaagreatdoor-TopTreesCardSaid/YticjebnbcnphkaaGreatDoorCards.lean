/-
  DERIVED. GIVEN WITH THE SEED: THE CARDS: each row of YticjebnbcnphkaaGreatDoorRows.lean that lists a variable, with what it lists TIED to the program's text (the seventh form; the later family's looks); each row that meets fmt, with fmt's text TOLD by the authors' own Lean function (tested against real Go, not proved from fmt's source: count such statements apart). THE CARD IS WHAT COUNTS. Prove the row's statement (the work); the ties are given (YticjebnbcnphkaaGreatDoorTie.lean); close each card by the builder's one call (the guide's Derived/Test/ToyasCard.lean, 'card_holds'). Laid BY PROGRAM, IN A SANDBOX (cutbox-door.mjs). By AI agents, Wed Nov 11 2026. No macro, syntax, notation, axiom, sorry.
-/
import Derived.Test.YticjebnbcnphkaaGreatDoorRows
import GoSem.ClaimSeven
namespace Go.Proofs.YticjebnbcnphkaaGreatDoor
namespace Rows

/-- THE TIED CARD OF 'cornicetop.TopAborts'. -/
def topAbortsCard : Claim7 := { stood := { row := topAbortsRow, standIns := [], harness := (true, "2d813847043e07c065e58d9f3bf5b8833702c939f616eaa1649e7bf1117d2b5d"), looks := true }, kinds := [], alts := [], goes := true, laidByText := true, laidKinds := [.data, .data, .data, .widerDeep, .sentinel, .sentinel], laidTests := true, laidLooks := .later }
def TopAbortsCardSaid : Prop := Claim7.holds Tryz.pinned (.plain (OpenSpec.ofChange topAbortsSpec)) topAbortsCard

/-- THE TIED CARD OF 'cornicetop.TopTrees'. -/
def topTreesCard : Claim7 := { stood := { row := topTreesRow, standIns := [], harness := (true, "2d813847043e07c065e58d9f3bf5b8833702c939f616eaa1649e7bf1117d2b5d"), looks := true }, kinds := [], alts := [], goes := true, laidByText := true, laidKinds := [.data, .data, .data, .widerDeep, .sentinel, .sentinel], laidTests := true, laidLooks := .later }
def TopTreesCardSaid : Prop := Claim7.holds Tryz.pinned (.plain (OpenSpec.ofChange topTreesSpec)) topTreesCard

/-- THE TIED CARD OF 'cornicetop.TopLevels'. -/
def topLevelsCard : Claim7 := { stood := { row := topLevelsRow, standIns := [], harness := (true, "2d813847043e07c065e58d9f3bf5b8833702c939f616eaa1649e7bf1117d2b5d"), looks := true }, kinds := [], alts := [], goes := true, laidByText := true, laidKinds := [.data, .data, .data, .widerDeep, .sentinel, .sentinel], laidTests := true, laidLooks := .later }
def TopLevelsCardSaid : Prop := Claim7.holds Tryz.pinned (.plain (OpenSpec.ofChange topLevelsSpec)) topLevelsCard

/-- THE SECOND FORM's CARD OF 'cornicetop.TopAborts'. -/
def topAbortsUptoCard : Claim7 := { stood := { row := topAbortsUptoRow, standIns := [], harness := (true, "2d813847043e07c065e58d9f3bf5b8833702c939f616eaa1649e7bf1117d2b5d"), looks := true }, kinds := [], alts := [], goes := true, laidByText := true, laidKinds := [.data, .data, .data, .widerDeep, .sentinel, .sentinel], laidTests := true, laidLooks := .later }
def TopAbortsUptoCardSaid : Prop := Claim7.holds Tryz.pinned (.plain (OpenSpec.upto topAbortsSpec)) topAbortsUptoCard

/-- THE SECOND FORM's CARD OF 'cornicetop.TopTrees'. -/
def topTreesUptoCard : Claim7 := { stood := { row := topTreesUptoRow, standIns := [], harness := (true, "2d813847043e07c065e58d9f3bf5b8833702c939f616eaa1649e7bf1117d2b5d"), looks := true }, kinds := [], alts := [], goes := true, laidByText := true, laidKinds := [.data, .data, .data, .widerDeep, .sentinel, .sentinel], laidTests := true, laidLooks := .later }
def TopTreesUptoCardSaid : Prop := Claim7.holds Tryz.pinned (.plain (OpenSpec.upto topTreesSpec)) topTreesUptoCard

/-- THE SECOND FORM's CARD OF 'cornicetop.TopLevels'. -/
def topLevelsUptoCard : Claim7 := { stood := { row := topLevelsUptoRow, standIns := [], harness := (true, "2d813847043e07c065e58d9f3bf5b8833702c939f616eaa1649e7bf1117d2b5d"), looks := true }, kinds := [], alts := [], goes := true, laidByText := true, laidKinds := [.data, .data, .data, .widerDeep, .sentinel, .sentinel], laidTests := true, laidLooks := .later }
def TopLevelsUptoCardSaid : Prop := Claim7.holds Tryz.pinned (.plain (OpenSpec.upto topLevelsSpec)) topLevelsUptoCard
end Rows
end Go.Proofs.YticjebnbcnphkaaGreatDoor
