/-
  DERIVED. GIVEN WITH THE SEED: THE CARDS: each row of YtjhgpifccleknaaDoorRows.lean that lists a variable, with what it lists TIED to the program's text (the seventh form; the later family's looks); each row that meets fmt, with fmt's text TOLD by the authors' own Lean function (tested against real Go, not proved from fmt's source: count such statements apart). THE CARD IS WHAT COUNTS. Prove the row's statement (the work); the ties are given (YtjhgpifccleknaaDoorTie.lean); close each card by the builder's one call (the guide's Derived/Test/ToyasCard.lean, 'card_holds'). Laid BY PROGRAM, IN A SANDBOX (cutbox-door.mjs). By AI agents, Wed Nov 11 2026. No macro, syntax, notation, axiom, sorry.
-/
import Derived.Test.YtjhgpifccleknaaDoorRows
import GoSem.ClaimSeven
namespace Go.Proofs.YtjhgpifccleknaaDoor
namespace Rows

/-- THE TIED CARD OF 'cornicelaw02.TermNodes'. -/
def termNodesCard : Claim7 := { stood := { row := termNodesRow, standIns := [], harness := (true, "dc054cbb40ae19d14a0c250a670c4cfa69779f2349a39fc92ec6485e94b1ad5f"), looks := false }, kinds := [], alts := [], laidByText := true, laidKinds := [.widerDeep], laidTests := true, laidLooks := .later }
def TermNodesCardSaid : Prop := Claim7.holds Tryd.pinned (.plain (OpenSpec.ofChange termNodesSpec)) termNodesCard

/-- THE TIED CARD OF 'cornicelaw02.TermPaths'. -/
def termPathsCard : Claim7 := { stood := { row := termPathsRow, standIns := [], harness := (true, "dc054cbb40ae19d14a0c250a670c4cfa69779f2349a39fc92ec6485e94b1ad5f"), looks := false }, kinds := [], alts := [], laidByText := true, laidKinds := [.widerDeep], laidTests := true, laidLooks := .later }
def TermPathsCardSaid : Prop := Claim7.holds Tryd.pinned (.plain (OpenSpec.ofChange termPathsSpec)) termPathsCard

/-- THE TIED CARD OF 'cornicelaw02.TermGrows'. -/
def termGrowsCard : Claim7 := { stood := { row := termGrowsRow, standIns := [], harness := (true, "dc054cbb40ae19d14a0c250a670c4cfa69779f2349a39fc92ec6485e94b1ad5f"), looks := false }, kinds := [], alts := [], laidByText := true, laidKinds := [.widerDeep], laidTests := true, laidLooks := .later }
def TermGrowsCardSaid : Prop := Claim7.holds Tryd.pinned (.plain (OpenSpec.ofChange termGrowsSpec)) termGrowsCard

/-- THE TIED CARD OF 'cornicelaw02.TermChecks'. -/
def termChecksCard : Claim7 := { stood := { row := termChecksRow, standIns := [], harness := (true, "dc054cbb40ae19d14a0c250a670c4cfa69779f2349a39fc92ec6485e94b1ad5f"), looks := false }, kinds := [], alts := [], laidByText := true, laidKinds := [.widerDeep], laidTests := true, laidLooks := .later }
def TermChecksCardSaid : Prop := Claim7.holds Tryd.pinned (.plain (OpenSpec.ofChange termChecksSpec)) termChecksCard

/-- THE TIED CARD OF 'cornicelaw03.ShiftUses'. -/
def shiftUsesCard : Claim7 := { stood := { row := shiftUsesRow, standIns := [], harness := (true, "dc054cbb40ae19d14a0c250a670c4cfa69779f2349a39fc92ec6485e94b1ad5f"), looks := false }, kinds := [], alts := [], laidByText := true, laidKinds := [.widerDeep], laidTests := true, laidLooks := .later }
def ShiftUsesCardSaid : Prop := Claim7.holds Tryd.pinned (.plain (OpenSpec.ofChange shiftUsesSpec)) shiftUsesCard

/-- THE TIED CARD OF 'cornicelaw03.ShiftBack'. -/
def shiftBackCard : Claim7 := { stood := { row := shiftBackRow, standIns := [], harness := (true, "dc054cbb40ae19d14a0c250a670c4cfa69779f2349a39fc92ec6485e94b1ad5f"), looks := false }, kinds := [], alts := [], laidByText := true, laidKinds := [.widerDeep], laidTests := true, laidLooks := .later }
def ShiftBackCardSaid : Prop := Claim7.holds Tryd.pinned (.plain (OpenSpec.ofChange shiftBackSpec)) shiftBackCard

/-- THE TIED CARD OF 'cornicelaw03.ShiftParts'. -/
def shiftPartsCard : Claim7 := { stood := { row := shiftPartsRow, standIns := [], harness := (true, "dc054cbb40ae19d14a0c250a670c4cfa69779f2349a39fc92ec6485e94b1ad5f"), looks := false }, kinds := [], alts := [], laidByText := true, laidKinds := [.widerDeep], laidTests := true, laidLooks := .later }
def ShiftPartsCardSaid : Prop := Claim7.holds Tryd.pinned (.plain (OpenSpec.ofChange shiftPartsSpec)) shiftPartsCard

/-- THE TIED CARD OF 'cornicelaw02.TermMakes'. -/
def termMakesCard : Claim7 := { stood := { row := termMakesRow, standIns := [], harness := (true, "dc054cbb40ae19d14a0c250a670c4cfa69779f2349a39fc92ec6485e94b1ad5f"), looks := false }, kinds := [], alts := [], laidByText := true, laidKinds := [.widerDeep], laidTests := true, laidLooks := .later }
def TermMakesCardSaid : Prop := Claim7.holds Tryd.pinned (.plain (OpenSpec.ofChange termMakesSpec)) termMakesCard

/-- THE TIED CARD OF 'cornicelaw02.TermOnce'. -/
def termOnceCard : Claim7 := { stood := { row := termOnceRow, standIns := [], harness := (true, "dc054cbb40ae19d14a0c250a670c4cfa69779f2349a39fc92ec6485e94b1ad5f"), looks := false }, kinds := [], alts := [], laidByText := true, laidKinds := [.widerDeep], laidTests := true, laidLooks := .later }
def TermOnceCardSaid : Prop := Claim7.holds Tryd.pinned (.plain (OpenSpec.ofChange termOnceSpec)) termOnceCard

/-- THE TIED CARD OF 'cornicelaw03.ShiftTells'. -/
def shiftTellsCard : Claim7 := { stood := { row := shiftTellsRow, standIns := [], harness := (true, "dc054cbb40ae19d14a0c250a670c4cfa69779f2349a39fc92ec6485e94b1ad5f"), looks := false }, kinds := [], alts := [], laidByText := true, laidKinds := [.widerDeep], laidTests := true, laidLooks := .later }
def ShiftTellsCardSaid : Prop := Claim7.holds Tryd.pinned (.plain (OpenSpec.ofChange shiftTellsSpec)) shiftTellsCard

/-- THE TIED CARD OF 'cornicelaw03.ShiftFree'. -/
def shiftFreeCard : Claim7 := { stood := { row := shiftFreeRow, standIns := [], harness := (true, "dc054cbb40ae19d14a0c250a670c4cfa69779f2349a39fc92ec6485e94b1ad5f"), looks := false }, kinds := [], alts := [], laidByText := true, laidKinds := [.widerDeep], laidTests := true, laidLooks := .later }
def ShiftFreeCardSaid : Prop := Claim7.holds Tryd.pinned (.plain (OpenSpec.ofChange shiftFreeSpec)) shiftFreeCard

/-- THE TIED CARD OF 'cornicelaw04.SubstUnused'. -/
def substUnusedCard : Claim7 := { stood := { row := substUnusedRow, standIns := [], harness := (true, "dc054cbb40ae19d14a0c250a670c4cfa69779f2349a39fc92ec6485e94b1ad5f"), looks := false }, kinds := [], alts := [], laidByText := true, laidKinds := [.widerDeep], laidTests := true, laidLooks := .later }
def SubstUnusedCardSaid : Prop := Claim7.holds Tryd.pinned (.plain (OpenSpec.ofChange substUnusedSpec)) substUnusedCard

/-- THE TIED CARD OF 'cornicelaw04.SubstParts'. -/
def substPartsCard : Claim7 := { stood := { row := substPartsRow, standIns := [], harness := (true, "dc054cbb40ae19d14a0c250a670c4cfa69779f2349a39fc92ec6485e94b1ad5f"), looks := false }, kinds := [], alts := [], laidByText := true, laidKinds := [.widerDeep], laidTests := true, laidLooks := .later }
def SubstPartsCardSaid : Prop := Claim7.holds Tryd.pinned (.plain (OpenSpec.ofChange substPartsSpec)) substPartsCard

/-- THE TIED CARD OF 'cornicelaw04.SubstOrder'. -/
def substOrderCard : Claim7 := { stood := { row := substOrderRow, standIns := [], harness := (true, "dc054cbb40ae19d14a0c250a670c4cfa69779f2349a39fc92ec6485e94b1ad5f"), looks := false }, kinds := [], alts := [], laidByText := true, laidKinds := [.widerDeep], laidTests := true, laidLooks := .later }
def SubstOrderCardSaid : Prop := Claim7.holds Tryd.pinned (.plain (OpenSpec.ofChange substOrderSpec)) substOrderCard

/-- THE TIED CARD OF 'cornicelaw04.SubstTells'. -/
def substTellsCard : Claim7 := { stood := { row := substTellsRow, standIns := [], harness := (true, "dc054cbb40ae19d14a0c250a670c4cfa69779f2349a39fc92ec6485e94b1ad5f"), looks := false }, kinds := [], alts := [], laidByText := true, laidKinds := [.widerDeep], laidTests := true, laidLooks := .later }
def SubstTellsCardSaid : Prop := Claim7.holds Tryd.pinned (.plain (OpenSpec.ofChange substTellsSpec)) substTellsCard

/-- THE TIED CARD OF 'cornicelaw04.SubstSwaps'. -/
def substSwapsCard : Claim7 := { stood := { row := substSwapsRow, standIns := [], harness := (true, "dc054cbb40ae19d14a0c250a670c4cfa69779f2349a39fc92ec6485e94b1ad5f"), looks := false }, kinds := [], alts := [], laidByText := true, laidKinds := [.widerDeep], laidTests := true, laidLooks := .later }
def SubstSwapsCardSaid : Prop := Claim7.holds Tryd.pinned (.plain (OpenSpec.ofChange substSwapsSpec)) substSwapsCard

/-- THE TIED CARD OF 'cornicelaw04.SubstOne'. -/
def substOneCard : Claim7 := { stood := { row := substOneRow, standIns := [], harness := (true, "dc054cbb40ae19d14a0c250a670c4cfa69779f2349a39fc92ec6485e94b1ad5f"), looks := false }, kinds := [], alts := [], laidByText := true, laidKinds := [.widerDeep], laidTests := true, laidLooks := .later }
def SubstOneCardSaid : Prop := Claim7.holds Tryd.pinned (.plain (OpenSpec.ofChange substOneSpec)) substOneCard

/-- THE TIED CARD OF 'cornicelaw04.SubstFree'. -/
def substFreeCard : Claim7 := { stood := { row := substFreeRow, standIns := [], harness := (true, "dc054cbb40ae19d14a0c250a670c4cfa69779f2349a39fc92ec6485e94b1ad5f"), looks := false }, kinds := [], alts := [], laidByText := true, laidKinds := [.widerDeep], laidTests := true, laidLooks := .later }
def SubstFreeCardSaid : Prop := Claim7.holds Tryd.pinned (.plain (OpenSpec.ofChange substFreeSpec)) substFreeCard

/-- THE SECOND FORM's CARD OF 'cornicelaw02.TermNodes'. -/
def termNodesUptoCard : Claim7 := { stood := { row := termNodesUptoRow, standIns := [], harness := (true, "dc054cbb40ae19d14a0c250a670c4cfa69779f2349a39fc92ec6485e94b1ad5f"), looks := false }, kinds := [], alts := [], laidByText := true, laidKinds := [.widerDeep], laidTests := true, laidLooks := .later }
def TermNodesUptoCardSaid : Prop := Claim7.holds Tryd.pinned (.plain (OpenSpec.upto termNodesSpec)) termNodesUptoCard

/-- THE SECOND FORM's CARD OF 'cornicelaw02.TermPaths'. -/
def termPathsUptoCard : Claim7 := { stood := { row := termPathsUptoRow, standIns := [], harness := (true, "dc054cbb40ae19d14a0c250a670c4cfa69779f2349a39fc92ec6485e94b1ad5f"), looks := false }, kinds := [], alts := [], laidByText := true, laidKinds := [.widerDeep], laidTests := true, laidLooks := .later }
def TermPathsUptoCardSaid : Prop := Claim7.holds Tryd.pinned (.plain (OpenSpec.upto termPathsSpec)) termPathsUptoCard

/-- THE SECOND FORM's CARD OF 'cornicelaw02.TermGrows'. -/
def termGrowsUptoCard : Claim7 := { stood := { row := termGrowsUptoRow, standIns := [], harness := (true, "dc054cbb40ae19d14a0c250a670c4cfa69779f2349a39fc92ec6485e94b1ad5f"), looks := false }, kinds := [], alts := [], laidByText := true, laidKinds := [.widerDeep], laidTests := true, laidLooks := .later }
def TermGrowsUptoCardSaid : Prop := Claim7.holds Tryd.pinned (.plain (OpenSpec.upto termGrowsSpec)) termGrowsUptoCard

/-- THE SECOND FORM's CARD OF 'cornicelaw02.TermChecks'. -/
def termChecksUptoCard : Claim7 := { stood := { row := termChecksUptoRow, standIns := [], harness := (true, "dc054cbb40ae19d14a0c250a670c4cfa69779f2349a39fc92ec6485e94b1ad5f"), looks := false }, kinds := [], alts := [], laidByText := true, laidKinds := [.widerDeep], laidTests := true, laidLooks := .later }
def TermChecksUptoCardSaid : Prop := Claim7.holds Tryd.pinned (.plain (OpenSpec.upto termChecksSpec)) termChecksUptoCard

/-- THE SECOND FORM's CARD OF 'cornicelaw03.ShiftUses'. -/
def shiftUsesUptoCard : Claim7 := { stood := { row := shiftUsesUptoRow, standIns := [], harness := (true, "dc054cbb40ae19d14a0c250a670c4cfa69779f2349a39fc92ec6485e94b1ad5f"), looks := false }, kinds := [], alts := [], laidByText := true, laidKinds := [.widerDeep], laidTests := true, laidLooks := .later }
def ShiftUsesUptoCardSaid : Prop := Claim7.holds Tryd.pinned (.plain (OpenSpec.upto shiftUsesSpec)) shiftUsesUptoCard

/-- THE SECOND FORM's CARD OF 'cornicelaw03.ShiftBack'. -/
def shiftBackUptoCard : Claim7 := { stood := { row := shiftBackUptoRow, standIns := [], harness := (true, "dc054cbb40ae19d14a0c250a670c4cfa69779f2349a39fc92ec6485e94b1ad5f"), looks := false }, kinds := [], alts := [], laidByText := true, laidKinds := [.widerDeep], laidTests := true, laidLooks := .later }
def ShiftBackUptoCardSaid : Prop := Claim7.holds Tryd.pinned (.plain (OpenSpec.upto shiftBackSpec)) shiftBackUptoCard

/-- THE SECOND FORM's CARD OF 'cornicelaw03.ShiftParts'. -/
def shiftPartsUptoCard : Claim7 := { stood := { row := shiftPartsUptoRow, standIns := [], harness := (true, "dc054cbb40ae19d14a0c250a670c4cfa69779f2349a39fc92ec6485e94b1ad5f"), looks := false }, kinds := [], alts := [], laidByText := true, laidKinds := [.widerDeep], laidTests := true, laidLooks := .later }
def ShiftPartsUptoCardSaid : Prop := Claim7.holds Tryd.pinned (.plain (OpenSpec.upto shiftPartsSpec)) shiftPartsUptoCard

/-- THE SECOND FORM's CARD OF 'cornicelaw02.TermMakes'. -/
def termMakesUptoCard : Claim7 := { stood := { row := termMakesUptoRow, standIns := [], harness := (true, "dc054cbb40ae19d14a0c250a670c4cfa69779f2349a39fc92ec6485e94b1ad5f"), looks := false }, kinds := [], alts := [], laidByText := true, laidKinds := [.widerDeep], laidTests := true, laidLooks := .later }
def TermMakesUptoCardSaid : Prop := Claim7.holds Tryd.pinned (.plain (OpenSpec.upto termMakesSpec)) termMakesUptoCard

/-- THE SECOND FORM's CARD OF 'cornicelaw02.TermOnce'. -/
def termOnceUptoCard : Claim7 := { stood := { row := termOnceUptoRow, standIns := [], harness := (true, "dc054cbb40ae19d14a0c250a670c4cfa69779f2349a39fc92ec6485e94b1ad5f"), looks := false }, kinds := [], alts := [], laidByText := true, laidKinds := [.widerDeep], laidTests := true, laidLooks := .later }
def TermOnceUptoCardSaid : Prop := Claim7.holds Tryd.pinned (.plain (OpenSpec.upto termOnceSpec)) termOnceUptoCard

/-- THE SECOND FORM's CARD OF 'cornicelaw03.ShiftTells'. -/
def shiftTellsUptoCard : Claim7 := { stood := { row := shiftTellsUptoRow, standIns := [], harness := (true, "dc054cbb40ae19d14a0c250a670c4cfa69779f2349a39fc92ec6485e94b1ad5f"), looks := false }, kinds := [], alts := [], laidByText := true, laidKinds := [.widerDeep], laidTests := true, laidLooks := .later }
def ShiftTellsUptoCardSaid : Prop := Claim7.holds Tryd.pinned (.plain (OpenSpec.upto shiftTellsSpec)) shiftTellsUptoCard

/-- THE SECOND FORM's CARD OF 'cornicelaw03.ShiftFree'. -/
def shiftFreeUptoCard : Claim7 := { stood := { row := shiftFreeUptoRow, standIns := [], harness := (true, "dc054cbb40ae19d14a0c250a670c4cfa69779f2349a39fc92ec6485e94b1ad5f"), looks := false }, kinds := [], alts := [], laidByText := true, laidKinds := [.widerDeep], laidTests := true, laidLooks := .later }
def ShiftFreeUptoCardSaid : Prop := Claim7.holds Tryd.pinned (.plain (OpenSpec.upto shiftFreeSpec)) shiftFreeUptoCard

/-- THE SECOND FORM's CARD OF 'cornicelaw04.SubstUnused'. -/
def substUnusedUptoCard : Claim7 := { stood := { row := substUnusedUptoRow, standIns := [], harness := (true, "dc054cbb40ae19d14a0c250a670c4cfa69779f2349a39fc92ec6485e94b1ad5f"), looks := false }, kinds := [], alts := [], laidByText := true, laidKinds := [.widerDeep], laidTests := true, laidLooks := .later }
def SubstUnusedUptoCardSaid : Prop := Claim7.holds Tryd.pinned (.plain (OpenSpec.upto substUnusedSpec)) substUnusedUptoCard

/-- THE SECOND FORM's CARD OF 'cornicelaw04.SubstParts'. -/
def substPartsUptoCard : Claim7 := { stood := { row := substPartsUptoRow, standIns := [], harness := (true, "dc054cbb40ae19d14a0c250a670c4cfa69779f2349a39fc92ec6485e94b1ad5f"), looks := false }, kinds := [], alts := [], laidByText := true, laidKinds := [.widerDeep], laidTests := true, laidLooks := .later }
def SubstPartsUptoCardSaid : Prop := Claim7.holds Tryd.pinned (.plain (OpenSpec.upto substPartsSpec)) substPartsUptoCard

/-- THE SECOND FORM's CARD OF 'cornicelaw04.SubstOrder'. -/
def substOrderUptoCard : Claim7 := { stood := { row := substOrderUptoRow, standIns := [], harness := (true, "dc054cbb40ae19d14a0c250a670c4cfa69779f2349a39fc92ec6485e94b1ad5f"), looks := false }, kinds := [], alts := [], laidByText := true, laidKinds := [.widerDeep], laidTests := true, laidLooks := .later }
def SubstOrderUptoCardSaid : Prop := Claim7.holds Tryd.pinned (.plain (OpenSpec.upto substOrderSpec)) substOrderUptoCard

/-- THE SECOND FORM's CARD OF 'cornicelaw04.SubstTells'. -/
def substTellsUptoCard : Claim7 := { stood := { row := substTellsUptoRow, standIns := [], harness := (true, "dc054cbb40ae19d14a0c250a670c4cfa69779f2349a39fc92ec6485e94b1ad5f"), looks := false }, kinds := [], alts := [], laidByText := true, laidKinds := [.widerDeep], laidTests := true, laidLooks := .later }
def SubstTellsUptoCardSaid : Prop := Claim7.holds Tryd.pinned (.plain (OpenSpec.upto substTellsSpec)) substTellsUptoCard

/-- THE SECOND FORM's CARD OF 'cornicelaw04.SubstSwaps'. -/
def substSwapsUptoCard : Claim7 := { stood := { row := substSwapsUptoRow, standIns := [], harness := (true, "dc054cbb40ae19d14a0c250a670c4cfa69779f2349a39fc92ec6485e94b1ad5f"), looks := false }, kinds := [], alts := [], laidByText := true, laidKinds := [.widerDeep], laidTests := true, laidLooks := .later }
def SubstSwapsUptoCardSaid : Prop := Claim7.holds Tryd.pinned (.plain (OpenSpec.upto substSwapsSpec)) substSwapsUptoCard

/-- THE SECOND FORM's CARD OF 'cornicelaw04.SubstOne'. -/
def substOneUptoCard : Claim7 := { stood := { row := substOneUptoRow, standIns := [], harness := (true, "dc054cbb40ae19d14a0c250a670c4cfa69779f2349a39fc92ec6485e94b1ad5f"), looks := false }, kinds := [], alts := [], laidByText := true, laidKinds := [.widerDeep], laidTests := true, laidLooks := .later }
def SubstOneUptoCardSaid : Prop := Claim7.holds Tryd.pinned (.plain (OpenSpec.upto substOneSpec)) substOneUptoCard

/-- THE SECOND FORM's CARD OF 'cornicelaw04.SubstFree'. -/
def substFreeUptoCard : Claim7 := { stood := { row := substFreeUptoRow, standIns := [], harness := (true, "dc054cbb40ae19d14a0c250a670c4cfa69779f2349a39fc92ec6485e94b1ad5f"), looks := false }, kinds := [], alts := [], laidByText := true, laidKinds := [.widerDeep], laidTests := true, laidLooks := .later }
def SubstFreeUptoCardSaid : Prop := Claim7.holds Tryd.pinned (.plain (OpenSpec.upto substFreeSpec)) substFreeUptoCard
end Rows
end Go.Proofs.YtjhgpifccleknaaDoor
