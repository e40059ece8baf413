/-
  NARROWER THAN 'FOR EVERY INPUT', by the rows' own cells (each row's printed sentence says how): TermNodes: laid · TermPaths: laid · TermGrows: laid · TermChecks: laid · ShiftUses: laid · ShiftBack: laid · ShiftParts: laid · TermMakes: laid · TermOnce: laid · ShiftTells: laid · ShiftFree: laid · SubstUnused: laid · SubstParts: laid · SubstOrder: laid · SubstTells: laid · SubstSwaps: laid · SubstOne: laid · SubstFree: laid.
  DERIVED. THE GIVEN ROWS OF THIS SEAT. 18 by the template 'for every input the law returns true; each argument reads behind the call as it read before'; 0 by the template 'total and deterministic' (their statements: YtjhgpifccleknaaDoorTotals.lean).
  GIVEN WITH THE SEED: the statements are not yours to turn. If you find one false, say at which input.
  Laid BY PROGRAM, IN A SANDBOX (cutbox-rows.mjs): the forced cells as the released guide's own fill.sh prints them over the translation cc4ada118f761ebd… (all of the seat's roots in one cut). By AI agents, Wed Nov 11 2026. No macro, syntax, notation, axiom, sorry.
-/
import Derived.Test.YtjhgpifccleknaaDoorChecked
import GoSem.Claim
import GoSem.ClaimJoined
import GoSem.ClaimMapViews
import Derived.JoinedTies
import Derived.KernelRfl
namespace Go.Proofs.YtjhgpifccleknaaDoor
/- THE CELL 'sum', in the pinned program and in every row, IS THE sha256 OF THE DUMP (.gsa) THAT YtjhgpifccleknaaDoorProg.lean LOADS. Nothing in Lean hashes anything: it is a label: what it is worth is what the hold of that sum in a sandbox is worth. -/
noncomputable def Tryd.pinned : Pinned := { name := "ytjhgpifccleknaadoor", sum := "cc4ada118f761ebd127a90d8307701c5a90024677c28443abead2776cf915a0e", checked := Tryd.checked }
namespace Rows
def none {H : Type} : Left H := { results := [], args := [] }

/- WHAT THE LISTED PACKAGE-LEVEL VARIABLES READ AS WHEN THE CALL BEGINS. Each datum BY PROGRAM (the guide's laid-datum.mjs) off the statement by which the dump's own 'gosem.cut.vars' lays the variable. In a bare row this is a premise. The card (YtjhgpifccleknaaDoorCards.lean) ties it to the program's text. -/
def laid_cornice_term_shapes {H : Type} : DataW H := .agg [.agg [.nil, .lit (.bool true), .lit (.bool false), .lit (.bool false)], .agg [.nil, .lit (.bool false), .lit (.bool false), .lit (.bool true)], .agg [.nil, .lit (.bool true), .lit (.bool false), .lit (.bool false)], .agg [.slice [.lit (.int .i64 0), .lit (.int .i64 1)] [], .lit (.bool true), .lit (.bool false), .lit (.bool false)], .agg [.slice [.lit (.int .i64 0), .lit (.int .i64 1)] [], .lit (.bool false), .lit (.bool false), .lit (.bool false)], .agg [.slice [.lit (.int .i64 0), .lit (.int .i64 0)] [], .lit (.bool false), .lit (.bool false), .lit (.bool false)], .agg [.slice [.lit (.int .i64 0), .lit (.int .i64 1)] [], .lit (.bool true), .lit (.bool false), .lit (.bool false)], .agg [.slice [.lit (.int .i64 0), .lit (.int .i64 0), .lit (.int .i64 0)] [], .lit (.bool false), .lit (.bool false), .lit (.bool false)], .agg [.slice [.lit (.int .i64 0)] [], .lit (.bool false), .lit (.bool false), .lit (.bool false)], .agg [.slice [.lit (.int .i64 0)] [], .lit (.bool false), .lit (.bool false), .lit (.bool false)], .agg [.nil, .lit (.bool false), .lit (.bool false), .lit (.bool false)], .agg [.nil, .lit (.bool false), .lit (.bool false), .lit (.bool false)], .agg [.slice [.lit (.int .i64 0)] [], .lit (.bool false), .lit (.bool false), .lit (.bool false)], .agg [.slice [.lit (.int .i64 1), .lit (.int .i64 0), .lit (.int .i64 2), .lit (.int .i64 0)] [], .lit (.bool false), .lit (.bool false), .lit (.bool false)], .agg [.nil, .lit (.bool false), .lit (.bool false), .lit (.bool false)], .agg [.slice [.lit (.int .i64 0), .lit (.int .i64 0)] [], .lit (.bool false), .lit (.bool false), .lit (.bool false)], .agg [.nil, .lit (.bool false), .lit (.bool false), .lit (.bool false)], .agg [.nil, .lit (.bool false), .lit (.bool false), .lit (.bool false)], .agg [.slice [.lit (.int .i64 0), .lit (.int .i64 0), .lit (.int .i64 0)] [], .lit (.bool false), .lit (.bool false), .lit (.bool false)], .agg [.slice [.lit (.int .i64 0), .lit (.int .i64 0)] [], .lit (.bool false), .lit (.bool false), .lit (.bool false)], .agg [.slice [.lit (.int .i64 0), .lit (.int .i64 0), .lit (.int .i64 0), .lit (.int .i64 0)] [], .lit (.bool false), .lit (.bool false), .lit (.bool false)], .agg [.slice [.lit (.int .i64 0), .lit (.int .i64 0), .lit (.int .i64 1), .lit (.int .i64 0), .lit (.int .i64 0), .lit (.int .i64 0)] [], .lit (.bool false), .lit (.bool false), .lit (.bool false)], .agg [.slice [.lit (.int .i64 0), .lit (.int .i64 2), .lit (.int .i64 0), .lit (.int .i64 0), .lit (.int .i64 0)] [], .lit (.bool false), .lit (.bool false), .lit (.bool false)], .agg [.slice [.lit (.int .i64 0), .lit (.int .i64 0)] [], .lit (.bool false), .lit (.bool false), .lit (.bool false)], .agg [.slice [.lit (.int .i64 0), .lit (.int .i64 1), .lit (.int .i64 0), .lit (.int .i64 0)] [], .lit (.bool false), .lit (.bool false), .lit (.bool false)], .agg [.nil, .lit (.bool false), .lit (.bool false), .lit (.bool true)], .agg [.nil, .lit (.bool true), .lit (.bool true), .lit (.bool true)], .agg [.nil, .lit (.bool false), .lit (.bool true), .lit (.bool true)], .agg [.slice [.lit (.int .i64 0)] [], .lit (.bool false), .lit (.bool false), .lit (.bool false)], .agg [.nil, .lit (.bool false), .lit (.bool false), .lit (.bool false)]]

/-- 'cornicelaw02.TermNodes': WHATEVER THE INPUT: true; the input reads as it did. -/
def termNodesSpec : ChangeSpec := { name := "termNodes", fn := fun _ => fun
  | [d1, d2] => { results := [.lit (.bool true)], args := [d1, d2] }
  | _ => none }
def termNodesRow : OpenClaim := { program := "ytjhgpifccleknaadoor", sum := "cc4ada118f761ebd127a90d8307701c5a90024677c28443abead2776cf915a0e", func := "cornice/cornicelaw02.TermNodes", spec := "termNodes", unfollowed := true, recurses := true, named := ["cornice/term.shapes"], apart := false, laid := [("cornice/term.shapes", laid_cornice_term_shapes)] }
def TermNodesSaid : Prop := termNodesRow.holds Tryd.pinned (OpenSpec.ofChange termNodesSpec)

/-- ITS FALSE NEIGHBOUR: 'it returns false'. Refute it at one input. -/
def termNodesWrong : ChangeSpec := { name := "termNodes", fn := fun _ => fun
  | [d1, d2] => { results := [.lit (.bool false)], args := [d1, d2] }
  | _ => none }
def TermNodesWrongFalsely : Prop := termNodesRow.holds Tryd.pinned (OpenSpec.ofChange termNodesWrong)

/-- 'cornicelaw02.TermPaths': WHATEVER THE INPUT: true; the input reads as it did. -/
def termPathsSpec : ChangeSpec := { name := "termPaths", fn := fun _ => fun
  | [d1, d2, d3] => { results := [.lit (.bool true)], args := [d1, d2, d3] }
  | _ => none }
def termPathsRow : OpenClaim := { program := "ytjhgpifccleknaadoor", sum := "cc4ada118f761ebd127a90d8307701c5a90024677c28443abead2776cf915a0e", func := "cornice/cornicelaw02.TermPaths", spec := "termPaths", unfollowed := true, recurses := true, named := ["cornice/term.shapes"], apart := false, laid := [("cornice/term.shapes", laid_cornice_term_shapes)] }
def TermPathsSaid : Prop := termPathsRow.holds Tryd.pinned (OpenSpec.ofChange termPathsSpec)

/-- ITS FALSE NEIGHBOUR: 'it returns false'. Refute it at one input. -/
def termPathsWrong : ChangeSpec := { name := "termPaths", fn := fun _ => fun
  | [d1, d2, d3] => { results := [.lit (.bool false)], args := [d1, d2, d3] }
  | _ => none }
def TermPathsWrongFalsely : Prop := termPathsRow.holds Tryd.pinned (OpenSpec.ofChange termPathsWrong)

/-- 'cornicelaw02.TermGrows': WHATEVER THE INPUT: true; the input reads as it did. -/
def termGrowsSpec : ChangeSpec := { name := "termGrows", fn := fun _ => fun
  | [d1, d2] => { results := [.lit (.bool true)], args := [d1, d2] }
  | _ => none }
def termGrowsRow : OpenClaim := { program := "ytjhgpifccleknaadoor", sum := "cc4ada118f761ebd127a90d8307701c5a90024677c28443abead2776cf915a0e", func := "cornice/cornicelaw02.TermGrows", spec := "termGrows", unfollowed := true, recurses := true, named := ["cornice/term.shapes"], apart := false, laid := [("cornice/term.shapes", laid_cornice_term_shapes)] }
def TermGrowsSaid : Prop := termGrowsRow.holds Tryd.pinned (OpenSpec.ofChange termGrowsSpec)

/-- ITS FALSE NEIGHBOUR: 'it returns false'. Refute it at one input. -/
def termGrowsWrong : ChangeSpec := { name := "termGrows", fn := fun _ => fun
  | [d1, d2] => { results := [.lit (.bool false)], args := [d1, d2] }
  | _ => none }
def TermGrowsWrongFalsely : Prop := termGrowsRow.holds Tryd.pinned (OpenSpec.ofChange termGrowsWrong)

/-- 'cornicelaw02.TermChecks': WHATEVER THE INPUT: true; the input reads as it did. -/
def termChecksSpec : ChangeSpec := { name := "termChecks", fn := fun _ => fun
  | [d1, d2] => { results := [.lit (.bool true)], args := [d1, d2] }
  | _ => none }
def termChecksRow : OpenClaim := { program := "ytjhgpifccleknaadoor", sum := "cc4ada118f761ebd127a90d8307701c5a90024677c28443abead2776cf915a0e", func := "cornice/cornicelaw02.TermChecks", spec := "termChecks", unfollowed := true, recurses := true, named := ["cornice/term.shapes"], apart := false, laid := [("cornice/term.shapes", laid_cornice_term_shapes)] }
def TermChecksSaid : Prop := termChecksRow.holds Tryd.pinned (OpenSpec.ofChange termChecksSpec)

/-- ITS FALSE NEIGHBOUR: 'it returns false'. Refute it at one input. -/
def termChecksWrong : ChangeSpec := { name := "termChecks", fn := fun _ => fun
  | [d1, d2] => { results := [.lit (.bool false)], args := [d1, d2] }
  | _ => none }
def TermChecksWrongFalsely : Prop := termChecksRow.holds Tryd.pinned (OpenSpec.ofChange termChecksWrong)

/-- 'cornicelaw03.ShiftUses': WHATEVER THE INPUT: true; the input reads as it did. -/
def shiftUsesSpec : ChangeSpec := { name := "shiftUses", fn := fun _ => fun
  | [d1, d2] => { results := [.lit (.bool true)], args := [d1, d2] }
  | _ => none }
def shiftUsesRow : OpenClaim := { program := "ytjhgpifccleknaadoor", sum := "cc4ada118f761ebd127a90d8307701c5a90024677c28443abead2776cf915a0e", func := "cornice/cornicelaw03.ShiftUses", spec := "shiftUses", unfollowed := true, recurses := true, named := ["cornice/term.shapes"], apart := false, laid := [("cornice/term.shapes", laid_cornice_term_shapes)] }
def ShiftUsesSaid : Prop := shiftUsesRow.holds Tryd.pinned (OpenSpec.ofChange shiftUsesSpec)

/-- ITS FALSE NEIGHBOUR: 'it returns false'. Refute it at one input. -/
def shiftUsesWrong : ChangeSpec := { name := "shiftUses", fn := fun _ => fun
  | [d1, d2] => { results := [.lit (.bool false)], args := [d1, d2] }
  | _ => none }
def ShiftUsesWrongFalsely : Prop := shiftUsesRow.holds Tryd.pinned (OpenSpec.ofChange shiftUsesWrong)

/-- 'cornicelaw03.ShiftBack': WHATEVER THE INPUT: true; the input reads as it did. -/
def shiftBackSpec : ChangeSpec := { name := "shiftBack", fn := fun _ => fun
  | [d1, d2, d3, d4] => { results := [.lit (.bool true)], args := [d1, d2, d3, d4] }
  | _ => none }
def shiftBackRow : OpenClaim := { program := "ytjhgpifccleknaadoor", sum := "cc4ada118f761ebd127a90d8307701c5a90024677c28443abead2776cf915a0e", func := "cornice/cornicelaw03.ShiftBack", spec := "shiftBack", unfollowed := true, recurses := true, named := ["cornice/term.shapes"], apart := false, laid := [("cornice/term.shapes", laid_cornice_term_shapes)] }
def ShiftBackSaid : Prop := shiftBackRow.holds Tryd.pinned (OpenSpec.ofChange shiftBackSpec)

/-- ITS FALSE NEIGHBOUR: 'it returns false'. Refute it at one input. -/
def shiftBackWrong : ChangeSpec := { name := "shiftBack", fn := fun _ => fun
  | [d1, d2, d3, d4] => { results := [.lit (.bool false)], args := [d1, d2, d3, d4] }
  | _ => none }
def ShiftBackWrongFalsely : Prop := shiftBackRow.holds Tryd.pinned (OpenSpec.ofChange shiftBackWrong)

/-- 'cornicelaw03.ShiftParts': WHATEVER THE INPUT: true; the input reads as it did. -/
def shiftPartsSpec : ChangeSpec := { name := "shiftParts", fn := fun _ => fun
  | [d1, d2, d3] => { results := [.lit (.bool true)], args := [d1, d2, d3] }
  | _ => none }
def shiftPartsRow : OpenClaim := { program := "ytjhgpifccleknaadoor", sum := "cc4ada118f761ebd127a90d8307701c5a90024677c28443abead2776cf915a0e", func := "cornice/cornicelaw03.ShiftParts", spec := "shiftParts", unfollowed := true, recurses := true, named := ["cornice/term.shapes"], apart := false, laid := [("cornice/term.shapes", laid_cornice_term_shapes)] }
def ShiftPartsSaid : Prop := shiftPartsRow.holds Tryd.pinned (OpenSpec.ofChange shiftPartsSpec)

/-- ITS FALSE NEIGHBOUR: 'it returns false'. Refute it at one input. -/
def shiftPartsWrong : ChangeSpec := { name := "shiftParts", fn := fun _ => fun
  | [d1, d2, d3] => { results := [.lit (.bool false)], args := [d1, d2, d3] }
  | _ => none }
def ShiftPartsWrongFalsely : Prop := shiftPartsRow.holds Tryd.pinned (OpenSpec.ofChange shiftPartsWrong)

/-- 'cornicelaw02.TermMakes': WHATEVER THE INPUT: true; the input reads as it did. -/
def termMakesSpec : ChangeSpec := { name := "termMakes", fn := fun _ => fun
  | [d1, d2] => { results := [.lit (.bool true)], args := [d1, d2] }
  | _ => none }
def termMakesRow : OpenClaim := { program := "ytjhgpifccleknaadoor", sum := "cc4ada118f761ebd127a90d8307701c5a90024677c28443abead2776cf915a0e", func := "cornice/cornicelaw02.TermMakes", spec := "termMakes", unfollowed := true, recurses := true, named := ["cornice/term.shapes"], apart := false, laid := [("cornice/term.shapes", laid_cornice_term_shapes)] }
def TermMakesSaid : Prop := termMakesRow.holds Tryd.pinned (OpenSpec.ofChange termMakesSpec)

/-- ITS FALSE NEIGHBOUR: 'it returns false'. Refute it at one input. -/
def termMakesWrong : ChangeSpec := { name := "termMakes", fn := fun _ => fun
  | [d1, d2] => { results := [.lit (.bool false)], args := [d1, d2] }
  | _ => none }
def TermMakesWrongFalsely : Prop := termMakesRow.holds Tryd.pinned (OpenSpec.ofChange termMakesWrong)

/-- 'cornicelaw02.TermOnce': WHATEVER THE INPUT: true; the input reads as it did. -/
def termOnceSpec : ChangeSpec := { name := "termOnce", fn := fun _ => fun
  | [d1, d2] => { results := [.lit (.bool true)], args := [d1, d2] }
  | _ => none }
def termOnceRow : OpenClaim := { program := "ytjhgpifccleknaadoor", sum := "cc4ada118f761ebd127a90d8307701c5a90024677c28443abead2776cf915a0e", func := "cornice/cornicelaw02.TermOnce", spec := "termOnce", unfollowed := true, recurses := true, named := ["cornice/term.shapes"], apart := false, laid := [("cornice/term.shapes", laid_cornice_term_shapes)] }
def TermOnceSaid : Prop := termOnceRow.holds Tryd.pinned (OpenSpec.ofChange termOnceSpec)

/-- ITS FALSE NEIGHBOUR: 'it returns false'. Refute it at one input. -/
def termOnceWrong : ChangeSpec := { name := "termOnce", fn := fun _ => fun
  | [d1, d2] => { results := [.lit (.bool false)], args := [d1, d2] }
  | _ => none }
def TermOnceWrongFalsely : Prop := termOnceRow.holds Tryd.pinned (OpenSpec.ofChange termOnceWrong)

/-- 'cornicelaw03.ShiftTells': WHATEVER THE INPUT: true; the input reads as it did. -/
def shiftTellsSpec : ChangeSpec := { name := "shiftTells", fn := fun _ => fun
  | [d1, d2, d3, d4] => { results := [.lit (.bool true)], args := [d1, d2, d3, d4] }
  | _ => none }
def shiftTellsRow : OpenClaim := { program := "ytjhgpifccleknaadoor", sum := "cc4ada118f761ebd127a90d8307701c5a90024677c28443abead2776cf915a0e", func := "cornice/cornicelaw03.ShiftTells", spec := "shiftTells", unfollowed := true, recurses := true, named := ["cornice/term.shapes"], apart := false, laid := [("cornice/term.shapes", laid_cornice_term_shapes)] }
def ShiftTellsSaid : Prop := shiftTellsRow.holds Tryd.pinned (OpenSpec.ofChange shiftTellsSpec)

/-- ITS FALSE NEIGHBOUR: 'it returns false'. Refute it at one input. -/
def shiftTellsWrong : ChangeSpec := { name := "shiftTells", fn := fun _ => fun
  | [d1, d2, d3, d4] => { results := [.lit (.bool false)], args := [d1, d2, d3, d4] }
  | _ => none }
def ShiftTellsWrongFalsely : Prop := shiftTellsRow.holds Tryd.pinned (OpenSpec.ofChange shiftTellsWrong)

/-- 'cornicelaw03.ShiftFree': WHATEVER THE INPUT: true; the input reads as it did. -/
def shiftFreeSpec : ChangeSpec := { name := "shiftFree", fn := fun _ => fun
  | [d1, d2, d3] => { results := [.lit (.bool true)], args := [d1, d2, d3] }
  | _ => none }
def shiftFreeRow : OpenClaim := { program := "ytjhgpifccleknaadoor", sum := "cc4ada118f761ebd127a90d8307701c5a90024677c28443abead2776cf915a0e", func := "cornice/cornicelaw03.ShiftFree", spec := "shiftFree", unfollowed := true, recurses := true, named := ["cornice/term.shapes"], apart := false, laid := [("cornice/term.shapes", laid_cornice_term_shapes)] }
def ShiftFreeSaid : Prop := shiftFreeRow.holds Tryd.pinned (OpenSpec.ofChange shiftFreeSpec)

/-- ITS FALSE NEIGHBOUR: 'it returns false'. Refute it at one input. -/
def shiftFreeWrong : ChangeSpec := { name := "shiftFree", fn := fun _ => fun
  | [d1, d2, d3] => { results := [.lit (.bool false)], args := [d1, d2, d3] }
  | _ => none }
def ShiftFreeWrongFalsely : Prop := shiftFreeRow.holds Tryd.pinned (OpenSpec.ofChange shiftFreeWrong)

/-- 'cornicelaw04.SubstUnused': WHATEVER THE INPUT: true; the input reads as it did. -/
def substUnusedSpec : ChangeSpec := { name := "substUnused", fn := fun _ => fun
  | [d1, d2, d3, d4] => { results := [.lit (.bool true)], args := [d1, d2, d3, d4] }
  | _ => none }
def substUnusedRow : OpenClaim := { program := "ytjhgpifccleknaadoor", sum := "cc4ada118f761ebd127a90d8307701c5a90024677c28443abead2776cf915a0e", func := "cornice/cornicelaw04.SubstUnused", spec := "substUnused", unfollowed := true, recurses := true, named := ["cornice/term.shapes"], apart := false, laid := [("cornice/term.shapes", laid_cornice_term_shapes)] }
def SubstUnusedSaid : Prop := substUnusedRow.holds Tryd.pinned (OpenSpec.ofChange substUnusedSpec)

/-- ITS FALSE NEIGHBOUR: 'it returns false'. Refute it at one input. -/
def substUnusedWrong : ChangeSpec := { name := "substUnused", fn := fun _ => fun
  | [d1, d2, d3, d4] => { results := [.lit (.bool false)], args := [d1, d2, d3, d4] }
  | _ => none }
def SubstUnusedWrongFalsely : Prop := substUnusedRow.holds Tryd.pinned (OpenSpec.ofChange substUnusedWrong)

/-- 'cornicelaw04.SubstParts': WHATEVER THE INPUT: true; the input reads as it did. -/
def substPartsSpec : ChangeSpec := { name := "substParts", fn := fun _ => fun
  | [d1, d2, d3] => { results := [.lit (.bool true)], args := [d1, d2, d3] }
  | _ => none }
def substPartsRow : OpenClaim := { program := "ytjhgpifccleknaadoor", sum := "cc4ada118f761ebd127a90d8307701c5a90024677c28443abead2776cf915a0e", func := "cornice/cornicelaw04.SubstParts", spec := "substParts", unfollowed := true, recurses := true, named := ["cornice/term.shapes"], apart := false, laid := [("cornice/term.shapes", laid_cornice_term_shapes)] }
def SubstPartsSaid : Prop := substPartsRow.holds Tryd.pinned (OpenSpec.ofChange substPartsSpec)

/-- ITS FALSE NEIGHBOUR: 'it returns false'. Refute it at one input. -/
def substPartsWrong : ChangeSpec := { name := "substParts", fn := fun _ => fun
  | [d1, d2, d3] => { results := [.lit (.bool false)], args := [d1, d2, d3] }
  | _ => none }
def SubstPartsWrongFalsely : Prop := substPartsRow.holds Tryd.pinned (OpenSpec.ofChange substPartsWrong)

/-- 'cornicelaw04.SubstOrder': WHATEVER THE INPUT: true; the input reads as it did. -/
def substOrderSpec : ChangeSpec := { name := "substOrder", fn := fun _ => fun
  | [d1, d2, d3] => { results := [.lit (.bool true)], args := [d1, d2, d3] }
  | _ => none }
def substOrderRow : OpenClaim := { program := "ytjhgpifccleknaadoor", sum := "cc4ada118f761ebd127a90d8307701c5a90024677c28443abead2776cf915a0e", func := "cornice/cornicelaw04.SubstOrder", spec := "substOrder", unfollowed := true, recurses := true, named := ["cornice/term.shapes"], apart := false, laid := [("cornice/term.shapes", laid_cornice_term_shapes)] }
def SubstOrderSaid : Prop := substOrderRow.holds Tryd.pinned (OpenSpec.ofChange substOrderSpec)

/-- ITS FALSE NEIGHBOUR: 'it returns false'. Refute it at one input. -/
def substOrderWrong : ChangeSpec := { name := "substOrder", fn := fun _ => fun
  | [d1, d2, d3] => { results := [.lit (.bool false)], args := [d1, d2, d3] }
  | _ => none }
def SubstOrderWrongFalsely : Prop := substOrderRow.holds Tryd.pinned (OpenSpec.ofChange substOrderWrong)

/-- 'cornicelaw04.SubstTells': WHATEVER THE INPUT: true; the input reads as it did. -/
def substTellsSpec : ChangeSpec := { name := "substTells", fn := fun _ => fun
  | [d1, d2, d3, d4] => { results := [.lit (.bool true)], args := [d1, d2, d3, d4] }
  | _ => none }
def substTellsRow : OpenClaim := { program := "ytjhgpifccleknaadoor", sum := "cc4ada118f761ebd127a90d8307701c5a90024677c28443abead2776cf915a0e", func := "cornice/cornicelaw04.SubstTells", spec := "substTells", unfollowed := true, recurses := true, named := ["cornice/term.shapes"], apart := false, laid := [("cornice/term.shapes", laid_cornice_term_shapes)] }
def SubstTellsSaid : Prop := substTellsRow.holds Tryd.pinned (OpenSpec.ofChange substTellsSpec)

/-- ITS FALSE NEIGHBOUR: 'it returns false'. Refute it at one input. -/
def substTellsWrong : ChangeSpec := { name := "substTells", fn := fun _ => fun
  | [d1, d2, d3, d4] => { results := [.lit (.bool false)], args := [d1, d2, d3, d4] }
  | _ => none }
def SubstTellsWrongFalsely : Prop := substTellsRow.holds Tryd.pinned (OpenSpec.ofChange substTellsWrong)

/-- 'cornicelaw04.SubstSwaps': WHATEVER THE INPUT: true; the input reads as it did. -/
def substSwapsSpec : ChangeSpec := { name := "substSwaps", fn := fun _ => fun
  | [d1, d2, d3] => { results := [.lit (.bool true)], args := [d1, d2, d3] }
  | _ => none }
def substSwapsRow : OpenClaim := { program := "ytjhgpifccleknaadoor", sum := "cc4ada118f761ebd127a90d8307701c5a90024677c28443abead2776cf915a0e", func := "cornice/cornicelaw04.SubstSwaps", spec := "substSwaps", unfollowed := true, recurses := true, named := ["cornice/term.shapes"], apart := false, laid := [("cornice/term.shapes", laid_cornice_term_shapes)] }
def SubstSwapsSaid : Prop := substSwapsRow.holds Tryd.pinned (OpenSpec.ofChange substSwapsSpec)

/-- ITS FALSE NEIGHBOUR: 'it returns false'. Refute it at one input. -/
def substSwapsWrong : ChangeSpec := { name := "substSwaps", fn := fun _ => fun
  | [d1, d2, d3] => { results := [.lit (.bool false)], args := [d1, d2, d3] }
  | _ => none }
def SubstSwapsWrongFalsely : Prop := substSwapsRow.holds Tryd.pinned (OpenSpec.ofChange substSwapsWrong)

/-- 'cornicelaw04.SubstOne': WHATEVER THE INPUT: true; the input reads as it did. -/
def substOneSpec : ChangeSpec := { name := "substOne", fn := fun _ => fun
  | [d1, d2] => { results := [.lit (.bool true)], args := [d1, d2] }
  | _ => none }
def substOneRow : OpenClaim := { program := "ytjhgpifccleknaadoor", sum := "cc4ada118f761ebd127a90d8307701c5a90024677c28443abead2776cf915a0e", func := "cornice/cornicelaw04.SubstOne", spec := "substOne", unfollowed := true, recurses := true, named := ["cornice/term.shapes"], apart := false, laid := [("cornice/term.shapes", laid_cornice_term_shapes)] }
def SubstOneSaid : Prop := substOneRow.holds Tryd.pinned (OpenSpec.ofChange substOneSpec)

/-- ITS FALSE NEIGHBOUR: 'it returns false'. Refute it at one input. -/
def substOneWrong : ChangeSpec := { name := "substOne", fn := fun _ => fun
  | [d1, d2] => { results := [.lit (.bool false)], args := [d1, d2] }
  | _ => none }
def SubstOneWrongFalsely : Prop := substOneRow.holds Tryd.pinned (OpenSpec.ofChange substOneWrong)

/-- 'cornicelaw04.SubstFree': WHATEVER THE INPUT: true; the input reads as it did. -/
def substFreeSpec : ChangeSpec := { name := "substFree", fn := fun _ => fun
  | [d1, d2] => { results := [.lit (.bool true)], args := [d1, d2] }
  | _ => none }
def substFreeRow : OpenClaim := { program := "ytjhgpifccleknaadoor", sum := "cc4ada118f761ebd127a90d8307701c5a90024677c28443abead2776cf915a0e", func := "cornice/cornicelaw04.SubstFree", spec := "substFree", unfollowed := true, recurses := true, named := ["cornice/term.shapes"], apart := false, laid := [("cornice/term.shapes", laid_cornice_term_shapes)] }
def SubstFreeSaid : Prop := substFreeRow.holds Tryd.pinned (OpenSpec.ofChange substFreeSpec)

/-- ITS FALSE NEIGHBOUR: 'it returns false'. Refute it at one input. -/
def substFreeWrong : ChangeSpec := { name := "substFree", fn := fun _ => fun
  | [d1, d2] => { results := [.lit (.bool false)], args := [d1, d2] }
  | _ => none }
def SubstFreeWrongFalsely : Prop := substFreeRow.holds Tryd.pinned (OpenSpec.ofChange substFreeWrong)

/- THE SECOND FORM. 'bulk': how many values and letters a reading holds, each counted each time it is reached (what is shared counts as often as it is met; a slice's spare places count too). A statement '..UptoSaid' is the law's where the arguments, and the package variables that the reading takes, are together of bulk at most 1048576: NARROWER than '..Said'. Prove '..Said' where nothing that the law and all that it calls make is longer than what came in: it says more and counts as full. Else prove '..UptoSaid'. A law counts once. -/
mutual
def uptoBulk {H : Type} : DataW H → Nat
  | .lit (.string bytes) => bytes.length + 1
  | .lit _ => 1
  | .nil => 1
  | .ptr d => uptoBulk d + 1
  | .slice elems spare => uptoBulkAll elems + uptoBulkAll spare + 1
  | .agg parts => uptoBulkAll parts + 1
  | .iface _ d => uptoBulk d + 1
  | .map entries => uptoBulkEntries entries + 1
  | .held _ => 1
def uptoBulkAll {H : Type} : List (DataW H) → Nat
  | [] => 0
  | d :: r => uptoBulk d + uptoBulkAll r
def uptoBulkEntries {H : Type} : List (Lit × DataW H) → Nat
  | [] => 0
  | x :: r => uptoBulkEntry x + uptoBulkEntries r
def uptoBulkEntry {H : Type} : Lit × DataW H → Nat
  | (.string bytes, d) => bytes.length + uptoBulk d + 1
  | (_, d) => uptoBulk d + 1
 end
def uptoSmall : (H : Type) → List (DataW H) → Bool := fun _ ds => decide (uptoBulkAll ds ≤ 1048576)
def OpenSpec.upto (s : _root_.Go.ChangeSpec) : _root_.Go.OpenSpec := { _root_.Go.OpenSpec.ofChange s with cond := some uptoSmall }

/-- 'cornicelaw02.TermNodes', WHERE WHAT IT READS IS OF BULK AT MOST 1048576: true; the input reads as it did. -/
def termNodesUptoRow : OpenClaim := { program := "ytjhgpifccleknaadoor", sum := "cc4ada118f761ebd127a90d8307701c5a90024677c28443abead2776cf915a0e", func := "cornice/cornicelaw02.TermNodes", spec := "termNodes", unfollowed := true, recurses := true, named := ["cornice/term.shapes"], apart := false, laid := [("cornice/term.shapes", laid_cornice_term_shapes)], narrowed := true }
def TermNodesUptoSaid : Prop := termNodesUptoRow.holds Tryd.pinned (OpenSpec.upto termNodesSpec)

/-- 'cornicelaw02.TermPaths', WHERE WHAT IT READS IS OF BULK AT MOST 1048576: true; the input reads as it did. -/
def termPathsUptoRow : OpenClaim := { program := "ytjhgpifccleknaadoor", sum := "cc4ada118f761ebd127a90d8307701c5a90024677c28443abead2776cf915a0e", func := "cornice/cornicelaw02.TermPaths", spec := "termPaths", unfollowed := true, recurses := true, named := ["cornice/term.shapes"], apart := false, laid := [("cornice/term.shapes", laid_cornice_term_shapes)], narrowed := true }
def TermPathsUptoSaid : Prop := termPathsUptoRow.holds Tryd.pinned (OpenSpec.upto termPathsSpec)

/-- 'cornicelaw02.TermGrows', WHERE WHAT IT READS IS OF BULK AT MOST 1048576: true; the input reads as it did. -/
def termGrowsUptoRow : OpenClaim := { program := "ytjhgpifccleknaadoor", sum := "cc4ada118f761ebd127a90d8307701c5a90024677c28443abead2776cf915a0e", func := "cornice/cornicelaw02.TermGrows", spec := "termGrows", unfollowed := true, recurses := true, named := ["cornice/term.shapes"], apart := false, laid := [("cornice/term.shapes", laid_cornice_term_shapes)], narrowed := true }
def TermGrowsUptoSaid : Prop := termGrowsUptoRow.holds Tryd.pinned (OpenSpec.upto termGrowsSpec)

/-- 'cornicelaw02.TermChecks', WHERE WHAT IT READS IS OF BULK AT MOST 1048576: true; the input reads as it did. -/
def termChecksUptoRow : OpenClaim := { program := "ytjhgpifccleknaadoor", sum := "cc4ada118f761ebd127a90d8307701c5a90024677c28443abead2776cf915a0e", func := "cornice/cornicelaw02.TermChecks", spec := "termChecks", unfollowed := true, recurses := true, named := ["cornice/term.shapes"], apart := false, laid := [("cornice/term.shapes", laid_cornice_term_shapes)], narrowed := true }
def TermChecksUptoSaid : Prop := termChecksUptoRow.holds Tryd.pinned (OpenSpec.upto termChecksSpec)

/-- 'cornicelaw03.ShiftUses', WHERE WHAT IT READS IS OF BULK AT MOST 1048576: true; the input reads as it did. -/
def shiftUsesUptoRow : OpenClaim := { program := "ytjhgpifccleknaadoor", sum := "cc4ada118f761ebd127a90d8307701c5a90024677c28443abead2776cf915a0e", func := "cornice/cornicelaw03.ShiftUses", spec := "shiftUses", unfollowed := true, recurses := true, named := ["cornice/term.shapes"], apart := false, laid := [("cornice/term.shapes", laid_cornice_term_shapes)], narrowed := true }
def ShiftUsesUptoSaid : Prop := shiftUsesUptoRow.holds Tryd.pinned (OpenSpec.upto shiftUsesSpec)

/-- 'cornicelaw03.ShiftBack', WHERE WHAT IT READS IS OF BULK AT MOST 1048576: true; the input reads as it did. -/
def shiftBackUptoRow : OpenClaim := { program := "ytjhgpifccleknaadoor", sum := "cc4ada118f761ebd127a90d8307701c5a90024677c28443abead2776cf915a0e", func := "cornice/cornicelaw03.ShiftBack", spec := "shiftBack", unfollowed := true, recurses := true, named := ["cornice/term.shapes"], apart := false, laid := [("cornice/term.shapes", laid_cornice_term_shapes)], narrowed := true }
def ShiftBackUptoSaid : Prop := shiftBackUptoRow.holds Tryd.pinned (OpenSpec.upto shiftBackSpec)

/-- 'cornicelaw03.ShiftParts', WHERE WHAT IT READS IS OF BULK AT MOST 1048576: true; the input reads as it did. -/
def shiftPartsUptoRow : OpenClaim := { program := "ytjhgpifccleknaadoor", sum := "cc4ada118f761ebd127a90d8307701c5a90024677c28443abead2776cf915a0e", func := "cornice/cornicelaw03.ShiftParts", spec := "shiftParts", unfollowed := true, recurses := true, named := ["cornice/term.shapes"], apart := false, laid := [("cornice/term.shapes", laid_cornice_term_shapes)], narrowed := true }
def ShiftPartsUptoSaid : Prop := shiftPartsUptoRow.holds Tryd.pinned (OpenSpec.upto shiftPartsSpec)

/-- 'cornicelaw02.TermMakes', WHERE WHAT IT READS IS OF BULK AT MOST 1048576: true; the input reads as it did. -/
def termMakesUptoRow : OpenClaim := { program := "ytjhgpifccleknaadoor", sum := "cc4ada118f761ebd127a90d8307701c5a90024677c28443abead2776cf915a0e", func := "cornice/cornicelaw02.TermMakes", spec := "termMakes", unfollowed := true, recurses := true, named := ["cornice/term.shapes"], apart := false, laid := [("cornice/term.shapes", laid_cornice_term_shapes)], narrowed := true }
def TermMakesUptoSaid : Prop := termMakesUptoRow.holds Tryd.pinned (OpenSpec.upto termMakesSpec)

/-- 'cornicelaw02.TermOnce', WHERE WHAT IT READS IS OF BULK AT MOST 1048576: true; the input reads as it did. -/
def termOnceUptoRow : OpenClaim := { program := "ytjhgpifccleknaadoor", sum := "cc4ada118f761ebd127a90d8307701c5a90024677c28443abead2776cf915a0e", func := "cornice/cornicelaw02.TermOnce", spec := "termOnce", unfollowed := true, recurses := true, named := ["cornice/term.shapes"], apart := false, laid := [("cornice/term.shapes", laid_cornice_term_shapes)], narrowed := true }
def TermOnceUptoSaid : Prop := termOnceUptoRow.holds Tryd.pinned (OpenSpec.upto termOnceSpec)

/-- 'cornicelaw03.ShiftTells', WHERE WHAT IT READS IS OF BULK AT MOST 1048576: true; the input reads as it did. -/
def shiftTellsUptoRow : OpenClaim := { program := "ytjhgpifccleknaadoor", sum := "cc4ada118f761ebd127a90d8307701c5a90024677c28443abead2776cf915a0e", func := "cornice/cornicelaw03.ShiftTells", spec := "shiftTells", unfollowed := true, recurses := true, named := ["cornice/term.shapes"], apart := false, laid := [("cornice/term.shapes", laid_cornice_term_shapes)], narrowed := true }
def ShiftTellsUptoSaid : Prop := shiftTellsUptoRow.holds Tryd.pinned (OpenSpec.upto shiftTellsSpec)

/-- 'cornicelaw03.ShiftFree', WHERE WHAT IT READS IS OF BULK AT MOST 1048576: true; the input reads as it did. -/
def shiftFreeUptoRow : OpenClaim := { program := "ytjhgpifccleknaadoor", sum := "cc4ada118f761ebd127a90d8307701c5a90024677c28443abead2776cf915a0e", func := "cornice/cornicelaw03.ShiftFree", spec := "shiftFree", unfollowed := true, recurses := true, named := ["cornice/term.shapes"], apart := false, laid := [("cornice/term.shapes", laid_cornice_term_shapes)], narrowed := true }
def ShiftFreeUptoSaid : Prop := shiftFreeUptoRow.holds Tryd.pinned (OpenSpec.upto shiftFreeSpec)

/-- 'cornicelaw04.SubstUnused', WHERE WHAT IT READS IS OF BULK AT MOST 1048576: true; the input reads as it did. -/
def substUnusedUptoRow : OpenClaim := { program := "ytjhgpifccleknaadoor", sum := "cc4ada118f761ebd127a90d8307701c5a90024677c28443abead2776cf915a0e", func := "cornice/cornicelaw04.SubstUnused", spec := "substUnused", unfollowed := true, recurses := true, named := ["cornice/term.shapes"], apart := false, laid := [("cornice/term.shapes", laid_cornice_term_shapes)], narrowed := true }
def SubstUnusedUptoSaid : Prop := substUnusedUptoRow.holds Tryd.pinned (OpenSpec.upto substUnusedSpec)

/-- 'cornicelaw04.SubstParts', WHERE WHAT IT READS IS OF BULK AT MOST 1048576: true; the input reads as it did. -/
def substPartsUptoRow : OpenClaim := { program := "ytjhgpifccleknaadoor", sum := "cc4ada118f761ebd127a90d8307701c5a90024677c28443abead2776cf915a0e", func := "cornice/cornicelaw04.SubstParts", spec := "substParts", unfollowed := true, recurses := true, named := ["cornice/term.shapes"], apart := false, laid := [("cornice/term.shapes", laid_cornice_term_shapes)], narrowed := true }
def SubstPartsUptoSaid : Prop := substPartsUptoRow.holds Tryd.pinned (OpenSpec.upto substPartsSpec)

/-- 'cornicelaw04.SubstOrder', WHERE WHAT IT READS IS OF BULK AT MOST 1048576: true; the input reads as it did. -/
def substOrderUptoRow : OpenClaim := { program := "ytjhgpifccleknaadoor", sum := "cc4ada118f761ebd127a90d8307701c5a90024677c28443abead2776cf915a0e", func := "cornice/cornicelaw04.SubstOrder", spec := "substOrder", unfollowed := true, recurses := true, named := ["cornice/term.shapes"], apart := false, laid := [("cornice/term.shapes", laid_cornice_term_shapes)], narrowed := true }
def SubstOrderUptoSaid : Prop := substOrderUptoRow.holds Tryd.pinned (OpenSpec.upto substOrderSpec)

/-- 'cornicelaw04.SubstTells', WHERE WHAT IT READS IS OF BULK AT MOST 1048576: true; the input reads as it did. -/
def substTellsUptoRow : OpenClaim := { program := "ytjhgpifccleknaadoor", sum := "cc4ada118f761ebd127a90d8307701c5a90024677c28443abead2776cf915a0e", func := "cornice/cornicelaw04.SubstTells", spec := "substTells", unfollowed := true, recurses := true, named := ["cornice/term.shapes"], apart := false, laid := [("cornice/term.shapes", laid_cornice_term_shapes)], narrowed := true }
def SubstTellsUptoSaid : Prop := substTellsUptoRow.holds Tryd.pinned (OpenSpec.upto substTellsSpec)

/-- 'cornicelaw04.SubstSwaps', WHERE WHAT IT READS IS OF BULK AT MOST 1048576: true; the input reads as it did. -/
def substSwapsUptoRow : OpenClaim := { program := "ytjhgpifccleknaadoor", sum := "cc4ada118f761ebd127a90d8307701c5a90024677c28443abead2776cf915a0e", func := "cornice/cornicelaw04.SubstSwaps", spec := "substSwaps", unfollowed := true, recurses := true, named := ["cornice/term.shapes"], apart := false, laid := [("cornice/term.shapes", laid_cornice_term_shapes)], narrowed := true }
def SubstSwapsUptoSaid : Prop := substSwapsUptoRow.holds Tryd.pinned (OpenSpec.upto substSwapsSpec)

/-- 'cornicelaw04.SubstOne', WHERE WHAT IT READS IS OF BULK AT MOST 1048576: true; the input reads as it did. -/
def substOneUptoRow : OpenClaim := { program := "ytjhgpifccleknaadoor", sum := "cc4ada118f761ebd127a90d8307701c5a90024677c28443abead2776cf915a0e", func := "cornice/cornicelaw04.SubstOne", spec := "substOne", unfollowed := true, recurses := true, named := ["cornice/term.shapes"], apart := false, laid := [("cornice/term.shapes", laid_cornice_term_shapes)], narrowed := true }
def SubstOneUptoSaid : Prop := substOneUptoRow.holds Tryd.pinned (OpenSpec.upto substOneSpec)

/-- 'cornicelaw04.SubstFree', WHERE WHAT IT READS IS OF BULK AT MOST 1048576: true; the input reads as it did. -/
def substFreeUptoRow : OpenClaim := { program := "ytjhgpifccleknaadoor", sum := "cc4ada118f761ebd127a90d8307701c5a90024677c28443abead2776cf915a0e", func := "cornice/cornicelaw04.SubstFree", spec := "substFree", unfollowed := true, recurses := true, named := ["cornice/term.shapes"], apart := false, laid := [("cornice/term.shapes", laid_cornice_term_shapes)], narrowed := true }
def SubstFreeUptoSaid : Prop := substFreeUptoRow.holds Tryd.pinned (OpenSpec.upto substFreeSpec)

end Rows
end Go.Proofs.YtjhgpifccleknaaDoor
