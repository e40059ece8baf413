/-
  NARROWER THAN 'FOR EVERY INPUT', by the rows' own cells (each row's printed sentence says how): SchemaFree: laid · SchemaParts: laid · SchemaNames: laid · SchemaTells: laid · SchemaLevels: laid.
  DERIVED. THE GIVEN ROWS OF THIS SEAT. 5 by the template 'for every input the law returns true; each argument reads behind the call as it read before'; 0 by the template 'total and deterministic' (their statements: YteldkcpkamgfpaaDoorTotals.lean).
  GIVEN WITH THE SEED: the statements are not yours to turn. If you find one false, say at which input.
  Laid BY PROGRAM, IN A SANDBOX (cutbox-rows.mjs): the forced cells as the released guide's own fill.sh prints them over the translation ea57ae7d5fdb3d85… (all of the seat's roots in one cut). By AI agents, Wed Nov 11 2026. No macro, syntax, notation, axiom, sorry.
-/
import Derived.Test.YteldkcpkamgfpaaDoorChecked
import GoSem.Claim
import GoSem.ClaimJoined
import GoSem.ClaimMapViews
import Derived.JoinedTies
import Derived.KernelRfl
namespace Go.Proofs.YteldkcpkamgfpaaDoor
/- THE CELL 'sum', in the pinned program and in every row, IS THE sha256 OF THE DUMP (.gsa) THAT YteldkcpkamgfpaaDoorProg.lean LOADS. Nothing in Lean hashes anything: it is a label: what it is worth is what the hold of that sum in a sandbox is worth. -/
noncomputable def Tryd.pinned : Pinned := { name := "yteldkcpkamgfpaadoor", sum := "ea57ae7d5fdb3d854e29dcd110d9905a375507e91c6e3e599b62f5e6cf996dde", checked := Tryd.checked }
namespace Rows
def none {H : Type} : Left H := { results := [], args := [] }

/- WHAT THE LISTED PACKAGE-LEVEL VARIABLES READ AS WHEN THE CALL BEGINS. Each datum BY PROGRAM (the guide's laid-datum.mjs) off the statement by which the dump's own 'gosem.cut.vars' lays the variable. In a bare row this is a premise. The card (YteldkcpkamgfpaaDoorCards.lean) ties it to the program's text. -/
def laid_cornice_term_shapes {H : Type} : DataW H := .agg [.agg [.nil, .lit (.bool true), .lit (.bool false), .lit (.bool false)], .agg [.nil, .lit (.bool false), .lit (.bool false), .lit (.bool true)], .agg [.nil, .lit (.bool true), .lit (.bool false), .lit (.bool false)], .agg [.slice [.lit (.int .i64 0), .lit (.int .i64 1)] [], .lit (.bool true), .lit (.bool false), .lit (.bool false)], .agg [.slice [.lit (.int .i64 0), .lit (.int .i64 1)] [], .lit (.bool false), .lit (.bool false), .lit (.bool false)], .agg [.slice [.lit (.int .i64 0), .lit (.int .i64 0)] [], .lit (.bool false), .lit (.bool false), .lit (.bool false)], .agg [.slice [.lit (.int .i64 0), .lit (.int .i64 1)] [], .lit (.bool true), .lit (.bool false), .lit (.bool false)], .agg [.slice [.lit (.int .i64 0), .lit (.int .i64 0), .lit (.int .i64 0)] [], .lit (.bool false), .lit (.bool false), .lit (.bool false)], .agg [.slice [.lit (.int .i64 0)] [], .lit (.bool false), .lit (.bool false), .lit (.bool false)], .agg [.slice [.lit (.int .i64 0)] [], .lit (.bool false), .lit (.bool false), .lit (.bool false)], .agg [.nil, .lit (.bool false), .lit (.bool false), .lit (.bool false)], .agg [.nil, .lit (.bool false), .lit (.bool false), .lit (.bool false)], .agg [.slice [.lit (.int .i64 0)] [], .lit (.bool false), .lit (.bool false), .lit (.bool false)], .agg [.slice [.lit (.int .i64 1), .lit (.int .i64 0), .lit (.int .i64 2), .lit (.int .i64 0)] [], .lit (.bool false), .lit (.bool false), .lit (.bool false)], .agg [.nil, .lit (.bool false), .lit (.bool false), .lit (.bool false)], .agg [.slice [.lit (.int .i64 0), .lit (.int .i64 0)] [], .lit (.bool false), .lit (.bool false), .lit (.bool false)], .agg [.nil, .lit (.bool false), .lit (.bool false), .lit (.bool false)], .agg [.nil, .lit (.bool false), .lit (.bool false), .lit (.bool false)], .agg [.slice [.lit (.int .i64 0), .lit (.int .i64 0), .lit (.int .i64 0)] [], .lit (.bool false), .lit (.bool false), .lit (.bool false)], .agg [.slice [.lit (.int .i64 0), .lit (.int .i64 0)] [], .lit (.bool false), .lit (.bool false), .lit (.bool false)], .agg [.slice [.lit (.int .i64 0), .lit (.int .i64 0), .lit (.int .i64 0), .lit (.int .i64 0)] [], .lit (.bool false), .lit (.bool false), .lit (.bool false)], .agg [.slice [.lit (.int .i64 0), .lit (.int .i64 0), .lit (.int .i64 1), .lit (.int .i64 0), .lit (.int .i64 0), .lit (.int .i64 0)] [], .lit (.bool false), .lit (.bool false), .lit (.bool false)], .agg [.slice [.lit (.int .i64 0), .lit (.int .i64 2), .lit (.int .i64 0), .lit (.int .i64 0), .lit (.int .i64 0)] [], .lit (.bool false), .lit (.bool false), .lit (.bool false)], .agg [.slice [.lit (.int .i64 0), .lit (.int .i64 0)] [], .lit (.bool false), .lit (.bool false), .lit (.bool false)], .agg [.slice [.lit (.int .i64 0), .lit (.int .i64 1), .lit (.int .i64 0), .lit (.int .i64 0)] [], .lit (.bool false), .lit (.bool false), .lit (.bool false)], .agg [.nil, .lit (.bool false), .lit (.bool false), .lit (.bool true)], .agg [.nil, .lit (.bool true), .lit (.bool true), .lit (.bool true)], .agg [.nil, .lit (.bool false), .lit (.bool true), .lit (.bool true)], .agg [.slice [.lit (.int .i64 0)] [], .lit (.bool false), .lit (.bool false), .lit (.bool false)], .agg [.nil, .lit (.bool false), .lit (.bool false), .lit (.bool false)]]

/-- 'cornicelaw17.SchemaFree': WHATEVER THE INPUT: true; the input reads as it did. -/
def schemaFreeSpec : ChangeSpec := { name := "schemaFree", fn := fun _ => fun
  | [d1, d2, d3] => { results := [.lit (.bool true)], args := [d1, d2, d3] }
  | _ => none }
def schemaFreeRow : OpenClaim := { program := "yteldkcpkamgfpaadoor", sum := "ea57ae7d5fdb3d854e29dcd110d9905a375507e91c6e3e599b62f5e6cf996dde", func := "cornice/cornicelaw17.SchemaFree", spec := "schemaFree", unfollowed := true, recurses := true, named := ["cornice/term.shapes"], apart := false, laid := [("cornice/term.shapes", laid_cornice_term_shapes)] }
def SchemaFreeSaid : Prop := schemaFreeRow.holds Tryd.pinned (OpenSpec.ofChange schemaFreeSpec)

/-- ITS FALSE NEIGHBOUR: 'it returns false'. Refute it at one input. -/
def schemaFreeWrong : ChangeSpec := { name := "schemaFree", fn := fun _ => fun
  | [d1, d2, d3] => { results := [.lit (.bool false)], args := [d1, d2, d3] }
  | _ => none }
def SchemaFreeWrongFalsely : Prop := schemaFreeRow.holds Tryd.pinned (OpenSpec.ofChange schemaFreeWrong)

/-- 'cornicelaw17.SchemaParts': WHATEVER THE INPUT: true; the input reads as it did. -/
def schemaPartsSpec : ChangeSpec := { name := "schemaParts", fn := fun _ => fun
  | [d] => { results := [.lit (.bool true)], args := [d] }
  | _ => none }
def schemaPartsRow : OpenClaim := { program := "yteldkcpkamgfpaadoor", sum := "ea57ae7d5fdb3d854e29dcd110d9905a375507e91c6e3e599b62f5e6cf996dde", func := "cornice/cornicelaw17.SchemaParts", spec := "schemaParts", unfollowed := true, recurses := true, named := ["cornice/term.shapes"], apart := false, laid := [("cornice/term.shapes", laid_cornice_term_shapes)] }
def SchemaPartsSaid : Prop := schemaPartsRow.holds Tryd.pinned (OpenSpec.ofChange schemaPartsSpec)

/-- ITS FALSE NEIGHBOUR: 'it returns false'. Refute it at one input. -/
def schemaPartsWrong : ChangeSpec := { name := "schemaParts", fn := fun _ => fun
  | [d] => { results := [.lit (.bool false)], args := [d] }
  | _ => none }
def SchemaPartsWrongFalsely : Prop := schemaPartsRow.holds Tryd.pinned (OpenSpec.ofChange schemaPartsWrong)

/-- 'cornicelaw17.SchemaNames': WHATEVER THE INPUT: true; the input reads as it did. -/
def schemaNamesSpec : ChangeSpec := { name := "schemaNames", fn := fun _ => fun
  | [d1, d2, d3, d4] => { results := [.lit (.bool true)], args := [d1, d2, d3, d4] }
  | _ => none }
def schemaNamesRow : OpenClaim := { program := "yteldkcpkamgfpaadoor", sum := "ea57ae7d5fdb3d854e29dcd110d9905a375507e91c6e3e599b62f5e6cf996dde", func := "cornice/cornicelaw17.SchemaNames", spec := "schemaNames", unfollowed := true, recurses := true, named := ["cornice/term.shapes"], apart := false, laid := [("cornice/term.shapes", laid_cornice_term_shapes)] }
def SchemaNamesSaid : Prop := schemaNamesRow.holds Tryd.pinned (OpenSpec.ofChange schemaNamesSpec)

/-- ITS FALSE NEIGHBOUR: 'it returns false'. Refute it at one input. -/
def schemaNamesWrong : ChangeSpec := { name := "schemaNames", fn := fun _ => fun
  | [d1, d2, d3, d4] => { results := [.lit (.bool false)], args := [d1, d2, d3, d4] }
  | _ => none }
def SchemaNamesWrongFalsely : Prop := schemaNamesRow.holds Tryd.pinned (OpenSpec.ofChange schemaNamesWrong)

/-- 'cornicelaw17.SchemaTells': WHATEVER THE INPUT: true; the input reads as it did. -/
def schemaTellsSpec : ChangeSpec := { name := "schemaTells", fn := fun _ => fun
  | [d1, d2, d3, d4] => { results := [.lit (.bool true)], args := [d1, d2, d3, d4] }
  | _ => none }
def schemaTellsRow : OpenClaim := { program := "yteldkcpkamgfpaadoor", sum := "ea57ae7d5fdb3d854e29dcd110d9905a375507e91c6e3e599b62f5e6cf996dde", func := "cornice/cornicelaw17.SchemaTells", spec := "schemaTells", unfollowed := true, recurses := true, named := ["cornice/term.shapes"], apart := false, laid := [("cornice/term.shapes", laid_cornice_term_shapes)] }
def SchemaTellsSaid : Prop := schemaTellsRow.holds Tryd.pinned (OpenSpec.ofChange schemaTellsSpec)

/-- ITS FALSE NEIGHBOUR: 'it returns false'. Refute it at one input. -/
def schemaTellsWrong : ChangeSpec := { name := "schemaTells", fn := fun _ => fun
  | [d1, d2, d3, d4] => { results := [.lit (.bool false)], args := [d1, d2, d3, d4] }
  | _ => none }
def SchemaTellsWrongFalsely : Prop := schemaTellsRow.holds Tryd.pinned (OpenSpec.ofChange schemaTellsWrong)

/-- 'cornicelaw17.SchemaLevels': WHATEVER THE INPUT: true; the input reads as it did. -/
def schemaLevelsSpec : ChangeSpec := { name := "schemaLevels", fn := fun _ => fun
  | [d1, d2, d3] => { results := [.lit (.bool true)], args := [d1, d2, d3] }
  | _ => none }
def schemaLevelsRow : OpenClaim := { program := "yteldkcpkamgfpaadoor", sum := "ea57ae7d5fdb3d854e29dcd110d9905a375507e91c6e3e599b62f5e6cf996dde", func := "cornice/cornicelaw17.SchemaLevels", spec := "schemaLevels", unfollowed := true, recurses := true, named := ["cornice/term.shapes"], apart := false, laid := [("cornice/term.shapes", laid_cornice_term_shapes)] }
def SchemaLevelsSaid : Prop := schemaLevelsRow.holds Tryd.pinned (OpenSpec.ofChange schemaLevelsSpec)

/-- ITS FALSE NEIGHBOUR: 'it returns false'. Refute it at one input. -/
def schemaLevelsWrong : ChangeSpec := { name := "schemaLevels", fn := fun _ => fun
  | [d1, d2, d3] => { results := [.lit (.bool false)], args := [d1, d2, d3] }
  | _ => none }
def SchemaLevelsWrongFalsely : Prop := schemaLevelsRow.holds Tryd.pinned (OpenSpec.ofChange schemaLevelsWrong)

/- THE SECOND FORM. 'bulk': how many values and letters a reading holds, each counted each time it is reached (what is shared counts as often as it is met; a slice's spare places count too). A statement '..UptoSaid' is the law's where the arguments, and the package variables that the reading takes, are together of bulk at most 1048576: NARROWER than '..Said'. Prove '..Said' where nothing that the law and all that it calls make is longer than what came in: it says more and counts as full. Else prove '..UptoSaid'. A law counts once. -/
mutual
def uptoBulk {H : Type} : DataW H → Nat
  | .lit (.string bytes) => bytes.length + 1
  | .lit _ => 1
  | .nil => 1
  | .ptr d => uptoBulk d + 1
  | .slice elems spare => uptoBulkAll elems + uptoBulkAll spare + 1
  | .agg parts => uptoBulkAll parts + 1
  | .iface _ d => uptoBulk d + 1
  | .map entries => uptoBulkEntries entries + 1
  | .held _ => 1
def uptoBulkAll {H : Type} : List (DataW H) → Nat
  | [] => 0
  | d :: r => uptoBulk d + uptoBulkAll r
def uptoBulkEntries {H : Type} : List (Lit × DataW H) → Nat
  | [] => 0
  | x :: r => uptoBulkEntry x + uptoBulkEntries r
def uptoBulkEntry {H : Type} : Lit × DataW H → Nat
  | (.string bytes, d) => bytes.length + uptoBulk d + 1
  | (_, d) => uptoBulk d + 1
 end
def uptoSmall : (H : Type) → List (DataW H) → Bool := fun _ ds => decide (uptoBulkAll ds ≤ 1048576)
def OpenSpec.upto (s : _root_.Go.ChangeSpec) : _root_.Go.OpenSpec := { _root_.Go.OpenSpec.ofChange s with cond := some uptoSmall }

/-- 'cornicelaw17.SchemaFree', WHERE WHAT IT READS IS OF BULK AT MOST 1048576: true; the input reads as it did. -/
def schemaFreeUptoRow : OpenClaim := { program := "yteldkcpkamgfpaadoor", sum := "ea57ae7d5fdb3d854e29dcd110d9905a375507e91c6e3e599b62f5e6cf996dde", func := "cornice/cornicelaw17.SchemaFree", spec := "schemaFree", unfollowed := true, recurses := true, named := ["cornice/term.shapes"], apart := false, laid := [("cornice/term.shapes", laid_cornice_term_shapes)], narrowed := true }
def SchemaFreeUptoSaid : Prop := schemaFreeUptoRow.holds Tryd.pinned (OpenSpec.upto schemaFreeSpec)

/-- 'cornicelaw17.SchemaParts', WHERE WHAT IT READS IS OF BULK AT MOST 1048576: true; the input reads as it did. -/
def schemaPartsUptoRow : OpenClaim := { program := "yteldkcpkamgfpaadoor", sum := "ea57ae7d5fdb3d854e29dcd110d9905a375507e91c6e3e599b62f5e6cf996dde", func := "cornice/cornicelaw17.SchemaParts", spec := "schemaParts", unfollowed := true, recurses := true, named := ["cornice/term.shapes"], apart := false, laid := [("cornice/term.shapes", laid_cornice_term_shapes)], narrowed := true }
def SchemaPartsUptoSaid : Prop := schemaPartsUptoRow.holds Tryd.pinned (OpenSpec.upto schemaPartsSpec)

/-- 'cornicelaw17.SchemaNames', WHERE WHAT IT READS IS OF BULK AT MOST 1048576: true; the input reads as it did. -/
def schemaNamesUptoRow : OpenClaim := { program := "yteldkcpkamgfpaadoor", sum := "ea57ae7d5fdb3d854e29dcd110d9905a375507e91c6e3e599b62f5e6cf996dde", func := "cornice/cornicelaw17.SchemaNames", spec := "schemaNames", unfollowed := true, recurses := true, named := ["cornice/term.shapes"], apart := false, laid := [("cornice/term.shapes", laid_cornice_term_shapes)], narrowed := true }
def SchemaNamesUptoSaid : Prop := schemaNamesUptoRow.holds Tryd.pinned (OpenSpec.upto schemaNamesSpec)

/-- 'cornicelaw17.SchemaTells', WHERE WHAT IT READS IS OF BULK AT MOST 1048576: true; the input reads as it did. -/
def schemaTellsUptoRow : OpenClaim := { program := "yteldkcpkamgfpaadoor", sum := "ea57ae7d5fdb3d854e29dcd110d9905a375507e91c6e3e599b62f5e6cf996dde", func := "cornice/cornicelaw17.SchemaTells", spec := "schemaTells", unfollowed := true, recurses := true, named := ["cornice/term.shapes"], apart := false, laid := [("cornice/term.shapes", laid_cornice_term_shapes)], narrowed := true }
def SchemaTellsUptoSaid : Prop := schemaTellsUptoRow.holds Tryd.pinned (OpenSpec.upto schemaTellsSpec)

/-- 'cornicelaw17.SchemaLevels', WHERE WHAT IT READS IS OF BULK AT MOST 1048576: true; the input reads as it did. -/
def schemaLevelsUptoRow : OpenClaim := { program := "yteldkcpkamgfpaadoor", sum := "ea57ae7d5fdb3d854e29dcd110d9905a375507e91c6e3e599b62f5e6cf996dde", func := "cornice/cornicelaw17.SchemaLevels", spec := "schemaLevels", unfollowed := true, recurses := true, named := ["cornice/term.shapes"], apart := false, laid := [("cornice/term.shapes", laid_cornice_term_shapes)], narrowed := true }
def SchemaLevelsUptoSaid : Prop := schemaLevelsUptoRow.holds Tryd.pinned (OpenSpec.upto schemaLevelsSpec)

end Rows
end Go.Proofs.YteldkcpkamgfpaaDoor
