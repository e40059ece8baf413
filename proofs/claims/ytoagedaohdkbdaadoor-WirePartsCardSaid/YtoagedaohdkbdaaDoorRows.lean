/-
  NARROWER THAN 'FOR EVERY INPUT', by the rows' own cells (each row's printed sentence says how): WireLong: laid · WireEncodes: laid · WireDecodes: laid · WireCuts: laid · WirePacks: laid · WireParts: laid.
  DERIVED. THE GIVEN ROWS OF THIS SEAT. 6 by the template 'for every input the law returns true; each argument reads behind the call as it read before'; 0 by the template 'total and deterministic' (their statements: YtoagedaohdkbdaaDoorTotals.lean).
  GIVEN WITH THE SEED: the statements are not yours to turn. If you find one false, say at which input.
  Laid BY PROGRAM, IN A SANDBOX (cutbox-rows.mjs): the forced cells as the released guide's own fill.sh prints them over the translation ed463c355532a861… (all of the seat's roots in one cut). By AI agents, Wed Nov 11 2026. No macro, syntax, notation, axiom, sorry.
-/
import Derived.Test.YtoagedaohdkbdaaDoorChecked
import GoSem.Claim
import GoSem.ClaimJoined
import GoSem.ClaimMapViews
import Derived.JoinedTies
import Derived.KernelRfl
namespace Go.Proofs.YtoagedaohdkbdaaDoor
/- THE CELL 'sum', in the pinned program and in every row, IS THE sha256 OF THE DUMP (.gsa) THAT YtoagedaohdkbdaaDoorProg.lean LOADS. Nothing in Lean hashes anything: it is a label: what it is worth is what the hold of that sum in a sandbox is worth. -/
noncomputable def Tryd.pinned : Pinned := { name := "ytoagedaohdkbdaadoor", sum := "ed463c355532a8614d6cd1f534048d9ea0951015ea16c2cd2758346f979274bd", checked := Tryd.checked }
namespace Rows
def none {H : Type} : Left H := { results := [], args := [] }

/- WHAT THE LISTED PACKAGE-LEVEL VARIABLES READ AS WHEN THE CALL BEGINS. Each datum BY PROGRAM (the guide's laid-datum.mjs) off the statement by which the dump's own 'gosem.cut.vars' lays the variable. In a bare row this is a premise. The card (YtoagedaohdkbdaaDoorCards.lean) ties it to the program's text. -/
def laid_cornice_term_shapes {H : Type} : DataW H := .agg [.agg [.nil, .lit (.bool true), .lit (.bool false), .lit (.bool false)], .agg [.nil, .lit (.bool false), .lit (.bool false), .lit (.bool true)], .agg [.nil, .lit (.bool true), .lit (.bool false), .lit (.bool false)], .agg [.slice [.lit (.int .i64 0), .lit (.int .i64 1)] [], .lit (.bool true), .lit (.bool false), .lit (.bool false)], .agg [.slice [.lit (.int .i64 0), .lit (.int .i64 1)] [], .lit (.bool false), .lit (.bool false), .lit (.bool false)], .agg [.slice [.lit (.int .i64 0), .lit (.int .i64 0)] [], .lit (.bool false), .lit (.bool false), .lit (.bool false)], .agg [.slice [.lit (.int .i64 0), .lit (.int .i64 1)] [], .lit (.bool true), .lit (.bool false), .lit (.bool false)], .agg [.slice [.lit (.int .i64 0), .lit (.int .i64 0), .lit (.int .i64 0)] [], .lit (.bool false), .lit (.bool false), .lit (.bool false)], .agg [.slice [.lit (.int .i64 0)] [], .lit (.bool false), .lit (.bool false), .lit (.bool false)], .agg [.slice [.lit (.int .i64 0)] [], .lit (.bool false), .lit (.bool false), .lit (.bool false)], .agg [.nil, .lit (.bool false), .lit (.bool false), .lit (.bool false)], .agg [.nil, .lit (.bool false), .lit (.bool false), .lit (.bool false)], .agg [.slice [.lit (.int .i64 0)] [], .lit (.bool false), .lit (.bool false), .lit (.bool false)], .agg [.slice [.lit (.int .i64 1), .lit (.int .i64 0), .lit (.int .i64 2), .lit (.int .i64 0)] [], .lit (.bool false), .lit (.bool false), .lit (.bool false)], .agg [.nil, .lit (.bool false), .lit (.bool false), .lit (.bool false)], .agg [.slice [.lit (.int .i64 0), .lit (.int .i64 0)] [], .lit (.bool false), .lit (.bool false), .lit (.bool false)], .agg [.nil, .lit (.bool false), .lit (.bool false), .lit (.bool false)], .agg [.nil, .lit (.bool false), .lit (.bool false), .lit (.bool false)], .agg [.slice [.lit (.int .i64 0), .lit (.int .i64 0), .lit (.int .i64 0)] [], .lit (.bool false), .lit (.bool false), .lit (.bool false)], .agg [.slice [.lit (.int .i64 0), .lit (.int .i64 0)] [], .lit (.bool false), .lit (.bool false), .lit (.bool false)], .agg [.slice [.lit (.int .i64 0), .lit (.int .i64 0), .lit (.int .i64 0), .lit (.int .i64 0)] [], .lit (.bool false), .lit (.bool false), .lit (.bool false)], .agg [.slice [.lit (.int .i64 0), .lit (.int .i64 0), .lit (.int .i64 1), .lit (.int .i64 0), .lit (.int .i64 0), .lit (.int .i64 0)] [], .lit (.bool false), .lit (.bool false), .lit (.bool false)], .agg [.slice [.lit (.int .i64 0), .lit (.int .i64 2), .lit (.int .i64 0), .lit (.int .i64 0), .lit (.int .i64 0)] [], .lit (.bool false), .lit (.bool false), .lit (.bool false)], .agg [.slice [.lit (.int .i64 0), .lit (.int .i64 0)] [], .lit (.bool false), .lit (.bool false), .lit (.bool false)], .agg [.slice [.lit (.int .i64 0), .lit (.int .i64 1), .lit (.int .i64 0), .lit (.int .i64 0)] [], .lit (.bool false), .lit (.bool false), .lit (.bool false)], .agg [.nil, .lit (.bool false), .lit (.bool false), .lit (.bool true)], .agg [.nil, .lit (.bool true), .lit (.bool true), .lit (.bool true)], .agg [.nil, .lit (.bool false), .lit (.bool true), .lit (.bool true)], .agg [.slice [.lit (.int .i64 0)] [], .lit (.bool false), .lit (.bool false), .lit (.bool false)], .agg [.nil, .lit (.bool false), .lit (.bool false), .lit (.bool false)]]
def laid_cornice_wire_fields {H : Type} : DataW H := .agg [.lit (.int .u8 1), .lit (.int .u8 4), .lit (.int .u8 1), .lit (.int .u8 1), .lit (.int .u8 0), .lit (.int .u8 0), .lit (.int .u8 1), .lit (.int .u8 0), .lit (.int .u8 0), .lit (.int .u8 0), .lit (.int .u8 0), .lit (.int .u8 0), .lit (.int .u8 0), .lit (.int .u8 0), .lit (.int .u8 0), .lit (.int .u8 0), .lit (.int .u8 0), .lit (.int .u8 0), .lit (.int .u8 0), .lit (.int .u8 0), .lit (.int .u8 0), .lit (.int .u8 0), .lit (.int .u8 0), .lit (.int .u8 0), .lit (.int .u8 0), .lit (.int .u8 4), .lit (.int .u8 7), .lit (.int .u8 6), .lit (.int .u8 0), .lit (.int .u8 0), .lit (.int .u8 0), .lit (.int .u8 0), .lit (.int .u8 0), .lit (.int .u8 0), .lit (.int .u8 0), .lit (.int .u8 0), .lit (.int .u8 0), .lit (.int .u8 0), .lit (.int .u8 0), .lit (.int .u8 0), .lit (.int .u8 0), .lit (.int .u8 0), .lit (.int .u8 0), .lit (.int .u8 0), .lit (.int .u8 0), .lit (.int .u8 0), .lit (.int .u8 0), .lit (.int .u8 0), .lit (.int .u8 0), .lit (.int .u8 0), .lit (.int .u8 0), .lit (.int .u8 0), .lit (.int .u8 0), .lit (.int .u8 0), .lit (.int .u8 0), .lit (.int .u8 0), .lit (.int .u8 0), .lit (.int .u8 0), .lit (.int .u8 0), .lit (.int .u8 0), .lit (.int .u8 0), .lit (.int .u8 0), .lit (.int .u8 0), .lit (.int .u8 0), .lit (.int .u8 0), .lit (.int .u8 0), .lit (.int .u8 0), .lit (.int .u8 0), .lit (.int .u8 0), .lit (.int .u8 0), .lit (.int .u8 0), .lit (.int .u8 0), .lit (.int .u8 0), .lit (.int .u8 0), .lit (.int .u8 0), .lit (.int .u8 0), .lit (.int .u8 0), .lit (.int .u8 0), .lit (.int .u8 0), .lit (.int .u8 0), .lit (.int .u8 0), .lit (.int .u8 0), .lit (.int .u8 0), .lit (.int .u8 0), .lit (.int .u8 0), .lit (.int .u8 0), .lit (.int .u8 0), .lit (.int .u8 0), .lit (.int .u8 0), .lit (.int .u8 0), .lit (.int .u8 0), .lit (.int .u8 0), .lit (.int .u8 0), .lit (.int .u8 0), .lit (.int .u8 0), .lit (.int .u8 0), .lit (.int .u8 0), .lit (.int .u8 0), .lit (.int .u8 0), .lit (.int .u8 0), .lit (.int .u8 0), .lit (.int .u8 0), .lit (.int .u8 0), .lit (.int .u8 0), .lit (.int .u8 0), .lit (.int .u8 0), .lit (.int .u8 0), .lit (.int .u8 0), .lit (.int .u8 0), .lit (.int .u8 0), .lit (.int .u8 0), .lit (.int .u8 0), .lit (.int .u8 0), .lit (.int .u8 0), .lit (.int .u8 0), .lit (.int .u8 0), .lit (.int .u8 0), .lit (.int .u8 0), .lit (.int .u8 0), .lit (.int .u8 0), .lit (.int .u8 0), .lit (.int .u8 0), .lit (.int .u8 0), .lit (.int .u8 0), .lit (.int .u8 0), .lit (.int .u8 0), .lit (.int .u8 0), .lit (.int .u8 0), .lit (.int .u8 0), .lit (.int .u8 0), .lit (.int .u8 0), .lit (.int .u8 0), .lit (.int .u8 0), .lit (.int .u8 0), .lit (.int .u8 0), .lit (.int .u8 0), .lit (.int .u8 0), .lit (.int .u8 0), .lit (.int .u8 0), .lit (.int .u8 0), .lit (.int .u8 0), .lit (.int .u8 0), .lit (.int .u8 0), .lit (.int .u8 0), .lit (.int .u8 0), .lit (.int .u8 0), .lit (.int .u8 0), .lit (.int .u8 0), .lit (.int .u8 0), .lit (.int .u8 0), .lit (.int .u8 0), .lit (.int .u8 0), .lit (.int .u8 0), .lit (.int .u8 0), .lit (.int .u8 0), .lit (.int .u8 0), .lit (.int .u8 0), .lit (.int .u8 0), .lit (.int .u8 0), .lit (.int .u8 0), .lit (.int .u8 0), .lit (.int .u8 0), .lit (.int .u8 0), .lit (.int .u8 0), .lit (.int .u8 0), .lit (.int .u8 0), .lit (.int .u8 0), .lit (.int .u8 0), .lit (.int .u8 0), .lit (.int .u8 0), .lit (.int .u8 0), .lit (.int .u8 0), .lit (.int .u8 0), .lit (.int .u8 0), .lit (.int .u8 0), .lit (.int .u8 0), .lit (.int .u8 0), .lit (.int .u8 0), .lit (.int .u8 0), .lit (.int .u8 0), .lit (.int .u8 0), .lit (.int .u8 0), .lit (.int .u8 0), .lit (.int .u8 0), .lit (.int .u8 0), .lit (.int .u8 0), .lit (.int .u8 0), .lit (.int .u8 0), .lit (.int .u8 0), .lit (.int .u8 0), .lit (.int .u8 0), .lit (.int .u8 0), .lit (.int .u8 0), .lit (.int .u8 0), .lit (.int .u8 0), .lit (.int .u8 0), .lit (.int .u8 0), .lit (.int .u8 0), .lit (.int .u8 0), .lit (.int .u8 0), .lit (.int .u8 0), .lit (.int .u8 0), .lit (.int .u8 0), .lit (.int .u8 0), .lit (.int .u8 0), .lit (.int .u8 0), .lit (.int .u8 0), .lit (.int .u8 0), .lit (.int .u8 0), .lit (.int .u8 0), .lit (.int .u8 0), .lit (.int .u8 0), .lit (.int .u8 0), .lit (.int .u8 0), .lit (.int .u8 0), .lit (.int .u8 0), .lit (.int .u8 0), .lit (.int .u8 0), .lit (.int .u8 0), .lit (.int .u8 0), .lit (.int .u8 0), .lit (.int .u8 0), .lit (.int .u8 0), .lit (.int .u8 0), .lit (.int .u8 0), .lit (.int .u8 0), .lit (.int .u8 0), .lit (.int .u8 0), .lit (.int .u8 0), .lit (.int .u8 0), .lit (.int .u8 0), .lit (.int .u8 0), .lit (.int .u8 0), .lit (.int .u8 0), .lit (.int .u8 0), .lit (.int .u8 0), .lit (.int .u8 0), .lit (.int .u8 0), .lit (.int .u8 0), .lit (.int .u8 0), .lit (.int .u8 0), .lit (.int .u8 0), .lit (.int .u8 0), .lit (.int .u8 0), .lit (.int .u8 0), .lit (.int .u8 0), .lit (.int .u8 0), .lit (.int .u8 0), .lit (.int .u8 0), .lit (.int .u8 0), .lit (.int .u8 0), .lit (.int .u8 0), .lit (.int .u8 0), .lit (.int .u8 0), .lit (.int .u8 0), .lit (.int .u8 0)]

/-- 'cornicelaw05.WireLong': WHATEVER THE INPUT: true; the input reads as it did. -/
def wireLongSpec : ChangeSpec := { name := "wireLong", fn := fun _ => fun
  | [d] => { results := [.lit (.bool true)], args := [d] }
  | _ => none }
def wireLongRow : OpenClaim := { program := "ytoagedaohdkbdaadoor", sum := "ed463c355532a8614d6cd1f534048d9ea0951015ea16c2cd2758346f979274bd", func := "cornice/cornicelaw05.WireLong", spec := "wireLong", inPlace := ["internal/abi.NoEscape"], unfollowed := true, recurses := true, named := ["cornice/wire.fields", "cornice/term.shapes"], apart := false, laid := [("cornice/term.shapes", laid_cornice_term_shapes), ("cornice/wire.fields", laid_cornice_wire_fields)] }
def WireLongSaid : Prop := wireLongRow.holds Tryd.pinned (OpenSpec.ofChange wireLongSpec)

/-- ITS FALSE NEIGHBOUR: 'it returns false'. Refute it at one input. -/
def wireLongWrong : ChangeSpec := { name := "wireLong", fn := fun _ => fun
  | [d] => { results := [.lit (.bool false)], args := [d] }
  | _ => none }
def WireLongWrongFalsely : Prop := wireLongRow.holds Tryd.pinned (OpenSpec.ofChange wireLongWrong)

/-- 'cornicelaw05.WireEncodes': WHATEVER THE INPUT: true; the input reads as it did. -/
def wireEncodesSpec : ChangeSpec := { name := "wireEncodes", fn := fun _ => fun
  | [d1, d2] => { results := [.lit (.bool true)], args := [d1, d2] }
  | _ => none }
def wireEncodesRow : OpenClaim := { program := "ytoagedaohdkbdaadoor", sum := "ed463c355532a8614d6cd1f534048d9ea0951015ea16c2cd2758346f979274bd", func := "cornice/cornicelaw05.WireEncodes", spec := "wireEncodes", inPlace := ["internal/abi.NoEscape"], unfollowed := true, recurses := true, named := ["cornice/wire.fields", "cornice/term.shapes"], apart := false, laid := [("cornice/term.shapes", laid_cornice_term_shapes), ("cornice/wire.fields", laid_cornice_wire_fields)] }
def WireEncodesSaid : Prop := wireEncodesRow.holds Tryd.pinned (OpenSpec.ofChange wireEncodesSpec)

/-- ITS FALSE NEIGHBOUR: 'it returns false'. Refute it at one input. -/
def wireEncodesWrong : ChangeSpec := { name := "wireEncodes", fn := fun _ => fun
  | [d1, d2] => { results := [.lit (.bool false)], args := [d1, d2] }
  | _ => none }
def WireEncodesWrongFalsely : Prop := wireEncodesRow.holds Tryd.pinned (OpenSpec.ofChange wireEncodesWrong)

/-- 'cornicelaw05.WireDecodes': WHATEVER THE INPUT: true; the input reads as it did. -/
def wireDecodesSpec : ChangeSpec := { name := "wireDecodes", fn := fun _ => fun
  | [d] => { results := [.lit (.bool true)], args := [d] }
  | _ => none }
def wireDecodesRow : OpenClaim := { program := "ytoagedaohdkbdaadoor", sum := "ed463c355532a8614d6cd1f534048d9ea0951015ea16c2cd2758346f979274bd", func := "cornice/cornicelaw05.WireDecodes", spec := "wireDecodes", inPlace := ["internal/abi.NoEscape"], unfollowed := true, recurses := true, named := ["cornice/wire.fields", "cornice/term.shapes"], apart := false, laid := [("cornice/term.shapes", laid_cornice_term_shapes), ("cornice/wire.fields", laid_cornice_wire_fields)] }
def WireDecodesSaid : Prop := wireDecodesRow.holds Tryd.pinned (OpenSpec.ofChange wireDecodesSpec)

/-- ITS FALSE NEIGHBOUR: 'it returns false'. Refute it at one input. -/
def wireDecodesWrong : ChangeSpec := { name := "wireDecodes", fn := fun _ => fun
  | [d] => { results := [.lit (.bool false)], args := [d] }
  | _ => none }
def WireDecodesWrongFalsely : Prop := wireDecodesRow.holds Tryd.pinned (OpenSpec.ofChange wireDecodesWrong)

/-- 'cornicelaw05.WireCuts': WHATEVER THE INPUT: true; the input reads as it did. -/
def wireCutsSpec : ChangeSpec := { name := "wireCuts", fn := fun _ => fun
  | [d1, d2, d3] => { results := [.lit (.bool true)], args := [d1, d2, d3] }
  | _ => none }
def wireCutsRow : OpenClaim := { program := "ytoagedaohdkbdaadoor", sum := "ed463c355532a8614d6cd1f534048d9ea0951015ea16c2cd2758346f979274bd", func := "cornice/cornicelaw05.WireCuts", spec := "wireCuts", inPlace := ["internal/abi.NoEscape"], unfollowed := true, recurses := true, named := ["cornice/wire.fields", "cornice/term.shapes"], apart := false, laid := [("cornice/term.shapes", laid_cornice_term_shapes), ("cornice/wire.fields", laid_cornice_wire_fields)] }
def WireCutsSaid : Prop := wireCutsRow.holds Tryd.pinned (OpenSpec.ofChange wireCutsSpec)

/-- ITS FALSE NEIGHBOUR: 'it returns false'. Refute it at one input. -/
def wireCutsWrong : ChangeSpec := { name := "wireCuts", fn := fun _ => fun
  | [d1, d2, d3] => { results := [.lit (.bool false)], args := [d1, d2, d3] }
  | _ => none }
def WireCutsWrongFalsely : Prop := wireCutsRow.holds Tryd.pinned (OpenSpec.ofChange wireCutsWrong)

/-- 'cornicelaw05.WirePacks': WHATEVER THE INPUT: true; the input reads as it did. -/
def wirePacksSpec : ChangeSpec := { name := "wirePacks", fn := fun _ => fun
  | [d1, d2] => { results := [.lit (.bool true)], args := [d1, d2] }
  | _ => none }
def wirePacksRow : OpenClaim := { program := "ytoagedaohdkbdaadoor", sum := "ed463c355532a8614d6cd1f534048d9ea0951015ea16c2cd2758346f979274bd", func := "cornice/cornicelaw05.WirePacks", spec := "wirePacks", inPlace := ["internal/abi.NoEscape"], unfollowed := true, recurses := true, named := ["cornice/wire.fields", "cornice/term.shapes"], apart := false, laid := [("cornice/term.shapes", laid_cornice_term_shapes), ("cornice/wire.fields", laid_cornice_wire_fields)] }
def WirePacksSaid : Prop := wirePacksRow.holds Tryd.pinned (OpenSpec.ofChange wirePacksSpec)

/-- ITS FALSE NEIGHBOUR: 'it returns false'. Refute it at one input. -/
def wirePacksWrong : ChangeSpec := { name := "wirePacks", fn := fun _ => fun
  | [d1, d2] => { results := [.lit (.bool false)], args := [d1, d2] }
  | _ => none }
def WirePacksWrongFalsely : Prop := wirePacksRow.holds Tryd.pinned (OpenSpec.ofChange wirePacksWrong)

/-- 'cornicelaw05.WireParts': WHATEVER THE INPUT: true; the input reads as it did. -/
def wirePartsSpec : ChangeSpec := { name := "wireParts", fn := fun _ => fun
  | [d1, d2, d3] => { results := [.lit (.bool true)], args := [d1, d2, d3] }
  | _ => none }
def wirePartsRow : OpenClaim := { program := "ytoagedaohdkbdaadoor", sum := "ed463c355532a8614d6cd1f534048d9ea0951015ea16c2cd2758346f979274bd", func := "cornice/cornicelaw05.WireParts", spec := "wireParts", inPlace := ["internal/abi.NoEscape"], unfollowed := true, recurses := true, named := ["cornice/wire.fields", "cornice/term.shapes"], apart := false, laid := [("cornice/term.shapes", laid_cornice_term_shapes), ("cornice/wire.fields", laid_cornice_wire_fields)] }
def WirePartsSaid : Prop := wirePartsRow.holds Tryd.pinned (OpenSpec.ofChange wirePartsSpec)

/-- ITS FALSE NEIGHBOUR: 'it returns false'. Refute it at one input. -/
def wirePartsWrong : ChangeSpec := { name := "wireParts", fn := fun _ => fun
  | [d1, d2, d3] => { results := [.lit (.bool false)], args := [d1, d2, d3] }
  | _ => none }
def WirePartsWrongFalsely : Prop := wirePartsRow.holds Tryd.pinned (OpenSpec.ofChange wirePartsWrong)

/- THE SECOND FORM. 'bulk': how many values and letters a reading holds, each counted each time it is reached (what is shared counts as often as it is met; a slice's spare places count too). A statement '..UptoSaid' is the law's where the arguments, and the package variables that the reading takes, are together of bulk at most 1048576: NARROWER than '..Said'. Prove '..Said' where nothing that the law and all that it calls make is longer than what came in: it says more and counts as full. Else prove '..UptoSaid'. A law counts once. -/
mutual
def uptoBulk {H : Type} : DataW H → Nat
  | .lit (.string bytes) => bytes.length + 1
  | .lit _ => 1
  | .nil => 1
  | .ptr d => uptoBulk d + 1
  | .slice elems spare => uptoBulkAll elems + uptoBulkAll spare + 1
  | .agg parts => uptoBulkAll parts + 1
  | .iface _ d => uptoBulk d + 1
  | .map entries => uptoBulkEntries entries + 1
  | .held _ => 1
def uptoBulkAll {H : Type} : List (DataW H) → Nat
  | [] => 0
  | d :: r => uptoBulk d + uptoBulkAll r
def uptoBulkEntries {H : Type} : List (Lit × DataW H) → Nat
  | [] => 0
  | x :: r => uptoBulkEntry x + uptoBulkEntries r
def uptoBulkEntry {H : Type} : Lit × DataW H → Nat
  | (.string bytes, d) => bytes.length + uptoBulk d + 1
  | (_, d) => uptoBulk d + 1
 end
def uptoSmall : (H : Type) → List (DataW H) → Bool := fun _ ds => decide (uptoBulkAll ds ≤ 1048576)
def OpenSpec.upto (s : _root_.Go.ChangeSpec) : _root_.Go.OpenSpec := { _root_.Go.OpenSpec.ofChange s with cond := some uptoSmall }

/-- 'cornicelaw05.WireLong', WHERE WHAT IT READS IS OF BULK AT MOST 1048576: true; the input reads as it did. -/
def wireLongUptoRow : OpenClaim := { program := "ytoagedaohdkbdaadoor", sum := "ed463c355532a8614d6cd1f534048d9ea0951015ea16c2cd2758346f979274bd", func := "cornice/cornicelaw05.WireLong", spec := "wireLong", inPlace := ["internal/abi.NoEscape"], unfollowed := true, recurses := true, named := ["cornice/wire.fields", "cornice/term.shapes"], apart := false, laid := [("cornice/term.shapes", laid_cornice_term_shapes), ("cornice/wire.fields", laid_cornice_wire_fields)], narrowed := true }
def WireLongUptoSaid : Prop := wireLongUptoRow.holds Tryd.pinned (OpenSpec.upto wireLongSpec)

/-- 'cornicelaw05.WireEncodes', WHERE WHAT IT READS IS OF BULK AT MOST 1048576: true; the input reads as it did. -/
def wireEncodesUptoRow : OpenClaim := { program := "ytoagedaohdkbdaadoor", sum := "ed463c355532a8614d6cd1f534048d9ea0951015ea16c2cd2758346f979274bd", func := "cornice/cornicelaw05.WireEncodes", spec := "wireEncodes", inPlace := ["internal/abi.NoEscape"], unfollowed := true, recurses := true, named := ["cornice/wire.fields", "cornice/term.shapes"], apart := false, laid := [("cornice/term.shapes", laid_cornice_term_shapes), ("cornice/wire.fields", laid_cornice_wire_fields)], narrowed := true }
def WireEncodesUptoSaid : Prop := wireEncodesUptoRow.holds Tryd.pinned (OpenSpec.upto wireEncodesSpec)

/-- 'cornicelaw05.WireDecodes', WHERE WHAT IT READS IS OF BULK AT MOST 1048576: true; the input reads as it did. -/
def wireDecodesUptoRow : OpenClaim := { program := "ytoagedaohdkbdaadoor", sum := "ed463c355532a8614d6cd1f534048d9ea0951015ea16c2cd2758346f979274bd", func := "cornice/cornicelaw05.WireDecodes", spec := "wireDecodes", inPlace := ["internal/abi.NoEscape"], unfollowed := true, recurses := true, named := ["cornice/wire.fields", "cornice/term.shapes"], apart := false, laid := [("cornice/term.shapes", laid_cornice_term_shapes), ("cornice/wire.fields", laid_cornice_wire_fields)], narrowed := true }
def WireDecodesUptoSaid : Prop := wireDecodesUptoRow.holds Tryd.pinned (OpenSpec.upto wireDecodesSpec)

/-- 'cornicelaw05.WireCuts', WHERE WHAT IT READS IS OF BULK AT MOST 1048576: true; the input reads as it did. -/
def wireCutsUptoRow : OpenClaim := { program := "ytoagedaohdkbdaadoor", sum := "ed463c355532a8614d6cd1f534048d9ea0951015ea16c2cd2758346f979274bd", func := "cornice/cornicelaw05.WireCuts", spec := "wireCuts", inPlace := ["internal/abi.NoEscape"], unfollowed := true, recurses := true, named := ["cornice/wire.fields", "cornice/term.shapes"], apart := false, laid := [("cornice/term.shapes", laid_cornice_term_shapes), ("cornice/wire.fields", laid_cornice_wire_fields)], narrowed := true }
def WireCutsUptoSaid : Prop := wireCutsUptoRow.holds Tryd.pinned (OpenSpec.upto wireCutsSpec)

/-- 'cornicelaw05.WirePacks', WHERE WHAT IT READS IS OF BULK AT MOST 1048576: true; the input reads as it did. -/
def wirePacksUptoRow : OpenClaim := { program := "ytoagedaohdkbdaadoor", sum := "ed463c355532a8614d6cd1f534048d9ea0951015ea16c2cd2758346f979274bd", func := "cornice/cornicelaw05.WirePacks", spec := "wirePacks", inPlace := ["internal/abi.NoEscape"], unfollowed := true, recurses := true, named := ["cornice/wire.fields", "cornice/term.shapes"], apart := false, laid := [("cornice/term.shapes", laid_cornice_term_shapes), ("cornice/wire.fields", laid_cornice_wire_fields)], narrowed := true }
def WirePacksUptoSaid : Prop := wirePacksUptoRow.holds Tryd.pinned (OpenSpec.upto wirePacksSpec)

/-- 'cornicelaw05.WireParts', WHERE WHAT IT READS IS OF BULK AT MOST 1048576: true; the input reads as it did. -/
def wirePartsUptoRow : OpenClaim := { program := "ytoagedaohdkbdaadoor", sum := "ed463c355532a8614d6cd1f534048d9ea0951015ea16c2cd2758346f979274bd", func := "cornice/cornicelaw05.WireParts", spec := "wireParts", inPlace := ["internal/abi.NoEscape"], unfollowed := true, recurses := true, named := ["cornice/wire.fields", "cornice/term.shapes"], apart := false, laid := [("cornice/term.shapes", laid_cornice_term_shapes), ("cornice/wire.fields", laid_cornice_wire_fields)], narrowed := true }
def WirePartsUptoSaid : Prop := wirePartsUptoRow.holds Tryd.pinned (OpenSpec.upto wirePartsSpec)

end Rows
end Go.Proofs.YtoagedaohdkbdaaDoor
