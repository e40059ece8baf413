/-
  No cell of these rows narrows 'for every input' (looked for: loops, veiled, ifaces, maps, wideKeys, modest, calm, conditions, laid).
  DERIVED. THE GIVEN ROWS OF THIS SEAT. 5 by the template 'for every input the law returns true; each argument reads behind the call as it read before'; 0 by the template 'total and deterministic' (their statements: YtkkjcgjebaeniaaTotals.lean).
  GIVEN WITH THE SEED: the statements are not yours to turn. If you find one false, say at which input.
  Laid BY PROGRAM, IN A SANDBOX (cutbox-rows.mjs): the forced cells as the released guide's own fill.sh prints them over the translation 1f09298ce0c67355… (all of the seat's roots in one cut). By AI agents, Wed Nov 11 2026. No macro, syntax, notation, axiom, sorry.
-/
import Derived.Test.YtkkjcgjebaeniaaChecked
import GoSem.Claim
import GoSem.ClaimJoined
import GoSem.ClaimMapViews
import Derived.JoinedTies
import Derived.KernelRfl
namespace Go.Proofs.Ytkkjcgjebaeniaa
/- THE CELL 'sum', in the pinned program and in every row, IS THE sha256 OF THE DUMP (.gsa) THAT YtkkjcgjebaeniaaProg.lean LOADS. Nothing in Lean hashes anything: it is a label: what it is worth is what the hold of that sum in a sandbox is worth. -/
noncomputable def Try.pinned : Pinned := { name := "ytkkjcgjebaeniaa", sum := "1f09298ce0c67355de139a56925e8a519fab4a58780c8bb3179189856a143456", checked := Try.checked }
namespace Rows
def none {H : Type} : Left H := { results := [], args := [] }

/-- 'cornicelaw01.LevelOrder': WHATEVER THE INPUT: true; the input reads as it did. -/
def levelOrderSpec : ChangeSpec := { name := "levelOrder", fn := fun _ => fun
  | [d1, d2, d3] => { results := [.lit (.bool true)], args := [d1, d2, d3] }
  | _ => none }
def levelOrderRow : OpenClaim := { program := "ytkkjcgjebaeniaa", sum := "1f09298ce0c67355de139a56925e8a519fab4a58780c8bb3179189856a143456", func := "cornice/cornicelaw01.LevelOrder", spec := "levelOrder", unfollowed := true, recurses := true, apart := false }
def LevelOrderSaid : Prop := levelOrderRow.holds Try.pinned (OpenSpec.ofChange levelOrderSpec)

/-- ITS FALSE NEIGHBOUR: 'it returns false'. Refute it at one input. -/
def levelOrderWrong : ChangeSpec := { name := "levelOrder", fn := fun _ => fun
  | [d1, d2, d3] => { results := [.lit (.bool false)], args := [d1, d2, d3] }
  | _ => none }
def LevelOrderWrongFalsely : Prop := levelOrderRow.holds Try.pinned (OpenSpec.ofChange levelOrderWrong)

/-- 'cornicelaw01.LevelUp': WHATEVER THE INPUT: true; the input reads as it did. -/
def levelUpSpec : ChangeSpec := { name := "levelUp", fn := fun _ => fun
  | [d1, d2] => { results := [.lit (.bool true)], args := [d1, d2] }
  | _ => none }
def levelUpRow : OpenClaim := { program := "ytkkjcgjebaeniaa", sum := "1f09298ce0c67355de139a56925e8a519fab4a58780c8bb3179189856a143456", func := "cornice/cornicelaw01.LevelUp", spec := "levelUp", unfollowed := true, recurses := true, apart := false }
def LevelUpSaid : Prop := levelUpRow.holds Try.pinned (OpenSpec.ofChange levelUpSpec)

/-- ITS FALSE NEIGHBOUR: 'it returns false'. Refute it at one input. -/
def levelUpWrong : ChangeSpec := { name := "levelUp", fn := fun _ => fun
  | [d1, d2] => { results := [.lit (.bool false)], args := [d1, d2] }
  | _ => none }
def LevelUpWrongFalsely : Prop := levelUpRow.holds Try.pinned (OpenSpec.ofChange levelUpWrong)

/-- 'cornicelaw01.LevelMax': WHATEVER THE INPUT: true; the input reads as it did. -/
def levelMaxSpec : ChangeSpec := { name := "levelMax", fn := fun _ => fun
  | [d1, d2] => { results := [.lit (.bool true)], args := [d1, d2] }
  | _ => none }
def levelMaxRow : OpenClaim := { program := "ytkkjcgjebaeniaa", sum := "1f09298ce0c67355de139a56925e8a519fab4a58780c8bb3179189856a143456", func := "cornice/cornicelaw01.LevelMax", spec := "levelMax", unfollowed := true, recurses := true, apart := false }
def LevelMaxSaid : Prop := levelMaxRow.holds Try.pinned (OpenSpec.ofChange levelMaxSpec)

/-- ITS FALSE NEIGHBOUR: 'it returns false'. Refute it at one input. -/
def levelMaxWrong : ChangeSpec := { name := "levelMax", fn := fun _ => fun
  | [d1, d2] => { results := [.lit (.bool false)], args := [d1, d2] }
  | _ => none }
def LevelMaxWrongFalsely : Prop := levelMaxRow.holds Try.pinned (OpenSpec.ofChange levelMaxWrong)

/-- 'cornicelaw01.LevelPi': WHATEVER THE INPUT: true; the input reads as it did. -/
def levelPiSpec : ChangeSpec := { name := "levelPi", fn := fun _ => fun
  | [d1, d2, d3] => { results := [.lit (.bool true)], args := [d1, d2, d3] }
  | _ => none }
def levelPiRow : OpenClaim := { program := "ytkkjcgjebaeniaa", sum := "1f09298ce0c67355de139a56925e8a519fab4a58780c8bb3179189856a143456", func := "cornice/cornicelaw01.LevelPi", spec := "levelPi", unfollowed := true, recurses := true, apart := false }
def LevelPiSaid : Prop := levelPiRow.holds Try.pinned (OpenSpec.ofChange levelPiSpec)

/-- ITS FALSE NEIGHBOUR: 'it returns false'. Refute it at one input. -/
def levelPiWrong : ChangeSpec := { name := "levelPi", fn := fun _ => fun
  | [d1, d2, d3] => { results := [.lit (.bool false)], args := [d1, d2, d3] }
  | _ => none }
def LevelPiWrongFalsely : Prop := levelPiRow.holds Try.pinned (OpenSpec.ofChange levelPiWrong)

/-- 'cornicelaw01.LevelTells': WHATEVER THE INPUT: true; the input reads as it did. -/
def levelTellsSpec : ChangeSpec := { name := "levelTells", fn := fun _ => fun
  | [d1, d2, d3] => { results := [.lit (.bool true)], args := [d1, d2, d3] }
  | _ => none }
def levelTellsRow : OpenClaim := { program := "ytkkjcgjebaeniaa", sum := "1f09298ce0c67355de139a56925e8a519fab4a58780c8bb3179189856a143456", func := "cornice/cornicelaw01.LevelTells", spec := "levelTells", unfollowed := true, recurses := true, apart := false }
def LevelTellsSaid : Prop := levelTellsRow.holds Try.pinned (OpenSpec.ofChange levelTellsSpec)

/-- ITS FALSE NEIGHBOUR: 'it returns false'. Refute it at one input. -/
def levelTellsWrong : ChangeSpec := { name := "levelTells", fn := fun _ => fun
  | [d1, d2, d3] => { results := [.lit (.bool false)], args := [d1, d2, d3] }
  | _ => none }
def LevelTellsWrongFalsely : Prop := levelTellsRow.holds Try.pinned (OpenSpec.ofChange levelTellsWrong)

/- THE SECOND FORM. 'bulk': how many values and letters a reading holds, each counted each time it is reached (what is shared counts as often as it is met; a slice's spare places count too). A statement '..UptoSaid' is the law's where the arguments, and the package variables that the reading takes, are together of bulk at most 1048576: NARROWER than '..Said'. Prove '..Said' where nothing that the law and all that it calls make is longer than what came in: it says more and counts as full. Else prove '..UptoSaid'. A law counts once. -/
mutual
def uptoBulk {H : Type} : DataW H → Nat
  | .lit (.string bytes) => bytes.length + 1
  | .lit _ => 1
  | .nil => 1
  | .ptr d => uptoBulk d + 1
  | .slice elems spare => uptoBulkAll elems + uptoBulkAll spare + 1
  | .agg parts => uptoBulkAll parts + 1
  | .iface _ d => uptoBulk d + 1
  | .map entries => uptoBulkEntries entries + 1
  | .held _ => 1
def uptoBulkAll {H : Type} : List (DataW H) → Nat
  | [] => 0
  | d :: r => uptoBulk d + uptoBulkAll r
def uptoBulkEntries {H : Type} : List (Lit × DataW H) → Nat
  | [] => 0
  | x :: r => uptoBulkEntry x + uptoBulkEntries r
def uptoBulkEntry {H : Type} : Lit × DataW H → Nat
  | (.string bytes, d) => bytes.length + uptoBulk d + 1
  | (_, d) => uptoBulk d + 1
 end
def uptoSmall : (H : Type) → List (DataW H) → Bool := fun _ ds => decide (uptoBulkAll ds ≤ 1048576)
def OpenSpec.upto (s : _root_.Go.ChangeSpec) : _root_.Go.OpenSpec := { _root_.Go.OpenSpec.ofChange s with cond := some uptoSmall }

/-- 'cornicelaw01.LevelOrder', WHERE WHAT IT READS IS OF BULK AT MOST 1048576: true; the input reads as it did. -/
def levelOrderUptoRow : OpenClaim := { program := "ytkkjcgjebaeniaa", sum := "1f09298ce0c67355de139a56925e8a519fab4a58780c8bb3179189856a143456", func := "cornice/cornicelaw01.LevelOrder", spec := "levelOrder", unfollowed := true, recurses := true, apart := false, narrowed := true }
def LevelOrderUptoSaid : Prop := levelOrderUptoRow.holds Try.pinned (OpenSpec.upto levelOrderSpec)

/-- 'cornicelaw01.LevelUp', WHERE WHAT IT READS IS OF BULK AT MOST 1048576: true; the input reads as it did. -/
def levelUpUptoRow : OpenClaim := { program := "ytkkjcgjebaeniaa", sum := "1f09298ce0c67355de139a56925e8a519fab4a58780c8bb3179189856a143456", func := "cornice/cornicelaw01.LevelUp", spec := "levelUp", unfollowed := true, recurses := true, apart := false, narrowed := true }
def LevelUpUptoSaid : Prop := levelUpUptoRow.holds Try.pinned (OpenSpec.upto levelUpSpec)

/-- 'cornicelaw01.LevelMax', WHERE WHAT IT READS IS OF BULK AT MOST 1048576: true; the input reads as it did. -/
def levelMaxUptoRow : OpenClaim := { program := "ytkkjcgjebaeniaa", sum := "1f09298ce0c67355de139a56925e8a519fab4a58780c8bb3179189856a143456", func := "cornice/cornicelaw01.LevelMax", spec := "levelMax", unfollowed := true, recurses := true, apart := false, narrowed := true }
def LevelMaxUptoSaid : Prop := levelMaxUptoRow.holds Try.pinned (OpenSpec.upto levelMaxSpec)

/-- 'cornicelaw01.LevelPi', WHERE WHAT IT READS IS OF BULK AT MOST 1048576: true; the input reads as it did. -/
def levelPiUptoRow : OpenClaim := { program := "ytkkjcgjebaeniaa", sum := "1f09298ce0c67355de139a56925e8a519fab4a58780c8bb3179189856a143456", func := "cornice/cornicelaw01.LevelPi", spec := "levelPi", unfollowed := true, recurses := true, apart := false, narrowed := true }
def LevelPiUptoSaid : Prop := levelPiUptoRow.holds Try.pinned (OpenSpec.upto levelPiSpec)

/-- 'cornicelaw01.LevelTells', WHERE WHAT IT READS IS OF BULK AT MOST 1048576: true; the input reads as it did. -/
def levelTellsUptoRow : OpenClaim := { program := "ytkkjcgjebaeniaa", sum := "1f09298ce0c67355de139a56925e8a519fab4a58780c8bb3179189856a143456", func := "cornice/cornicelaw01.LevelTells", spec := "levelTells", unfollowed := true, recurses := true, apart := false, narrowed := true }
def LevelTellsUptoSaid : Prop := levelTellsUptoRow.holds Try.pinned (OpenSpec.upto levelTellsSpec)

end Rows
end Go.Proofs.Ytkkjcgjebaeniaa
