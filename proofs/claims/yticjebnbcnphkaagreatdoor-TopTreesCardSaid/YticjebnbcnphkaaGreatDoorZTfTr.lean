/- Closed facts of the row of TopTrees. -/
import Derived.Test.YticjebnbcnphkaaGreatDoorZF23
import Derived.Test.YticjebnbcnphkaaGreatDoorCards
import Derived.Test.YticjebnbcnphkaaGreatDoorTie

set_option linter.unusedSimpArgs false
set_option linter.unusedVariables false
set_option linter.unusedSectionVars false

namespace Go.Proofs.YticjebnbcnphkaaGreatDoor.topTrees
open Go Go.Ai Go.Conc Go.Proofs
theorem named : Tryz.prog.funcNamed "cornice/cornicetop.TopTrees" = some 4 := by kernel_rfl
set_option maxHeartbeats 100000000 in
theorem facts : joinedFacts Tryz.pinned.checked.prog 4 Tryz.f4 Rows.topTreesSpec Rows.topTreesRow = true := by
  unfold joinedFacts
  repeat' (with_reducible refine Bool.and_eq_true_iff.2 ⟨?_, ?_⟩)
  all_goals as_aux_lemma => kernel_rfl
end Go.Proofs.YticjebnbcnphkaaGreatDoor.topTrees
