/- More closed facts of the row of TopTrees. -/
import Derived.Test.YticjebnbcnphkaaGreatDoorZF23
import Derived.Test.YticjebnbcnphkaaGreatDoorCards
import Derived.Test.YticjebnbcnphkaaGreatDoorTie

set_option linter.unusedSimpArgs false
set_option linter.unusedVariables false
set_option linter.unusedSectionVars false

namespace Go.Proofs.YticjebnbcnphkaaGreatDoor.topTrees
open Go Go.Ai Go.Conc Go.Proofs
theorem inst : Tryz.f4.isInstance Tryz.pinned.checked.prog Rows.topTreesRow.origin Rows.topTreesRow.targs := of_decide_eq_true (by kernel_rfl)
theorem wrap : Tryz.f4.isWrapper Tryz.pinned.checked.prog Rows.topTreesRow.wrapper Rows.topTreesRow.mainSum := by
  unfold Func.isWrapper; first | (rw [if_pos (by decide +kernel)]; kernel_rfl) | (rw [if_neg (by decide +kernel)]; exact ⟨rfl, rfl⟩)
theorem looks : true = Tryz.pinned.checked.prog.looks [] := by kernel_rfl
theorem wants : Tryz.prog.wantsStandIn 5 = false := by kernel_rfl
theorem textual : Rows.topTreesRow.wfByText (OpenSpec.ofChange Rows.topTreesSpec) = true := by kernel_rfl
theorem mains : Tryz.pinned.checked.prog.mainIs = some (Rows.topTreesCard.stood.harness.1, Rows.topTreesCard.stood.harness.2.toList) := by kernel_rfl
theorem starts : true = Rows.topTreesRow.goesBy Tryz.pinned.checked.prog := by kernel_rfl
end Go.Proofs.YticjebnbcnphkaaGreatDoor.topTrees
