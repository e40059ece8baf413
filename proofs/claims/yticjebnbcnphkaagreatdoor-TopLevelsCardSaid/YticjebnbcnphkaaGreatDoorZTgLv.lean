/- More closed facts of the row of TopLevels. -/
import Derived.Test.YticjebnbcnphkaaGreatDoorZF23
import Derived.Test.YticjebnbcnphkaaGreatDoorCards
import Derived.Test.YticjebnbcnphkaaGreatDoorTie

set_option linter.unusedSimpArgs false
set_option linter.unusedVariables false
set_option linter.unusedSectionVars false

namespace Go.Proofs.YticjebnbcnphkaaGreatDoor.topLevels
open Go Go.Ai Go.Conc Go.Proofs
theorem inst : Tryz.f5.isInstance Tryz.pinned.checked.prog Rows.topLevelsRow.origin Rows.topLevelsRow.targs := of_decide_eq_true (by kernel_rfl)
theorem wrap : Tryz.f5.isWrapper Tryz.pinned.checked.prog Rows.topLevelsRow.wrapper Rows.topLevelsRow.mainSum := by
  unfold Func.isWrapper; first | (rw [if_pos (by decide +kernel)]; kernel_rfl) | (rw [if_neg (by decide +kernel)]; exact ⟨rfl, rfl⟩)
theorem looks : true = Tryz.pinned.checked.prog.looks [] := by kernel_rfl
theorem wants : Tryz.prog.wantsStandIn 5 = false := by kernel_rfl
theorem textual : Rows.topLevelsRow.wfByText (OpenSpec.ofChange Rows.topLevelsSpec) = true := by kernel_rfl
theorem mains : Tryz.pinned.checked.prog.mainIs = some (Rows.topLevelsCard.stood.harness.1, Rows.topLevelsCard.stood.harness.2.toList) := by kernel_rfl
theorem starts : true = Rows.topLevelsRow.goesBy Tryz.pinned.checked.prog := by kernel_rfl
end Go.Proofs.YticjebnbcnphkaaGreatDoor.topLevels
