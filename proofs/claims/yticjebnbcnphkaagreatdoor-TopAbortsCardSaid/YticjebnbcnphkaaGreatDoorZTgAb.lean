/- More closed facts of the row of TopAborts. -/
import Derived.Test.YticjebnbcnphkaaGreatDoorZF23
import Derived.Test.YticjebnbcnphkaaGreatDoorCards
import Derived.Test.YticjebnbcnphkaaGreatDoorTie

set_option linter.unusedSimpArgs false
set_option linter.unusedVariables false
set_option linter.unusedSectionVars false

namespace Go.Proofs.YticjebnbcnphkaaGreatDoor.topAborts
open Go Go.Ai Go.Conc Go.Proofs
theorem inst : Tryz.f3.isInstance Tryz.pinned.checked.prog Rows.topAbortsRow.origin Rows.topAbortsRow.targs := of_decide_eq_true (by kernel_rfl)
theorem wrap : Tryz.f3.isWrapper Tryz.pinned.checked.prog Rows.topAbortsRow.wrapper Rows.topAbortsRow.mainSum := by
  unfold Func.isWrapper; first | (rw [if_pos (by decide +kernel)]; kernel_rfl) | (rw [if_neg (by decide +kernel)]; exact ⟨rfl, rfl⟩)
theorem looks : true = Tryz.pinned.checked.prog.looks [] := by kernel_rfl
theorem wants : Tryz.prog.wantsStandIn 4 = false := by kernel_rfl
theorem textual : Rows.topAbortsRow.wfByText (OpenSpec.ofChange Rows.topAbortsSpec) = true := by kernel_rfl
theorem mains : Tryz.pinned.checked.prog.mainIs = some (Rows.topAbortsCard.stood.harness.1, Rows.topAbortsCard.stood.harness.2.toList) := by kernel_rfl
theorem starts : true = Rows.topAbortsRow.goesBy Tryz.pinned.checked.prog := by kernel_rfl
end Go.Proofs.YticjebnbcnphkaaGreatDoor.topAborts
