/- The law packages' shown of chapter 2, and TermNodes: for every node and text, where the table of shapes lies as it is laid. -/
import Derived.Test.YtjhgpifccleknaaDoorLook
import Derived.Test.YtjhgpifccleknaaDoorRefH
namespace Go.Proofs.YtjhgpifccleknaaDoor
set_option linter.unusedSimpArgs false
set_option linter.unusedVariables false
open Go.RowKit

def zeroSuc : List Nd := [⟨11, 0, 0, ByteArray.empty⟩, ⟨12, 0, 0, ByteArray.empty⟩]
theorem zs_chk : chk zeroSuc = 0 := by decide +kernel
theorem zs_dpt : dpt zeroSuc = 2 := by decide +kernel
theorem zs_small : SmallN zeroSuc := by
  intro n hn
  simp [zeroSuc] at hn
  rcases hn with rfl | rfl <;> (show (0 : Nat) ≤ maxLen; omega)

theorem nameA : nameB ⟨#[97]⟩ = true := by decide +kernel

set_option maxRecDepth 20000 in
set_option maxHeartbeats 1000000 in
theorem shown2_any (w : World) (hS : ShapesAt w) :
    Calls Tryd.prog 21 #[] w fun e w' => e = .returned (.bool true) ∧ Below w.heap.size w w' := by
  have HS := Lib.hid hS; clear hS
  go_enter Tryd.func21, Tryd.ntmps21
  go_wp2_with fail
  refine (tdepth_any zeroSuc _ _ (HS.out.alloc _) (RowAt.lit w _ _ 2 rfl (by unfold maxLen; omega)) zs_small).mono ?_
  rintro e w1 ⟨rfl, hb⟩
  rw [zs_chk, zs_dpt]
  have HB : Hid (Below w.heap.size w w1) := ((Below.refl _ w).alloc (Nat.le_refl _) _).trans (hb.mono (by simp))
  clear hb
  go_wp2_with (go_at_call 24; refine (name_any _ (by unfold maxLen; decide) _).mono ?_; rintro e w' ⟨rfl, rfl⟩; rw [nameA])
  go_ret
  exact ⟨rfl, HB.out⟩

end Go.Proofs.YtjhgpifccleknaaDoor
