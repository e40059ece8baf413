/- The walk of the law LevelUp: it returns true for all numbers; no condition. -/
import Derived.Test.YtkkjcgjebaeniaaLevE
namespace Go.Proofs.Ytkkjcgjebaeniaa
open Go.RowKit

set_option maxHeartbeats 1000000 in
theorem up_walk (a : Int) (_ : (Lit.int .i64 a).wf = true) (b : Int) (_ : (Lit.int .i64 b).wf = true) (w : World) :
    Calls Try.prog 4 #[.int .i64 a, .int .i64 b] w fun e w' => e = .returned (.bool true) ∧ Below w.heap.size w w' := by
  have h0 := Below.refl w.heap.size w
  cases hl : lv a
  · have h1 : upN a = 0 := by simp [upN, hl]
    have h2 : upE a = 1 := by simp [upE, hl]
    go_enter Try.func4, Try.ntmps4
    go_wp2_with (first | (go_at_call 8; refine (below_call _ _ _ w (by assumption)).mono ?_; rintro e w1 ⟨rfl, hb⟩; clear h0; have h0 := hb; clear hb) | (go_at_call 9; refine (check_call _ _ w (by assumption)).mono ?_; rintro e w1 ⟨rfl, hb⟩; clear h0; have h0 := hb; clear hb) | (go_at_call 10; refine (up_any _ _).mono ?_; rintro e w1 ⟨rfl, hb⟩; clear h0; have h0 := hb; clear hb) | (go_at_call 11; refine (strict_any _ _).mono ?_; rintro e w1 ⟨rfl, rfl⟩))
    all_goals
      go_ret
      exact ⟨rfl, h0⟩
  · by_cases h9 : a ≤ 8
    · have h1 : upN a = a + 1 := by simp [upN, hl, h9]
      have h2 : upE a = 0 := by simp [upE, hl, h9]
      have ha := lv_lo hl
      have hne : (a == 9) = false := by simp; omega
      have hbel : bel (a + 1) a = false := bel_f (by omega)
      go_enter Try.func4, Try.ntmps4
      go_wp2_with (first | (go_at_call 8; refine (below_call _ _ _ w (by assumption)).mono ?_; rintro e w1 ⟨rfl, hb⟩; clear h0; have h0 := hb; clear hb) | (go_at_call 9; refine (check_call _ _ w (by assumption)).mono ?_; rintro e w1 ⟨rfl, hb⟩; clear h0; have h0 := hb; clear hb) | (go_at_call 10; refine (up_any _ _).mono ?_; rintro e w1 ⟨rfl, hb⟩; clear h0; have h0 := hb; clear hb) | (go_at_call 11; refine (strict_any _ _).mono ?_; rintro e w1 ⟨rfl, rfl⟩))
      all_goals
        go_ret
        refine ⟨ret_bool ?_, h0⟩
        first | rfl | (go_tidy; simp only [bne_iff_ne, ne_eq, bne_eq_false_iff_eq, beq_iff_eq, beq_eq_false_iff_ne, lv_def, lv_def_f, Bool.not_eq_true', Bool.not_eq_false', Bool.not_eq_true, Bool.not_eq_false, bel_def, bel_def_f, true_and, and_true, true_iff, iff_true, false_and, and_false, false_iff, iff_false, Bool.false_eq_true] at *; omega)
    · have h1 : upN a = 0 := by simp [upN, h9]
      have h2 : upE a = 2 := by simp [upE, hl, h9]
      have hne : (a == 9) = true := by have := lv_hi hl; simp; omega
      go_enter Try.func4, Try.ntmps4
      go_wp2_with (first | (go_at_call 8; refine (below_call _ _ _ w (by assumption)).mono ?_; rintro e w1 ⟨rfl, hb⟩; clear h0; have h0 := hb; clear hb) | (go_at_call 9; refine (check_call _ _ w (by assumption)).mono ?_; rintro e w1 ⟨rfl, hb⟩; clear h0; have h0 := hb; clear hb) | (go_at_call 10; refine (up_any _ _).mono ?_; rintro e w1 ⟨rfl, hb⟩; clear h0; have h0 := hb; clear hb) | (go_at_call 11; refine (strict_any _ _).mono ?_; rintro e w1 ⟨rfl, rfl⟩))
      all_goals
        go_ret
        exact ⟨rfl, h0⟩

end Go.Proofs.Ytkkjcgjebaeniaa
