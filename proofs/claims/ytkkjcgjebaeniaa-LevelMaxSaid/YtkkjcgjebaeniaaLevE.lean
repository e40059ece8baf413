/- The walk of the law LevelOrder: it returns true for all numbers; no condition. -/
import Derived.Test.YtkkjcgjebaeniaaLevD
namespace Go.Proofs.Ytkkjcgjebaeniaa
open Go.RowKit

theorem bel_def (a b : Int) : bel a b = true ↔ ((0 ≤ a ∧ a ≤ 9) ∧ (0 ≤ b ∧ b ≤ 9) ∧ (a = 0 ↔ b = 0) ∧ a ≤ b) := by
  unfold bel lv
  have e : ((a == 0) = (b == 0)) ↔ (a = 0 ↔ b = 0) := by rw [Bool.eq_iff_iff]; simp only [beq_iff_eq]
  simp only [Bool.and_eq_true, decide_eq_true_eq, beq_iff_eq]
  rw [e]
  omega
theorem bel_def_f (a b : Int) : bel a b = false ↔ ¬ ((0 ≤ a ∧ a ≤ 9) ∧ (0 ≤ b ∧ b ≤ 9) ∧ (a = 0 ↔ b = 0) ∧ a ≤ b) := by
  rw [← bel_def]; simp
theorem lv_def (n : Int) : lv n = true ↔ 0 ≤ n ∧ n ≤ 9 := by
  unfold lv
  simp only [Bool.and_eq_true, decide_eq_true_eq]
theorem lv_def_f (n : Int) : lv n = false ↔ ¬ (0 ≤ n ∧ n ≤ 9) := by
  rw [← lv_def]; simp
theorem bel_t {a b : Int} (h : (0 ≤ a ∧ a ≤ 9) ∧ (0 ≤ b ∧ b ≤ 9) ∧ (a = 0 ↔ b = 0) ∧ a ≤ b) : bel a b = true := (bel_def a b).2 h
theorem bel_f {a b : Int} (h : ¬ ((0 ≤ a ∧ a ≤ 9) ∧ (0 ≤ b ∧ b ≤ 9) ∧ (a = 0 ↔ b = 0) ∧ a ≤ b)) : bel a b = false := by
  cases hb : bel a b
  · rfl
  · exact absurd ((bel_def a b).1 hb) h
theorem bel12 : bel 1 2 = true := by decide

/-- the guarded calls of the law, with the world carried -/
theorem below_call (a b : Int) (w w0 : World) (h : Below w0.heap.size w0 w) :
    Calls Try.prog 8 #[.int .i64 a, .int .i64 b] w fun e w' => e = .returned (.bool (bel a b)) ∧ Below w0.heap.size w0 w' :=
  (below_any a b w).mono fun _ _ ⟨he, hb⟩ => ⟨he, h.trans (hb.mono h.size)⟩
theorem check_call (a : Int) (w w0 : World) (h : Below w0.heap.size w0 w) :
    Calls Try.prog 9 #[.int .i64 a] w fun e w' => e = .returned (.int .i64 (if lv a then 0 else 1)) ∧ Below w0.heap.size w0 w' :=
  (check_any a w).mono fun _ _ ⟨he, hb⟩ => ⟨he, h.trans (hb.mono h.size)⟩

theorem bel_same (a : Int) : bel a a = lv a := by
  cases h : lv a
  · exact bel_f (fun h' => by have := lv_no h; omega)
  · exact bel_t ⟨⟨lv_lo h, lv_hi h⟩, ⟨lv_lo h, lv_hi h⟩, Iff.rfl, Int.le_refl _⟩

set_option maxHeartbeats 1000000 in
theorem order_walk (w : World) (a : Int) (_ : (Lit.int .i64 a).wf = true) (b : Int) (_ : (Lit.int .i64 b).wf = true) (c : Int) (_ : (Lit.int .i64 c).wf = true) :
    Calls Try.prog 3 #[.int .i64 a, .int .i64 b, .int .i64 c] w fun e w' => e = .returned (.bool true) ∧ Below w.heap.size w w' := by
  have h0 := Below.refl w.heap.size w
  have haa := bel_same a
  cases hl : lv a
  all_goals
    rw [hl] at haa
    go_enter Try.func3, Try.ntmps3
    go_wp2_with (first | (go_at_call 8; refine (below_call _ _ _ w (by assumption)).mono ?_; rintro e w1 ⟨rfl, hb⟩; clear h0; have h0 := hb; clear hb) | (go_at_call 9; refine (check_call _ _ w (by assumption)).mono ?_; rintro e w1 ⟨rfl, hb⟩; clear h0; have h0 := hb; clear hb))
    all_goals
      go_ret
      refine ⟨ret_bool ?_, h0⟩
      first | exact bel12 | rfl | (exfalso; go_tidy; simp only [bne_iff_ne, ne_eq, bne_eq_false_iff_eq, lv_def, lv_def_f, Bool.not_eq_true', Bool.not_eq_false', Bool.not_eq_true, Bool.not_eq_false, bel_def, bel_def_f, true_and, and_true, true_iff, iff_true, false_and, and_false, false_iff, iff_false] at *; omega)

end Go.Proofs.Ytkkjcgjebaeniaa
