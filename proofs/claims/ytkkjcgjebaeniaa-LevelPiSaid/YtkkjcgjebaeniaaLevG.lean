/- The walk of the law LevelPi: it returns true for all numbers; no condition. -/
import Derived.Test.YtkkjcgjebaeniaaLevE
namespace Go.Proofs.Ytkkjcgjebaeniaa
open Go.RowKit

theorem pi_call (a b : Int) (w w0 : World) (h : Below w0.heap.size w0 w) :
    Calls Try.prog 13 #[.int .i64 a, .int .i64 b] w fun e w' => e = .returned (.tuple #[.int .i64 (piN a b), .int .i64 (mxE [a, b])]) ∧ Below w0.heap.size w0 w' :=
  (pi_any a b w).mono fun _ _ ⟨he, hb⟩ => ⟨he, h.trans (hb.mono h.size)⟩
theorem sig_call (a b : Int) (w w0 : World) (h : Below w0.heap.size w0 w) :
    Calls Try.prog 14 #[.int .i64 a, .int .i64 b] w fun e w' => e = .returned (.tuple #[.int .i64 (mxI [a, b]), .int .i64 (mxE [a, b])]) ∧ Below w0.heap.size w0 w' :=
  (sig_any a b w).mono fun _ _ ⟨he, hb⟩ => ⟨he, h.trans (hb.mono h.size)⟩

theorem mxe2x (a b : Int) (x y : Bool) (hx : lv a = x) (hy : lv b = y) : mxE [a, b] = if (x && y) = true then 0 else 1 := by
  subst hx; subst hy
  simp only [mxE, all2]

theorem lvm : lv (-1) = false := by decide

set_option maxHeartbeats 2000000 in
theorem pi_walk (a : Int) (_ : (Lit.int .i64 a).wf = true) (b : Int) (_ : (Lit.int .i64 b).wf = true) (c : Int) (_ : (Lit.int .i64 c).wf = true) (w : World) :
    Calls Try.prog 6 #[.int .i64 a, .int .i64 b, .int .i64 c] w fun e w' => e = .returned (.bool true) ∧ Below w.heap.size w w' := by
  have h0 := Below.refl w.heap.size w
  have hm := lvm
  cases ha : lv a <;> cases hb' : lv b <;> cases hc : lv c
  case true.true.true =>
    have e1 := mx2 a b ha hb'
    have e2 := mx2 b a hb' ha
    have e3 := mx2 c b hc hb'
    have e4 := mxe2 a b (by rw [ha, hb']; rfl)
    have e5 := mxe2 b a (by rw [ha, hb']; rfl)
    have e6 := mxe2 c b (by rw [hc, hb']; rfl)
    have b1 := lv_lo ha
    have b2 := lv_hi ha
    have b3 := lv_lo hb'
    have b4 := lv_hi hb'
    have b5 := lv_lo hc
    by_cases hz : b = 0
    · have hz1 : (b == 0) = true := by simp [hz]
      have p1 : piN a b = 0 := by simp [piN, hz]
      have p2 : piN c b = 0 := by simp [piN, hz]
      have m1 : max a b = a := by omega
      have m2 : max b a = a := by omega
      rw [m1] at e1
      rw [m2] at e2
      have HZ := Lib.hid hz; clear hz m1 m2 e3
      go_enter Try.func6, Try.ntmps6
      go_wp2_with (first | (go_at_call 8; refine (below_call _ _ _ w (by assumption)).mono ?_; rintro e w1 ⟨rfl, hb⟩; clear h0; have h0 := hb; clear hb) | (go_at_call 9; refine (check_call _ _ w (by assumption)).mono ?_; rintro e w1 ⟨rfl, hb⟩; clear h0; have h0 := hb; clear hb) | (go_at_call 13; refine (pi_call _ _ _ w (by assumption)).mono ?_; rintro e w1 ⟨rfl, hb⟩; clear h0; have h0 := hb; clear hb) | (go_at_call 14; refine (sig_call _ _ _ w (by assumption)).mono ?_; rintro e w1 ⟨rfl, hb⟩; clear h0; have h0 := hb; clear hb))
      all_goals
        go_ret
        refine ⟨ret_bool ?_, h0⟩
        first | rfl | (go_tidy; simp only [bne_iff_ne, ne_eq, bne_eq_false_iff_eq, beq_iff_eq, beq_eq_false_iff_ne, lv_def, lv_def_f, Bool.not_eq_true', Bool.not_eq_false', Bool.not_eq_true, Bool.not_eq_false, bel_def, bel_def_f, true_and, and_true, true_iff, iff_true, false_and, and_false, false_iff, iff_false, Bool.false_eq_true] at *; omega)
    · have hz1 : (b == 0) = false := by simp [hz]
      have p1 : piN a b = mxI [a, b] := by simp [piN, hz]
      have p2 : piN c b = mxI [c, b] := by simp [piN, hz]
      rw [e1] at p1
      rw [e3] at p2
      have e7 : max b a = max a b := by omega
      rw [e7] at e2
      obtain ⟨m, hm1⟩ : ∃ m, max a b = m := ⟨_, rfl⟩
      obtain ⟨k, hk1⟩ : ∃ k, max c b = k := ⟨_, rfl⟩
      rw [hm1] at e1 e2 p1
      rw [hk1] at p2
      have c1 : a ≤ m := by omega
      have c2 : b ≤ m := by omega
      have c3 : m ≤ 9 := by omega
      have c4 : a ≤ c → m ≤ k := by omega
      have c5 : bel b m = true := bel_t (by omega)
      have c6 : a ≤ c ∧ k < m → False := by omega
      have HC := Lib.hid c6; clear c6 c4 hm1 hk1 e3 e7
      by_cases hac : a ≤ c
      · have hkm : m ≤ k := by rcases Int.lt_or_le k m with h | h; exact (HC.out ⟨hac, h⟩).elim; exact h
        go_enter Try.func6, Try.ntmps6
        go_wp2_with (first | (go_at_call 8; refine (below_call _ _ _ w (by assumption)).mono ?_; rintro e w1 ⟨rfl, hb⟩; clear h0; have h0 := hb; clear hb) | (go_at_call 9; refine (check_call _ _ w (by assumption)).mono ?_; rintro e w1 ⟨rfl, hb⟩; clear h0; have h0 := hb; clear hb) | (go_at_call 13; refine (pi_call _ _ _ w (by assumption)).mono ?_; rintro e w1 ⟨rfl, hb⟩; clear h0; have h0 := hb; clear hb) | (go_at_call 14; refine (sig_call _ _ _ w (by assumption)).mono ?_; rintro e w1 ⟨rfl, hb⟩; clear h0; have h0 := hb; clear hb))
        all_goals
          go_ret
          refine ⟨ret_bool ?_, h0⟩
          first | rfl | (go_tidy; simp only [bne_iff_ne, ne_eq, bne_eq_false_iff_eq, beq_iff_eq, beq_eq_false_iff_ne, lv_def, lv_def_f, Bool.not_eq_true', Bool.not_eq_false', Bool.not_eq_true, Bool.not_eq_false, bel_def, bel_def_f, true_and, and_true, true_iff, iff_true, false_and, and_false, false_iff, iff_false, Bool.false_eq_true] at *; omega)
      · go_enter Try.func6, Try.ntmps6
        go_wp2_with (first | (go_at_call 8; refine (below_call _ _ _ w (by assumption)).mono ?_; rintro e w1 ⟨rfl, hb⟩; clear h0; have h0 := hb; clear hb) | (go_at_call 9; refine (check_call _ _ w (by assumption)).mono ?_; rintro e w1 ⟨rfl, hb⟩; clear h0; have h0 := hb; clear hb) | (go_at_call 13; refine (pi_call _ _ _ w (by assumption)).mono ?_; rintro e w1 ⟨rfl, hb⟩; clear h0; have h0 := hb; clear hb) | (go_at_call 14; refine (sig_call _ _ _ w (by assumption)).mono ?_; rintro e w1 ⟨rfl, hb⟩; clear h0; have h0 := hb; clear hb))
        all_goals
          go_ret
          refine ⟨ret_bool ?_, h0⟩
          first | rfl | (go_tidy; simp only [bne_iff_ne, ne_eq, bne_eq_false_iff_eq, beq_iff_eq, beq_eq_false_iff_ne, lv_def, lv_def_f, Bool.not_eq_true', Bool.not_eq_false', Bool.not_eq_true, Bool.not_eq_false, bel_def, bel_def_f, true_and, and_true, true_iff, iff_true, false_and, and_false, false_iff, iff_false, Bool.false_eq_true] at *; omega)
  all_goals
    have e4 := mxe2x a b (lv a) (lv b) rfl rfl
    have e5 := mxe2x b a (lv b) (lv a) rfl rfl
    have e6 := mxe2x c b (lv c) (lv b) rfl rfl
    simp only [ha, hb', hc, Bool.and_true, Bool.and_false, Bool.true_and, Bool.false_and, if_true, if_false, Bool.false_eq_true] at e4 e5 e6
    go_enter Try.func6, Try.ntmps6
    go_wp2_with (first | (go_at_call 8; refine (below_call _ _ _ w (by assumption)).mono ?_; rintro e w1 ⟨rfl, hb⟩; clear h0; have h0 := hb; clear hb) | (go_at_call 9; refine (check_call _ _ w (by assumption)).mono ?_; rintro e w1 ⟨rfl, hb⟩; clear h0; have h0 := hb; clear hb) | (go_at_call 13; refine (pi_call _ _ _ w (by assumption)).mono ?_; rintro e w1 ⟨rfl, hb⟩; clear h0; have h0 := hb; clear hb) | (go_at_call 14; refine (sig_call _ _ _ w (by assumption)).mono ?_; rintro e w1 ⟨rfl, hb⟩; clear h0; have h0 := hb; clear hb))
    all_goals
      go_ret
      refine ⟨ret_bool ?_, h0⟩
      first | rfl | (go_tidy; simp only [bne_iff_ne, ne_eq, bne_eq_false_iff_eq, beq_iff_eq, beq_eq_false_iff_ne, lv_def, lv_def_f, Bool.not_eq_true', Bool.not_eq_false', Bool.not_eq_true, Bool.not_eq_false, bel_def, bel_def_f, true_and, and_true, true_iff, iff_true, false_and, and_false, false_iff, iff_false, Bool.false_eq_true] at *; omega)

end Go.Proofs.Ytkkjcgjebaeniaa
