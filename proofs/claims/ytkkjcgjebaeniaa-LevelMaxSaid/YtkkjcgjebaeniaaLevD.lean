/- What the references' OfSig, OfPi and Below come to, for every number; no condition. -/
import Derived.Test.YtkkjcgjebaeniaaLevC
namespace Go.Proofs.Ytkkjcgjebaeniaa
open Go.RowKit

theorem mx2 (a b : Int) (ha : lv a = true) (hb : lv b = true) : mxI [a, b] = max a b := by
  have h1 := lv_lo ha
  simp [mxI, ha, hb]; omega
theorem mx2n (a b : Int) (h : (lv a && lv b) = false) : mxI [a, b] = 0 := by simp only [mxI, all2, h]; rfl
theorem mxe2 (a b : Int) (h : (lv a && lv b) = true) : mxE [a, b] = 0 := by simp only [mxE, all2, h]; rfl
theorem mxe2n (a b : Int) (h : (lv a && lv b) = false) : mxE [a, b] = 1 := by simp only [mxE, all2, h]; rfl

set_option maxHeartbeats 400000 in
theorem refsig_any (a b : Int) (w : World) :
    Calls Try.prog 17 #[.int .i64 a, .int .i64 b] w fun e w' => e = .returned (.tuple #[.int .i64 (mxI [a, b]), .int .i64 (mxE [a, b])]) ∧ w = w' := by
  obtain ⟨x, hx⟩ : ∃ x, lv a = x := ⟨_, rfl⟩
  obtain ⟨y, hy⟩ : ∃ y, lv b = y := ⟨_, rfl⟩
  have HF : Hid (mxI [a, b] = (if (x && y) then max a b else 0) ∧ mxE [a, b] = (if (x && y) then 0 else 1)) := by
    subst hx; subst hy
    cases h : (lv a && lv b)
    · exact ⟨by rw [mx2n a b h]; rfl, by rw [mxe2n a b h]; rfl⟩
    · have h' : lv a = true ∧ lv b = true := by simpa using h
      exact ⟨by rw [mx2 a b h'.1 h'.2]; rfl, by rw [mxe2 a b h]; rfl⟩
  have HX := Lib.hid hx; clear hx
  have HY := Lib.hid hy; clear hy
  cases x <;> cases y
  all_goals
    go_enter Try.func17, Try.ntmps17
    go_wp2_with (go_at_call 23; refine (reflevel_any _ w).mono ?_; rintro e w' ⟨rfl, rfl⟩; first | rw [HX.out] | rw [HY.out])
    all_goals
      go_ret2
      exact ⟨by simp [HF.out] <;> omega, rfl⟩

set_option maxHeartbeats 400000 in
theorem refpi_any (a b : Int) (w : World) :
    Calls Try.prog 16 #[.int .i64 a, .int .i64 b] w fun e w' => e = .returned (.tuple #[.int .i64 (piN a b), .int .i64 (mxE [a, b])]) ∧ w = w' := by
  obtain ⟨x, hx⟩ : ∃ x, lv a = x := ⟨_, rfl⟩
  obtain ⟨y, hy⟩ : ∃ y, lv b = y := ⟨_, rfl⟩
  obtain ⟨z, hz⟩ : ∃ z, (b == 0) = z := ⟨_, rfl⟩
  have HF : Hid (piN a b = (if (x && y && !z) then max a b else 0) ∧ mxE [a, b] = (if (x && y) then 0 else 1)) := by
    subst hx; subst hy; subst hz
    cases h : (lv a && lv b)
    · exact ⟨by unfold piN; rw [mx2n a b h]; simp, by rw [mxe2n a b h]; rfl⟩
    · have h' : lv a = true ∧ lv b = true := by simpa using h
      refine ⟨?_, by rw [mxe2 a b h]; rfl⟩
      unfold piN; rw [mx2 a b h'.1 h'.2]
      by_cases hb : b = 0 <;> simp [hb]
  have HX := Lib.hid hx; clear hx
  have HY := Lib.hid hy; clear hy
  cases x <;> cases y <;> cases z
  all_goals
    go_enter Try.func16, Try.ntmps16
    go_wp2_with (go_at_call 23; refine (reflevel_any _ w).mono ?_; rintro e w' ⟨rfl, rfl⟩; first | rw [HX.out] | rw [HY.out])
    all_goals
      go_ret2
      exact ⟨by simp [HF.out] <;> omega, rfl⟩

set_option maxHeartbeats 400000 in
theorem refbelow_any (a b : Int) (w : World) :
    Calls Try.prog 20 #[.int .i64 a, .int .i64 b] w fun e w' => e = .returned (.bool (bel a b)) ∧ w = w' := by
  obtain ⟨x, hx⟩ : ∃ x, lv a = x := ⟨_, rfl⟩
  obtain ⟨y, hy⟩ : ∃ y, lv b = y := ⟨_, rfl⟩
  have HF : Hid (bel a b = (x && y && ((a == 0) == (b == 0)) && decide (a ≤ b))) := by
    subst hx; subst hy; rfl
  have HX := Lib.hid hx; clear hx
  have HY := Lib.hid hy; clear hy
  cases x <;> cases y <;> cases ha : (a == 0) <;> cases hb : (b == 0)
  all_goals
    go_enter Try.func20, Try.ntmps20
    go_wp2_with (go_at_call 23; refine (reflevel_any _ w).mono ?_; rintro e w' ⟨rfl, rfl⟩; first | rw [HX.out] | rw [HY.out])
    go_ret
    exact ⟨ret_bool (by
      have h1 := HF.out
      rw [h1]
      clear h1 HF HX HY
      rw [ha, hb]
      simp only [beq_iff_eq, beq_eq_false_iff_ne, ne_eq] at ha hb
      first | rfl | (simp [ha, hb]; done) | (simp; omega)), rfl⟩

end Go.Proofs.Ytkkjcgjebaeniaa
