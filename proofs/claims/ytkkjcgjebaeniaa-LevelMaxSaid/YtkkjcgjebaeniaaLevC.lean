/- What level.Up, Strict, Max, OfSig, OfPi, Below, and the references' Check and Up, come to, for every number; Max: of a list of at most a million numbers. -/
import Derived.Test.YtkkjcgjebaeniaaLevB
namespace Go.Proofs.Ytkkjcgjebaeniaa
open Go.RowKit

def upN (a : Int) : Int := if lv a && decide (a ≤ 8) then a + 1 else 0
def upE (a : Int) : Int := if lv a then (if a ≤ 8 then 0 else 2) else 1
def piN (a b : Int) : Int := if b = 0 then 0 else mxI [a, b]
def bel (a b : Int) : Bool := lv a && lv b && ((a == 0) == (b == 0)) && decide (a ≤ b)

theorem all1 (a : Int) : [a].all lv = lv a := by simp
theorem all2 (a b : Int) : [a, b].all lv = (lv a && lv b) := by simp
theorem lv_lo {n : Int} (h : lv n = true) : 0 ≤ n := by simp [lv] at h; omega
theorem lv_hi {n : Int} (h : lv n = true) : n ≤ 9 := by simp [lv] at h; omega
theorem lv_no {n : Int} (h : lv n = false) : n < 0 ∨ 9 < n := by simp [lv] at h; omega

theorem b1 {w w1 : World} (hb : Below (w.heap.size + 1) w w1) : Below w.heap.size w w1 := hb.mono (by omega)
theorem below_of_alloc {w w1 : World} {o : Obj} (hb : Below (w.alloc o).heap.size (w.alloc o) w1) : Below w.heap.size w w1 :=
  ((Below.refl _ _).alloc (Nat.le_refl _) _).trans (hb.mono (by simp))

set_option maxHeartbeats 400000 in
theorem up_any (a : Int) (w : World) :
    Calls Try.prog 10 #[.int .i64 a] w fun e w' => e = .returned (.tuple #[.int .i64 (upN a), .int .i64 (upE a)]) ∧ Below w.heap.size w w' := by
  cases hx : lv a
  · have h1 : upN a = 0 := by simp [upN, hx]
    have h2 : upE a = 1 := by simp [upE, hx]
    have HAL := Lib.hid ((all1 a).trans hx); clear hx
    rw [h1, h2]; clear h1 h2
    go_enter Try.func10, Try.ntmps10
    go_wp2_with fail
    refine (all_any [a] _ _ (ReadI.lit w _ [a] (by simp [maxLen]))).mono ?_
    rintro e w' ⟨rfl, rfl⟩
    rw [HAL.out]
    go_wp2
    go_ret2
    exact ⟨rfl, (Below.refl _ _).alloc (Nat.le_refl _) _⟩
  · by_cases h9 : a ≤ 8
    · have h1 : upN a = a + 1 := by simp [upN, hx, h9]
      have h2 : upE a = 0 := by simp [upE, hx, h9]
      have h0 := lv_lo hx
      have HAL := Lib.hid ((all1 a).trans hx); clear hx
      rw [h1, h2]; clear h1 h2
      go_enter Try.func10, Try.ntmps10
      go_wp2_with fail
      refine (all_any [a] _ _ (ReadI.lit w _ [a] (by simp [maxLen]))).mono ?_
      rintro e w' ⟨rfl, rfl⟩
      rw [HAL.out]
      go_wp2
      go_ret2
      exact ⟨rfl, (Below.refl _ _).alloc (Nat.le_refl _) _⟩
    · have h1 : upN a = 0 := by simp [upN, h9]
      have h2 : upE a = 2 := by simp [upE, hx, h9]
      have HAL := Lib.hid ((all1 a).trans hx); clear hx
      rw [h1, h2]; clear h1 h2
      go_enter Try.func10, Try.ntmps10
      go_wp2_with fail
      refine (all_any [a] _ _ (ReadI.lit w _ [a] (by simp [maxLen]))).mono ?_
      rintro e w' ⟨rfl, rfl⟩
      rw [HAL.out]
      go_wp2
      go_ret2
      exact ⟨rfl, (Below.refl _ _).alloc (Nat.le_refl _) _⟩

set_option maxHeartbeats 400000 in
theorem strict_any (a : Int) (w : World) :
    Calls Try.prog 11 #[.int .i64 a] w fun e w' => e = .returned (.bool (a == 0)) ∧ w = w' := by
  go_enter Try.func11, Try.ntmps11
  go_wp2
  go_ret
  exact ⟨rfl, rfl⟩

set_option maxHeartbeats 400000 in
theorem maxl_any (l : List Int) (v : Value) (w : World) (hv : ReadI w v l) (hl : l.length ≤ 1000000) :
    Calls Try.prog 12 #[v] w fun e w' => e = .returned (.tuple #[.int .i64 (mxI l), .int .i64 (mxE l)]) ∧ Below w.heap.size w w' := by
  go_enter Try.func12, Try.ntmps12
  go_wp2_with fail
  refine (greatest_any l v w hv hl).mono ?_
  rintro e w' ⟨rfl, hb⟩
  go_wp2
  go_ret2
  exact ⟨rfl, hb⟩

set_option maxHeartbeats 400000 in
theorem sig_any (a b : Int) (w : World) :
    Calls Try.prog 14 #[.int .i64 a, .int .i64 b] w fun e w' => e = .returned (.tuple #[.int .i64 (mxI [a, b]), .int .i64 (mxE [a, b])]) ∧ Below w.heap.size w w' := by
  go_enter Try.func14, Try.ntmps14
  go_wp2_with fail
  refine (greatest_any [a, b] _ _ (ReadI.lit w _ [a, b] (by simp [maxLen])) (by simp)).mono ?_
  rintro e w' ⟨rfl, hb⟩
  have hb' := below_of_alloc hb; clear hb
  go_wp2
  go_ret2
  exact ⟨rfl, hb'⟩

set_option maxHeartbeats 400000 in
theorem pi_any (a b : Int) (w : World) :
    Calls Try.prog 13 #[.int .i64 a, .int .i64 b] w fun e w' => e = .returned (.tuple #[.int .i64 (piN a b), .int .i64 (mxE [a, b])]) ∧ Below w.heap.size w w' := by
  by_cases hb0 : b = 0
  · have h1 : piN a b = 0 := by simp [piN, hb0]
    have ht : (b == 0) = true := by simp [hb0]
    rw [h1]; clear h1
    have HB := Lib.hid hb0; clear hb0
    go_enter Try.func13, Try.ntmps13
    go_wp2_with fail
    refine (greatest_any [a, b] _ _ (ReadI.lit w _ [a, b] (by simp [maxLen])) (by simp)).mono ?_
    rintro e w' ⟨rfl, hb⟩
    have hb' := below_of_alloc hb; clear hb
    go_wp2
    go_ret2
    exact ⟨rfl, hb'⟩
  · have h1 : piN a b = mxI [a, b] := by simp [piN, hb0]
    have ht : (b == 0) = false := by simp [hb0]
    rw [h1]; clear h1
    have HB := Lib.hid hb0; clear hb0
    go_enter Try.func13, Try.ntmps13
    go_wp2_with fail
    refine (greatest_any [a, b] _ _ (ReadI.lit w _ [a, b] (by simp [maxLen])) (by simp)).mono ?_
    rintro e w' ⟨rfl, hb⟩
    have hb' := below_of_alloc hb; clear hb
    go_wp2
    go_ret2
    exact ⟨rfl, hb'⟩

set_option maxHeartbeats 400000 in
theorem below_any (a b : Int) (w : World) :
    Calls Try.prog 8 #[.int .i64 a, .int .i64 b] w fun e w' => e = .returned (.bool (bel a b)) ∧ Below w.heap.size w w' := by
  cases hx : (lv a && lv b)
  · have h1 : bel a b = false := by simp [bel, hx]
    have HAL := Lib.hid ((all2 a b).trans hx); clear hx
    rw [h1]; clear h1
    go_enter Try.func8, Try.ntmps8
    go_wp2_with fail
    refine (all_any [a, b] _ _ (ReadI.lit w _ [a, b] (by simp [maxLen]))).mono ?_
    rintro e w' ⟨rfl, rfl⟩
    rw [HAL.out]
    go_wp2
    go_ret
    exact ⟨rfl, (Below.refl _ _).alloc (Nat.le_refl _) _⟩
  · have h1 : bel a b = ((a == 0) == (b == 0) && decide (a ≤ b)) := by simp [bel, hx]
    have HAL := Lib.hid ((all2 a b).trans hx); clear hx
    have H1 := Lib.hid h1; clear h1
    go_enter Try.func8, Try.ntmps8
    go_wp2_with fail
    refine (all_any [a, b] _ _ (ReadI.lit w _ [a, b] (by simp [maxLen]))).mono ?_
    rintro e w' ⟨rfl, rfl⟩
    rw [HAL.out]
    go_wp2
    all_goals
      go_ret
      refine ⟨?_, (Below.refl _ _).alloc (Nat.le_refl _) _⟩
      rw [H1.out]
      simp_all

set_option maxHeartbeats 400000 in
theorem refcheck_any (n : Int) (w : World) :
    Calls Try.prog 19 #[.int .i64 n] w fun e w' => e = .returned (.int .i64 (if lv n then 0 else 1)) ∧ w = w' := by
  obtain ⟨c, hx⟩ : ∃ c, lv n = c := ⟨_, rfl⟩
  rw [hx]
  have HX := Lib.hid hx; clear hx
  cases c
  all_goals
    go_enter Try.func19, Try.ntmps19
    go_wp2_with fail
    refine (reflevel_any n w).mono ?_
    rintro e w' ⟨rfl, rfl⟩
    rw [HX.out]
    go_wp2
    go_ret
    exact ⟨rfl, rfl⟩

set_option maxHeartbeats 400000 in
theorem refup_any (a : Int) (w : World) :
    Calls Try.prog 15 #[.int .i64 a] w fun e w' => e = .returned (.tuple #[.int .i64 (upN a), .int .i64 (upE a)]) ∧ w = w' := by
  cases hx : lv a
  · have h1 : upN a = 0 := by simp [upN, hx]
    have h2 : upE a = 1 := by simp [upE, hx]
    have HX := Lib.hid hx; clear hx
    rw [h1, h2]; clear h1 h2
    go_enter Try.func15, Try.ntmps15
    go_wp2_with fail
    refine (reflevel_any a w).mono ?_
    rintro e w' ⟨rfl, rfl⟩
    rw [HX.out]
    go_wp2
    go_ret2
    exact ⟨rfl, rfl⟩
  · have h0 := lv_lo hx
    have h99 := lv_hi hx
    by_cases h9 : a ≤ 8
    · have h1 : upN a = a + 1 := by simp [upN, hx, h9]
      have h2 : upE a = 0 := by simp [upE, hx, h9]
      have hne : (a == 9) = false := by simp; omega
      have HX := Lib.hid hx; clear hx
      rw [h1, h2]; clear h1 h2
      go_enter Try.func15, Try.ntmps15
      go_wp2_with fail
      refine (reflevel_any a w).mono ?_
      rintro e w' ⟨rfl, rfl⟩
      rw [HX.out]
      go_wp2
      go_ret2
      exact ⟨rfl, rfl⟩
    · have h1 : upN a = 0 := by simp [upN, h9]
      have h2 : upE a = 2 := by simp [upE, hx, h9]
      have hne : (a == 9) = true := by simp; omega
      have HX := Lib.hid hx; clear hx
      rw [h1, h2]; clear h1 h2
      go_enter Try.func15, Try.ntmps15
      go_wp2_with fail
      refine (reflevel_any a w).mono ?_
      rintro e w' ⟨rfl, rfl⟩
      rw [HX.out]
      go_wp2
      go_ret2
      exact ⟨rfl, rfl⟩

end Go.Proofs.Ytkkjcgjebaeniaa
