/- What term.most and term.right come to, for every node, where the table of shapes lies as it is laid. -/
import Derived.Test.YtjhgpifccleknaaDoorName
import Derived.BigQuiet
import Derived.Deep.QuietTactic
namespace Go.Proofs.YtjhgpifccleknaaDoor
set_option linter.unusedSimpArgs false
set_option linter.unusedVariables false
open Go.RowKit

set_option maxHeartbeats 400000 in
theorem most_any (k : Nat) (w : World) :
    Calls Tryd.prog 85 #[.int .i64 (k : Int)] w fun e w' => e = .returned (.int .i64 (if k = 0 then 99 else if k = 3 ∨ k = 6 then 3 else 5)) ∧ w = w' := by
  by_cases h0 : k = 0
  · subst h0
    go_enter Tryd.func85, Tryd.ntmps85
    go_wp2
    go_ret
    exact ⟨rfl, rfl⟩
  · have b0 : ((k : Int) == 0) = false := by simp; omega
    by_cases h3 : k = 3
    · subst h3
      go_enter Tryd.func85, Tryd.ntmps85
      go_wp2
      go_ret
      exact ⟨rfl, rfl⟩
    · have b3 : ((k : Int) == 3) = false := by simp; omega
      by_cases h6 : k = 6
      · subst h6
        go_enter Tryd.func85, Tryd.ntmps85
        go_wp2
        go_ret
        exact ⟨rfl, rfl⟩
      · have b6 : ((k : Int) == 6) = false := by simp; omega
        have e : (if k = 0 then (99 : Int) else if k = 3 ∨ k = 6 then 3 else 5) = 5 := by simp [h0, h3, h6]
        rw [e]
        clear h0 h3 h6 e
        go_enter Tryd.func85, Tryd.ntmps85
        go_wp2
        go_ret
        exact ⟨rfl, rfl⟩

/-- what the walks read of one kind's row -/
theorem ShapesAt.at_ {w : World} (h : ShapesAt w) {k : Nat} (hk : k < 30) : ∃ a n cap, w.cell? ⟨0, k * 4, none⟩ = some (.slice a n cap) ∧ w.cell? ⟨0, k * 4 + 1, none⟩ = some (.bool (shp k).2.1) ∧ w.cell? ⟨0, k * 4 + 2, none⟩ = some (.bool (shp k).2.2.1) ∧
    w.cell? ⟨0, k * 4 + 3, none⟩ = some (.bool (shp k).2.2.2) ∧ ReadI w (.slice a n cap) ((shp k).1.map Int.ofNat) ∧ n = (shp k).1.length ∧ 0 < w.heap.size := by
  have hlt := h.lt
  obtain ⟨sv, hs⟩ := h
  obtain ⟨h1, h2, h3, h4, h5⟩ := hs k hk
  obtain ⟨a, cap, e⟩ := h5.len_slice
  rw [e] at h1 h5
  rw [List.length_map] at h1 h5 e
  exact ⟨a, _, cap, h1, h2, h3, h4, h5, rfl, hlt⟩

theorem size0 (S : ByteArray) : S.toList.isEmpty = decide (S.size = 0) := by
  have : S.toList = [] ↔ S.size = 0 := by
    rw [ByteArray.toList_eq]
    exact ⟨fun h => by have := congrArg List.length h; simpa using this, fun h => List.eq_nil_of_length_eq_zero (by simpa using h)⟩
  rw [Bool.eq_iff_iff, List.isEmpty_iff, this, decide_eq_true_eq]

set_option maxHeartbeats 1000000 in
theorem right_n (k : Nat) (N M : Int) (S : ByteArray) (w : World) (hk : k < 30) (hS : ShapesAt w) (f1 : (shp k).2.1 = false) (hN : (N != 0) = true) :
    Calls Tryd.prog 56 #[.agg #[.int .i64 (k : Int), .int .i64 N, .int .i64 M, .string S]] w fun e w' => e = .returned (.bool false) ∧ Below w.heap.size w w' := by
  obtain ⟨a, n, cap, h1, h2, h3, h4, _, _, hlt⟩ := hS.at_ hk
  rw [f1] at h2
  clear f1
  go_enter Tryd.func56, Tryd.ntmps56
  go_wp2
  go_ret
  exact ⟨rfl, (by repeat (first | exact Below.refl _ _ | apply Below.drew | apply below_drewN | assumption | (refine Below.alloc ?_ (by simp) _)))⟩

set_option maxHeartbeats 1000000 in
theorem right_m (k : Nat) (N M : Int) (S : ByteArray) (w : World) (hk : k < 30) (hS : ShapesAt w) (pn : (shp k).2.1 = true ∨ ((shp k).2.1 = false ∧ (N != 0) = false)) (f2 : (shp k).2.2.1 = false) (hM : (M != 0) = true) :
    Calls Tryd.prog 56 #[.agg #[.int .i64 (k : Int), .int .i64 N, .int .i64 M, .string S]] w fun e w' => e = .returned (.bool false) ∧ Below w.heap.size w w' := by
  obtain ⟨a, n, cap, h1, h2, h3, h4, _, _, hlt⟩ := hS.at_ hk
  rw [f2] at h3
  clear f2
  rcases pn with f1 | ⟨f1, hN⟩
  all_goals
    rw [f1] at h2
    clear f1
    go_enter Tryd.func56, Tryd.ntmps56
    go_wp2
    go_ret
    exact ⟨rfl, (by repeat (first | exact Below.refl _ _ | apply Below.drew | apply below_drewN | assumption | (refine Below.alloc ?_ (by simp) _)))⟩

set_option maxHeartbeats 1000000 in
theorem right_s (k : Nat) (N M : Int) (S : ByteArray) (w : World) (hk : k < 30) (hS : ShapesAt w) (pn : (shp k).2.1 = true ∨ ((shp k).2.1 = false ∧ (N != 0) = false)) (pm : (shp k).2.2.1 = true ∨ ((shp k).2.2.1 = false ∧ (M != 0) = false)) (f3 : (shp k).2.2.2 = false) (hE : S.toList.isEmpty = false) :
    Calls Tryd.prog 56 #[.agg #[.int .i64 (k : Int), .int .i64 N, .int .i64 M, .string S]] w fun e w' => e = .returned (.bool false) ∧ Below w.heap.size w w' := by
  obtain ⟨a, n, cap, h1, h2, h3, h4, _, _, hlt⟩ := hS.at_ hk
  rw [f3] at h4
  clear f3
  rcases pn with f1 | ⟨f1, hN⟩ <;> rcases pm with f2 | ⟨f2, hM⟩
  all_goals
    rw [f1] at h2
    rw [f2] at h3
    clear f1 f2
    go_enter Tryd.func56, Tryd.ntmps56
    go_wp2
    go_ret
    exact ⟨rfl, (by repeat (first | exact Below.refl _ _ | apply Below.drew | apply below_drewN | assumption | (refine Below.alloc ?_ (by simp) _)))⟩

set_option maxHeartbeats 1000000 in
theorem right_name (k : Nat) (N M : Int) (S : ByteArray) (w : World) (hk : k < 30) (hS : ShapesAt w) (hs : S.size ≤ maxLen) (pn : (shp k).2.1 = true ∨ ((shp k).2.1 = false ∧ (N != 0) = false)) (pm : (shp k).2.2.1 = true ∨ ((shp k).2.2.1 = false ∧ (M != 0) = false)) (f3 : (shp k).2.2.2 = true) (hE : nameB S = false) :
    Calls Tryd.prog 56 #[.agg #[.int .i64 (k : Int), .int .i64 N, .int .i64 M, .string S]] w fun e w' => e = .returned (.bool false) ∧ Below w.heap.size w w' := by
  obtain ⟨a, n, cap, h1, h2, h3, h4, _, _, hlt⟩ := hS.at_ hk
  rw [f3] at h4
  clear f3
  rcases pn with f1 | ⟨f1, hN⟩ <;> rcases pm with f2 | ⟨f2, hM⟩
  all_goals
    rw [f1] at h2
    rw [f2] at h3
    clear f1 f2
    go_enter Tryd.func56, Tryd.ntmps56
    go_wp2_with (go_at_call 24; refine (name_any _ hs _).mono ?_; rintro e w' ⟨rfl, rfl⟩)
    go_ret
    exact ⟨rfl, (by repeat (first | exact Below.refl _ _ | apply Below.drew | apply below_drewN | assumption | (refine Below.alloc ?_ (by simp) _)))⟩

set_option maxHeartbeats 1000000 in
theorem right_plain (k : Nat) (N M : Int) (S : ByteArray) (w : World) (hk : k < 30) (hS : ShapesAt w) (hs : S.size ≤ maxLen) (f1 : (shp k).2.1 = false) (f2 : (shp k).2.2.1 = false) (hN : (N != 0) = false) (hM : (M != 0) = false) (ps : ((shp k).2.2.2 = false ∧ S.toList.isEmpty = true) ∨ ((shp k).2.2.2 = true ∧ nameB S = true)) (k2 : ((k : Int) == 2) = false) (k26 : ((k : Int) == 26) = false) (k27 : ((k : Int) == 27) = false) :
    Calls Tryd.prog 56 #[.agg #[.int .i64 (k : Int), .int .i64 N, .int .i64 M, .string S]] w fun e w' => e = .returned (.bool true) ∧ Below w.heap.size w w' := by
  obtain ⟨a, n, cap, h1, h2, h3, h4, _, _, hlt⟩ := hS.at_ hk
  rw [f1] at h2
  rw [f2] at h3
  clear f1 f2
  rcases ps with ⟨f3, hE⟩ | ⟨f3, hE⟩
  all_goals
    rw [f3] at h4
    clear f3
    go_enter Tryd.func56, Tryd.ntmps56
    go_wp2_with (go_at_call 24; refine (name_any _ hs _).mono ?_; rintro e w' ⟨rfl, rfl⟩)
    go_quiet (fail)
    go_wp2
    go_ret
    exact ⟨rfl, (by repeat (first | exact Below.refl _ _ | apply Below.drew | apply below_drewN | assumption | (refine Below.alloc ?_ (by simp) _)))⟩

set_option maxHeartbeats 1000000 in
theorem right_num (k : Nat) (N M : Int) (S : ByteArray) (w : World) (hk : k < 30) (hS : ShapesAt w) (f1 : (shp k).2.1 = true) (f2 : (shp k).2.2.1 = false) (f3 : (shp k).2.2.2 = false) (hM : (M != 0) = false) (hE : S.toList.isEmpty = true) (k2 : ((k : Int) == 2) = false) (k26 : ((k : Int) == 26) = false) (k27 : ((k : Int) == 27) = false) :
    Calls Tryd.prog 56 #[.agg #[.int .i64 (k : Int), .int .i64 N, .int .i64 M, .string S]] w fun e w' => e = .returned (.bool (decide (0 ≤ N) && decide (N ≤ if k = 0 then 99 else if k = 3 ∨ k = 6 then 3 else 5))) ∧ Below w.heap.size w w' := by
  obtain ⟨a, n, cap, h1, h2, h3, h4, _, _, hlt⟩ := hS.at_ hk
  rw [f1] at h2
  rw [f2] at h3
  rw [f3] at h4
  clear f1 f2 f3
  obtain ⟨m, hm⟩ : ∃ m : Int, (if k = 0 then 99 else if k = 3 ∨ k = 6 then 3 else 5) = m := ⟨_, rfl⟩
  rw [hm]
  have HM := Lib.hid hm; clear hm
  have HQ : Hid (∀ w, Calls Tryd.prog 85 #[.int .i64 (k : Int)] w fun e w' => e = .returned (.int .i64 m) ∧ w' = w) := by
    intro w
    rw [← HM.out]
    exact (most_any k w).mono fun _ _ h => ⟨h.1, h.2.symm⟩
  by_cases hN : 0 ≤ N
  · have d1 : decide (0 ≤ N) = true := by simpa using hN
    rw [d1]
    go_enter Tryd.func56, Tryd.ntmps56
    go_wp2
    go_quiet ((go_at_call 85; exact Calls.quiet_of_same (HQ.out _)))
    go_wp2
    go_ret
    exact ⟨rfl, (by repeat (first | exact Below.refl _ _ | apply Below.drew | apply below_drewN | assumption | (refine Below.alloc ?_ (by simp) _)))⟩
  · have d1 : decide (0 ≤ N) = false := by simpa using hN
    rw [d1]
    go_enter Tryd.func56, Tryd.ntmps56
    go_wp2
    go_quiet (fail)
    go_wp2
    go_ret
    exact ⟨rfl, (by repeat (first | exact Below.refl _ _ | apply Below.drew | apply below_drewN | assumption | (refine Below.alloc ?_ (by simp) _)))⟩


end Go.Proofs.YtjhgpifccleknaaDoor
