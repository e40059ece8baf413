/- What term.most and term.right come to, for every node, where the table of shapes lies as it is laid. What term.right comes to, for every node, where the table of shapes lies as it is laid. What term.many, slices.Clone (of numbers, of nodes) come to. What term.Binds comes to, for every node, where the table of shapes lies as it is laid. slices.Clone of ints and term.Binds once more: what they make lies in a block of its own. What term.measured comes to, for every row of nodes, where the table of shapes lies as it is laid. What term.look, term.Check and term.Depth come to, for every row of nodes, where the table of shapes lies as it is laid. -/
import Derived.Test.YteldkcpkamgfpaaDoorNa
import Derived.BigQuiet
import Derived.Deep.QuietTactic
import Derived.Test.YteldkcpkamgfpaaDoorBa
import Derived.Deep.RegionLaw
namespace Go.Proofs.YteldkcpkamgfpaaDoor
set_option linter.unusedSimpArgs false
set_option linter.unusedVariables false
open Go.RowKit

set_option maxHeartbeats 400000 in
theorem most_any (k : Nat) (w : World) :
    Calls Tryd.prog 91 #[.int .i64 (k : Int)] w fun e w' => e = .returned (.int .i64 (if k = 0 then 99 else if k = 3 ∨ k = 6 then 3 else 5)) ∧ w = w' := by
  by_cases h0 : k = 0
  · subst h0
    go_enter Tryd.func91, Tryd.ntmps91
    go_wp2
    go_ret
    exact ⟨rfl, rfl⟩
  · have b0 : ((k : Int) == 0) = false := by simp; omega
    by_cases h3 : k = 3
    · subst h3
      go_enter Tryd.func91, Tryd.ntmps91
      go_wp2
      go_ret
      exact ⟨rfl, rfl⟩
    · have b3 : ((k : Int) == 3) = false := by simp; omega
      by_cases h6 : k = 6
      · subst h6
        go_enter Tryd.func91, Tryd.ntmps91
        go_wp2
        go_ret
        exact ⟨rfl, rfl⟩
      · have b6 : ((k : Int) == 6) = false := by simp; omega
        have e : (if k = 0 then (99 : Int) else if k = 3 ∨ k = 6 then 3 else 5) = 5 := by simp [h0, h3, h6]
        rw [e]
        clear h0 h3 h6 e
        go_enter Tryd.func91, Tryd.ntmps91
        go_wp2
        go_ret
        exact ⟨rfl, rfl⟩

/-- what the walks read of one kind's row -/
theorem ShapesAt.at_ {w : World} (h : ShapesAt w) {k : Nat} (hk : k < 30) : ∃ a n cap, w.cell? ⟨0, k * 4, none⟩ = some (.slice a n cap) ∧ w.cell? ⟨0, k * 4 + 1, none⟩ = some (.bool (shp k).2.1) ∧ w.cell? ⟨0, k * 4 + 2, none⟩ = some (.bool (shp k).2.2.1) ∧
    w.cell? ⟨0, k * 4 + 3, none⟩ = some (.bool (shp k).2.2.2) ∧ ReadI w (.slice a n cap) ((shp k).1.map Int.ofNat) ∧ n = (shp k).1.length ∧ 0 < w.heap.size := by
  have hlt := h.lt
  obtain ⟨sv, hs⟩ := h
  obtain ⟨h1, h2, h3, h4, h5⟩ := hs k hk
  obtain ⟨a, cap, e⟩ := h5.len_slice
  rw [e] at h1 h5
  rw [List.length_map] at h1 h5 e
  exact ⟨a, _, cap, h1, h2, h3, h4, h5, rfl, hlt⟩

theorem size0 (S : ByteArray) : S.toList.isEmpty = decide (S.size = 0) := by
  have : S.toList = [] ↔ S.size = 0 := by
    rw [ByteArray.toList_eq]
    exact ⟨fun h => by have := congrArg List.length h; simpa using this, fun h => List.eq_nil_of_length_eq_zero (by simpa using h)⟩
  rw [Bool.eq_iff_iff, List.isEmpty_iff, this, decide_eq_true_eq]

set_option maxHeartbeats 1000000 in
theorem right_n (k : Nat) (N M : Int) (S : ByteArray) (w : World) (hk : k < 30) (hS : ShapesAt w) (f1 : (shp k).2.1 = false) (hN : (N != 0) = true) :
    Calls Tryd.prog 83 #[.agg #[.int .i64 (k : Int), .int .i64 N, .int .i64 M, .string S]] w fun e w' => e = .returned (.bool false) ∧ Below w.heap.size w w' := by
  obtain ⟨a, n, cap, h1, h2, h3, h4, _, _, hlt⟩ := hS.at_ hk
  rw [f1] at h2
  clear f1
  go_enter Tryd.func83, Tryd.ntmps83
  go_wp2
  go_ret
  exact ⟨rfl, (by repeat (first | exact Below.refl _ _ | apply Below.drew | apply below_drewN | assumption | (refine Below.alloc ?_ (by simp) _)))⟩

set_option maxHeartbeats 1000000 in
theorem right_m (k : Nat) (N M : Int) (S : ByteArray) (w : World) (hk : k < 30) (hS : ShapesAt w) (pn : (shp k).2.1 = true ∨ ((shp k).2.1 = false ∧ (N != 0) = false)) (f2 : (shp k).2.2.1 = false) (hM : (M != 0) = true) :
    Calls Tryd.prog 83 #[.agg #[.int .i64 (k : Int), .int .i64 N, .int .i64 M, .string S]] w fun e w' => e = .returned (.bool false) ∧ Below w.heap.size w w' := by
  obtain ⟨a, n, cap, h1, h2, h3, h4, _, _, hlt⟩ := hS.at_ hk
  rw [f2] at h3
  clear f2
  rcases pn with f1 | ⟨f1, hN⟩
  all_goals
    rw [f1] at h2
    clear f1
    go_enter Tryd.func83, Tryd.ntmps83
    go_wp2
    go_ret
    exact ⟨rfl, (by repeat (first | exact Below.refl _ _ | apply Below.drew | apply below_drewN | assumption | (refine Below.alloc ?_ (by simp) _)))⟩

set_option maxHeartbeats 1000000 in
theorem right_s (k : Nat) (N M : Int) (S : ByteArray) (w : World) (hk : k < 30) (hS : ShapesAt w) (pn : (shp k).2.1 = true ∨ ((shp k).2.1 = false ∧ (N != 0) = false)) (pm : (shp k).2.2.1 = true ∨ ((shp k).2.2.1 = false ∧ (M != 0) = false)) (f3 : (shp k).2.2.2 = false) (hE : S.toList.isEmpty = false) :
    Calls Tryd.prog 83 #[.agg #[.int .i64 (k : Int), .int .i64 N, .int .i64 M, .string S]] w fun e w' => e = .returned (.bool false) ∧ Below w.heap.size w w' := by
  obtain ⟨a, n, cap, h1, h2, h3, h4, _, _, hlt⟩ := hS.at_ hk
  rw [f3] at h4
  clear f3
  rcases pn with f1 | ⟨f1, hN⟩ <;> rcases pm with f2 | ⟨f2, hM⟩
  all_goals
    rw [f1] at h2
    rw [f2] at h3
    clear f1 f2
    go_enter Tryd.func83, Tryd.ntmps83
    go_wp2
    go_ret
    exact ⟨rfl, (by repeat (first | exact Below.refl _ _ | apply Below.drew | apply below_drewN | assumption | (refine Below.alloc ?_ (by simp) _)))⟩

set_option maxHeartbeats 1000000 in
theorem right_name (k : Nat) (N M : Int) (S : ByteArray) (w : World) (hk : k < 30) (hS : ShapesAt w) (hs : S.size ≤ maxLen) (pn : (shp k).2.1 = true ∨ ((shp k).2.1 = false ∧ (N != 0) = false)) (pm : (shp k).2.2.1 = true ∨ ((shp k).2.2.1 = false ∧ (M != 0) = false)) (f3 : (shp k).2.2.2 = true) (hE : nameB S = false) :
    Calls Tryd.prog 83 #[.agg #[.int .i64 (k : Int), .int .i64 N, .int .i64 M, .string S]] w fun e w' => e = .returned (.bool false) ∧ Below w.heap.size w w' := by
  obtain ⟨a, n, cap, h1, h2, h3, h4, _, _, hlt⟩ := hS.at_ hk
  rw [f3] at h4
  clear f3
  rcases pn with f1 | ⟨f1, hN⟩ <;> rcases pm with f2 | ⟨f2, hM⟩
  all_goals
    rw [f1] at h2
    rw [f2] at h3
    clear f1 f2
    go_enter Tryd.func83, Tryd.ntmps83
    go_wp2_with (go_at_call 75; refine (name_any _ hs _).mono ?_; rintro e w' ⟨rfl, rfl⟩)
    go_ret
    exact ⟨rfl, (by repeat (first | exact Below.refl _ _ | apply Below.drew | apply below_drewN | assumption | (refine Below.alloc ?_ (by simp) _)))⟩

set_option maxHeartbeats 1000000 in
theorem right_plain (k : Nat) (N M : Int) (S : ByteArray) (w : World) (hk : k < 30) (hS : ShapesAt w) (hs : S.size ≤ maxLen) (f1 : (shp k).2.1 = false) (f2 : (shp k).2.2.1 = false) (hN : (N != 0) = false) (hM : (M != 0) = false) (ps : ((shp k).2.2.2 = false ∧ S.toList.isEmpty = true) ∨ ((shp k).2.2.2 = true ∧ nameB S = true)) (k2 : ((k : Int) == 2) = false) (k26 : ((k : Int) == 26) = false) (k27 : ((k : Int) == 27) = false) :
    Calls Tryd.prog 83 #[.agg #[.int .i64 (k : Int), .int .i64 N, .int .i64 M, .string S]] w fun e w' => e = .returned (.bool true) ∧ Below w.heap.size w w' := by
  obtain ⟨a, n, cap, h1, h2, h3, h4, _, _, hlt⟩ := hS.at_ hk
  rw [f1] at h2
  rw [f2] at h3
  clear f1 f2
  rcases ps with ⟨f3, hE⟩ | ⟨f3, hE⟩
  all_goals
    rw [f3] at h4
    clear f3
    go_enter Tryd.func83, Tryd.ntmps83
    go_wp2_with (go_at_call 75; refine (name_any _ hs _).mono ?_; rintro e w' ⟨rfl, rfl⟩)
    go_quiet (fail)
    go_wp2
    go_ret
    exact ⟨rfl, (by repeat (first | exact Below.refl _ _ | apply Below.drew | apply below_drewN | assumption | (refine Below.alloc ?_ (by simp) _)))⟩

set_option maxHeartbeats 1000000 in
theorem right_num (k : Nat) (N M : Int) (S : ByteArray) (w : World) (hk : k < 30) (hS : ShapesAt w) (f1 : (shp k).2.1 = true) (f2 : (shp k).2.2.1 = false) (f3 : (shp k).2.2.2 = false) (hM : (M != 0) = false) (hE : S.toList.isEmpty = true) (k2 : ((k : Int) == 2) = false) (k26 : ((k : Int) == 26) = false) (k27 : ((k : Int) == 27) = false) :
    Calls Tryd.prog 83 #[.agg #[.int .i64 (k : Int), .int .i64 N, .int .i64 M, .string S]] w fun e w' => e = .returned (.bool (decide (0 ≤ N) && decide (N ≤ if k = 0 then 99 else if k = 3 ∨ k = 6 then 3 else 5))) ∧ Below w.heap.size w w' := by
  obtain ⟨a, n, cap, h1, h2, h3, h4, _, _, hlt⟩ := hS.at_ hk
  rw [f1] at h2
  rw [f2] at h3
  rw [f3] at h4
  clear f1 f2 f3
  obtain ⟨m, hm⟩ : ∃ m : Int, (if k = 0 then 99 else if k = 3 ∨ k = 6 then 3 else 5) = m := ⟨_, rfl⟩
  rw [hm]
  have HM := Lib.hid hm; clear hm
  have HQ : Hid (∀ w, Calls Tryd.prog 91 #[.int .i64 (k : Int)] w fun e w' => e = .returned (.int .i64 m) ∧ w' = w) := by
    intro w
    rw [← HM.out]
    exact (most_any k w).mono fun _ _ h => ⟨h.1, h.2.symm⟩
  by_cases hN : 0 ≤ N
  · have d1 : decide (0 ≤ N) = true := by simpa using hN
    rw [d1]
    go_enter Tryd.func83, Tryd.ntmps83
    go_wp2
    go_quiet ((go_at_call 91; exact Calls.quiet_of_same (HQ.out _)))
    go_wp2
    go_ret
    exact ⟨rfl, (by repeat (first | exact Below.refl _ _ | apply Below.drew | apply below_drewN | assumption | (refine Below.alloc ?_ (by simp) _)))⟩
  · have d1 : decide (0 ≤ N) = false := by simpa using hN
    rw [d1]
    go_enter Tryd.func83, Tryd.ntmps83
    go_wp2
    go_quiet (fail)
    go_wp2
    go_ret
    exact ⟨rfl, (by repeat (first | exact Below.refl _ _ | apply Below.drew | apply below_drewN | assumption | (refine Below.alloc ?_ (by simp) _)))⟩


end Go.Proofs.YteldkcpkamgfpaaDoor

namespace Go.Proofs.YteldkcpkamgfpaaDoor
set_option linter.unusedSimpArgs false
set_option linter.unusedVariables false
open Go.RowKit

theorem below_two {w w1 : World} {o1 o2 : Obj} (hb : Below (w.heap.size + 1 + 1) ((w.alloc o1).alloc o2) w1) : Below w.heap.size w w1 :=
  ((((Below.refl _ _).alloc (Nat.le_refl _) _).alloc (by simp) _).trans (hb.mono (by omega)))

set_option maxHeartbeats 1000000 in
theorem right_sort (N M : Int) (S : ByteArray) (w : World) (hS : ShapesAt w) (hM : (M != 0) = false) (hE : S.toList.isEmpty = true) :
    Calls Tryd.prog 83 #[.agg #[.int .i64 2, .int .i64 N, .int .i64 M, .string S]] w fun e w' => e = .returned (.bool (lv N)) ∧ Below w.heap.size w w' := by
  obtain ⟨a, n, cap, h1, h2, h3, h4, _, _, hlt⟩ := hS.at_ (k := 2) (by omega)
  simp only [shp] at h2 h3 h4
  cases hx : lv N
  all_goals
    have HX := Lib.hid hx; clear hx
    go_enter Tryd.func83, Tryd.ntmps83
    go_wp2_with fail
    refine (check_any _ _).mono ?_
    rintro e w1 ⟨rfl, hb⟩
    simp only [World.size_alloc] at hb
    have hb2 := below_two hb; clear hb
    rw [HX.out]
    go_wp2
    go_ret
    exact ⟨rfl, hb2⟩

set_option maxHeartbeats 1000000 in
theorem right_elim (N M : Int) (S : ByteArray) (w : World) (hS : ShapesAt w) (hs : S.size ≤ maxLen) (hN : (N != 0) = false) (hE : nameB S = true) :
    Calls Tryd.prog 83 #[.agg #[.int .i64 27, .int .i64 N, .int .i64 M, .string S]] w fun e w' => e = .returned (.bool (decide (0 ≤ M) && decide (M ≤ 6))) ∧ Below w.heap.size w w' := by
  obtain ⟨a, n, cap, h1, h2, h3, h4, _, _, hlt⟩ := hS.at_ (k := 27) (by omega)
  simp only [shp] at h2 h3 h4
  by_cases h0 : 0 ≤ M
  · have d0 : decide (0 ≤ M) = true := by simpa using h0
    rw [d0]
    go_enter Tryd.func83, Tryd.ntmps83
    go_wp2_with (go_at_call 75; refine (name_any _ hs _).mono ?_; rintro e w' ⟨rfl, rfl⟩)
    go_ret
    exact ⟨rfl, (by repeat (first | exact Below.refl _ _ | apply Below.drew | apply below_drewN | assumption | (refine Below.alloc ?_ (by simp) _)))⟩
  · have d0 : decide (0 ≤ M) = false := by simpa using h0
    rw [d0]
    go_enter Tryd.func83, Tryd.ntmps83
    go_wp2_with (go_at_call 75; refine (name_any _ hs _).mono ?_; rintro e w' ⟨rfl, rfl⟩)
    go_ret
    exact ⟨rfl, (by repeat (first | exact Below.refl _ _ | apply Below.drew | apply below_drewN | assumption | (refine Below.alloc ?_ (by simp) _)))⟩

set_option maxHeartbeats 2000000 in
theorem right_con (N M : Int) (S : ByteArray) (w : World) (hS : ShapesAt w) (hs : S.size ≤ maxLen) (hE : nameB S = true) :
    Calls Tryd.prog 83 #[.agg #[.int .i64 26, .int .i64 N, .int .i64 M, .string S]] w fun e w' => e = .returned (.bool (decide (0 ≤ N) && decide (N ≤ 5) && decide (0 ≤ M) && decide (M ≤ 6))) ∧ Below w.heap.size w w' := by
  obtain ⟨a, n, cap, h1, h2, h3, h4, _, _, hlt⟩ := hS.at_ (k := 26) (by omega)
  simp only [shp] at h2 h3 h4
  have HQ : Hid (∀ w, Calls Tryd.prog 91 #[.int .i64 26] w fun e w' => e = .returned (.int .i64 5) ∧ w' = w) := by
    intro w
    exact (most_any 26 w).mono fun _ _ h => ⟨h.1, h.2.symm⟩
  cases d0 : decide (0 ≤ N) <;> cases d1 : decide (N ≤ 5) <;> cases d2 : decide (0 ≤ M)
  all_goals
    go_enter Tryd.func83, Tryd.ntmps83
    go_wp2_with (go_at_call 75; refine (name_any _ hs _).mono ?_; rintro e w' ⟨rfl, rfl⟩)
    go_quiet ((go_at_call 91; exact Calls.quiet_of_same (HQ.out _)))
    go_wp2
    go_ret
    exact ⟨rfl, (by repeat (first | exact Below.refl _ _ | apply Below.drew | apply below_drewN | assumption | (refine Below.alloc ?_ (by simp) _)))⟩

theorem shp_sum : ∀ k, k < 30 → (shp k).2 = (true, false, false) ∨ (shp k).2 = (false, false, true) ∨ (shp k).2 = (false, false, false) ∨ ((shp k).2 = (true, true, true) ∧ k = 26) ∨ ((shp k).2 = (false, true, true) ∧ k = 27) := by decide
theorem shp_k2 : ∀ k, k < 30 → (shp k).2 = (false, false, true) ∨ (shp k).2 = (false, false, false) → k ≠ 2 ∧ k ≠ 26 ∧ k ≠ 27 := by decide
theorem shp_kn : ∀ k, k < 30 → (shp k).2 = (true, false, false) → k ≠ 26 ∧ k ≠ 27 := by decide

theorem kne {k m : Nat} (h : k ≠ m) : (((k : Nat) : Int) == (m : Int)) = false := by simp; omega

theorem sizeB (S : ByteArray) : (S.size == 0) = S.toList.isEmpty := by rw [size0]; rfl

set_option maxHeartbeats 400000 in
theorem right_any (n : Nd) (w : World) (hS : ShapesAt w) (hs : n.S.size ≤ maxLen) :
    Calls Tryd.prog 83 #[.agg #[.int .i64 n.K, .int .i64 n.N, .int .i64 n.M, .string n.S]] w fun e w' => e = .returned (.bool (rightB n)) ∧ Below w.heap.size w w' := by
  obtain ⟨K, N, M, S⟩ := n
  simp only at hs ⊢
  by_cases hneg : K < 0
  · have hr : rightB ⟨K, N, M, S⟩ = false := by
      have : decide (0 ≤ K) = false := by simp; omega
      simp only [rightB, this, Bool.false_and]
    rw [hr]
    clear hr
    go_enter Tryd.func83, Tryd.ntmps83
    go_wp2
    go_ret
    exact ⟨rfl, (by repeat (first | exact Below.refl _ _ | apply Below.drew | apply below_drewN | assumption | (refine Below.alloc ?_ (by simp) _)))⟩
  by_cases hbig : 29 < K
  · have hr : rightB ⟨K, N, M, S⟩ = false := by
      have : decide (K ≤ 29) = false := by simp; omega
      simp only [rightB, this, Bool.false_and, Bool.and_false]
    rw [hr]
    clear hr
    have h30 : 30 ≤ K := by omega
    go_enter Tryd.func83, Tryd.ntmps83
    go_wp2
    go_ret
    exact ⟨rfl, (by repeat (first | exact Below.refl _ _ | apply Below.drew | apply below_drewN | assumption | (refine Below.alloc ?_ (by simp) _)))⟩
  obtain ⟨k, rfl⟩ := Int.eq_ofNat_of_zero_le (show 0 ≤ K by omega)
  have hk : k < 30 := by omega
  have hr : rightB ⟨(k : Int), N, M, S⟩ = ((if (shp k).2.1 then decide (0 ≤ N) && decide (N ≤ mostN k) else N == 0) && (if (shp k).2.2.1 then decide (0 ≤ M) && decide (M ≤ 6) else M == 0) && (if (shp k).2.2.2 then nameB S else S.toList.isEmpty)) := by
    have a1 : decide ((0 : Int) ≤ (k : Int)) = true := by simp
    have a2 : decide ((k : Int) ≤ 29) = true := by simp; omega
    simp only [rightB, a1, a2, Bool.true_and, Int.toNat_natCast, sizeB]
  rw [hr]
  clear hr
  have bN : (N != 0) = !(N == 0) := rfl
  have bM : (M != 0) = !(M == 0) := rfl
  rcases shp_sum k hk with h | h | h | ⟨h, rfl⟩ | ⟨h, rfl⟩
  all_goals
    have f1 : (shp _).2.1 = _ := congrArg (·.1) h
    have f2 : (shp _).2.2.1 = _ := congrArg (·.2.1) h
    have f3 : (shp _).2.2.2 = _ := congrArg (·.2.2) h
    simp only at f1 f2 f3
    rw [f1, f2, f3]
    simp only [if_true, if_false, Bool.false_eq_true]
  · obtain ⟨k26, k27⟩ := shp_kn k hk h
    cases hM : (M == 0)
    · have := right_m k N M S w hk hS (.inl f1) f2 (by rw [bM, hM]; rfl)
      simpa using this
    · cases hE : S.toList.isEmpty
      · have := right_s k N M S w hk hS (.inl f1) (.inr ⟨f2, by rw [bM, hM]; rfl⟩) f3 hE
        simpa using this
      · by_cases h2 : k = 2
        · subst h2
          have := right_sort N M S w hS (by rw [bM, hM]; rfl) hE
          simpa [lv, mostN] using this
        · have := right_num k N M S w hk hS f1 f2 f3 (by rw [bM, hM]; rfl) hE (kne h2) (kne k26) (kne k27)
          have e : mostN k = if k = 0 then 99 else if k = 3 ∨ k = 6 then 3 else 5 := by simp [mostN, h2]
          rw [e]
          simpa using this
  · obtain ⟨h2, k26, k27⟩ := shp_k2 k hk (.inl h)
    cases hN : (N == 0)
    · have := right_n k N M S w hk hS f1 (by rw [bN, hN]; rfl)
      simpa using this
    · cases hM : (M == 0)
      · have := right_m k N M S w hk hS (.inr ⟨f1, by rw [bN, hN]; rfl⟩) f2 (by rw [bM, hM]; rfl)
        simpa using this
      · cases hE : nameB S
        · have := right_name k N M S w hk hS hs (.inr ⟨f1, by rw [bN, hN]; rfl⟩) (.inr ⟨f2, by rw [bM, hM]; rfl⟩) f3 hE
          simpa using this
        · have := right_plain k N M S w hk hS hs f1 f2 (by rw [bN, hN]; rfl) (by rw [bM, hM]; rfl) (.inr ⟨f3, hE⟩) (kne h2) (kne k26) (kne k27)
          simpa using this
  · obtain ⟨h2, k26, k27⟩ := shp_k2 k hk (.inr h)
    cases hN : (N == 0)
    · have := right_n k N M S w hk hS f1 (by rw [bN, hN]; rfl)
      simpa using this
    · cases hM : (M == 0)
      · have := right_m k N M S w hk hS (.inr ⟨f1, by rw [bN, hN]; rfl⟩) f2 (by rw [bM, hM]; rfl)
        simpa using this
      · cases hE : S.toList.isEmpty
        · have := right_s k N M S w hk hS (.inr ⟨f1, by rw [bN, hN]; rfl⟩) (.inr ⟨f2, by rw [bM, hM]; rfl⟩) f3 hE
          simpa using this
        · have := right_plain k N M S w hk hS hs f1 f2 (by rw [bN, hN]; rfl) (by rw [bM, hM]; rfl) (.inl ⟨f3, hE⟩) (kne h2) (kne k26) (kne k27)
          simpa using this
  · cases hE : nameB S
    · have := right_name 26 N M S w hk hS hs (.inl f1) (.inl f2) f3 hE
      simpa using this
    · have := right_con N M S w hS hs hE
      simpa [mostN, Bool.and_assoc] using this
  · cases hN : (N == 0)
    · have := right_n 27 N M S w hk hS f1 (by rw [bN, hN]; rfl)
      simpa using this
    · cases hE : nameB S
      · have := right_name 27 N M S w hk hS hs (.inr ⟨f1, by rw [bN, hN]; rfl⟩) (.inl f2) f3 hE
        simpa using this
      · have := right_elim N M S w hS hs (by rw [bN, hN]; rfl) hE
        simpa using this

end Go.Proofs.YteldkcpkamgfpaaDoor

namespace Go.Proofs.YteldkcpkamgfpaaDoor
set_option linter.unusedSimpArgs false
set_option linter.unusedVariables false
open Go.RowKit

theorem Tryd.infoInt : (Tryd.prog.info? 3).map (fun i => (i.zero, i.size, i.bytes)) = some (some (.int .i64 0), 1, 8) := by kernel_rfl
theorem Tryd.infoNode : (Tryd.prog.info? 30).map (fun i => (i.zero, i.size, i.bytes)) = some (some (.agg #[.int .i64 0, .int .i64 0, .int .i64 0, .string ByteArray.empty]), 4, 40) := by kernel_rfl

theorem right_kind {n : Nd} (h : rightB n = true) : ∃ k : Nat, n.K = k ∧ k < 30 := by
  simp only [rightB, Bool.and_eq_true, decide_eq_true_eq] at h
  obtain ⟨⟨⟨⟨h1, h2⟩, _⟩, _⟩, _⟩ := h
  obtain ⟨k, hk⟩ := Int.eq_ofNat_of_zero_le h1
  exact ⟨k, hk, by omega⟩
theorem right_M {n : Nd} (h : rightB n = true) (hk : n.K = 26 ∨ n.K = 27) : 0 ≤ n.M ∧ n.M ≤ 6 := by
  simp only [rightB, Bool.and_eq_true] at h
  obtain ⟨⟨_, h1⟩, _⟩ := h
  rcases hk with e | e <;> rw [e] at h1 <;> simpa [shp] using h1

set_option maxHeartbeats 1000000 in
theorem many_any (n : Nd) (w : World) (hS : ShapesAt w) (hr : rightB n = true) :
    Calls Tryd.prog 48 #[.agg #[.int .i64 n.K, .int .i64 n.N, .int .i64 n.M, .string n.S]] w fun e w' => e = .returned (.int .i64 (arity n : Int)) ∧ Below w.heap.size w w' := by
  obtain ⟨k, hK, hk⟩ := right_kind hr
  by_cases h26 : k = 26
  · have hm := right_M hr (.inl (by omega))
    have ha : (arity n : Int) = n.M := by
      unfold arity bnds
      rw [if_pos (by omega), List.length_replicate]
      omega
    rw [ha, hK]
    clear ha
    subst h26
    go_enter Tryd.func48, Tryd.ntmps48
    go_wp2
    go_ret
    exact ⟨rfl, (by repeat (first | exact Below.refl _ _ | apply Below.drew | apply below_drewN | assumption | (refine Below.alloc ?_ (by simp) _)))⟩
  · by_cases h27 : k = 27
    · have hm := right_M hr (.inr (by omega))
      have ha : (arity n : Int) = n.M + 2 := by
        unfold arity bnds
        rw [if_neg (by omega), if_pos (by omega)]
        simp
        omega
      rw [ha, hK]
      clear ha
      subst h27
      obtain ⟨hm0, hm1⟩ := hm
      go_enter Tryd.func48, Tryd.ntmps48
      go_wp2
      go_ret
      exact ⟨rfl, (by repeat (first | exact Below.refl _ _ | apply Below.drew | apply below_drewN | assumption | (refine Below.alloc ?_ (by simp) _)))⟩
    · obtain ⟨a, m, cap, h1, h2, h3, h4, h5, h6, hlt⟩ := hS.at_ hk
      have ha : arity n = m := by
        unfold arity bnds
        rw [if_neg (by omega), if_neg (by omega), hK]
        exact h6.symm
      rw [ha, hK]
      have b1 := kne h26
      have b2 := kne h27
      clear ha h6 h5 h2 h3 h4 hK h26 h27 hr
      go_enter Tryd.func48, Tryd.ntmps48
      go_wp2
      go_ret
      exact ⟨rfl, (by repeat (first | exact Below.refl _ _ | apply Below.drew | apply below_drewN | assumption | (refine Below.alloc ?_ (by simp) _)))⟩

def ClonedcloneI (w : World) (n : Nat) (cs : List Value) (e : Ending) (w' : World) : Prop := ∃ v, e = .returned v ∧ RowAt w' 1 v n cs ∧ Below w.heap.size w w'

set_option maxHeartbeats 1000000 in
theorem cloneI_any (v : Value) (n : Nat) (cs : List Value) (w : World) (hv : RowAt w 1 v n cs) (hone : ∀ u, u ∈ cs → u.oneCell' = true) (hn : Hid (n ≤ 1000000000)) :
    Calls Tryd.prog 98 #[v] w (ClonedcloneI w n cs) := by
  obtain ⟨i0, hi, hz0, hz1, hz2⟩ := info_parts Tryd.infoInt
  have hv0 := hv
  obtain ⟨a, cap, rfl, hc1, hc2, hc3⟩ := hv0.form
  have HV := Lib.hid hv; clear hv
  have H3 := Lib.hid hc3; clear hc3 hv0
  cases a with
  | none =>
    have h0 : n = 0 := by
      rcases Nat.eq_zero_or_pos n with h | h
      · exact h
      · obtain ⟨b, off, hb, _⟩ := H3.out h; cases hb
    subst h0
    have hcs : cs = [] := List.eq_nil_of_length_eq_zero (by simpa using HV.out.len)
    have HC := Lib.hid hcs; clear hcs
    have hq := fun w n c => Lib.run_eql_slice_nil (P := Tryd.prog) w 45 3 none n c 0 0 Tryd.underlying45
    go_enter Tryd.func98, Tryd.ntmps98
    go_wp2
    go_ret
    exact ⟨_, rfl, by rw [HC.out]; exact RowAt.nil w 1, Below.refl _ _⟩
  | some ad =>
    have hq := fun w n c => Lib.run_eql_slice_nil (P := Tryd.prog) w 45 3 (some ad) n c 0 0 Tryd.underlying45
    go_enter Tryd.func98, Tryd.ntmps98
    go_wp2_with (at_builtin; go_must (refine wpList_append_row rfl (.tmp 5) (.tmp 6) 45 rfl w.heap.size 3 i0 (.int .i64 0) 1 8 Tryd.underlying45 hi hz0 hz1 hz2 rfl (by decide) (.slice (some ⟨w.heap.size, 0, none⟩) 0 0) 0 [] rfl (World.ownsRow_lit (size := 1) w #[] 0 (Nat.le_refl _) (by unfold maxLen; omega) rfl) _ n cs rfl (RowAt.alloc HV.out _) hone (by have := hn.out; omega) (by have := hn.out; unfold maxLen; omega) (by simp) ?_); intro v' w1 hown hg hat)
    have hr : RowAt w1 1 v' n cs := by have hr := RowAt.of_own hown; simpa using hr
    have hb1 : Below w.heap.size w w1 := ((Below.refl _ w).alloc (Nat.le_refl _) _).grown hg (by simp) (fun k hk => by simp [Value.ownBlock] at hk; omega)
    have HR := Lib.hid hr
    clear hown hg hat hr hone
    go_wp2
    go_ret
    exact ⟨_, rfl, HR.out, hb1⟩

def ClonedcloneN (w : World) (n : Nat) (cs : List Value) (e : Ending) (w' : World) : Prop := ∃ v, e = .returned v ∧ RowAt w' 4 v n cs ∧ Below w.heap.size w w'

set_option maxHeartbeats 1000000 in
theorem cloneN_any (v : Value) (n : Nat) (cs : List Value) (w : World) (hv : RowAt w 4 v n cs) (hone : ∀ u, u ∈ cs → u.oneCell' = true) (hn : Hid (n ≤ 1000000000)) :
    Calls Tryd.prog 50 #[v] w (ClonedcloneN w n cs) := by
  obtain ⟨i0, hi, hz0, hz1, hz2⟩ := info_parts Tryd.infoNode
  have hv0 := hv
  obtain ⟨a, cap, rfl, hc1, hc2, hc3⟩ := hv0.form
  have HV := Lib.hid hv; clear hv
  have H3 := Lib.hid hc3; clear hc3 hv0
  cases a with
  | none =>
    have h0 : n = 0 := by
      rcases Nat.eq_zero_or_pos n with h | h
      · exact h
      · obtain ⟨b, off, hb, _⟩ := H3.out h; cases hb
    subst h0
    have hcs : cs = [] := List.eq_nil_of_length_eq_zero (by simpa using HV.out.len)
    have HC := Lib.hid hcs; clear hcs
    have hq := fun w n c => Lib.run_eql_slice_nil (P := Tryd.prog) w 22 30 none n c 0 0 Tryd.underlying22
    go_enter Tryd.func50, Tryd.ntmps50
    go_wp2
    go_ret
    exact ⟨_, rfl, by rw [HC.out]; exact RowAt.nil w 4, Below.refl _ _⟩
  | some ad =>
    have hq := fun w n c => Lib.run_eql_slice_nil (P := Tryd.prog) w 22 30 (some ad) n c 0 0 Tryd.underlying22
    go_enter Tryd.func50, Tryd.ntmps50
    go_wp2_with (at_builtin; go_must (refine wpList_append_row rfl (.tmp 5) (.tmp 6) 22 rfl w.heap.size 30 i0 (.agg #[.int .i64 0, .int .i64 0, .int .i64 0, .string ByteArray.empty]) 4 40 Tryd.underlying22 hi hz0 hz1 hz2 rfl (by decide) (.slice (some ⟨w.heap.size, 0, none⟩) 0 0) 0 [] rfl (World.ownsRow_lit (size := 4) w #[] 0 (Nat.le_refl _) (by unfold maxLen; omega) rfl) _ n cs rfl (RowAt.alloc HV.out _) hone (by have := hn.out; omega) (by have := hn.out; unfold maxLen; omega) (by simp) ?_); intro v' w1 hown hg hat)
    have hr : RowAt w1 4 v' n cs := by have hr := RowAt.of_own hown; simpa using hr
    have hb1 : Below w.heap.size w w1 := ((Below.refl _ w).alloc (Nat.le_refl _) _).grown hg (by simp) (fun k hk => by simp [Value.ownBlock] at hk; omega)
    have HR := Lib.hid hr
    clear hown hg hat hr hone
    go_wp2
    go_ret
    exact ⟨_, rfl, HR.out, hb1⟩

end Go.Proofs.YteldkcpkamgfpaaDoor

namespace Go.Proofs.YteldkcpkamgfpaaDoor
set_option linter.unusedSimpArgs false
set_option linter.unusedVariables false
open Go.RowKit

def BindsPost (n : Nd) (w : World) (e : Ending) (w' : World) : Prop :=
  ∃ v, e = .returned (.tuple #[v, .bool (rightB n)]) ∧ ReadI w' v (if rightB n = true then (bnds n).map Int.ofNat else []) ∧ Below w.heap.size w w'

/-- the cells of a node that has been boxed, behind a call that made memory -/
theorem box_cells {w w1 : World} {K N M : Int} {S : ByteArray} {e : TypeId} (hb : Below (w.heap.size + 1) (w.alloc (.cells #[.int .i64 K, .int .i64 N, .int .i64 M, .string S] e)) w1) :
    w1.cell? ⟨w.heap.size, 0, none⟩ = some (.int .i64 K) ∧ w1.cell? ⟨w.heap.size, 1, none⟩ = some (.int .i64 N) ∧ w1.cell? ⟨w.heap.size, 2, none⟩ = some (.int .i64 M) ∧ w1.cell? ⟨w.heap.size, 3, none⟩ = some (.string S) ∧ w.heap.size < w1.heap.size := by
  refine ⟨?_, ?_, ?_, ?_, ?_⟩
  · rw [hb.cell (p := ⟨w.heap.size, 0, none⟩) (by simp), World.cell?_alloc_new]; rfl
  · rw [hb.cell (p := ⟨w.heap.size, 1, none⟩) (by simp), World.cell?_alloc_new]; rfl
  · rw [hb.cell (p := ⟨w.heap.size, 2, none⟩) (by simp), World.cell?_alloc_new]; rfl
  · rw [hb.cell (p := ⟨w.heap.size, 3, none⟩) (by simp), World.cell?_alloc_new]; rfl
  · have := hb.size; simp at this; omega

theorem below_box {w w1 : World} {o : Obj} (hb : Below (w.heap.size + 1) (w.alloc o) w1) : Below w.heap.size w w1 :=
  ((Below.refl _ w).alloc (Nat.le_refl _) o).trans (hb.mono (by omega))

theorem map_repl (m : Nat) : (List.replicate m (0 : Nat)).map Int.ofNat = List.replicate m (0 : Int) := by simp
theorem ints_repl (m : Nat) : (List.replicate m (0 : Int)).map (Value.int .i64) = List.replicate m (.int .i64 0) := by simp

theorem read_of_own {w : World} {base : Nat} {e : TypeId} {v : Value} {l : List Int} {n : Nat} {xs : List Value} (h : w.ownsRow base e 1 v n xs) (hn : n = l.length) (hx : xs = l.map (.int .i64)) : ReadI w v l := by
  subst hn; subst hx
  exact RowAt.of_own h

theorem shp_len : ∀ k, k < 30 → (shp k).1.length ≤ 6 := by decide

set_option maxRecDepth 20000 in
set_option maxHeartbeats 2000000 in
theorem binds_any (n : Nd) (w : World) (hS : ShapesAt w) (hs : n.S.size ≤ maxLen) :
    Calls Tryd.prog 97 #[.agg #[.int .i64 n.K, .int .i64 n.N, .int .i64 n.M, .string n.S]] w (BindsPost n w) := by
  obtain ⟨i0, hi, hz0, hz1, hz2⟩ := info_parts Tryd.infoInt
  cases hr : rightB n
  · have HR := Lib.hid hr
    go_enter Tryd.func97, Tryd.ntmps97
    go_wp2_with fail
    refine (right_any n _ (hS.alloc _) hs).mono ?_
    rintro e w1 ⟨rfl, hb⟩
    rw [hr]
    clear hr
    simp only [World.size_alloc] at hb
    have hb0 := below_box hb
    clear hb
    go_wp2
    go_ret2
    exact ⟨.slice none 0 0, by rw [HR.out]; rfl, by rw [HR.out]; exact RowAt.nil _ _, hb0⟩
  · obtain ⟨k, hK, hk⟩ := right_kind hr
    have HR := Lib.hid hr
    by_cases h26 : k = 26
    · obtain ⟨m0, m1⟩ := right_M hr (.inl (by omega))
      obtain ⟨m, hm⟩ := Int.eq_ofNat_of_zero_le m0
      have hbn : Hid (bnds n = List.replicate m 0) := by
        show bnds n = _
        unfold bnds
        rw [if_pos (by omega), hm]; rfl
      have hm6 : m ≤ 6 := by omega
      have hmk := fun w => run_make_zeros (P := Tryd.prog) 45 3 i0 Tryd.underlying45 hi hz0 hz1 hz2 m (by omega) w
      have e26 : (n.K == 26) = true := by rw [hK, h26]; rfl
      have HM := Lib.hid hm
      have HK := Lib.hid hK
      clear hK h26 hm
      go_enter Tryd.func97, Tryd.ntmps97
      go_wp2_with fail
      refine (right_any n _ (hS.alloc _) hs).mono ?_
      rintro e w1 ⟨rfl, hb⟩
      rw [hr]
      clear hr
      simp only [World.size_alloc] at hb
      rw [HM.out] at hb
      obtain ⟨c0, c1, c2, c3, hlt⟩ := box_cells hb
      have hb0 := below_box hb
      clear hb m0 m1
      go_wp2
      go_ret2
      refine ⟨.slice (some ⟨w1.heap.size, 0, none⟩) m m, by rw [HR.out]; rfl, ?_, hb0.alloc hb0.size _⟩
      rw [if_pos HR.out, hbn.out, map_repl]
      have := ReadI.lit w1 3 (List.replicate m (0 : Int)) (by simp; unfold maxLen; omega)
      simpa [ints_repl] using this
    · by_cases h27 : k = 27
      · obtain ⟨m0, m1⟩ := right_M hr (.inr (by omega))
        obtain ⟨m, hm⟩ := Int.eq_ofNat_of_zero_le m0
        have hbn : Hid (bnds n = 1 :: List.replicate (m + 1) 0) := by
          show bnds n = _
          unfold bnds
          rw [if_neg (by omega), if_pos (by omega), hm]; rfl
        have e26 : (n.K == 26) = false := by rw [hK, h27]; rfl
        have e27 : (n.K == 27) = true := by rw [hK, h27]; rfl
        have HM := Lib.hid hm
        have HK := Lib.hid hK
        clear hK h26 h27 hm
        go_enter Tryd.func97, Tryd.ntmps97
        go_wp2_with fail
        refine (right_any n _ (hS.alloc _) hs).mono ?_
        rintro e w1 ⟨rfl, hb⟩
        rw [hr]
        clear hr
        simp only [World.size_alloc] at hb
        rw [HM.out] at hb
        obtain ⟨c0, c1, c2, c3, hlt⟩ := box_cells hb
        have hb0 := below_box hb
        have hm7 : m ≤ 6 := by have := HM.out; omega
        clear hb m0 m1
        obtain ⟨v', w2, hrun, hown, hg⟩ := run_append_zeros (P := Tryd.prog) (w1.alloc (.cells #[.int .i64 1] 3)) 45 3 45 3 i0 Tryd.underlying45 Tryd.underlying3 hi hz0 hz1 hz2 w1.heap.size (.int .i64 1) (heap_alloc_new w1 _) (m + 1) (by omega) (by omega)
        have e1 : ((m + 1 : Nat) : Int) = (m : Int) + 1 := by omega
        rw [e1] at hrun
        have HO := Lib.hid hown; clear hown
        have hb2 : Below w.heap.size w w2 := (hb0.alloc hb0.size _).grown hg (by have := hb0.size; simp; omega) (fun k hk => by cases hk)
        clear hg e1
        have HRUN := Lib.hid hrun; clear hrun
        go_wp2_with (at_builtin; go_must (refine wpList_append_run rfl (.tmp 16) (.tmp 19) 45 3 rfl _ _ rfl rfl HRUN.out ?_))
        go_ret2
        refine ⟨v', by rw [HR.out]; rfl, ?_, hb2⟩
        rw [if_pos HR.out, hbn.out]
        exact read_of_own HO.out (by simp; omega) (by simp)
      · obtain ⟨a, c, cap, h1, h2, h3, h4, h5, h6, hlt0⟩ := hS.at_ hk
        obtain ⟨K, N, M, S⟩ := n
        simp only at hK hs
        subst hK
        have e26 := kne h26
        have e27 := kne h27
        have hbn : Hid (bnds ⟨(k : Int), N, M, S⟩ = (shp k).1) := by
          show bnds _ = _
          unfold bnds
          simp only
          rw [if_neg (by omega), if_neg (by omega)]; rfl
        have H5 := Lib.hid h5; clear h5 h2 h3 h4
        have H6 := Lib.hid h6; clear h6
        clear h26 h27
        go_enter Tryd.func97, Tryd.ntmps97
        go_wp2_with fail
        refine (right_any ⟨(k : Int), N, M, S⟩ _ (hS.alloc _) hs).mono ?_
        rintro e w1 ⟨rfl, hb⟩
        rw [hr]
        clear hr
        simp only [World.size_alloc] at hb
        obtain ⟨c0, c1, c2, c3, hlt⟩ := box_cells hb
        have hb0 := below_box hb
        have g1 := (hb0.cell (p := ⟨0, k * 4, none⟩) hlt0).trans h1
        have hI := Lib.hid (H5.out.below hb0)
        clear hb h1
        have hlen := Lib.hid (shp_len k hk)
        go_wp2_with fail
        refine (cloneI_any _ _ _ _ hI.out (by intro u hu; obtain ⟨x, _, rfl⟩ := List.mem_map.1 hu; rfl) (show _ ≤ _ by have := hlen.out; simp; omega)).mono ?_
        rintro e w2 ⟨v, rfl, hv, hb2⟩
        have HV := Lib.hid hv; clear hv
        have hb3 := hb0.trans (hb2.mono hb0.size)
        clear hb2
        go_wp2
        go_ret2
        exact ⟨v, by rw [HR.out]; rfl, by rw [if_pos HR.out, hbn.out]; exact HV.out, hb3⟩

end Go.Proofs.YteldkcpkamgfpaaDoor

namespace Go.Proofs.YteldkcpkamgfpaaDoor
set_option linter.unusedSimpArgs false
set_option linter.unusedVariables false
open Go.RowKit

def ClonedIO (w : World) (n : Nat) (cs : List Value) (e : Ending) (w' : World) : Prop := ∃ v, e = .returned v ∧ RowAt w' 1 v n cs ∧ (∀ g, v.ownBlock = some g → w.heap.size ≤ g) ∧ Below w.heap.size w w'

set_option maxHeartbeats 1000000 in
theorem cloneI_own (v : Value) (n : Nat) (cs : List Value) (w : World) (hv : RowAt w 1 v n cs) (hone : ∀ u, u ∈ cs → u.oneCell' = true) (hn : Hid (n ≤ 1000000000)) :
    Calls Tryd.prog 98 #[v] w (ClonedIO w n cs) := by
  obtain ⟨i0, hi, hz0, hz1, hz2⟩ := info_parts Tryd.infoInt
  have hv0 := hv
  obtain ⟨a, cap, rfl, hc1, hc2, hc3⟩ := hv0.form
  have HV := Lib.hid hv; clear hv
  have H3 := Lib.hid hc3; clear hc3 hv0
  cases a with
  | none =>
    have h0 : n = 0 := by
      rcases Nat.eq_zero_or_pos n with h | h
      · exact h
      · obtain ⟨b, off, hb, _⟩ := H3.out h; cases hb
    subst h0
    have hcs : cs = [] := List.eq_nil_of_length_eq_zero (by simpa using HV.out.len)
    have HC := Lib.hid hcs; clear hcs
    have hq := fun w n c => Lib.run_eql_slice_nil (P := Tryd.prog) w 45 3 none n c 0 0 Tryd.underlying45
    go_enter Tryd.func98, Tryd.ntmps98
    go_wp2
    go_ret
    exact ⟨_, rfl, by rw [HC.out]; exact RowAt.nil w 1, (fun g h => by cases h), Below.refl _ _⟩
  | some ad =>
    have hq := fun w n c => Lib.run_eql_slice_nil (P := Tryd.prog) w 45 3 (some ad) n c 0 0 Tryd.underlying45
    go_enter Tryd.func98, Tryd.ntmps98
    go_wp2_with (at_builtin; go_must (refine wpList_append_row rfl (.tmp 5) (.tmp 6) 45 rfl w.heap.size 3 i0 (.int .i64 0) 1 8 Tryd.underlying45 hi hz0 hz1 hz2 rfl (by decide) (.slice (some ⟨w.heap.size, 0, none⟩) 0 0) 0 [] rfl (World.ownsRow_lit (size := 1) w #[] 0 (Nat.le_refl _) (by unfold maxLen; omega) rfl) _ n cs rfl (RowAt.alloc HV.out _) hone (by have := hn.out; omega) (by have := hn.out; unfold maxLen; omega) (by simp) ?_); intro v' w1 hown hg hat)
    have hr : RowAt w1 1 v' n cs := by have hr := RowAt.of_own hown; simpa using hr
    have hb1 : Below w.heap.size w w1 := ((Below.refl _ w).alloc (Nat.le_refl _) _).grown hg (by simp) (fun k hk => by simp [Value.ownBlock] at hk; omega)
    have hlt := fun g h => (hown.lt g h).1
    have HR := Lib.hid hr
    have HL := Lib.hid hlt
    clear hown hg hat hr hone hlt
    go_wp2
    go_ret
    exact ⟨_, rfl, HR.out, HL.out, hb1⟩

def BindsOwn (n : Nd) (w : World) (e : Ending) (w' : World) : Prop :=
  ∃ v, e = .returned (.tuple #[v, .bool (rightB n)]) ∧ ReadI w' v (if rightB n = true then (bnds n).map Int.ofNat else []) ∧ (∀ g, v.ownBlock = some g → w.heap.size ≤ g) ∧ Below w.heap.size w w'

set_option maxRecDepth 20000 in
set_option maxHeartbeats 2000000 in
theorem binds_own (n : Nd) (w : World) (hS : ShapesAt w) (hs : n.S.size ≤ maxLen) :
    Calls Tryd.prog 97 #[.agg #[.int .i64 n.K, .int .i64 n.N, .int .i64 n.M, .string n.S]] w (BindsOwn n w) := by
  obtain ⟨i0, hi, hz0, hz1, hz2⟩ := info_parts Tryd.infoInt
  cases hr : rightB n
  · have HR := Lib.hid hr
    go_enter Tryd.func97, Tryd.ntmps97
    go_wp2_with fail
    refine (right_any n _ (hS.alloc _) hs).mono ?_
    rintro e w1 ⟨rfl, hb⟩
    rw [hr]
    clear hr
    simp only [World.size_alloc] at hb
    have hb0 := below_box hb
    clear hb
    go_wp2
    go_ret2
    exact ⟨.slice none 0 0, by rw [HR.out]; rfl, by rw [HR.out]; exact RowAt.nil _ _, (fun g h => by cases h), hb0⟩
  · obtain ⟨k, hK, hk⟩ := right_kind hr
    have HR := Lib.hid hr
    by_cases h26 : k = 26
    · obtain ⟨m0, m1⟩ := right_M hr (.inl (by omega))
      obtain ⟨m, hm⟩ := Int.eq_ofNat_of_zero_le m0
      have hbn : Hid (bnds n = List.replicate m 0) := by
        show bnds n = _
        unfold bnds
        rw [if_pos (by omega), hm]; rfl
      have hm6 : m ≤ 6 := by omega
      have hmk := fun w => run_make_zeros (P := Tryd.prog) 45 3 i0 Tryd.underlying45 hi hz0 hz1 hz2 m (by omega) w
      have e26 : (n.K == 26) = true := by rw [hK, h26]; rfl
      have HM := Lib.hid hm
      have HK := Lib.hid hK
      clear hK h26 hm
      go_enter Tryd.func97, Tryd.ntmps97
      go_wp2_with fail
      refine (right_any n _ (hS.alloc _) hs).mono ?_
      rintro e w1 ⟨rfl, hb⟩
      rw [hr]
      clear hr
      simp only [World.size_alloc] at hb
      rw [HM.out] at hb
      obtain ⟨c0, c1, c2, c3, hlt⟩ := box_cells hb
      have hb0 := below_box hb
      clear hb m0 m1
      go_wp2
      go_ret2
      refine ⟨.slice (some ⟨w1.heap.size, 0, none⟩) m m, by rw [HR.out]; rfl, ?_, (fun g h => by simp [Value.ownBlock] at h; have := hb0.size; omega), hb0.alloc hb0.size _⟩
      rw [if_pos HR.out, hbn.out, map_repl]
      have := ReadI.lit w1 3 (List.replicate m (0 : Int)) (by simp; unfold maxLen; omega)
      simpa [ints_repl] using this
    · by_cases h27 : k = 27
      · obtain ⟨m0, m1⟩ := right_M hr (.inr (by omega))
        obtain ⟨m, hm⟩ := Int.eq_ofNat_of_zero_le m0
        have hbn : Hid (bnds n = 1 :: List.replicate (m + 1) 0) := by
          show bnds n = _
          unfold bnds
          rw [if_neg (by omega), if_pos (by omega), hm]; rfl
        have e26 : (n.K == 26) = false := by rw [hK, h27]; rfl
        have e27 : (n.K == 27) = true := by rw [hK, h27]; rfl
        have HM := Lib.hid hm
        have HK := Lib.hid hK
        clear hK h26 h27 hm
        go_enter Tryd.func97, Tryd.ntmps97
        go_wp2_with fail
        refine (right_any n _ (hS.alloc _) hs).mono ?_
        rintro e w1 ⟨rfl, hb⟩
        rw [hr]
        clear hr
        simp only [World.size_alloc] at hb
        rw [HM.out] at hb
        obtain ⟨c0, c1, c2, c3, hlt⟩ := box_cells hb
        have hb0 := below_box hb
        have hm7 : m ≤ 6 := by have := HM.out; omega
        clear hb m0 m1
        obtain ⟨v', w2, hrun, hown, hg⟩ := run_append_zeros (P := Tryd.prog) (w1.alloc (.cells #[.int .i64 1] 3)) 45 3 45 3 i0 Tryd.underlying45 Tryd.underlying3 hi hz0 hz1 hz2 w1.heap.size (.int .i64 1) (heap_alloc_new w1 _) (m + 1) (by omega) (by omega)
        have e1 : ((m + 1 : Nat) : Int) = (m : Int) + 1 := by omega
        rw [e1] at hrun
        have HO := Lib.hid hown; clear hown
        have hb2 : Below w.heap.size w w2 := (hb0.alloc hb0.size _).grown hg (by have := hb0.size; simp; omega) (fun k hk => by cases hk)
        clear hg e1
        have HRUN := Lib.hid hrun; clear hrun
        go_wp2_with (at_builtin; go_must (refine wpList_append_run rfl (.tmp 16) (.tmp 19) 45 3 rfl _ _ rfl rfl HRUN.out ?_))
        go_ret2
        refine ⟨v', by rw [HR.out]; rfl, ?_, (fun g h => by have h1 := (HO.out.lt g h).1; (try rw [World.size_alloc] at h1); have := hb0.size; omega), hb2⟩
        rw [if_pos HR.out, hbn.out]
        exact read_of_own HO.out (by simp; omega) (by simp)
      · obtain ⟨a, c, cap, h1, h2, h3, h4, h5, h6, hlt0⟩ := hS.at_ hk
        obtain ⟨K, N, M, S⟩ := n
        simp only at hK hs
        subst hK
        have e26 := kne h26
        have e27 := kne h27
        have hbn : Hid (bnds ⟨(k : Int), N, M, S⟩ = (shp k).1) := by
          show bnds _ = _
          unfold bnds
          simp only
          rw [if_neg (by omega), if_neg (by omega)]; rfl
        have H5 := Lib.hid h5; clear h5 h2 h3 h4
        have H6 := Lib.hid h6; clear h6
        clear h26 h27
        go_enter Tryd.func97, Tryd.ntmps97
        go_wp2_with fail
        refine (right_any ⟨(k : Int), N, M, S⟩ _ (hS.alloc _) hs).mono ?_
        rintro e w1 ⟨rfl, hb⟩
        rw [hr]
        clear hr
        simp only [World.size_alloc] at hb
        obtain ⟨c0, c1, c2, c3, hlt⟩ := box_cells hb
        have hb0 := below_box hb
        have g1 := (hb0.cell (p := ⟨0, k * 4, none⟩) hlt0).trans h1
        have hI := Lib.hid (H5.out.below hb0)
        clear hb h1
        have hlen := Lib.hid (shp_len k hk)
        go_wp2_with fail
        refine (cloneI_own _ _ _ _ hI.out (by intro u hu; obtain ⟨x, _, rfl⟩ := List.mem_map.1 hu; rfl) (show _ ≤ _ by have := hlen.out; simp; omega)).mono ?_
        rintro e w2 ⟨v, rfl, hv, hl, hb2⟩
        have HV := Lib.hid hv; clear hv
        have HL := Lib.hid hl; clear hl
        have hb3 := hb0.trans (hb2.mono hb0.size)
        clear hb2
        go_wp2
        go_ret2
        exact ⟨v, by rw [HR.out]; rfl, by rw [if_pos HR.out, hbn.out]; exact HV.out, (fun g h => by have := HL.out g h; have := hb0.size; omega), hb3⟩

end Go.Proofs.YteldkcpkamgfpaaDoor

namespace Go.Proofs.YteldkcpkamgfpaaDoor
set_option linter.unusedSimpArgs false
set_option linter.unusedVariables false
open Go.RowKit

theorem Tryd.infoMeas : (Tryd.prog.info? 102).map (fun i => (i.zero, i.size, i.bytes)) = some (some (.agg #[.int .i64 0, .int .i64 0]), 2, 16) := by kernel_rfl

def meaV (p : Nat × Nat) : List Value := [.int .i64 (p.1 : Int), .int .i64 (p.2 : Int)]
def measL (l : List (Nat × Nat)) : List Value := l.flatMap meaV
theorem measL_length (l : List (Nat × Nat)) : (measL l).length = l.length * 2 := by
  unfold measL
  induction l with
  | nil => rfl
  | cons n r ih => simp [List.flatMap_cons, meaV, ih]; omega
theorem measL_append (a b : List (Nat × Nat)) : measL (a ++ b) = measL a ++ measL b := by unfold measL; rw [List.flatMap_append]
theorem measL_take (l : List (Nat × Nat)) (k : Nat) : (measL l).take (k * 2) = measL (l.take k) := by
  unfold measL
  induction l generalizing k with
  | nil => simp
  | cons n r ih =>
    cases k with
    | zero => simp
    | succ k =>
      rw [List.flatMap_cons, List.take_succ_cons, List.flatMap_cons, List.take_append]
      have e : (k + 1) * 2 - (meaV n).length = k * 2 := by simp [meaV]; omega
      rw [e, ih, List.take_of_length_le (by simp [meaV]; omega)]
theorem measL_get (l : List (Nat × Nat)) (i : Nat) (hi : i < l.length) (j : Nat) (hj : j < 2) : (measL l)[i * 2 + j]? = (meaV l[i])[j]? := by
  unfold measL
  induction l generalizing i with
  | nil => simp at hi
  | cons n r ih =>
    rw [List.flatMap_cons]
    cases i with
    | zero =>
      rw [List.getElem?_append_left (by simp [meaV]; omega)]
      simp
    | succ i =>
      rw [List.getElem?_append_right (by simp [meaV]; omega)]
      have e : (i + 1) * 2 + j - (meaV n).length = i * 2 + j := by simp [meaV]; omega
      rw [e, ih i (by simpa using hi)]
      rfl
theorem measL_one (l : List (Nat × Nat)) : ∀ u, u ∈ measL l → u.oneCell' = true := by
  intro u hu
  obtain ⟨n, _, hn⟩ := List.mem_flatMap.1 hu
  simp [meaV] at hn
  rcases hn with rfl | rfl <;> rfl

/-- all measures so far -/
def tops (l : List Nd) (k : Nat) : List (Nat × Nat) := (List.range k).map (topm l)
theorem tops_length (l : List Nd) (k : Nat) : (tops l k).length = k := by simp [tops]
theorem tops_succ (l : List Nd) (k : Nat) : tops l (k + 1) = tops l k ++ [topm l k] := by simp [tops, List.range_succ]

/-- the nodes' strings are of a size -/
def SmallN (l : List Nd) : Prop := ∀ n, n ∈ l → n.S.size ≤ maxLen

def MeasPost (l : List Nd) (w : World) (e : Ending) (w' : World) : Prop :=
  ∃ v, e = .returned (.tuple #[v, .bool (whole l).isSome]) ∧ ((whole l).isSome = true → w'.ownsRow w.heap.size 102 2 v l.length (measL (tops l l.length))) ∧ Below w.heap.size w w'

/-- what the outer loop holds of its slots and the world -/
def MRel (B : Nat) (w : World) (l : List Nd) (all open_ i : Value) (wr : World) : Prop :=
  ∃ (k : Nat) (st : List Tm), k ≤ l.length ∧ i = .int .i64 (k : Int) ∧ prun [] (l.take k) = some st ∧ wr.ownsRow B 102 2 all k (measL (tops l k)) ∧ wr.ownsRow B 102 2 open_ st.length (measL (opens st)) ∧
    (∀ g, all.ownBlock = some g → open_.ownBlock ≠ some g) ∧ Below B w wr

theorem MRel.start (w : World) (l : List Nd) : MRel w.heap.size w l (.slice none 0 0) (.slice none 0 0) (.int .i64 0) w :=
  ⟨0, [], Nat.zero_le _, rfl, by simp [prun], World.ownsRow_nil _ _ _ _, World.ownsRow_nil _ _ _ _, (fun g h => by cases h), Below.refl _ _⟩

theorem whole_none_of {l : List Nd} {k : Nat} {st : List Tm} (hk : k < l.length) (h : prun [] (l.take k) = some st) (hn : ¬ (rightB l[k] = true ∧ arity l[k] ≤ st.length)) : whole l = none := by
  have h1 : prun [] (l.take (k + 1)) = none := by
    rw [prun_take hk h]
    unfold pstep
    rw [if_neg hn]
  unfold whole
  rw [prun_none h1]

theorem flatL_ge (ts : List Tm) : ts.length ≤ (flatL ts).length := by
  induction ts with
  | nil => simp [flatL_nil]
  | cons t r ih => rw [flatL_cons, List.length_append, List.length_cons]; have := flat_pos t; omega
theorem stack_le {l : List Nd} {k : Nat} {st : List Tm} (h : prun [] (l.take k) = some st) (hk : k ≤ l.length) : st.length ≤ k := by
  have hs := (prun_sound h (fun t ht => by cases ht)).2
  have h1 := flatL_ge st.reverse
  rw [hs] at h1
  simp [flatL_nil] at h1
  omega

theorem dep_le_flat : ∀ t : Tm, t.dep ≤ t.flat.length := by
  refine Tm.ind ?_
  intro n l ih
  rw [dep_mk, flat_mk, List.length_append]
  have hl : ∀ (l : List Tm), (∀ t, t ∈ l → t.dep ≤ t.flat.length) → depL l ≤ (flatL l).length := by
    intro l
    induction l with
    | nil => intro _; simp [depL_nil]
    | cons t r ihr =>
      intro h
      rw [depL_cons, flatL_cons, List.length_append]
      have h1 := h t (by simp)
      have h2 := ihr (fun t ht => h t (by simp [ht]))
      omega
  have := hl l ih
  simp
  omega
theorem opn_small (p : Nat) (ts : List Tm) : ∀ x, x ∈ opn p ts → x.1 ≤ p + (flatL ts).length ∧ x.2 ≤ (flatL ts).length := by
  induction ts generalizing p with
  | nil => intro x hx; simp [opn] at hx
  | cons t r ih =>
    intro x hx
    simp only [opn, List.mem_cons] at hx
    rw [flatL_cons, List.length_append]
    rcases hx with rfl | hx
    · have := dep_le_flat t
      simp only
      omega
    · have := ih _ x hx
      omega
theorem opens_small {l : List Nd} {k : Nat} {st : List Tm} (h : prun [] (l.take k) = some st) (hk : k ≤ l.length) : ∀ x, x ∈ opens st → x.1 ≤ k ∧ x.2 ≤ k := by
  intro x hx
  have hs := (prun_sound h (fun t ht => by cases ht)).2
  have h1 := opn_small 0 st.reverse x hx
  have h2 := congrArg List.length hs
  simp [flatL_nil] at h2
  omega

/-- the measure, after so many parts -/
def mfrom (k : Nat) (ch : List (Nat × Nat)) (j : Nat) : Nat := if j = 0 then k else (ch.headD (k, 0)).1
def mdeep (ch : List (Nat × Nat)) (j : Nat) : Nat := (ch.take j).foldl (fun d x => max d (x.2 + 1)) 1
theorem mfrom_zero (k : Nat) (ch : List (Nat × Nat)) : mfrom k ch 0 = k := rfl
theorem mdeep_zero (ch : List (Nat × Nat)) : mdeep ch 0 = 1 := by simp [mdeep]
theorem mfrom_one (k : Nat) (ch : List (Nat × Nat)) (h : 0 < ch.length) : mfrom k ch 1 = (ch[0]).1 := by
  cases ch with
  | nil => simp at h
  | cons x r => rfl
theorem mfrom_more (k : Nat) (ch : List (Nat × Nat)) {j : Nat} (h : j ≠ 0) : mfrom k ch (j + 1) = mfrom k ch j := by simp [mfrom, h]
theorem mdeep_succ (ch : List (Nat × Nat)) {j : Nat} (h : j < ch.length) : mdeep ch (j + 1) = max (mdeep ch j) ((ch[j]).2 + 1) := by
  unfold mdeep
  rw [List.take_add_one, List.foldl_append, List.getElem?_eq_getElem h]
  rfl
theorem mstep_all (k : Nat) (ch : List (Nat × Nat)) : mstep k ch = (mfrom k ch ch.length, mdeep ch ch.length) := by
  unfold mstep mfrom mdeep
  rw [List.take_length]
  congr 1
  cases ch with
  | nil => rfl
  | cons x r => rfl
theorem mdeep_le (ch : List (Nat × Nat)) (B j : Nat) (h : ∀ x, x ∈ ch → x.2 ≤ B) : mdeep ch j ≤ B + 1 := by
  unfold mdeep
  have : ∀ (l : List (Nat × Nat)) (d : Nat), d ≤ B + 1 → (∀ x, x ∈ l → x.2 ≤ B) → l.foldl (fun d x => max d (x.2 + 1)) d ≤ B + 1 := by
    intro l
    induction l with
    | nil => intro d hd _; exact hd
    | cons x r ih =>
      intro d hd hx
      rw [List.foldl_cons]
      refine ih _ ?_ (fun y hy => hx y (by simp [hy]))
      have := hx x (by simp)
      omega
  exact this _ 1 (by omega) (fun x hx => h x (List.mem_of_mem_take hx))

/-- the inner loop's hold: j parts have been looked at -/
def InRel (wo : World) (bm : Nat) (k ar : Nat) (ch : List (Nat × Nat)) (i : Value) (wq : World) : Prop :=
  ∃ j, j ≤ ar ∧ i = .int .i64 (j : Int) ∧ Blk wq bm 102 #[.int .i64 (mfrom k ch j : Int), .int .i64 (mdeep ch j : Int)] ∧ wo.grownBy wq (some bm)

set_option maxRecDepth 20000 in
set_option maxHeartbeats 4000000 in
theorem measured_any (l : List Nd) (v : Value) (w : World) (hS : ShapesAt w) (hv : ReadN w v l) (hs : SmallN l) (hl : l.length ≤ 4000) :
    Calls Tryd.prog 71 #[v] w (MeasPost l w) := by
  obtain ⟨i0, hi, hz0, hz1, hz2⟩ := info_parts Tryd.infoMeas
  obtain ⟨_, ⟨h0, a, cap, rfl⟩ | ⟨b, off, cap, rfl, hcap1, hcap2, hbw, hc⟩⟩ := hv.cases
  · subst h0
    go_enter Tryd.func71, Tryd.ntmps71
    go_wp2
    go_loopw [4, 5, 14] (fun all open_ i wr => all = .slice none 0 0 ∧ open_ = .slice none 0 0 ∧ i = .int .i64 0 ∧ wr = w) (fun _ _ _ _ => 0)
    case atStart => exact ⟨rfl, rfl, rfl, rfl⟩
    case round =>
      obtain ⟨rfl, rfl, rfl, rfl⟩ := hrel
      go_wp2
      go_ret2
      exact ⟨.slice none 0 0, rfl, (fun h => by cases h), Below.refl _ _⟩
  · have HC := Lib.hid hc; clear hc
    have HS := Lib.hid hS
    have HV := Lib.hid hv; clear hv
    have HSM := Lib.hid hs; clear hs
    go_enter Tryd.func71, Tryd.ntmps71
    go_wp2
    go_loopw [4, 5, 14] (fun all open_ i wr => MRel w.heap.size w l all open_ i wr) (fun _ _ i _ => l.length - (intOf i).toNat)
    case atStart => exact MRel.start w l
    case round =>
      rename World => wa
      obtain ⟨k, st, hk, rfl, hp, hall, hop, hne, hb⟩ := hrel
      by_cases hlt : k < l.length
      · obtain ⟨g0, g1, g2, g3⟩ := HC.out k hlt
        have c0 := (hb.cell (p := ⟨b, off + k * 4, none⟩) hbw).trans g0
        have c1 := (hb.cell (p := ⟨b, off + k * 4 + 1, none⟩) hbw).trans g1
        have c2 := (hb.cell (p := ⟨b, off + k * 4 + 2, none⟩) hbw).trans g2
        have c3 := (hb.cell (p := ⟨b, off + k * 4 + 3, none⟩) hbw).trans g3
        clear g0 g1 g2 g3
        have hS1 := HS.out.below hb
        have hsz : (l[k]).S.size ≤ maxLen := HSM.out _ (List.getElem_mem hlt)
        have hstep := whole_none_of hlt hp
        have hstep2 := topm_step hlt hp
        obtain ⟨nd, hnd⟩ : ∃ nd, l[k] = nd := ⟨_, rfl⟩
        rw [hnd] at c0 c1 c2 c3 hsz hstep hstep2
        clear hnd
        have HB := Lib.hid hb
        have HST := Lib.hid hstep; clear hstep
        have HST2 := Lib.hid hstep2; clear hstep2
        have HALL := Lib.hid hall; clear hall
        have HOP := Lib.hid hop; clear hop
        have HNE := Lib.hid hne; clear hne
        have HP := Lib.hid hp; clear hp
        have hbw' : b < wa.heap.size := by have := hb.size; omega
        clear hb
        cases hr : rightB nd
        · go_wp2_with fail
          refine (right_any nd _ (hS1.alloc _) hsz).mono ?_
          rintro e w1 ⟨rfl, hb1⟩
          rw [hr]
          simp only [World.size_alloc] at hb1
          have hb2 := below_box hb1
          clear hb1
          have hno : Hid (whole l = none) := HST.out (fun h => by rw [hr] at h; cases h.1)
          go_wp2
          go_ret2
          exact ⟨.slice none 0 0, by rw [hno.out]; rfl, (fun h => by rw [hno.out] at h; cases h), (HB.out.trans (hb2.mono HB.out.size))⟩
        · obtain ⟨ao, co, rfl, hoc, hcut⟩ := ownsRow_cut HOP.out (Nat.le_refl _)
          have HCUT := Lib.hid hcut; clear hcut
          by_cases har : arity nd ≤ st.length
          · obtain ⟨K, hK⟩ : ∃ K, st.length = K + arity nd := ⟨st.length - arity nd, by omega⟩
            have hlen := stack_le HP.out hk
            obtain ⟨g1, g2, g3⟩ := HST2.out hr har
            clear HST HST2
            have e1 : st.length - arity nd = K := by omega
            rw [e1] at g1 g3
            have G1 := Lib.hid g1; clear g1
            have G2 := Lib.hid g2; clear g2
            have G3 := Lib.hid g3; clear g3
            obtain ⟨ar, hAR⟩ : ∃ ar, arity nd = ar := ⟨_, rfl⟩
            rw [hAR] at hK har
            have hKb : K + ar ≤ 4000 := by omega
            have HAR := Lib.hid hAR
            have hkk : k < 4000 := by omega
            clear e1 har
            rw [hK] at HOP HCUT hoc hlen ⊢
            have HK := Lib.hid hK; clear hK
            clear hAR
            go_wp2_with fail
            refine (right_any nd _ (hS1.alloc _) hsz).mono ?_
            rintro e w1 ⟨rfl, hb1⟩
            rw [hr]
            simp only [World.size_alloc] at hb1
            obtain ⟨d0, d1, d2, d3, hlt1⟩ := box_cells hb1
            have hb2 := below_box hb1
            clear hb1
            have hS2 := hS1.below hb2
            go_wp2_with fail
            refine (many_any nd _ hS2 hr).mono ?_
            rintro e w2 ⟨rfl, hb3⟩
            rw [HAR.out]
            have f0 := (hb3.cell (p := ⟨wa.heap.size, 0, none⟩) hlt1).trans d0
            have f1 := (hb3.cell (p := ⟨wa.heap.size, 1, none⟩) hlt1).trans d1
            have f2 := (hb3.cell (p := ⟨wa.heap.size, 2, none⟩) hlt1).trans d2
            have f3 := (hb3.cell (p := ⟨wa.heap.size, 3, none⟩) hlt1).trans d3
            have hb4 := hb2.trans (hb3.mono hb2.size)
            have hlt2 : wa.heap.size < w2.heap.size := by have := hb3.size; omega
            have hS3 := hS1.below hb4
            clear hb3 hb2 d0 d1 d2 d3 hlt1 hS2
            go_wp2_with fail
            refine (many_any nd _ hS3 hr).mono ?_
            rintro e w3 ⟨rfl, hb5⟩
            rw [HAR.out]
            have hb6 := hb4.trans (hb5.mono hb4.size)
            have hlt3 : wa.heap.size < w3.heap.size := by have := hb5.size; omega
            clear hb5 hb4 f0 f1 f2 f3 hS3 hlt2 hS1 c0 c1 c2 c3
            obtain ⟨ch, hch⟩ : ∃ ch, (opens st).drop K = ch := ⟨_, rfl⟩
            have hchl : ch.length = ar := by rw [← hch, List.length_drop, opens_length]; have := HK.out; omega
            have hchs : ∀ x, x ∈ ch → x.1 ≤ k ∧ x.2 ≤ k := by
              intro x hx
              rw [← hch] at hx
              exact opens_small HP.out hk x (List.mem_of_mem_drop hx)
            have HCH := Lib.hid hch; clear hch
            have HCHL := Lib.hid hchl; clear hchl
            have HCHS := Lib.hid hchs; clear hchs
            rcases HOP.out.2 with ⟨hnil, hn0⟩ | ⟨g, co', cur, hgv, hg0, hgh, hg2, hg3, hg5, hg6⟩
            · simp only [Value.slice.injEq] at hnil
              obtain ⟨rfl, _, rfl⟩ := hnil
              obtain rfl : K = 0 := by omega
              obtain rfl : ar = 0 := by omega
              simp only [Nat.add_zero] at HOP HCUT hoc hlen HAR HCHL hKb ⊢
              clear hn0
              go_wp2_with fail
              obtain ⟨wo, hwo⟩ : ∃ wo, w3.alloc (Obj.cells #[Value.int IntKind.i64 (k : Int), Value.int IntKind.i64 1] 102) = wo := ⟨_, rfl⟩
              obtain ⟨bm, hbm⟩ : ∃ bm, w3.heap.size = bm := ⟨_, rfl⟩
              have hblk0 : Blk wo bm 102 #[.int .i64 (k : Int), .int .i64 1] := by rw [← hwo, ← hbm]; exact Blk.new w3 _ _
              have hsz0 : wo.heap.size = bm + 1 := by rw [← hwo, ← hbm]; simp
              have hb7 : Below wa.heap.size wa wo := by rw [← hwo]; exact hb6.alloc hb6.size _
              rw [hwo, hbm]
              rw [hbm] at hlt3
              have HB7 := Lib.hid hb7
              clear hb6 hwo hb7
              go_loopw [40] (fun i wq => InRel wo bm k 0 ch i wq) (fun i _ => 0 - (intOf i).toNat)
              case atStart => exact ⟨0, Nat.zero_le _, rfl, by rw [mfrom_zero, mdeep_zero]; exact hblk0, World.grownBy.refl _ _⟩
              case round =>
                rename World => wq
                obtain ⟨j, hj, rfl, hblk, hgr⟩ := hrel
                by_cases hjl : j < 0
                · exfalso; omega
                · obtain rfl : j = 0 := by omega
                  have htop : topm l k = (mfrom k ch 0, mdeep ch 0) := by rw [G1.out, HCH.out, mstep_all, HCHL.out]
                  obtain ⟨f, hf⟩ : ∃ f, mfrom k ch 0 = f := ⟨_, rfl⟩
                  obtain ⟨q, hq⟩ : ∃ q, mdeep ch 0 = q := ⟨_, rfl⟩
                  rw [hf, hq] at htop hblk
                  have HTOP := Lib.hid htop; clear htop hf hq
                  obtain ⟨a', c', hv', hc', hcut⟩ := ownsRow_cut HOP.out (show 0 ≤ 0 + 0 by omega)
                  simp only [Value.slice.injEq] at hv'
                  obtain ⟨rfl, _, rfl⟩ := hv'
                  have hcut2 : wq.ownsRow w.heap.size 102 2 (.slice none 0 0) 0 ((measL (opens st)).take (0 * 2)) :=
                    (ownsRow_below hcut HB7.out (fun x hx => (hcut.lt x hx).2)).kept hgr (by first | exact .inl rfl | exact .inr (by simp [Value.ownBlock]; omega))
                  have HCUT2 := Lib.hid hcut2; clear hcut2 hcut
                  have m0 : wq.cell? ⟨bm, 0, none⟩ = some (.int .i64 (f : Int)) := hblk.cell 0
                  have m1 : wq.cell? ⟨bm, 1, none⟩ = some (.int .i64 (q : Int)) := hblk.cell 1
                  have mlt := hblk.lt
                  have HGR := Lib.hid hgr; clear hgr
                  have HBK := Lib.hid hblk; clear hblk
                  have hwq : Hid (w.heap.size ≤ wq.heap.size) := by
                    show _ ≤ _
                    have := HB.out.size; have := HGR.out.size; omega
                  have hone : ∀ u ∈ meaV (f, q), u.oneCell' = true := measL_one [(f, q)] |> fun h u hu => h u (by simpa [measL] using hu)
                  have HONE := Lib.hid hone; clear hone
                  have hKc2 : (0 : Int) ≤ (0 : Int) := by omega
                  go_wp2_with fail
                  go_region_law ((refine step_append_row rfl (.tmp 60) (.tmp 62) 76 rfl w.heap.size 102 i0 (.agg #[.int .i64 0, .int .i64 0]) 2 16 Tryd.underlying76 hi hz0 hz1 hz2 rfl (by decide) (.slice none 0 0) 0 ((measL (opens st)).take (0 * 2)) (by rfl) (by first | exact HCUT2.out.alloc _ | exact (HCUT2.out.alloc _).drew | exact HCUT2.out.drew.alloc _) (.slice (some ⟨wq.heap.size, 0, none⟩) 1 1) 1 (meaV (f, q)) (by rfl) (by first | exact RowAt.lit wq _ #[.int .i64 (f : Int), .int .i64 (q : Int)] 1 rfl (by unfold maxLen; omega) | exact RowAt.lit wq.drew _ #[.int .i64 (f : Int), .int .i64 (q : Int)] 1 rfl (by unfold maxLen; omega)) HONE.out (by omega) (by unfold maxLen; omega) (by have := hwq.out; simp; omega) ?_; intro v5 w5 hown5 hg5 hat5))
                  have HO5 := Lib.hid hown5; clear hown5
                  have HG5 := Lib.hid hg5; clear hg5
                  have HAT5 := Lib.hid hat5; clear hat5
                  have hbk5 := ((HBK.out.drewN 1).alloc (.cells #[.int .i64 (f : Int), .int .i64 (q : Int)] 102)).grown HG5.out (by first | (simp [Value.ownBlock]; done) | (simp [Value.ownBlock]; omega))
                  have n0 : w5.cell? ⟨bm, 0, none⟩ = some (.int .i64 (f : Int)) := hbk5.cell 0
                  have n1 : w5.cell? ⟨bm, 1, none⟩ = some (.int .i64 (q : Int)) := hbk5.cell 1
                  have hall5 : w5.ownsRow w.heap.size 102 2 u4 k (measL (tops l k)) := by
                    have hlt4 := HALL.out.lt
                    have h1 := (ownsRow_below HALL.out HB7.out (fun x hx => (hlt4 x hx).2)).kept HGR.out (by
                      cases hx : u4.ownBlock with
                      | none => exact .inl rfl
                      | some x => refine .inr ?_; have := (hlt4 x hx).2; simp; omega)
                    have h2 : ((wq.drew).alloc (.cells #[.int .i64 (f : Int), .int .i64 (q : Int)] 102)).ownsRow w.heap.size 102 2 u4 k (measL (tops l k)) := h1.drew.alloc _
                    refine h2.kept HG5.out ?_
                    cases hx : u4.ownBlock with
                    | none => exact .inl rfl
                    | some x =>
                      refine .inr ?_
                      intro he
                      exact HNE.out x hx he.symm
                  have HALL5 := Lib.hid hall5; clear hall5
                  have hsz5 : wq.heap.size + 1 ≤ w5.heap.size := by have := HG5.out.size; simpa using this
                  have hbb : w.heap.size ≤ w5.heap.size := by have := hwq.out; omega
                  clear m0 m1 hbk5
                  go_wp2_with (at_builtin; go_must (refine wpList_append_row rfl (.tmp 64) (.tmp 66) 76 rfl w.heap.size 102 i0 (.agg #[.int .i64 0, .int .i64 0]) 2 16 Tryd.underlying76 hi hz0 hz1 hz2 rfl (by decide) u4 k (measL (tops l k)) rfl (HALL5.out.alloc _) (.slice (some ⟨w5.heap.size, 0, none⟩) 1 1) 1 (meaV (f, q)) rfl (RowAt.lit w5 _ #[.int .i64 (f : Int), .int .i64 (q : Int)] 1 rfl (by unfold maxLen; omega)) HONE.out (by omega) (by unfold maxLen; omega) (by first | (simp; done) | (simp; omega)) ?_); intro v6 w6 hown6 hg6 hat6)
                  have hlen6 : (st.drop (arity nd)).length = 0 := by have h1 := HK.out; have h2 := HAR.out; rw [List.length_drop]; omega
                  have hb8 : Below w.heap.size w w6 := by
                    have h1 : Below w.heap.size w wq := by
                      have h0 := HB.out.trans (HB7.out.mono HB.out.size)
                      exact h0.grown HGR.out (by have := HB.out.size; have := HB7.out.size; omega) (fun x hx => by cases hx; have := HB.out.size; omega)
                    have h2 : Below w.heap.size w w5 := ((h1.drew).alloc (by have := h1.size; simpa using this) _).grown HG5.out (by have := h1.size; simp; omega) (fun x hx => (HCUT2.out.lt x hx).1)
                    refine (h2.alloc h2.size _).grown hg6 (by have := h2.size; simp; omega) (fun x hx => (HALL5.out.lt x hx).1)
                  have hrel' : MRel w.heap.size w l v6 v5 (.int .i64 ((k + 1 : Nat) : Int)) w6 := by
                    refine ⟨k + 1, _, by omega, rfl, G2.out, ?_, ?_, ?_, hb8⟩
                    · have e : measL (tops l (k + 1)) = measL (tops l k) ++ meaV (f, q) := by rw [tops_succ, measL_append, HTOP.out]; simp [measL]
                      rw [e]
                      exact hown6
                    · rw [G3.out, measL_append, ← measL_take, HTOP.out]
                      have e : (Tm.mk nd (st.take (arity nd)).reverse :: st.drop (arity nd)).length = 0 + 1 := by simp [hlen6]
                      rw [e]
                      have h1 := HO5.out
                      have h2 : w6.ownsRow w.heap.size 102 2 v5 (0 + 1) ((measL (opens st)).take (0 * 2) ++ meaV (f, q)) := by
                        refine (h1.alloc _).kept hg6 ?_
                        cases hx : v5.ownBlock with
                        | none => exact .inl rfl
                        | some x =>
                          refine .inr ?_
                          intro he
                          have hy := HALL5.out.lt x he.symm
                          rcases HAT5.out with h | h
                          · exact HNE.out x he.symm (h.symm.trans hx)
                          · rw [hx] at h
                            simp at h
                            have := HALL.out.lt x he.symm
                            omega
                      simpa [measL] using h2
                    · intro x hx he
                      rcases hat6 with h | h
                      · rw [hx] at h
                        have hy := HALL.out.lt x h.symm
                        rcases HAT5.out with h' | h'
                        · exact HNE.out x h.symm (h'.symm.trans he)
                        · rw [he] at h'
                          simp at h'
                          omega
                      · rw [hx] at h
                        have hy := HO5.out.lt x he
                        simp at h
                        omega
                  have HREL := Lib.hid hrel'
                  clear hrel' hb8 hown6 hg6 hat6 hlen6
                  go_wp2
                  refine ⟨?_, by simp [intOf]; omega⟩
                  have h := HREL.out
                  have e : ((k + 1 : Nat) : Int) = (k : Int) + 1 := by omega
                  rw [e] at h
                  exact h
            · simp only [Value.slice.injEq] at hgv
              obtain ⟨rfl, _, rfl⟩ := hgv
              have hg1 : g < wa.heap.size := (Array.getElem?_eq_some_iff.1 hgh).1
              have HGC : Hid (∀ j, j < (K + ar) * 2 → wa.cell? ⟨g, j, none⟩ = (measL (opens st))[j]?) := fun j hj => HOP.out.cellAt j hj
              clear hgh hg2 hg5 hg6
              by_cases hco : co = K
              · subst hco
                obtain rfl : ar = 0 := by omega
                simp only [Nat.add_zero] at HOP HCUT hoc hlen HGC HAR HCHL hKb ⊢
                go_wp2_with fail
                obtain ⟨wo, hwo⟩ : ∃ wo, w3.alloc (Obj.cells #[Value.int IntKind.i64 (k : Int), Value.int IntKind.i64 1] 102) = wo := ⟨_, rfl⟩
                obtain ⟨bm, hbm⟩ : ∃ bm, w3.heap.size = bm := ⟨_, rfl⟩
                have hblk0 : Blk wo bm 102 #[.int .i64 (k : Int), .int .i64 1] := by rw [← hwo, ← hbm]; exact Blk.new w3 _ _
                have hsz0 : wo.heap.size = bm + 1 := by rw [← hwo, ← hbm]; simp
                have hb7 : Below wa.heap.size wa wo := by rw [← hwo]; exact hb6.alloc hb6.size _
                rw [hwo, hbm]
                rw [hbm] at hlt3
                have HB7 := Lib.hid hb7
                clear hb6 hwo hb7
                go_loopw [40] (fun i wq => InRel wo bm k 0 ch i wq) (fun i _ => 0 - (intOf i).toNat)
                case atStart => exact ⟨0, Nat.zero_le _, rfl, by rw [mfrom_zero, mdeep_zero]; exact hblk0, World.grownBy.refl _ _⟩
                case round =>
                  rename World => wq
                  obtain ⟨j, hj, rfl, hblk, hgr⟩ := hrel
                  by_cases hjl : j < 0
                  · exfalso; omega
                  · obtain rfl : j = 0 := by omega
                    have htop : topm l k = (mfrom k ch 0, mdeep ch 0) := by rw [G1.out, HCH.out, mstep_all, HCHL.out]
                    obtain ⟨f, hf⟩ : ∃ f, mfrom k ch 0 = f := ⟨_, rfl⟩
                    obtain ⟨q, hq⟩ : ∃ q, mdeep ch 0 = q := ⟨_, rfl⟩
                    rw [hf, hq] at htop hblk
                    have HTOP := Lib.hid htop; clear htop hf hq
                    obtain ⟨a', c', hv', hc', hcut⟩ := ownsRow_cut HOP.out (show co ≤ co + 0 by omega)
                    simp only [Value.slice.injEq] at hv'
                    obtain ⟨rfl, _, rfl⟩ := hv'
                    have hcut2 : wq.ownsRow w.heap.size 102 2 (.slice (some ⟨g, 0, none⟩) co co) co ((measL (opens st)).take (co * 2)) :=
                      (ownsRow_below hcut HB7.out (fun x hx => (hcut.lt x hx).2)).kept hgr (by first | exact .inl rfl | exact .inr (by simp [Value.ownBlock]; omega))
                    have HCUT2 := Lib.hid hcut2; clear hcut2 hcut
                    have m0 : wq.cell? ⟨bm, 0, none⟩ = some (.int .i64 (f : Int)) := hblk.cell 0
                    have m1 : wq.cell? ⟨bm, 1, none⟩ = some (.int .i64 (q : Int)) := hblk.cell 1
                    have mlt := hblk.lt
                    have HGR := Lib.hid hgr; clear hgr
                    have HBK := Lib.hid hblk; clear hblk
                    have hwq : Hid (w.heap.size ≤ wq.heap.size) := by
                      show _ ≤ _
                      have := HB.out.size; have := HGR.out.size; omega
                    have hone : ∀ u ∈ meaV (f, q), u.oneCell' = true := measL_one [(f, q)] |> fun h u hu => h u (by simpa [measL] using hu)
                    have HONE := Lib.hid hone; clear hone
                    have hKc : co ≤ co := by omega
                    have hKc2 : (0 : Int) ≤ (co : Int) := by omega
                    have hKc3 : (co : Int) ≤ (co : Int) := by omega
                    go_wp2_with fail
                    go_region_law ((refine step_append_row rfl (.tmp 60) (.tmp 62) 76 rfl w.heap.size 102 i0 (.agg #[.int .i64 0, .int .i64 0]) 2 16 Tryd.underlying76 hi hz0 hz1 hz2 rfl (by decide) (.slice (some ⟨g, 0, none⟩) co co) co ((measL (opens st)).take (co * 2)) (by rfl) (by first | exact HCUT2.out.alloc _ | exact (HCUT2.out.alloc _).drew | exact HCUT2.out.drew.alloc _) (.slice (some ⟨wq.heap.size, 0, none⟩) 1 1) 1 (meaV (f, q)) (by rfl) (by first | exact RowAt.lit wq _ #[.int .i64 (f : Int), .int .i64 (q : Int)] 1 rfl (by unfold maxLen; omega) | exact RowAt.lit wq.drew _ #[.int .i64 (f : Int), .int .i64 (q : Int)] 1 rfl (by unfold maxLen; omega)) HONE.out (by omega) (by unfold maxLen; omega) (by have := hwq.out; simp; omega) ?_; intro v5 w5 hown5 hg5 hat5))
                    have HO5 := Lib.hid hown5; clear hown5
                    have HG5 := Lib.hid hg5; clear hg5
                    have HAT5 := Lib.hid hat5; clear hat5
                    have hbk5 := ((HBK.out.drewN 1).alloc (.cells #[.int .i64 (f : Int), .int .i64 (q : Int)] 102)).grown HG5.out (by first | (simp [Value.ownBlock]; done) | (simp [Value.ownBlock]; omega))
                    have n0 : w5.cell? ⟨bm, 0, none⟩ = some (.int .i64 (f : Int)) := hbk5.cell 0
                    have n1 : w5.cell? ⟨bm, 1, none⟩ = some (.int .i64 (q : Int)) := hbk5.cell 1
                    have hall5 : w5.ownsRow w.heap.size 102 2 u4 k (measL (tops l k)) := by
                      have hlt4 := HALL.out.lt
                      have h1 := (ownsRow_below HALL.out HB7.out (fun x hx => (hlt4 x hx).2)).kept HGR.out (by
                        cases hx : u4.ownBlock with
                        | none => exact .inl rfl
                        | some x => refine .inr ?_; have := (hlt4 x hx).2; simp; omega)
                      have h2 : ((wq.drew).alloc (.cells #[.int .i64 (f : Int), .int .i64 (q : Int)] 102)).ownsRow w.heap.size 102 2 u4 k (measL (tops l k)) := h1.drew.alloc _
                      refine h2.kept HG5.out ?_
                      cases hx : u4.ownBlock with
                      | none => exact .inl rfl
                      | some x =>
                        refine .inr ?_
                        intro he
                        exact HNE.out x hx he.symm
                    have HALL5 := Lib.hid hall5; clear hall5
                    have hsz5 : wq.heap.size + 1 ≤ w5.heap.size := by have := HG5.out.size; simpa using this
                    have hbb : w.heap.size ≤ w5.heap.size := by have := hwq.out; omega
                    clear m0 m1 hbk5
                    go_wp2_with (at_builtin; go_must (refine wpList_append_row rfl (.tmp 64) (.tmp 66) 76 rfl w.heap.size 102 i0 (.agg #[.int .i64 0, .int .i64 0]) 2 16 Tryd.underlying76 hi hz0 hz1 hz2 rfl (by decide) u4 k (measL (tops l k)) rfl (HALL5.out.alloc _) (.slice (some ⟨w5.heap.size, 0, none⟩) 1 1) 1 (meaV (f, q)) rfl (RowAt.lit w5 _ #[.int .i64 (f : Int), .int .i64 (q : Int)] 1 rfl (by unfold maxLen; omega)) HONE.out (by omega) (by unfold maxLen; omega) (by simp; omega) ?_); intro v6 w6 hown6 hg6 hat6)
                    have hlen6 : (st.drop (arity nd)).length = co := by have h1 := HK.out; have h2 := HAR.out; rw [List.length_drop]; omega
                    have hb8 : Below w.heap.size w w6 := by
                      have h1 : Below w.heap.size w wq := by
                        have h0 := HB.out.trans (HB7.out.mono HB.out.size)
                        exact h0.grown HGR.out (by have := HB.out.size; have := HB7.out.size; omega) (fun x hx => by cases hx; have := HB.out.size; omega)
                      have h2 : Below w.heap.size w w5 := ((h1.drew).alloc (by have := h1.size; simpa using this) _).grown HG5.out (by have := h1.size; simp; omega) (fun x hx => (HCUT2.out.lt x hx).1)
                      refine (h2.alloc h2.size _).grown hg6 (by have := h2.size; simp; omega) (fun x hx => (HALL5.out.lt x hx).1)
                    have hrel' : MRel w.heap.size w l v6 v5 (.int .i64 ((k + 1 : Nat) : Int)) w6 := by
                      refine ⟨k + 1, _, by omega, rfl, G2.out, ?_, ?_, ?_, hb8⟩
                      · have e : measL (tops l (k + 1)) = measL (tops l k) ++ meaV (f, q) := by rw [tops_succ, measL_append, HTOP.out]; simp [measL]
                        rw [e]
                        exact hown6
                      · rw [G3.out, measL_append, ← measL_take, HTOP.out]
                        have e : (Tm.mk nd (st.take (arity nd)).reverse :: st.drop (arity nd)).length = co + 1 := by simp [hlen6]
                        rw [e]
                        have h1 := HO5.out
                        have h2 : w6.ownsRow w.heap.size 102 2 v5 (co + 1) ((measL (opens st)).take (co * 2) ++ meaV (f, q)) := by
                          refine (h1.alloc _).kept hg6 ?_
                          cases hx : v5.ownBlock with
                          | none => exact .inl rfl
                          | some x =>
                            refine .inr ?_
                            intro he
                            have hy := HALL5.out.lt x he.symm
                            rcases HAT5.out with h | h
                            · exact HNE.out x he.symm (h.symm.trans hx)
                            · rw [hx] at h
                              simp at h
                              have := HALL.out.lt x he.symm
                              omega
                        simpa [measL] using h2
                      · intro x hx he
                        rcases hat6 with h | h
                        · rw [hx] at h
                          have hy := HALL.out.lt x h.symm
                          rcases HAT5.out with h' | h'
                          · exact HNE.out x h.symm (h'.symm.trans he)
                          · rw [he] at h'
                            simp at h'
                            omega
                        · rw [hx] at h
                          have hy := HO5.out.lt x he
                          simp at h
                          omega
                    have HREL := Lib.hid hrel'
                    clear hrel' hb8 hown6 hg6 hat6 hlen6
                    go_wp2
                    refine ⟨?_, by simp [intOf]; omega⟩
                    have h := HREL.out
                    have e : ((k + 1 : Nat) : Int) = (k : Int) + 1 := by omega
                    rw [e] at h
                    exact h
              · 
                go_wp2_with fail
                obtain ⟨wo, hwo⟩ : ∃ wo, w3.alloc (Obj.cells #[Value.int IntKind.i64 (k : Int), Value.int IntKind.i64 1] 102) = wo := ⟨_, rfl⟩
                obtain ⟨bm, hbm⟩ : ∃ bm, w3.heap.size = bm := ⟨_, rfl⟩
                have hblk0 : Blk wo bm 102 #[.int .i64 (k : Int), .int .i64 1] := by rw [← hwo, ← hbm]; exact Blk.new w3 _ _
                have hsz0 : wo.heap.size = bm + 1 := by rw [← hwo, ← hbm]; simp
                have hb7 : Below wa.heap.size wa wo := by rw [← hwo]; exact hb6.alloc hb6.size _
                rw [hwo, hbm]
                rw [hbm] at hlt3
                have HB7 := Lib.hid hb7
                clear hb6 hwo hb7
                go_loopw [40] (fun i wq => InRel wo bm k ar ch i wq) (fun i _ => ar - (intOf i).toNat)
                case atStart => exact ⟨0, Nat.zero_le _, rfl, by rw [mfrom_zero, mdeep_zero]; exact hblk0, World.grownBy.refl _ _⟩
                case round =>
                  rename World => wq
                  obtain ⟨j, hj, rfl, hblk, hgr⟩ := hrel
                  by_cases hjl : j < ar
                  · have hjc : j < ch.length := by rw [HCHL.out]; exact hjl
                    have hx := HCHS.out ch[j] (List.getElem_mem hjc)
                    have hgx : wa.cell? ⟨g, K * 2 + j * 2, none⟩ = some (.int .i64 ((ch[j]).1 : Int)) ∧ wa.cell? ⟨g, K * 2 + j * 2 + 1, none⟩ = some (.int .i64 ((ch[j]).2 : Int)) := by
                      have e : ∀ (hh : K + j < (opens st).length), (opens st)[K + j] = ch[j] := by
                        intro hh
                        have := HCH.out
                        simp [← this]
                      have hh : K + j < (opens st).length := by rw [opens_length, HK.out]; omega
                      have c0 := HGC.out (K * 2 + j * 2) (by omega)
                      have c1 := HGC.out (K * 2 + j * 2 + 1) (by omega)
                      have m0 := measL_get (opens st) (K + j) hh 0 (by omega)
                      have m1 := measL_get (opens st) (K + j) hh 1 (by omega)
                      rw [show (K + j) * 2 + 0 = K * 2 + j * 2 from by omega] at m0
                      rw [show (K + j) * 2 + 1 = K * 2 + j * 2 + 1 from by omega] at m1
                      rw [c0, m0, c1, m1, e hh]
                      exact ⟨rfl, rfl⟩
                    obtain ⟨hgx0, hgx1⟩ := hgx
                    have hgbm : g < bm := by omega
                    have x0 := (hgr.cell ((HB7.out.cell (p := ⟨g, K * 2 + j * 2, none⟩) hg1).trans hgx0) (by simp; omega))
                    have x1 := (hgr.cell ((HB7.out.cell (p := ⟨g, K * 2 + j * 2 + 1, none⟩) hg1).trans hgx1) (by simp; omega))
                    clear hgx0 hgx1
                    have m0 : wq.cell? ⟨bm, 0, none⟩ = some (.int .i64 (mfrom k ch j : Int)) := hblk.cell 0
                    have m1 : wq.cell? ⟨bm, 1, none⟩ = some (.int .i64 (mdeep ch j : Int)) := hblk.cell 1
                    have mf0 := hblk.frozen 0
                    have mf1 := hblk.frozen 1
                    have mlt := hblk.lt
                    have hgw : g < wq.heap.size := by omega
                    have hdle := mdeep_le ch k j (fun x hx => (HCHS.out x hx).2)
                    have hds := mdeep_succ ch hjc
                    have hfo := mfrom_one k ch (by omega)
                    have hfm := fun (h : j ≠ 0) => mfrom_more k ch h
                    obtain ⟨y, hy⟩ : ∃ y, ch[j] = y := ⟨_, rfl⟩
                    obtain ⟨p, d⟩ := y
                    rw [hy] at x0 x1 hx hds
                    obtain ⟨hx1, hx2⟩ := hx
                    simp only at x0 x1 hx1 hx2 hds
                    obtain ⟨q, hq⟩ : ∃ q, mdeep ch j = q := ⟨_, rfl⟩
                    rw [hq] at m1 hds hdle hblk
                    obtain ⟨f, hf⟩ : ∃ f, mfrom k ch j = f := ⟨_, rfl⟩
                    rw [hf] at m0 hfm hblk
                    have HDS := Lib.hid hds; clear hds
                    have HFO := Lib.hid hfo; clear hfo
                    have HFM := Lib.hid hfm; clear hfm
                    have HY := Lib.hid hy; clear hy
                    have HF := Lib.hid hf; clear hf
                    have HBK := Lib.hid hblk; clear hblk
                    have HGR := Lib.hid hgr; clear hgr
                    clear hq
                    have hifc : (if (q : Int) < (d : Int) + 1 then (d : Int) + 1 else (q : Int)) = ((max q (d + 1) : Nat) : Int) := by split <;> omega
                    have HIF := Lib.hid hifc; clear hifc
                    by_cases hj0 : j = 0
                    · subst hj0
                      simp only [Nat.zero_mul, Nat.add_zero] at x0 x1
                      go_wp2
                      refine ⟨⟨1, by omega, rfl, ?_, ?_⟩, by simp [intOf]; omega⟩
                      · rw [HDS.out, HFO.out, HY.out, HIF.out]
                        exact ((HBK.out.set_ 0 _).set_ 1 _).alloc _
                      · exact grown_alloc (grown_set (grown_set HGR.out rfl _) rfl _) _
                    · have hjb : ((j : Int) == 0) = false := by simp; omega
                      have HJ0 := Lib.hid hj0; clear hj0
                      go_wp2
                      refine ⟨⟨j + 1, by omega, by go_num, ?_, ?_⟩, by simp [intOf]; omega⟩
                      · rw [HDS.out, HFM.out HJ0.out, HIF.out]
                        exact (HBK.out.set_ 1 _).alloc _
                      · exact grown_alloc (grown_set HGR.out rfl _) _
                  · obtain rfl : j = ar := by omega
                    have htop : topm l k = (mfrom k ch j, mdeep ch j) := by rw [G1.out, HCH.out, mstep_all, HCHL.out]
                    obtain ⟨f, hf⟩ : ∃ f, mfrom k ch j = f := ⟨_, rfl⟩
                    obtain ⟨q, hq⟩ : ∃ q, mdeep ch j = q := ⟨_, rfl⟩
                    rw [hf, hq] at htop hblk
                    have HTOP := Lib.hid htop; clear htop hf hq
                    obtain ⟨a', c', hv', hc', hcut⟩ := ownsRow_cut HOP.out (show K ≤ K + j by omega)
                    simp only [Value.slice.injEq] at hv'
                    obtain ⟨rfl, _, rfl⟩ := hv'
                    have hcut2 : wq.ownsRow w.heap.size 102 2 (.slice (some ⟨g, 0, none⟩) K co) K ((measL (opens st)).take (K * 2)) :=
                      (ownsRow_below hcut HB7.out (fun x hx => (hcut.lt x hx).2)).kept hgr (by first | exact .inl rfl | exact .inr (by simp [Value.ownBlock]; omega))
                    have HCUT2 := Lib.hid hcut2; clear hcut2 hcut
                    have m0 : wq.cell? ⟨bm, 0, none⟩ = some (.int .i64 (f : Int)) := hblk.cell 0
                    have m1 : wq.cell? ⟨bm, 1, none⟩ = some (.int .i64 (q : Int)) := hblk.cell 1
                    have mlt := hblk.lt
                    have HGR := Lib.hid hgr; clear hgr
                    have HBK := Lib.hid hblk; clear hblk
                    have hwq : Hid (w.heap.size ≤ wq.heap.size) := by
                      show _ ≤ _
                      have := HB.out.size; have := HGR.out.size; omega
                    have hone : ∀ u ∈ meaV (f, q), u.oneCell' = true := measL_one [(f, q)] |> fun h u hu => h u (by simpa [measL] using hu)
                    have HONE := Lib.hid hone; clear hone
                    have hKc : K ≤ co := by omega
                    have hKc2 : (0 : Int) ≤ (K : Int) := by omega
                    have hKc3 : (K : Int) ≤ (co : Int) := by omega
                    go_wp2_with fail
                    go_region_law ((refine step_append_row rfl (.tmp 60) (.tmp 62) 76 rfl w.heap.size 102 i0 (.agg #[.int .i64 0, .int .i64 0]) 2 16 Tryd.underlying76 hi hz0 hz1 hz2 rfl (by decide) (.slice (some ⟨g, 0, none⟩) K co) K ((measL (opens st)).take (K * 2)) (by rfl) (by first | exact HCUT2.out.alloc _ | exact (HCUT2.out.alloc _).drew | exact HCUT2.out.drew.alloc _) (.slice (some ⟨wq.heap.size, 0, none⟩) 1 1) 1 (meaV (f, q)) (by rfl) (by first | exact RowAt.lit wq _ #[.int .i64 (f : Int), .int .i64 (q : Int)] 1 rfl (by unfold maxLen; omega) | exact RowAt.lit wq.drew _ #[.int .i64 (f : Int), .int .i64 (q : Int)] 1 rfl (by unfold maxLen; omega)) HONE.out (by omega) (by unfold maxLen; omega) (by have := hwq.out; simp; omega) ?_; intro v5 w5 hown5 hg5 hat5))
                    have HO5 := Lib.hid hown5; clear hown5
                    have HG5 := Lib.hid hg5; clear hg5
                    have HAT5 := Lib.hid hat5; clear hat5
                    have hbk5 := ((HBK.out.drewN 1).alloc (.cells #[.int .i64 (f : Int), .int .i64 (q : Int)] 102)).grown HG5.out (by first | (simp [Value.ownBlock]; done) | (simp [Value.ownBlock]; omega))
                    have n0 : w5.cell? ⟨bm, 0, none⟩ = some (.int .i64 (f : Int)) := hbk5.cell 0
                    have n1 : w5.cell? ⟨bm, 1, none⟩ = some (.int .i64 (q : Int)) := hbk5.cell 1
                    have hall5 : w5.ownsRow w.heap.size 102 2 u4 k (measL (tops l k)) := by
                      have hlt4 := HALL.out.lt
                      have h1 := (ownsRow_below HALL.out HB7.out (fun x hx => (hlt4 x hx).2)).kept HGR.out (by
                        cases hx : u4.ownBlock with
                        | none => exact .inl rfl
                        | some x => refine .inr ?_; have := (hlt4 x hx).2; simp; omega)
                      have h2 : ((wq.drew).alloc (.cells #[.int .i64 (f : Int), .int .i64 (q : Int)] 102)).ownsRow w.heap.size 102 2 u4 k (measL (tops l k)) := h1.drew.alloc _
                      refine h2.kept HG5.out ?_
                      cases hx : u4.ownBlock with
                      | none => exact .inl rfl
                      | some x =>
                        refine .inr ?_
                        intro he
                        exact HNE.out x hx he.symm
                    have HALL5 := Lib.hid hall5; clear hall5
                    have hsz5 : wq.heap.size + 1 ≤ w5.heap.size := by have := HG5.out.size; simpa using this
                    have hbb : w.heap.size ≤ w5.heap.size := by have := hwq.out; omega
                    clear m0 m1 hbk5
                    go_wp2_with (at_builtin; go_must (refine wpList_append_row rfl (.tmp 64) (.tmp 66) 76 rfl w.heap.size 102 i0 (.agg #[.int .i64 0, .int .i64 0]) 2 16 Tryd.underlying76 hi hz0 hz1 hz2 rfl (by decide) u4 k (measL (tops l k)) rfl (HALL5.out.alloc _) (.slice (some ⟨w5.heap.size, 0, none⟩) 1 1) 1 (meaV (f, q)) rfl (RowAt.lit w5 _ #[.int .i64 (f : Int), .int .i64 (q : Int)] 1 rfl (by unfold maxLen; omega)) HONE.out (by omega) (by unfold maxLen; omega) (by simp; omega) ?_); intro v6 w6 hown6 hg6 hat6)
                    have hlen6 : (st.drop (arity nd)).length = K := by have h1 := HK.out; have h2 := HAR.out; rw [List.length_drop]; omega
                    have hb8 : Below w.heap.size w w6 := by
                      have h1 : Below w.heap.size w wq := by
                        have h0 := HB.out.trans (HB7.out.mono HB.out.size)
                        exact h0.grown HGR.out (by have := HB.out.size; have := HB7.out.size; omega) (fun x hx => by cases hx; have := HB.out.size; omega)
                      have h2 : Below w.heap.size w w5 := ((h1.drew).alloc (by have := h1.size; simpa using this) _).grown HG5.out (by have := h1.size; simp; omega) (fun x hx => (HCUT2.out.lt x hx).1)
                      refine (h2.alloc h2.size _).grown hg6 (by have := h2.size; simp; omega) (fun x hx => (HALL5.out.lt x hx).1)
                    have hrel' : MRel w.heap.size w l v6 v5 (.int .i64 ((k + 1 : Nat) : Int)) w6 := by
                      refine ⟨k + 1, _, by omega, rfl, G2.out, ?_, ?_, ?_, hb8⟩
                      · have e : measL (tops l (k + 1)) = measL (tops l k) ++ meaV (f, q) := by rw [tops_succ, measL_append, HTOP.out]; simp [measL]
                        rw [e]
                        exact hown6
                      · rw [G3.out, measL_append, ← measL_take, HTOP.out]
                        have e : (Tm.mk nd (st.take (arity nd)).reverse :: st.drop (arity nd)).length = K + 1 := by simp [hlen6]
                        rw [e]
                        have h1 := HO5.out
                        have h2 : w6.ownsRow w.heap.size 102 2 v5 (K + 1) ((measL (opens st)).take (K * 2) ++ meaV (f, q)) := by
                          refine (h1.alloc _).kept hg6 ?_
                          cases hx : v5.ownBlock with
                          | none => exact .inl rfl
                          | some x =>
                            refine .inr ?_
                            intro he
                            have hy := HALL5.out.lt x he.symm
                            rcases HAT5.out with h | h
                            · exact HNE.out x he.symm (h.symm.trans hx)
                            · rw [hx] at h
                              simp at h
                              have := HALL.out.lt x he.symm
                              omega
                        simpa [measL] using h2
                      · intro x hx he
                        rcases hat6 with h | h
                        · rw [hx] at h
                          have hy := HALL.out.lt x h.symm
                          rcases HAT5.out with h' | h'
                          · exact HNE.out x h.symm (h'.symm.trans he)
                          · rw [he] at h'
                            simp at h'
                            omega
                        · rw [hx] at h
                          have hy := HO5.out.lt x he
                          simp at h
                          omega
                    have HREL := Lib.hid hrel'
                    clear hrel' hb8 hown6 hg6 hat6 hlen6
                    go_wp2
                    refine ⟨?_, by simp [intOf]; omega⟩
                    have h := HREL.out
                    have e : ((k + 1 : Nat) : Int) = (k : Int) + 1 := by omega
                    rw [e] at h
                    exact h
          · have hno : Hid (whole l = none) := HST.out (fun h => har h.2)
            have hlt' : st.length < arity nd := by omega
            clear HST HST2 har
            go_wp2_with fail
            refine (right_any nd _ (hS1.alloc _) hsz).mono ?_
            rintro e w1 ⟨rfl, hb1⟩
            rw [hr]
            simp only [World.size_alloc] at hb1
            obtain ⟨d0, d1, d2, d3, hlt1⟩ := box_cells hb1
            have hb2 := below_box hb1
            clear hb1
            have hS2 := hS1.below hb2
            go_wp2_with fail
            refine (many_any nd _ hS2 hr).mono ?_
            rintro e w2 ⟨rfl, hb3⟩
            have hb4 := hb2.trans (hb3.mono hb2.size)
            clear hb3 hb2 d0 d1 d2 d3 hlt1
            go_wp2
            go_ret2
            exact ⟨.slice none 0 0, by rw [hno.out]; rfl, (fun h => by rw [hno.out] at h; cases h), (HB.out.trans (hb4.mono HB.out.size))⟩
      · obtain rfl : k = l.length := by omega
        rw [List.take_length] at hp
        obtain ⟨ao, co, rfl, hoc, _⟩ := ownsRow_cut hop (Nat.le_refl _)
        have hw : Hid ((whole l).isSome = ((st.length : Int) == 1)) := by
          show _ = _
          unfold whole
          rw [hp]
          match st with
          | [] => rfl
          | [t] => rfl
          | t :: u :: r => simp; omega
        have HALL := Lib.hid hall; clear hall
        clear hop hne hp
        have HB := Lib.hid hb; clear hb
        go_wp2
        go_ret2
        exact ⟨_, by rw [hw.out]; rfl, fun _ => HALL.out, HB.out⟩

end Go.Proofs.YteldkcpkamgfpaaDoor

namespace Go.Proofs.YteldkcpkamgfpaaDoor
set_option linter.unusedSimpArgs false
set_option linter.unusedVariables false
open Go.RowKit

def LookPost (l : List Nd) (w : World) (e : Ending) (w' : World) : Prop :=
  ∃ v, e = .returned (.tuple #[v, .int .i64 (chk l)]) ∧ (chk l = 0 → w'.ownsRow w.heap.size 102 2 v l.length (measL (tops l l.length))) ∧ Below w.heap.size w w'

theorem chk_big {l : List Nd} (h : 4000 < l.length) : chk l = 21 := by unfold chk; rw [if_pos h]
theorem chk_none {l : List Nd} (h : ¬ 4000 < l.length) (h2 : whole l = none) : chk l = 20 := by unfold chk; rw [if_neg h, h2]
theorem chk_deep {l : List Nd} {t : Tm} (h : ¬ 4000 < l.length) (h2 : whole l = some t) (h3 : 60 < t.dep) : chk l = 22 := by unfold chk; rw [if_neg h, h2]; exact if_pos h3
theorem chk_fine {l : List Nd} {t : Tm} (h : ¬ 4000 < l.length) (h2 : whole l = some t) (h3 : ¬ 60 < t.dep) : chk l = 0 := by unfold chk; rw [if_neg h, h2]; exact if_neg h3

theorem tops_last {l : List Nd} {t : Tm} (h : whole l = some t) {m : Nat} (hm : l.length = m + 1) : (measL (tops l (m + 1)))[m * 2]? = some (.int .i64 0) ∧ (measL (tops l (m + 1)))[m * 2 + 1]? = some (.int .i64 (t.dep : Int)) := by
  obtain ⟨hw, rfl⟩ := whole_some h
  have h1 := topm_root hw
  rw [show t.flat.length - 1 = m from by omega] at h1
  have h2 : (tops t.flat (m + 1))[m]'(by rw [tops_length]; omega) = (0, t.dep) := by
    simp [tops, h1]
  have g0 := measL_get (tops t.flat (m + 1)) m (by rw [tops_length]; omega) 0 (by omega)
  have g1 := measL_get (tops t.flat (m + 1)) m (by rw [tops_length]; omega) 1 (by omega)
  rw [h2] at g0 g1
  exact ⟨g0, g1⟩
theorem whole_pos {l : List Nd} {t : Tm} (h : whole l = some t) : ∃ m, l.length = m + 1 := by
  obtain ⟨hw, rfl⟩ := whole_some h
  have := flat_pos t
  exact ⟨t.flat.length - 1, by omega⟩

set_option maxRecDepth 20000 in
set_option maxHeartbeats 2000000 in
theorem look_any (l : List Nd) (v : Value) (w : World) (hS : ShapesAt w) (hv : ReadN w v l) (hs : SmallN l) :
    Calls Tryd.prog 47 #[v] w (LookPost l w) := by
  obtain ⟨ad, cap, rfl⟩ : ∃ a cap, v = .slice a l.length cap := by obtain ⟨a, cap, h, _⟩ := hv.form; exact ⟨a, cap, h⟩
  have HV := Lib.hid hv; clear hv
  have HS := Lib.hid hS; clear hS
  have HSM := Lib.hid hs; clear hs
  by_cases hbig : 4000 < l.length
  · have h1 := Lib.hid (chk_big hbig)
    go_enter Tryd.func47, Tryd.ntmps47
    go_wp2_with fail
    go_ret2
    exact ⟨_, by rw [h1.out]; rfl, (fun h => by rw [h1.out] at h; omega), Below.refl _ _⟩
  · cases hw : whole l with
    | none =>
      have h1 := Lib.hid (chk_none hbig hw)
      have h2 : Hid ((whole l).isSome = false) := by show _ = _; rw [hw]; rfl
      clear hw
      go_enter Tryd.func47, Tryd.ntmps47
      go_wp2_with fail
      refine (measured_any l _ w HS.out HV.out HSM.out (by omega)).mono ?_
      rintro e w1 ⟨u, rfl, _, hb⟩
      rw [h2.out]
      go_wp2_with fail
      go_ret2
      exact ⟨_, by rw [h1.out]; rfl, (fun h => by rw [h1.out] at h; omega), hb⟩
    | some t =>
      obtain ⟨m, hm⟩ := whole_pos hw
      have h2 : Hid ((whole l).isSome = true) := by show _ = _; rw [hw]; rfl
      have hl := tops_last hw hm
      by_cases hd : 60 < t.dep
      · have h1 := Lib.hid (chk_deep hbig hw hd)
        have hl := Lib.hid hl
        clear hw
        have HM := Lib.hid hm
        have hm4 : m < 4000 := by omega
        clear hm
        go_enter Tryd.func47, Tryd.ntmps47
        go_wp2_with fail
        refine (measured_any l _ w HS.out HV.out HSM.out (by omega)).mono ?_
        rintro e w1 ⟨u, rfl, hown0, hb⟩
        have hown := hown0 h2.out
        rw [h2.out]
        clear hown0
        rw [HM.out] at hown
        obtain ⟨g, cp, rfl, _, _, _, _, _, hcell, _⟩ := ownsRow_open hown (by omega)
        have c1 : w1.cell? ⟨g, m * 2 + 1, none⟩ = some (.int .i64 (t.dep : Int)) := (hcell (m * 2 + 1) (by omega)).trans hl.out.2
        have HO := Lib.hid hown; clear hown hcell
        go_wp2_with fail
        go_ret2
        exact ⟨_, by rw [h1.out]; rfl, (fun h => by rw [h1.out] at h; omega), hb⟩
      · have h1 := Lib.hid (chk_fine hbig hw hd)
        have hl := Lib.hid hl
        clear hw
        have HM := Lib.hid hm
        have hm4 : m < 4000 := by omega
        clear hm
        go_enter Tryd.func47, Tryd.ntmps47
        go_wp2_with fail
        refine (measured_any l _ w HS.out HV.out HSM.out (by omega)).mono ?_
        rintro e w1 ⟨u, rfl, hown0, hb⟩
        have hown := hown0 h2.out
        have HO := Lib.hid hown
        rw [h2.out]
        clear hown0
        rw [HM.out] at hown
        obtain ⟨g, cp, rfl, _, _, _, _, _, hcell, _⟩ := ownsRow_open hown (by omega)
        have c1 : w1.cell? ⟨g, m * 2 + 1, none⟩ = some (.int .i64 (t.dep : Int)) := (hcell (m * 2 + 1) (by omega)).trans hl.out.2
        clear hown hcell
        go_wp2_with fail
        go_ret2
        exact ⟨_, by rw [h1.out]; rfl, (fun _ => HO.out), hb⟩

set_option maxHeartbeats 1000000 in
theorem tcheck_any (l : List Nd) (v : Value) (w : World) (hS : ShapesAt w) (hv : ReadN w v l) (hs : SmallN l) :
    Calls Tryd.prog 51 #[v] w fun e w' => e = .returned (.int .i64 (chk l)) ∧ Below w.heap.size w w' := by
  have HV := Lib.hid hv; clear hv
  have HS := Lib.hid hS; clear hS
  have HSM := Lib.hid hs; clear hs
  go_enter Tryd.func51, Tryd.ntmps51
  go_wp2_with fail
  refine (look_any l _ w HS.out HV.out HSM.out).mono ?_
  rintro e w1 ⟨u, rfl, _, hb⟩
  go_wp2_with fail
  go_ret
  exact ⟨rfl, hb⟩

/-- how deep, or 0 -/
def dpt (l : List Nd) : Int := if chk l = 0 then (match whole l with | some t => (t.dep : Int) | none => 0) else 0

end Go.Proofs.YteldkcpkamgfpaaDoor

