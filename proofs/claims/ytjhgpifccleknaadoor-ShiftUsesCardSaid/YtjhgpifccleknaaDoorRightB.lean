/- What term.right comes to, for every node, where the table of shapes lies as it is laid. -/
import Derived.Test.YtjhgpifccleknaaDoorRight
namespace Go.Proofs.YtjhgpifccleknaaDoor
set_option linter.unusedSimpArgs false
set_option linter.unusedVariables false
open Go.RowKit

theorem below_two {w w1 : World} {o1 o2 : Obj} (hb : Below (w.heap.size + 1 + 1) ((w.alloc o1).alloc o2) w1) : Below w.heap.size w w1 :=
  ((((Below.refl _ _).alloc (Nat.le_refl _) _).alloc (by simp) _).trans (hb.mono (by omega)))

set_option maxHeartbeats 1000000 in
theorem right_sort (N M : Int) (S : ByteArray) (w : World) (hS : ShapesAt w) (hM : (M != 0) = false) (hE : S.toList.isEmpty = true) :
    Calls Tryd.prog 56 #[.agg #[.int .i64 2, .int .i64 N, .int .i64 M, .string S]] w fun e w' => e = .returned (.bool (lv N)) ∧ Below w.heap.size w w' := by
  obtain ⟨a, n, cap, h1, h2, h3, h4, _, _, hlt⟩ := hS.at_ (k := 2) (by omega)
  simp only [shp] at h2 h3 h4
  cases hx : lv N
  all_goals
    have HX := Lib.hid hx; clear hx
    go_enter Tryd.func56, Tryd.ntmps56
    go_wp2_with fail
    refine (check_any _ _).mono ?_
    rintro e w1 ⟨rfl, hb⟩
    simp only [World.size_alloc] at hb
    have hb2 := below_two hb; clear hb
    rw [HX.out]
    go_wp2
    go_ret
    exact ⟨rfl, hb2⟩

set_option maxHeartbeats 1000000 in
theorem right_elim (N M : Int) (S : ByteArray) (w : World) (hS : ShapesAt w) (hs : S.size ≤ maxLen) (hN : (N != 0) = false) (hE : nameB S = true) :
    Calls Tryd.prog 56 #[.agg #[.int .i64 27, .int .i64 N, .int .i64 M, .string S]] w fun e w' => e = .returned (.bool (decide (0 ≤ M) && decide (M ≤ 6))) ∧ Below w.heap.size w w' := by
  obtain ⟨a, n, cap, h1, h2, h3, h4, _, _, hlt⟩ := hS.at_ (k := 27) (by omega)
  simp only [shp] at h2 h3 h4
  by_cases h0 : 0 ≤ M
  · have d0 : decide (0 ≤ M) = true := by simpa using h0
    rw [d0]
    go_enter Tryd.func56, Tryd.ntmps56
    go_wp2_with (go_at_call 24; refine (name_any _ hs _).mono ?_; rintro e w' ⟨rfl, rfl⟩)
    go_ret
    exact ⟨rfl, (by repeat (first | exact Below.refl _ _ | apply Below.drew | apply below_drewN | assumption | (refine Below.alloc ?_ (by simp) _)))⟩
  · have d0 : decide (0 ≤ M) = false := by simpa using h0
    rw [d0]
    go_enter Tryd.func56, Tryd.ntmps56
    go_wp2_with (go_at_call 24; refine (name_any _ hs _).mono ?_; rintro e w' ⟨rfl, rfl⟩)
    go_ret
    exact ⟨rfl, (by repeat (first | exact Below.refl _ _ | apply Below.drew | apply below_drewN | assumption | (refine Below.alloc ?_ (by simp) _)))⟩

set_option maxHeartbeats 2000000 in
theorem right_con (N M : Int) (S : ByteArray) (w : World) (hS : ShapesAt w) (hs : S.size ≤ maxLen) (hE : nameB S = true) :
    Calls Tryd.prog 56 #[.agg #[.int .i64 26, .int .i64 N, .int .i64 M, .string S]] w fun e w' => e = .returned (.bool (decide (0 ≤ N) && decide (N ≤ 5) && decide (0 ≤ M) && decide (M ≤ 6))) ∧ Below w.heap.size w w' := by
  obtain ⟨a, n, cap, h1, h2, h3, h4, _, _, hlt⟩ := hS.at_ (k := 26) (by omega)
  simp only [shp] at h2 h3 h4
  have HQ : Hid (∀ w, Calls Tryd.prog 85 #[.int .i64 26] w fun e w' => e = .returned (.int .i64 5) ∧ w' = w) := by
    intro w
    exact (most_any 26 w).mono fun _ _ h => ⟨h.1, h.2.symm⟩
  cases d0 : decide (0 ≤ N) <;> cases d1 : decide (N ≤ 5) <;> cases d2 : decide (0 ≤ M)
  all_goals
    go_enter Tryd.func56, Tryd.ntmps56
    go_wp2_with (go_at_call 24; refine (name_any _ hs _).mono ?_; rintro e w' ⟨rfl, rfl⟩)
    go_quiet ((go_at_call 85; exact Calls.quiet_of_same (HQ.out _)))
    go_wp2
    go_ret
    exact ⟨rfl, (by repeat (first | exact Below.refl _ _ | apply Below.drew | apply below_drewN | assumption | (refine Below.alloc ?_ (by simp) _)))⟩

theorem shp_sum : ∀ k, k < 30 → (shp k).2 = (true, false, false) ∨ (shp k).2 = (false, false, true) ∨ (shp k).2 = (false, false, false) ∨ ((shp k).2 = (true, true, true) ∧ k = 26) ∨ ((shp k).2 = (false, true, true) ∧ k = 27) := by decide
theorem shp_k2 : ∀ k, k < 30 → (shp k).2 = (false, false, true) ∨ (shp k).2 = (false, false, false) → k ≠ 2 ∧ k ≠ 26 ∧ k ≠ 27 := by decide
theorem shp_kn : ∀ k, k < 30 → (shp k).2 = (true, false, false) → k ≠ 26 ∧ k ≠ 27 := by decide

theorem kne {k m : Nat} (h : k ≠ m) : (((k : Nat) : Int) == (m : Int)) = false := by simp; omega

theorem sizeB (S : ByteArray) : (S.size == 0) = S.toList.isEmpty := by rw [size0]; rfl

set_option maxHeartbeats 400000 in
theorem right_any (n : Nd) (w : World) (hS : ShapesAt w) (hs : n.S.size ≤ maxLen) :
    Calls Tryd.prog 56 #[.agg #[.int .i64 n.K, .int .i64 n.N, .int .i64 n.M, .string n.S]] w fun e w' => e = .returned (.bool (rightB n)) ∧ Below w.heap.size w w' := by
  obtain ⟨K, N, M, S⟩ := n
  simp only at hs ⊢
  by_cases hneg : K < 0
  · have hr : rightB ⟨K, N, M, S⟩ = false := by
      have : decide (0 ≤ K) = false := by simp; omega
      simp only [rightB, this, Bool.false_and]
    rw [hr]
    clear hr
    go_enter Tryd.func56, Tryd.ntmps56
    go_wp2
    go_ret
    exact ⟨rfl, (by repeat (first | exact Below.refl _ _ | apply Below.drew | apply below_drewN | assumption | (refine Below.alloc ?_ (by simp) _)))⟩
  by_cases hbig : 29 < K
  · have hr : rightB ⟨K, N, M, S⟩ = false := by
      have : decide (K ≤ 29) = false := by simp; omega
      simp only [rightB, this, Bool.false_and, Bool.and_false]
    rw [hr]
    clear hr
    have h30 : 30 ≤ K := by omega
    go_enter Tryd.func56, Tryd.ntmps56
    go_wp2
    go_ret
    exact ⟨rfl, (by repeat (first | exact Below.refl _ _ | apply Below.drew | apply below_drewN | assumption | (refine Below.alloc ?_ (by simp) _)))⟩
  obtain ⟨k, rfl⟩ := Int.eq_ofNat_of_zero_le (show 0 ≤ K by omega)
  have hk : k < 30 := by omega
  have hr : rightB ⟨(k : Int), N, M, S⟩ = ((if (shp k).2.1 then decide (0 ≤ N) && decide (N ≤ mostN k) else N == 0) && (if (shp k).2.2.1 then decide (0 ≤ M) && decide (M ≤ 6) else M == 0) && (if (shp k).2.2.2 then nameB S else S.toList.isEmpty)) := by
    have a1 : decide ((0 : Int) ≤ (k : Int)) = true := by simp
    have a2 : decide ((k : Int) ≤ 29) = true := by simp; omega
    simp only [rightB, a1, a2, Bool.true_and, Int.toNat_natCast, sizeB]
  rw [hr]
  clear hr
  have bN : (N != 0) = !(N == 0) := rfl
  have bM : (M != 0) = !(M == 0) := rfl
  rcases shp_sum k hk with h | h | h | ⟨h, rfl⟩ | ⟨h, rfl⟩
  all_goals
    have f1 : (shp _).2.1 = _ := congrArg (·.1) h
    have f2 : (shp _).2.2.1 = _ := congrArg (·.2.1) h
    have f3 : (shp _).2.2.2 = _ := congrArg (·.2.2) h
    simp only at f1 f2 f3
    rw [f1, f2, f3]
    simp only [if_true, if_false, Bool.false_eq_true]
  · obtain ⟨k26, k27⟩ := shp_kn k hk h
    cases hM : (M == 0)
    · have := right_m k N M S w hk hS (.inl f1) f2 (by rw [bM, hM]; rfl)
      simpa using this
    · cases hE : S.toList.isEmpty
      · have := right_s k N M S w hk hS (.inl f1) (.inr ⟨f2, by rw [bM, hM]; rfl⟩) f3 hE
        simpa using this
      · by_cases h2 : k = 2
        · subst h2
          have := right_sort N M S w hS (by rw [bM, hM]; rfl) hE
          simpa [lv, mostN] using this
        · have := right_num k N M S w hk hS f1 f2 f3 (by rw [bM, hM]; rfl) hE (kne h2) (kne k26) (kne k27)
          have e : mostN k = if k = 0 then 99 else if k = 3 ∨ k = 6 then 3 else 5 := by simp [mostN, h2]
          rw [e]
          simpa using this
  · obtain ⟨h2, k26, k27⟩ := shp_k2 k hk (.inl h)
    cases hN : (N == 0)
    · have := right_n k N M S w hk hS f1 (by rw [bN, hN]; rfl)
      simpa using this
    · cases hM : (M == 0)
      · have := right_m k N M S w hk hS (.inr ⟨f1, by rw [bN, hN]; rfl⟩) f2 (by rw [bM, hM]; rfl)
        simpa using this
      · cases hE : nameB S
        · have := right_name k N M S w hk hS hs (.inr ⟨f1, by rw [bN, hN]; rfl⟩) (.inr ⟨f2, by rw [bM, hM]; rfl⟩) f3 hE
          simpa using this
        · have := right_plain k N M S w hk hS hs f1 f2 (by rw [bN, hN]; rfl) (by rw [bM, hM]; rfl) (.inr ⟨f3, hE⟩) (kne h2) (kne k26) (kne k27)
          simpa using this
  · obtain ⟨h2, k26, k27⟩ := shp_k2 k hk (.inr h)
    cases hN : (N == 0)
    · have := right_n k N M S w hk hS f1 (by rw [bN, hN]; rfl)
      simpa using this
    · cases hM : (M == 0)
      · have := right_m k N M S w hk hS (.inr ⟨f1, by rw [bN, hN]; rfl⟩) f2 (by rw [bM, hM]; rfl)
        simpa using this
      · cases hE : S.toList.isEmpty
        · have := right_s k N M S w hk hS (.inr ⟨f1, by rw [bN, hN]; rfl⟩) (.inr ⟨f2, by rw [bM, hM]; rfl⟩) f3 hE
          simpa using this
        · have := right_plain k N M S w hk hS hs f1 f2 (by rw [bN, hN]; rfl) (by rw [bM, hM]; rfl) (.inl ⟨f3, hE⟩) (kne h2) (kne k26) (kne k27)
          simpa using this
  · cases hE : nameB S
    · have := right_name 26 N M S w hk hS hs (.inl f1) (.inl f2) f3 hE
      simpa using this
    · have := right_con N M S w hS hs hE
      simpa [mostN, Bool.and_assoc] using this
  · cases hN : (N == 0)
    · have := right_n 27 N M S w hk hS f1 (by rw [bN, hN]; rfl)
      simpa using this
    · cases hE : nameB S
      · have := right_name 27 N M S w hk hS hs (.inr ⟨f1, by rw [bN, hN]; rfl⟩) (.inl f2) f3 hE
        simpa using this
      · have := right_elim N M S w hS hs (by rw [bN, hN]; rfl) hE
        simpa using this

end Go.Proofs.YtjhgpifccleknaaDoor
