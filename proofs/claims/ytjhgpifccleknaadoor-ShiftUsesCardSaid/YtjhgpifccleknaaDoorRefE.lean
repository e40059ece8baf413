/- What the reference's Binds comes to, for constructors and eliminators, and for kinds that are none; condition: a string's size. -/
import Derived.Test.YtjhgpifccleknaaDoorRefD
import Derived.Test.YtjhgpifccleknaaDoorZeroRow
namespace Go.Proofs.YtjhgpifccleknaaDoor
set_option linter.unusedSimpArgs false
set_option linter.unusedVariables false
open Go.RowKit

set_option maxRecDepth 20000 in
set_option maxHeartbeats 2000000 in
theorem rb_26_no (N M : Int) (S : ByteArray) (hs : S.size ≤ maxLen) (w : World) (hno : ¬ (nameB S = true ∧ 0 ≤ N ∧ N < 6 ∧ 0 ≤ M ∧ M ≤ 6)) :
    Calls Tryd.prog 23 #[.agg #[.int .i64 26, .int .i64 N, .int .i64 M, .string S]] w (RBPost [] false w) := by
  obtain ⟨w2, hw2, hsz, hown, hb, c0, c1, c2, c3⟩ := rb_start w 26 N M S
  have HW := Lib.hid hw2
  have HO := Lib.hid hown
  have HB := Lib.hid hb
  have HSZ := Lib.hid hs; clear hs
  clear hw2 hsz hown hb c0 c1 c2 c3
  cases h0 : nameB S
  · have HN := Lib.hid h0; clear h0 hno
    go_enter Tryd.func23, Tryd.ntmps23
    go_wp2_with (go_at_call 25; refine (refname_any S HSZ.out _).mono ?_; rw [HN.out]; rintro e w9 ⟨rfl, rfl⟩)
    go_ret2
    rw [HW.out]
    exact ⟨_, rfl, read_of_own (l := []) HO.out rfl rfl, HB.out⟩
  · have HN := Lib.hid h0; clear h0
    by_cases h1 : N < 0
    · have d1 : decide (N < 0) = true := by simpa using h1
      clear h1 hno
      go_enter Tryd.func23, Tryd.ntmps23
      go_wp2_with (go_at_call 25; refine (refname_any S HSZ.out _).mono ?_; rw [HN.out]; rintro e w9 ⟨rfl, rfl⟩)
      go_ret2
      rw [HW.out]
      exact ⟨_, rfl, read_of_own (l := []) HO.out rfl rfl, HB.out⟩
    · have d1 : decide (N < 0) = false := by simpa using h1
      by_cases h2 : 6 ≤ N
      · have d2 : decide (6 ≤ N) = true := by simpa using h2
        clear h1 h2 hno
        go_enter Tryd.func23, Tryd.ntmps23
        go_wp2_with (go_at_call 25; refine (refname_any S HSZ.out _).mono ?_; rw [HN.out]; rintro e w9 ⟨rfl, rfl⟩)
        go_ret2
        rw [HW.out]
        exact ⟨_, rfl, read_of_own (l := []) HO.out rfl rfl, HB.out⟩
      · have d2 : decide (6 ≤ N) = false := by simpa using h2
        by_cases h3 : M < 0
        · have d3 : decide (M < 0) = true := by simpa using h3
          clear h1 h2 h3 hno
          go_enter Tryd.func23, Tryd.ntmps23
          go_wp2_with (go_at_call 25; refine (refname_any S HSZ.out _).mono ?_; rw [HN.out]; rintro e w9 ⟨rfl, rfl⟩)
          go_ret2
          rw [HW.out]
          exact ⟨_, rfl, read_of_own (l := []) HO.out rfl rfl, HB.out⟩
        · have d3 : decide (M < 0) = false := by simpa using h3
          have d4 : decide (6 < M) = true := by
            rw [decide_eq_true_eq]
            by_cases hc : 6 < M
            · exact hc
            · exact absurd ⟨HN.out, by omega, by omega, by omega, by omega⟩ hno
          clear h1 h2 h3 hno
          go_enter Tryd.func23, Tryd.ntmps23
          go_wp2_with (go_at_call 25; refine (refname_any S HSZ.out _).mono ?_; rw [HN.out]; rintro e w9 ⟨rfl, rfl⟩)
          go_ret2
          rw [HW.out]
          exact ⟨_, rfl, read_of_own (l := []) HO.out rfl rfl, HB.out⟩

set_option maxRecDepth 20000 in
set_option maxHeartbeats 2000000 in
theorem rb_27_no (N M : Int) (S : ByteArray) (hs : S.size ≤ maxLen) (w : World) (hno : ¬ (nameB S = true ∧ N = 0 ∧ 0 ≤ M ∧ M ≤ 6)) :
    Calls Tryd.prog 23 #[.agg #[.int .i64 27, .int .i64 N, .int .i64 M, .string S]] w (RBPost [] false w) := by
  obtain ⟨w2, hw2, hsz, hown, hb, c0, c1, c2, c3⟩ := rb_start w 27 N M S
  have HW := Lib.hid hw2
  have HO := Lib.hid hown
  have HB := Lib.hid hb
  have HSZ := Lib.hid hs; clear hs
  clear hw2 hsz hown hb c0 c1 c2 c3
  cases h0 : nameB S
  · have HN := Lib.hid h0; clear h0 hno
    go_enter Tryd.func23, Tryd.ntmps23
    go_wp2_with (go_at_call 25; refine (refname_any S HSZ.out _).mono ?_; rw [HN.out]; rintro e w9 ⟨rfl, rfl⟩)
    go_ret2
    rw [HW.out]
    exact ⟨_, rfl, read_of_own (l := []) HO.out rfl rfl, HB.out⟩
  · have HN := Lib.hid h0; clear h0
    by_cases h1 : N = 0
    · subst h1
      by_cases h3 : M < 0
      · have d3 : decide (M < 0) = true := by simpa using h3
        clear h3 hno
        go_enter Tryd.func23, Tryd.ntmps23
        go_wp2_with (go_at_call 25; refine (refname_any S HSZ.out _).mono ?_; rw [HN.out]; rintro e w9 ⟨rfl, rfl⟩)
        go_ret2
        rw [HW.out]
        exact ⟨_, rfl, read_of_own (l := []) HO.out rfl rfl, HB.out⟩
      · have d3 : decide (M < 0) = false := by simpa using h3
        have d4 : decide (6 < M) = true := by
          rw [decide_eq_true_eq]
          by_cases hc : 6 < M
          · exact hc
          · exact absurd ⟨HN.out, rfl, by omega, by omega⟩ hno
        clear h3 hno
        go_enter Tryd.func23, Tryd.ntmps23
        go_wp2_with (go_at_call 25; refine (refname_any S HSZ.out _).mono ?_; rw [HN.out]; rintro e w9 ⟨rfl, rfl⟩)
        go_ret2
        rw [HW.out]
        exact ⟨_, rfl, read_of_own (l := []) HO.out rfl rfl, HB.out⟩
    · have d1 : (N != 0) = true := by simpa using h1
      clear h1 hno
      go_enter Tryd.func23, Tryd.ntmps23
      go_wp2_with (go_at_call 25; refine (refname_any S HSZ.out _).mono ?_; rw [HN.out]; rintro e w9 ⟨rfl, rfl⟩)
      go_ret2
      rw [HW.out]
      exact ⟨_, rfl, read_of_own (l := []) HO.out rfl rfl, HB.out⟩

set_option maxRecDepth 20000 in
set_option maxHeartbeats 2000000 in
theorem rb_26 (N : Int) (m : Nat) (S : ByteArray) (hs : S.size ≤ maxLen) (w : World) (h0 : nameB S = true) (h1 : 0 ≤ N) (h2 : N < 6) (hm : m ≤ 6) :
    Calls Tryd.prog 23 #[.agg #[.int .i64 26, .int .i64 N, .int .i64 (m : Int), .string S]] w (RBPost (List.replicate m 0) true w) := by
  obtain ⟨i0, hi, hz0, hz1, hz2⟩ := info_parts Tryd.infoInt
  obtain ⟨w2, hw2, hsz, hown, hb, c0, c1, c2, c3⟩ := rb_start w 26 N m S
  have HW := Lib.hid hw2
  have HB := Lib.hid hb
  have HSZ := Lib.hid hs; clear hs
  clear hw2 hsz hown hb c0 c1 c2 c3
  have HN := Lib.hid h0; clear h0
  have hmk := fun w => run_make_zeros (P := Tryd.prog) 25 3 i0 Tryd.underlying25 hi hz0 hz1 hz2 m (by omega) w
  go_enter Tryd.func23, Tryd.ntmps23
  go_wp2_with (go_at_call 25; refine (refname_any S HSZ.out _).mono ?_; rw [HN.out]; rintro e w9 ⟨rfl, rfl⟩)
  go_ret2
  rw [HW.out]
  refine ⟨.slice (some ⟨w2.heap.size, 0, none⟩) m m, by rw [← HW.out]; simp, ?_, HB.out.alloc HB.out.size _⟩
  have := ReadI.lit w2 3 (List.replicate m (0 : Int)) (by simp; unfold maxLen; omega)
  simpa [ints_repl] using this

end Go.Proofs.YtjhgpifccleknaaDoor
