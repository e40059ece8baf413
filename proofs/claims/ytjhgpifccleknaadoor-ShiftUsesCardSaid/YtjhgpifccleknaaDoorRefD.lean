/- What the reference's Binds comes to, for the kinds whose fields are looked at; no condition but the string's size. -/
import Derived.Test.YtjhgpifccleknaaDoorRefB
namespace Go.Proofs.YtjhgpifccleknaaDoor
set_option linter.unusedSimpArgs false
set_option linter.unusedVariables false
open Go.RowKit

set_option maxRecDepth 20000 in
set_option maxHeartbeats 2000000 in
theorem rb_0 (N M : Int) (S : ByteArray) (w : World) :
    Calls Tryd.prog 23 #[.agg #[.int .i64 0, .int .i64 N, .int .i64 M, .string S]] w (RBPost [] (decide (0 ≤ N) && decide (N ≤ 99) && (M == 0) && decide (S.size = 0)) w) := by
  obtain ⟨w2, hw2, hsz, hown, hb, c0, c1, c2, c3⟩ := rb_start w 0 N M S
  rw [← size0 S]
  have HW := Lib.hid hw2
  have HO := Lib.hid hown
  have HB := Lib.hid hb
  clear hw2 hsz hown hb c0 c1 c2 c3
  cases h1 : decide (0 ≤ N)
  · go_enter Tryd.func23, Tryd.ntmps23
    go_wp2_with fail
    go_quiet (fail)
    go_wp2_with fail
    go_ret2
    rw [HW.out]
    exact ⟨_, rfl, read_of_own (l := []) HO.out rfl rfl, below_drewN HB.out _⟩
  · cases h2 : decide (N ≤ 99)
    · go_enter Tryd.func23, Tryd.ntmps23
      go_wp2_with fail
      go_quiet (fail)
      go_wp2_with fail
      go_ret2
      rw [HW.out]
      exact ⟨_, rfl, read_of_own (l := []) HO.out rfl rfl, below_drewN HB.out _⟩
    · cases h3 : M == 0
      · go_enter Tryd.func23, Tryd.ntmps23
        go_wp2_with fail
        go_quiet (fail)
        go_wp2_with fail
        go_ret2
        rw [HW.out]
        exact ⟨_, rfl, read_of_own (l := []) HO.out rfl rfl, below_drewN HB.out _⟩
      · go_enter Tryd.func23, Tryd.ntmps23
        go_wp2_with fail
        go_quiet (fail)
        go_wp2_with fail
        go_ret2
        rw [HW.out]
        exact ⟨_, rfl, read_of_own (l := []) HO.out rfl rfl, below_drewN HB.out _⟩

set_option maxRecDepth 20000 in
set_option maxHeartbeats 2000000 in
theorem rb_name (k : Nat) (hk : k = 1 ∨ k = 25) (N M : Int) (S : ByteArray) (hs : S.size ≤ maxLen) (w : World) :
    Calls Tryd.prog 23 #[.agg #[.int .i64 (k : Int), .int .i64 N, .int .i64 M, .string S]] w (RBPost [] ((N == 0) && (M == 0) && nameB S) w) := by
  obtain ⟨w2, hw2, hsz, hown, hb, c0, c1, c2, c3⟩ := rb_start w k N M S
  have HW := Lib.hid hw2
  have HO := Lib.hid hown
  have HB := Lib.hid hb
  clear hw2 hsz hown hb c0 c1 c2 c3
  obtain ⟨nb, hnb⟩ : ∃ b, nameB S = b := ⟨_, rfl⟩
  rw [hnb]
  have HN := Lib.hid hnb; clear hnb
  have HSZ := Lib.hid hs; clear hs
  rcases hk with rfl | rfl
  all_goals
    cases h1 : N == 0
    · go_enter Tryd.func23, Tryd.ntmps23
      go_wp2_with fail
      go_ret2
      exact ⟨_, rfl, read_of_own (l := []) (by first | exact HW.out ▸ HO.out) rfl rfl, by first | exact HW.out ▸ HB.out⟩
    · cases h2 : M == 0
      · go_enter Tryd.func23, Tryd.ntmps23
        go_wp2_with fail
        go_ret2
        exact ⟨_, rfl, read_of_own (l := []) (by first | exact HW.out ▸ HO.out) rfl rfl, by first | exact HW.out ▸ HB.out⟩
      · go_enter Tryd.func23, Tryd.ntmps23
        go_wp2_with (go_at_call 25; refine (refname_any S HSZ.out _).mono ?_; rw [HN.out]; rintro e w9 ⟨rfl, rfl⟩)
        go_ret2
        exact ⟨_, rfl, read_of_own (l := []) (by first | exact HW.out ▸ HO.out) rfl rfl, by first | exact HW.out ▸ HB.out⟩

set_option maxRecDepth 20000 in
set_option maxHeartbeats 2000000 in
theorem rb_2 (N M : Int) (S : ByteArray) (w : World) :
    Calls Tryd.prog 23 #[.agg #[.int .i64 2, .int .i64 N, .int .i64 M, .string S]] w (RBPost [] (lv N && (M == 0) && decide (S.size = 0)) w) := by
  obtain ⟨w2, hw2, hsz, hown, hb, c0, c1, c2, c3⟩ := rb_start w 2 N M S
  rw [← size0 S]
  have HW := Lib.hid hw2
  have HO := Lib.hid hown
  have HB := Lib.hid hb
  clear hw2 hsz hown hb c0 c1 c2 c3
  cases h1 : lv N
  · have hq : ∀ w : World, Calls Tryd.prog 58 #[.int .i64 N] w fun e w' => e = .returned (.int .i64 1) ∧ w' = w := by intro w; have h := refcheck_any N w; rw [h1] at h; exact h.mono fun _ _ h => ⟨h.1, h.2.symm⟩
    have HQ := Lib.hid hq; clear hq
    go_enter Tryd.func23, Tryd.ntmps23
    go_wp2_with fail
    go_quiet ((go_at_call 58; exact Calls.quiet_of_same (HQ.out _)))
    go_wp2_with fail
    go_ret2
    rw [HW.out]
    exact ⟨_, rfl, read_of_own (l := []) HO.out rfl rfl, below_drewN HB.out _⟩
  · have hq : ∀ w : World, Calls Tryd.prog 58 #[.int .i64 N] w fun e w' => e = .returned (.int .i64 0) ∧ w' = w := by intro w; have h := refcheck_any N w; rw [h1] at h; exact h.mono fun _ _ h => ⟨h.1, h.2.symm⟩
    have HQ := Lib.hid hq; clear hq
    cases h2 : M == 0
    · go_enter Tryd.func23, Tryd.ntmps23
      go_wp2_with fail
      go_quiet ((go_at_call 58; exact Calls.quiet_of_same (HQ.out _)))
      go_wp2_with fail
      go_ret2
      rw [HW.out]
      exact ⟨_, rfl, read_of_own (l := []) HO.out rfl rfl, below_drewN HB.out _⟩
    · go_enter Tryd.func23, Tryd.ntmps23
      go_wp2_with fail
      go_quiet ((go_at_call 58; exact Calls.quiet_of_same (HQ.out _)))
      go_wp2_with fail
      go_ret2
      rw [HW.out]
      exact ⟨_, rfl, read_of_own (l := []) HO.out rfl rfl, below_drewN HB.out _⟩

end Go.Proofs.YtjhgpifccleknaaDoor
