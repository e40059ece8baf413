/- Chapter 2's heavy. -/
import Derived.Test.YtjhgpifccleknaaDoorLook
namespace Go.Proofs.YtjhgpifccleknaaDoor
set_option linter.unusedSimpArgs false
set_option linter.unusedVariables false
open Go.RowKit

def HeavyPost (n N : Nat) (w : World) (e : Ending) (w' : World) : Prop := (∃ b, e = .returned (.bool b) ∧ (b = false → n ≤ N)) ∧ w = w'

set_option maxRecDepth 20000 in
set_option maxHeartbeats 1000000 in
theorem heavy2_any (l : List Nd) (v : Value) (w : World) (hv : ReadN w v l) :
    Calls Tryd.prog 26 #[v] w (HeavyPost l.length 8192 w) := by
  obtain ⟨hm, ⟨h0, a, cap, rfl⟩ | ⟨b, off, cap, rfl, _, _, _, hc⟩⟩ := hv.cases
  · subst h0
    go_enter Tryd.func26, Tryd.ntmps26
    go_wp2_with fail
    go_loopw [3, 4] (fun n i wr => n = .int .i64 0 ∧ i = .int .i64 0 ∧ wr = w) (fun _ _ _ => 0)
    case atStart => exact ⟨rfl, rfl, rfl⟩
    case round =>
      obtain ⟨rfl, rfl, rfl⟩ := hrel
      go_wp2_with fail
      go_ret
      exact ⟨⟨_, rfl, fun _ => by simp⟩, rfl⟩
  have HC := Lib.hid hc; clear hc
  have hm9 : l.length ≤ 9223372036854775807 := by unfold maxLen at hm; omega
  clear hm hv
  go_enter Tryd.func26, Tryd.ntmps26
  go_wp2_with fail
  all_goals
    go_loopw [3, 4] (fun n i wr => (∃ (k : Nat) (m : Int), k ≤ l.length ∧ i = .int .i64 (k : Int) ∧ n = .int .i64 m ∧ 0 ≤ m ∧ m ≤ 2000000 ∧ (m < 1048576 → (l.length : Int) ≤ m)) ∧ wr = w) (fun _ i _ => l.length - (intOf i).toNat)
    case atStart =>
      exact ⟨⟨0, _, Nat.zero_le _, rfl, rfl, by omega, by omega, fun h => by omega⟩, rfl⟩
    case round =>
      obtain ⟨⟨k, m, hk, rfl, rfl, hm0, hm1, hm2⟩, rfl⟩ := hrel
      clear h
      by_cases hlt : k < l.length
      · obtain ⟨g0, g1, g2, g3⟩ := HC.out k hlt
        obtain ⟨nd, hnd⟩ : ∃ nd, l[k] = nd := ⟨_, rfl⟩
        rw [hnd] at g0 g1 g2 g3
        clear hnd
        by_cases hmm : m ≤ 8192
        · have d : decide (m ≤ 8192) = true := by simpa using hmm
          go_wp2_with fail

          refine ⟨⟨⟨k + 1, _, by omega, by go_num, rfl, by split <;> omega, by split <;> omega, fun h => ?_⟩, trivial⟩, by simp [intOf]; omega⟩
          split at h <;> split <;> omega
        · have d : decide (m ≤ 8192) = false := by simpa using hmm
          go_wp2_with fail
          go_ret
          exact ⟨⟨true, rfl, fun h => by cases h⟩, rfl⟩
      · obtain rfl : k = l.length := by omega
        by_cases hmm : m ≤ 8192
        · have d : decide (8192 < m) = false := by simp; omega
          have hfin : Hid (l.length ≤ 8192) := by show _ ≤ _; omega
          go_wp2_with fail
          go_ret
          exact ⟨⟨false, rfl, fun h => hfin.out⟩, rfl⟩
        · have d : decide (8192 < m) = true := by simp; omega
          go_wp2_with fail
          go_ret
          exact ⟨⟨true, rfl, fun h => by cases h⟩, rfl⟩

end Go.Proofs.YtjhgpifccleknaaDoor
