/- heavy of cornicelaw17; conditions: the strings' sizes. -/
import Derived.Test.YteldkcpkamgfpaaDoorDm
import Derived.Test.YteldkcpkamgfpaaDoorRh
namespace Go.Proofs.YteldkcpkamgfpaaDoor
set_option linter.unusedSimpArgs false
set_option linter.unusedVariables false
open Go.RowKit

set_option maxRecDepth 20000 in
set_option maxHeartbeats 2000000 in
theorem heavy17_any (l : List Nd) (v : Value) (w : World) (hv : ReadN w v l) (hs : SmallN l) :
    Calls Tryd.prog 8 #[v] w (HeavyPost l.length 100 w) := by
  obtain ⟨hm, ⟨h0, a, cap, rfl⟩ | ⟨b, off, cap, rfl, _, _, _, hc⟩⟩ := hv.cases
  · subst h0
    go_enter Tryd.func8, Tryd.ntmps8
    go_wp2_with fail
    go_loopw [3] (fun i wr => i = .int .i64 0 ∧ wr = w) (fun _ _ => 0)
    case atStart => exact ⟨rfl, rfl⟩
    case round =>
      obtain ⟨rfl, rfl⟩ := hrel
      go_wp2_with fail
      go_ret
      exact ⟨⟨_, rfl, fun _ => by simp⟩, rfl⟩
  have HC := Lib.hid hc; clear hc
  have HSM := Lib.hid hs; clear hs
  have hm9 : l.length ≤ 9223372036854775807 := by unfold maxLen at hm; omega
  clear hm hv
  by_cases h3 : l.length > 100
  · have d : decide ((l.length : Int) > 100) = true := by simp; omega
    go_enter Tryd.func8, Tryd.ntmps8
    go_wp2_with fail
    go_ret
    exact ⟨⟨true, rfl, fun h => by cases h⟩, rfl⟩
  have d : decide ((l.length : Int) > 100) = false := by simp; omega
  have hfin : Hid (l.length ≤ 100) := by show _ ≤ _; omega
  go_enter Tryd.func8, Tryd.ntmps8
  go_wp2_with fail
  go_loopw [3] (fun i wr => (∃ k : Nat, k ≤ l.length ∧ i = .int .i64 (k : Int)) ∧ wr = w) (fun i _ => l.length - (intOf i).toNat)
  case atStart => exact ⟨⟨0, Nat.zero_le _, rfl⟩, rfl⟩
  case round =>
    obtain ⟨⟨k, hk, rfl⟩, rfl⟩ := hrel
    by_cases hlt : k < l.length
    · obtain ⟨g0, g1, g2, g3⟩ := HC.out k hlt
      have hz := HSM.out l[k] (List.getElem_mem hlt)
      obtain ⟨nd, hnd⟩ : ∃ nd, l[k] = nd := ⟨_, rfl⟩
      rw [hnd] at g0 g1 g2 g3 hz
      clear hnd
      have hz9 : nd.S.size ≤ 9223372036854775807 := by unfold maxLen at hz; omega
      clear hz
      by_cases hmm : nd.S.size > 100
      · have d2 : decide ((nd.S.size : Int) > 100) = true := by simp; omega
        go_wp2_with fail
        go_ret
        exact ⟨⟨true, rfl, fun h => by cases h⟩, rfl⟩
      · have d2 : decide ((nd.S.size : Int) > 100) = false := by simp; omega
        go_wp2_with fail
        exact ⟨⟨⟨k + 1, by omega, by go_num⟩, trivial⟩, by simp [intOf]; omega⟩
    · obtain rfl : k = l.length := by omega
      go_wp2_with fail
      go_ret
      exact ⟨⟨false, rfl, fun h => hfin.out⟩, rfl⟩

end Go.Proofs.YteldkcpkamgfpaaDoor
