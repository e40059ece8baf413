/- corniceref17.Mentions; no condition. -/
import Derived.Test.YteldkcpkamgfpaaDoorDj
namespace Go.Proofs.YteldkcpkamgfpaaDoor
set_option linter.unusedSimpArgs false
set_option linter.unusedVariables false
open Go.RowKit

set_option maxHeartbeats 4000000 in
set_option maxRecDepth 100000 in
theorem rmentions_any (t : List Nd) (s : ByteArray) (v : Value) (w : World) (hv : ReadN w v t) :
    Calls Tryd.prog 21 #[v, .string s] w fun e w' => e = .returned (.bool (mentB t s)) ∧ w = w' := by
  obtain ⟨R, hR⟩ : ∃ R, mentB t s = R := ⟨_, rfl⟩
  rw [hR]
  have HR := Lib.hid hR
  clear hR
  obtain ⟨hm, ⟨h0, a, cap, rfl⟩ | ⟨b, off, cap, rfl, hc1, hc2, hbw, hc⟩⟩ := hv.cases
  · subst h0
    have hf : R = false := by rw [← HR.out]; rfl
    subst hf
    clear hv
    go_enter Tryd.func21, Tryd.ntmps21
    go_wp2_with fail
    go_loopw [5] (fun i wr => i = .int .i64 0 ∧ wr = w) (fun _ _ => 0)
    case atStart => exact ⟨rfl, rfl⟩
    case round =>
      obtain ⟨rfl, rfl⟩ := hrel
      go_wp2_with fail
      go_ret
      exact ⟨rfl, rfl⟩
  have HC := Lib.hid hc
  have hm9 : t.length ≤ 9223372036854775807 := by unfold maxLen at hm; omega
  have hcap : cap ≤ 9223372036854775807 := by unfold maxLen at hc2; omega
  clear hv hc hm hc2
  have a0 : Hid (RMent s w t (.int .i64 0) w) := Lib.hid ⟨0, Nat.zero_le _, rfl, by simp, Below.refl _ _⟩
  go_enter Tryd.func21, Tryd.ntmps21
  go_wp2_with fail
  go_loopw [5] (fun i wr => RMent s w t i w ∧ wr = w) (fun i _ => t.length - (intOf i).toNat)
  case atStart => exact ⟨a0.out, rfl⟩
  case round =>
    obtain ⟨⟨k, hk, rfl, hz, hbe⟩, rfl⟩ := hrel
    have HZ := Lib.hid hz
    clear hz hbe a0
    by_cases hlt : k < t.length
    rotate_left
    · obtain rfl : k = t.length := by omega
      have hf : R = false := by rw [← HR.out]; exact ment_none HZ.out
      subst hf
      go_wp2_with fail
      go_ret
      exact ⟨rfl, rfl⟩
    obtain ⟨g0, g1, g2, g3⟩ := HC.out k hlt
    have HNX := Lib.hid (ment_next (s := s) hlt HZ.out)
    have HSM := Lib.hid (fun h => HR.out.symm.trans (ment_some (s := s) hlt h))
    obtain ⟨nd, hnd⟩ : ∃ nd, t[k] = nd := ⟨_, rfl⟩
    rw [hnd] at g0 g1 g2 g3 HNX HSM
    have hq := mentN_eq nd s
    obtain ⟨x, hx⟩ : ∃ x, (nd.S.toList == s.toList) = x := ⟨_, rfl⟩
    obtain ⟨K, hK⟩ : ∃ K, nd.K = K := ⟨_, rfl⟩
    rw [hx] at hq
    rw [hK] at g0
    have hment : mentN nd s = (x && (K == 25 || (K == 26 || K == 27))) := by unfold mentN; rw [hq, hK]
    have HME := Lib.hid hment
    clear hnd hq hment hK
    by_cases h1 : K = 25
    · subst h1
      cases x
      · have hf : mentN nd s = false := by rw [HME.out]; rfl
        go_wp2_with fail
        go_roundw
        case rel => exact ⟨⟨k + 1, by omega, by go_num, HNX.out hf, Below.refl _ _⟩, trivial⟩
        case measure => simp [intOf]; omega
      · have hf : R = true := HSM.out (by rw [HME.out]; rfl)
        subst hf
        go_wp2_with fail
        go_ret
        exact ⟨rfl, rfl⟩
    have n1 : (K == 25) = false := by simpa using h1
    by_cases h2 : K = 26
    · subst h2
      cases x
      · have hf : mentN nd s = false := by rw [HME.out]; rfl
        go_wp2_with fail
        go_roundw
        case rel => exact ⟨⟨k + 1, by omega, by go_num, HNX.out hf, Below.refl _ _⟩, trivial⟩
        case measure => simp [intOf]; omega
      · have hf : R = true := HSM.out (by rw [HME.out]; rfl)
        subst hf
        go_wp2_with fail
        go_ret
        exact ⟨rfl, rfl⟩
    have n2 : (K == 26) = false := by simpa using h2
    by_cases h3 : K = 27
    · subst h3
      cases x
      · have hf : mentN nd s = false := by rw [HME.out]; rfl
        go_wp2_with fail
        go_roundw
        case rel => exact ⟨⟨k + 1, by omega, by go_num, HNX.out hf, Below.refl _ _⟩, trivial⟩
        case measure => simp [intOf]; omega
      · have hf : R = true := HSM.out (by rw [HME.out]; rfl)
        subst hf
        go_wp2_with fail
        go_ret
        exact ⟨rfl, rfl⟩
    have n3 : (K == 27) = false := by simpa using h3
    have hf : mentN nd s = false := by rw [HME.out]; rw [n1, n2, n3]; cases x <;> rfl
    go_wp2_with fail
    go_roundw
    case rel => exact ⟨⟨k + 1, by omega, by go_num, HNX.out hf, Below.refl _ _⟩, trivial⟩
    case measure => simp [intOf]; omega

end Go.Proofs.YteldkcpkamgfpaaDoor
