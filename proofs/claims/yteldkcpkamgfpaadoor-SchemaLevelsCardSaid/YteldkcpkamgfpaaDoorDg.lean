/- slices.Equal of nodes, at any two rows; unfold.root; no condition. -/
import Derived.Test.YteldkcpkamgfpaaDoorDe
namespace Go.Proofs.YteldkcpkamgfpaaDoor
set_option linter.unusedSimpArgs false
set_option linter.unusedVariables false
open Go.RowKit

theorem nd_first {n m : Nd} (h : n ≠ m) : ¬ n.K = m.K ∨ (n.K = m.K ∧ ¬ n.N = m.N) ∨ (n.K = m.K ∧ n.N = m.N ∧ ¬ n.M = m.M) ∨ (n.K = m.K ∧ n.N = m.N ∧ n.M = m.M ∧ ¬ n.S.toList = m.S.toList) := by
  by_cases h1 : n.K = m.K
  · by_cases h2 : n.N = m.N
    · by_cases h3 : n.M = m.M
      · refine .inr (.inr (.inr ⟨h1, h2, h3, fun h4 => h ?_⟩))
        rw [ByteArray.toList_eq, ByteArray.toList_eq] at h4
        have h5 : n.S = m.S := by
          apply ByteArray.ext
          exact Array.toList_inj.1 h4
        cases n; cases m
        simp only at h1 h2 h3 h5
        rw [h1, h2, h3, h5]
      · exact .inr (.inr (.inl ⟨h1, h2, h3⟩))
    · exact .inr (.inl ⟨h1, h2⟩)
  · exact .inl h1

set_option maxRecDepth 20000 in
set_option maxHeartbeats 2000000 in
theorem equal_any (l m : List Nd) (va vb : Value) (w : World) (ha : ReadN w va l) (hb : ReadN w vb m) :
    Calls Tryd.prog 52 #[va, vb] w fun e w' => e = .returned (.bool (decide (l = m))) ∧ Below w.heap.size w w' := by
  obtain ⟨aa, ca, rfl⟩ := ha.len_slice
  obtain ⟨ab, cb, rfl⟩ := hb.len_slice
  obtain ⟨hm, hca⟩ := ha.cases
  obtain ⟨hm', hcb⟩ := hb.cases
  have hm9 : l.length ≤ 9223372036854775807 := by unfold maxLen at hm; omega
  have hm9' : m.length ≤ 9223372036854775807 := by unfold maxLen at hm'; omega
  clear hm hm'
  by_cases hlen : l.length = m.length
  rotate_left
  · have hb1 : ((l.length : Int) != (m.length : Int)) = true := by simp; omega
    have hb2 : (l.length != m.length) = true := by simpa using hlen
    have hne : decide (l = m) = false := by
      rw [decide_eq_false_iff_not]
      intro e
      exact hlen (by rw [e])
    rw [hne]
    clear hca hcb ha hb hlen hne
    go_enter Tryd.func52, Tryd.ntmps52
    go_wp2_with fail
    go_ret
    exact ⟨rfl, Below.refl _ _⟩
  obtain ⟨R, hR⟩ : ∃ R, decide (l = m) = R := ⟨_, rfl⟩
  rw [hR]
  have HR := Lib.hid hR
  have HCA := Lib.hid hca
  have HCB := Lib.hid hcb
  have HLN := Lib.hid hlen
  obtain ⟨N, hN⟩ : ∃ N, m.length = N := ⟨_, rfl⟩
  rw [hlen, hN]
  rw [hN] at hm9'
  have HN := Lib.hid hN
  clear hca hcb ha hb hlen hN hm9 hR
  go_enter Tryd.func52, Tryd.ntmps52
  go_wp2_with fail
  go_loopw [13] (fun i wr => (∃ k : Nat, k ≤ N ∧ i = .int .i64 (k : Int) ∧ l.take k = m.take k) ∧ ∃ n, wr = w.drewN n) (fun i _ => N - (intOf i).toNat)
  case atStart => exact ⟨⟨0, Nat.zero_le _, rfl, rfl⟩, 0, rfl⟩
  case round =>
    obtain ⟨⟨k, hk, rfl, htk⟩, n, rfl⟩ := hrel
    have HTK := Lib.hid htk
    clear htk
    by_cases hlt : k < N
    rotate_left
    · have hkN : k = N := by omega
      have h := HTK.out
      rw [hkN, ← HN.out, List.take_of_length_le (Nat.le_refl _), ← HLN.out, List.take_of_length_le (Nat.le_refl _)] at h
      have hRt : R = true := by rw [← HR.out]; exact decide_eq_true h
      subst hRt
      clear h
      obtain rfl := hkN
      go_wp2_with fail
      go_ret
      exact ⟨rfl, below_drewN (Below.refl _ _) _⟩
    have hla : k < l.length := by have := HLN.out; have := HN.out; omega
    have hlb : k < m.length := by have := HN.out; omega
    rcases HCA.out with ⟨h0, _⟩ | ⟨b, off, cap, he, _, _, _, hc⟩
    · subst h0; simp at hla
    rcases HCB.out with ⟨h0, _⟩ | ⟨b', off', cap', he', _, _, _, hc'⟩
    · subst h0; simp at hlb
    obtain ⟨rfl, rfl⟩ : aa = some ⟨b, off, none⟩ ∧ ca = cap := by simpa using he
    obtain ⟨rfl, rfl⟩ : ab = some ⟨b', off', none⟩ ∧ cb = cap' := by simpa using he'
    obtain ⟨g0, g1, g2, g3⟩ := hc k hla
    obtain ⟨f0, f1, f2, f3⟩ := hc' k hlb
    obtain ⟨nd, hnd⟩ : ∃ nd, l[k] = nd := ⟨_, rfl⟩
    obtain ⟨md, hmd⟩ : ∃ md, m[k] = md := ⟨_, rfl⟩
    rw [hnd] at g0 g1 g2 g3
    rw [hmd] at f0 f1 f2 f3
    have HNX : Hid (nd = md → l.take (k + 1) = m.take (k + 1)) := by
      show _ → _
      intro e
      rw [List.take_succ_eq_append_getElem hla, List.take_succ_eq_append_getElem hlb, HTK.out, hnd, hmd, e]
    have HNF : Hid (nd ≠ md → R = false) := by
      show _ → _
      intro e
      rw [← HR.out, decide_eq_false_iff_not]
      intro h
      subst h
      exact e (hnd.symm.trans hmd)
    clear he he' hc hc' hnd hmd hla hlb
    by_cases hq : nd = md
    · subst hq
      have HT := Lib.hid (HNX.out rfl)
      go_wp2_with fail
      go_quiet (fail)
      go_wp2_with fail
      go_roundw
      case rel => exact ⟨⟨k + 1, by omega, by go_num, HT.out⟩, ⟨_, rfl⟩⟩
      case measure => simp [intOf]; omega
    · have hRf := HNF.out hq
      subst hRf
      rcases nd_first hq with h1 | ⟨h1, h2⟩ | ⟨h1, h2, h3⟩ | ⟨h1, h2, h3, h4⟩
      · clear hq HNX HNF
        go_wp2_with fail
        go_quiet (fail)
        go_wp2_with fail
        go_ret
        exact ⟨rfl, below_drewN (below_drewN (Below.refl _ _) _) _⟩
      · rw [h1] at g0
        clear hq HNX HNF h1
        go_wp2_with fail
        go_quiet (fail)
        go_wp2_with fail
        go_ret
        exact ⟨rfl, below_drewN (below_drewN (Below.refl _ _) _) _⟩
      · rw [h1] at g0
        rw [h2] at g1
        clear hq HNX HNF h1 h2
        go_wp2_with fail
        go_quiet (fail)
        go_wp2_with fail
        go_ret
        exact ⟨rfl, below_drewN (below_drewN (Below.refl _ _) _) _⟩
      · rw [h1] at g0
        rw [h2] at g1
        rw [h3] at g2
        clear hq HNX HNF h1 h2 h3
        go_wp2_with fail
        go_quiet (fail)
        go_wp2_with fail
        go_ret
        exact ⟨rfl, below_drewN (below_drewN (Below.refl _ _) _) _⟩

end Go.Proofs.YteldkcpkamgfpaaDoor
