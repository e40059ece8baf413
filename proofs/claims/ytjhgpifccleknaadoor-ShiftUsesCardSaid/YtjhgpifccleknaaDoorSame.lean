/- What the reference's Root and Same, and chapter 2's heavy and lists come to. -/
import Derived.Test.YtjhgpifccleknaaDoorRefDp
namespace Go.Proofs.YtjhgpifccleknaaDoor
set_option linter.unusedSimpArgs false
set_option linter.unusedVariables false
open Go.RowKit

set_option maxRecDepth 20000 in
set_option maxHeartbeats 1000000 in
theorem same_yes (l : List Nd) (va vb : Value) (w : World) (ha : ReadN w va l) (hb : ReadN w vb l) :
    Calls Tryd.prog 30 #[va, vb] w fun e w' => e = .returned (.bool true) ∧ ∃ n, w' = w.drewN n := by
  obtain ⟨hm, ⟨h0, a, cap, rfl⟩ | ⟨b, off, cap, rfl, _, _, _, hc⟩⟩ := ha.cases
  · subst h0
    obtain ⟨a', cap', rfl⟩ := hb.len_slice
    go_enter Tryd.func30, Tryd.ntmps30
    go_wp2_with fail
    go_loopw [5] (fun i wr => i = .int .i64 0 ∧ wr = w) (fun _ _ => 0)
    case atStart => exact ⟨rfl, rfl⟩
    case round =>
      obtain ⟨rfl, rfl⟩ := hrel
      go_wp2_with fail
      go_ret
      exact ⟨rfl, 0, rfl⟩
  obtain ⟨_, ⟨h0, a, cap', rfl⟩ | ⟨b', off', cap', rfl, _, _, _, hc'⟩⟩ := hb.cases
  · subst h0
    go_enter Tryd.func30, Tryd.ntmps30
    go_wp2_with fail
    go_loopw [5] (fun i wr => i = .int .i64 0 ∧ wr = w) (fun _ _ => 0)
    case atStart => exact ⟨rfl, rfl⟩
    case round =>
      obtain ⟨rfl, rfl⟩ := hrel
      go_wp2_with fail
      go_ret
      exact ⟨rfl, 0, rfl⟩
  have HC := Lib.hid hc; clear hc
  have HC' := Lib.hid hc'; clear hc'
  have HA := Lib.hid ha; clear ha
  have HB := Lib.hid hb; clear hb
  have hm9 : l.length ≤ 9223372036854775807 := by unfold maxLen at hm; omega
  clear hm
  go_enter Tryd.func30, Tryd.ntmps30
  go_wp2_with fail
  go_loopw [5] (fun i wr => (∃ k : Nat, k ≤ l.length ∧ i = .int .i64 (k : Int)) ∧ ∃ n, wr = w.drewN n) (fun i _ => l.length - (intOf i).toNat)
  case atStart => exact ⟨⟨0, Nat.zero_le _, rfl⟩, 0, rfl⟩
  case round =>
    obtain ⟨⟨k, hk, rfl⟩, n, rfl⟩ := hrel
    by_cases hlt : k < l.length
    · obtain ⟨g0, g1, g2, g3⟩ := HC.out k hlt
      obtain ⟨f0, f1, f2, f3⟩ := HC'.out k hlt
      obtain ⟨nd, hnd⟩ : ∃ nd, l[k] = nd := ⟨_, rfl⟩
      rw [hnd] at g0 g1 g2 g3 f0 f1 f2 f3
      clear hnd
      go_wp2_with fail
      go_quiet (fail)
      go_wp2_with fail
      go_roundw
      case rel => exact ⟨⟨k + 1, by omega, by go_num⟩, ⟨_, rfl⟩⟩
      case measure => simp [intOf]; omega
    · go_wp2_with fail
      go_ret
      exact ⟨rfl, _, rfl⟩

set_option maxRecDepth 20000 in
set_option maxHeartbeats 1000000 in
theorem root_any (l : List Nd) (nd : Nd) (v : Value) (w : World) (hv : ReadN w v l) (hl : l.getLast? = some nd) :
    Calls Tryd.prog 41 #[v] w fun e w' => e = .returned (.agg #[.int .i64 nd.K, .int .i64 nd.N, .int .i64 nd.M, .string nd.S]) ∧ Below w.heap.size w w' := by
  obtain ⟨_, ⟨h0, _⟩ | ⟨b, off, cap, rfl, hc1, hc2, hbw, hc⟩⟩ := ReadN.cases hv
  · subst h0; cases hl
  obtain ⟨c, hcl⟩ : ∃ c, l.length = c + 1 := ⟨l.length - 1, by have : l ≠ [] := (by rintro rfl; cases hl); have := List.length_pos_iff.2 this; omega⟩
  have hlast : l[c]? = some nd := by rw [List.getLast?_eq_getElem?, hcl] at hl; exact hl
  obtain ⟨hlt, hcn⟩ := List.getElem?_eq_some_iff.1 hlast
  obtain ⟨r0, r1, r2, r3⟩ := hc c hlt
  rw [hcn] at r0 r1 r2 r3
  rw [hcl] at hc1 ⊢
  have hc9 : cap ≤ 9223372036854775807 := by unfold maxLen at hc2; omega
  clear hc hv hl hlast hcn hlt hcl hc2
  go_enter Tryd.func41, Tryd.ntmps41
  go_wp2_with fail
  exact bodyPost_ret (v := .agg #[.int .i64 nd.K, .int .i64 nd.N, .int .i64 nd.M, .string nd.S]) (by simp [results, Tryd.results41, go_sem]) rfl ⟨rfl, (Below.refl _ _).alloc (Nat.le_refl _) _⟩

end Go.Proofs.YtjhgpifccleknaaDoor
