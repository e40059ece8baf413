/- What the reference's Depth and Args, and chapter 2's lists come to; condition: the strings' sizes. -/
import Derived.Test.YtjhgpifccleknaaDoorSame
namespace Go.Proofs.YtjhgpifccleknaaDoor
set_option linter.unusedSimpArgs false
set_option linter.unusedVariables false
open Go.RowKit

set_option maxRecDepth 20000 in
set_option maxHeartbeats 1000000 in
theorem refdepth_any (l : List Nd) (v : Value) (w : World) (hv : ReadN w v l) (hs : SmallN l) :
    Calls Tryd.prog 34 #[v] w fun e w' => e = .returned (.tuple #[.int .i64 (dpt l), .int .i64 (chk l)]) ∧ Below w.heap.size w w' := by
  have HCK := refcheck2_any l v w hv hs
  by_cases hk : chk l = 0
  · obtain ⟨hle, t, hw, hd⟩ := chk_ok hk
    have hdp : dpt l = (t.dep : Int) := by unfold dpt; rw [if_pos hk, hw]
    obtain ⟨hwf, hfl⟩ := whole_some hw
    have HD : Hid (∀ w', Below w.heap.size w w' → Calls Tryd.prog 69 #[v] w' fun e w9 => e = .returned (.int .i64 (t.dep : Int)) ∧ Below w'.heap.size w' w9) := by
      show ∀ w', _
      intro w' hb
      have h1 := hv.below hb
      rw [← hfl] at h1 hs hle
      exact refdeep_all t hwf v w' h1 hs hle
    rw [hk] at HCK
    rw [hdp, hk]
    have HCK := Lib.hid HCK
    clear hdp hw hk hv hs hfl hwf hle
    go_enter Tryd.func34, Tryd.ntmps34
    go_wp2_with fail
    refine HCK.out.mono ?_
    rintro e w1 ⟨rfl, hb⟩
    have HB := Lib.hid hb; clear hb
    go_wp2_with fail
    refine (HD.out _ HB.out).mono ?_
    rintro e w2 ⟨rfl, hb2⟩
    have HB2 : Hid (Below w.heap.size w w2) := HB.out.trans (hb2.mono HB.out.size)
    clear hb2
    go_wp2_with fail
    go_ret2
    exact ⟨rfl, HB2.out⟩
  · have hdp : dpt l = 0 := by unfold dpt; rw [if_neg hk]
    obtain ⟨c, hc⟩ : ∃ c, chk l = c := ⟨_, rfl⟩
    rw [hdp, hc]
    rw [hc] at hk HCK
    have hkb : (c != 0) = true := by simpa using hk
    have HCK := Lib.hid HCK
    clear hdp hc hv hs
    go_enter Tryd.func34, Tryd.ntmps34
    go_wp2_with fail
    refine HCK.out.mono ?_
    rintro e w1 ⟨rfl, hb⟩
    have HB := Lib.hid hb; clear hb
    go_wp2_with fail
    go_ret2
    exact ⟨rfl, HB.out⟩

set_option maxRecDepth 20000 in
set_option maxHeartbeats 1000000 in
theorem refargs_any (l : List Nd) (v : Value) (w : World) (hv : ReadN w v l) (hs : SmallN l) :
    Calls Tryd.prog 36 #[v] w (ArgsPost l w) := by
  have HCK := refcheck2_any l v w hv hs
  obtain ⟨c, hc⟩ : ∃ c, chk l = c := ⟨_, rfl⟩
  by_cases hk : chk l = 0
  · obtain ⟨hle, t, hw, hd⟩ := chk_ok hk
    obtain ⟨hwf, hfl⟩ := whole_some hw
    obtain ⟨nd, cs⟩ := t
    have HD : Hid (∀ w', Below w.heap.size w w' → Calls Tryd.prog 42 #[v] w' (PartsPost cs w')) := by
      show ∀ w', _
      intro w' hb
      have h1 := hv.below hb
      rw [← hfl] at h1 hs hle
      exact refparts_any nd cs v w' hwf h1 hs hle
    rw [hk] at HCK
    have HCK := Lib.hid HCK
    have HK := Lib.hid hk
    have HWH := Lib.hid hw
    clear hw hk hv hs hfl hwf hle hc
    go_enter Tryd.func36, Tryd.ntmps36
    go_wp2_with fail
    refine HCK.out.mono ?_
    rintro e w1 ⟨rfl, hb⟩
    have HB := Lib.hid hb; clear hb
    go_wp2_with fail
    refine (HD.out _ HB.out).mono ?_
    rintro e w2 ⟨a, cap, rfl, hnn, hb2⟩
    have HB2 : Hid (Below w.heap.size w w2) := HB.out.trans (hb2.mono HB.out.size)
    have HNN := Lib.hid hnn
    clear hb2 hnn
    go_wp2_with fail
    go_ret2
    exact ⟨_, by rw [HK.out]; rfl, fun _ => ⟨nd, cs, HWH.out, HNN.out⟩, (fun h => absurd HK.out h), HB2.out⟩
  · rw [hc] at hk HCK
    have hkb : (c != 0) = true := by simpa using hk
    have HCK := Lib.hid HCK
    have HC := Lib.hid hc
    clear hc hv hs
    go_enter Tryd.func36, Tryd.ntmps36
    go_wp2_with fail
    refine HCK.out.mono ?_
    rintro e w1 ⟨rfl, hb⟩
    have HB := Lib.hid hb; clear hb
    go_wp2_with fail
    go_ret2
    exact ⟨_, by rw [HC.out]; rfl, (fun h => absurd (HC.out.symm.trans h) hk), fun _ => rfl, HB.out⟩

set_option maxRecDepth 20000 in
set_option maxHeartbeats 1000000 in
theorem lists_yes (L : List (List Nd)) (va vb : Value) (w : World) (ha : ReadNN w va L) (hb : ReadNN w vb L) :
    Calls Tryd.prog 37 #[va, vb] w fun e w' => e = .returned (.bool true) ∧ ∃ n, w' = w.drewN n := by
  obtain ⟨hm, ⟨h0, a, cap, rfl⟩ | ⟨b, off, cap, rfl, _⟩⟩ := ha.shape
  · subst h0
    obtain ⟨_, ⟨_, a', cap', rfl⟩ | ⟨b', off', cap', rfl, _⟩⟩ := hb.shape
    all_goals
      go_enter Tryd.func37, Tryd.ntmps37
      go_wp2_with fail
      go_loopw [5] (fun i wr => i = .int .i64 0 ∧ wr = w) (fun _ _ => 0)
      case atStart => exact ⟨rfl, rfl⟩
      case round =>
        obtain ⟨rfl, rfl⟩ := hrel
        go_wp2_with fail
        go_ret
        exact ⟨rfl, 0, rfl⟩
  obtain ⟨_, ⟨h0, a, cap', rfl⟩ | ⟨b', off', cap', rfl, _⟩⟩ := hb.shape
  · subst h0
    go_enter Tryd.func37, Tryd.ntmps37
    go_wp2_with fail
    go_loopw [5] (fun i wr => i = .int .i64 0 ∧ wr = w) (fun _ _ => 0)
    case atStart => exact ⟨rfl, rfl⟩
    case round =>
      obtain ⟨rfl, rfl⟩ := hrel
      go_wp2_with fail
      go_ret
      exact ⟨rfl, 0, rfl⟩
  have HA := Lib.hid ha; clear ha
  have HB := Lib.hid hb; clear hb
  have hm9 : L.length ≤ 9223372036854775807 := by unfold maxLen at hm; omega
  clear hm
  go_enter Tryd.func37, Tryd.ntmps37
  go_wp2_with fail
  go_loopw [5] (fun i wr => (∃ k : Nat, k ≤ L.length ∧ i = .int .i64 (k : Int)) ∧ ∃ n, wr = w.drewN n) (fun i _ => L.length - (intOf i).toNat)
  case atStart => exact ⟨⟨0, Nat.zero_le _, rfl⟩, 0, rfl⟩
  case round =>
    obtain ⟨⟨k, hk, rfl⟩, n, rfl⟩ := hrel
    by_cases hlt : k < L.length
    · obtain ⟨a1, c1, g1, r1⟩ := HA.out.at hlt
      obtain ⟨a2, c2, g2, r2⟩ := HB.out.at hlt
      obtain ⟨wq, hwq⟩ : ∃ wq, w.drewN n = wq := ⟨_, rfl⟩
      have q1 : wq.cell? ⟨b, off + k, none⟩ = some (.slice a1 (L[k]).length c1) := by rw [← hwq]; exact g1
      have q2 : wq.cell? ⟨b', off' + k, none⟩ = some (.slice a2 (L[k]).length c2) := by rw [← hwq]; exact g2
      have hq : Hid (∀ m, Calls Tryd.prog 30 #[.slice a1 (L[k]).length c1, .slice a2 (L[k]).length c2] (wq.drewN m) fun e w' => e = .returned (.bool true) ∧ ∃ n, w' = (wq.drewN m).drewN n) := by
        show ∀ m, _
        intro m
        rw [← hwq]
        exact same_yes L[k] _ _ _ (RowAt.drewN (RowAt.drewN r1 n) m) (RowAt.drewN (RowAt.drewN r2 n) m)
      rw [hwq]
      have HWQ := Lib.hid hwq
      clear r1 r2 g1 g2 hwq
      go_wp2_with fail
      go_quiet ((go_at_call 30; exact Calls.quiet_of (hq.out _)))
      go_wp2_with fail
      go_roundw
      case rel => exact ⟨⟨k + 1, by omega, by go_num⟩, ⟨_, by rw [← HWQ.out]; exact World.drewN_drewN _ _ _⟩⟩
      case measure => simp [intOf]; omega
    · go_wp2_with fail
      go_ret
      exact ⟨rfl, _, rfl⟩

end Go.Proofs.YtjhgpifccleknaaDoor
