/- TermNodes' walk: for every node and text the law's Go function returns true, where the table of shapes lies as it is laid. -/
import Derived.Test.YtjhgpifccleknaaDoorShown
namespace Go.Proofs.YtjhgpifccleknaaDoor
set_option linter.unusedSimpArgs false
set_option linter.unusedVariables false
open Go.RowKit

set_option maxRecDepth 20000 in
set_option maxHeartbeats 4000000 in
theorem nodes_walk (W : World) (n : Nd) (hs : n.S.size ≤ maxLen) (s : ByteArray) (hs2 : s.size ≤ maxLen) (hS : ShapesAt W) :
    Calls Tryd.prog 3 #[.agg #[.int .i64 n.K, .int .i64 n.N, .int .i64 n.M, .string n.S], .string s] W fun e W' => e = .returned (.bool true) ∧ Below W.heap.size W W' := by
  have HS := Lib.hid hS
  by_cases h1 : 1024 < s.size
  · have d1 : decide ((1024 : Int) < (s.size : Int)) = true := by simp; omega
    clear h1 hS
    have HA := Lib.hid hs; clear hs
    go_enter Tryd.func3, Tryd.ntmps3
    go_wp2_with fail
    refine (shown2_any _ (HS.out.alloc _)).mono ?_
    rintro e w1 ⟨rfl, hb⟩
    have HB : Hid (Below W.heap.size W w1) := ((Below.refl _ W).alloc (Nat.le_refl _) _).trans (hb.mono (by simp))
    clear hb
    go_wp2_with fail
    go_ret
    exact ⟨rfl, HB.out⟩
  have d1 : decide ((1024 : Int) < (s.size : Int)) = false := by simp; omega
  by_cases h2 : 1024 < n.S.size
  · have d2 : decide ((1024 : Int) < (n.S.size : Int)) = true := by simp; omega
    clear h1 h2 hS
    have HA := Lib.hid hs; clear hs
    go_enter Tryd.func3, Tryd.ntmps3
    go_wp2_with fail
    refine (shown2_any _ (HS.out.alloc _)).mono ?_
    rintro e w1 ⟨rfl, hb⟩
    have HB : Hid (Below W.heap.size W w1) := ((Below.refl _ W).alloc (Nat.le_refl _) _).trans (hb.mono (by simp))
    clear hb
    go_wp2_with fail
    go_ret
    exact ⟨rfl, HB.out⟩
  have d2 : decide ((1024 : Int) < (n.S.size : Int)) = false := by simp; omega
  clear h1 h2 hS
  have HA := Lib.hid hs; clear hs
  have HA2 := Lib.hid hs2; clear hs2
  go_enter Tryd.func3, Tryd.ntmps3
  go_wp2_with fail
  refine (shown2_any _ (HS.out.alloc _)).mono ?_
  rintro e w1 ⟨rfl, hb⟩
  simp only [World.size_alloc] at hb
  obtain ⟨c0, c1, c2, c3, hlt⟩ := box_cells hb
  have hb0 := below_box hb
  clear hb
  have hs1 := HS.out.below hb0
  have HS1 := Lib.hid hs1; clear hs1
  go_wp2_with fail
  refine (binds_any n _ HS1.out HA.out).mono ?_
  rintro e w2 ⟨va, rfl, hva, hb2⟩
  have f0 := (hb2.cell (p := ⟨W.heap.size, 0, none⟩) hlt).trans c0
  have f1 := (hb2.cell (p := ⟨W.heap.size, 1, none⟩) hlt).trans c1
  have f2 := (hb2.cell (p := ⟨W.heap.size, 2, none⟩) hlt).trans c2
  have f3 := (hb2.cell (p := ⟨W.heap.size, 3, none⟩) hlt).trans c3
  clear c0 c1 c2 c3
  have hb3 := hb0.trans (hb2.mono hb0.size)
  have HB3 := Lib.hid hb3; clear hb3 hb2 hb0
  have HVA := Lib.hid hva; clear hva
  go_wp2_with fail
  refine (refbinds_any n _ HA.out).mono ?_
  rintro e w3 ⟨vb, lb, rfl, hvb, hlb, hb4⟩
  have HLB := Lib.hid hlb; clear hlb
  have hvaa := HVA.out.below hb4
  have hb5 := HB3.out.trans (hb4.mono HB3.out.size)
  have HB5 := Lib.hid hb5; clear hb5 hb4 f0 f1 f2 f3
  clear HVA HB3
  obtain ⟨nm, hnm⟩ : ∃ b, nameB s = b := ⟨_, rfl⟩
  have HN := Lib.hid hnm; clear hnm
  cases hr : rightB n
  · rw [hr] at hvaa
    obtain ⟨ad, cap, rfl⟩ := ReadI.len_slice hvaa
    have HVA := Lib.hid hvaa; clear hvaa
    have HVB := Lib.hid hvb; clear hvb
    clear hr
    cases nm
    all_goals
      go_wp2_with (first
        | (go_at_call 24; refine (name_any _ HA2.out _).mono ?_; rintro e w' ⟨rfl, rfl⟩; rw [HN.out])
        | (go_at_call 25; refine (refname_any _ HA2.out _).mono ?_; rintro e w' ⟨rfl, rfl⟩; rw [HN.out]))
      go_ret
      exact ⟨rfl, HB5.out⟩
  · rw [hr] at hvaa
    obtain ⟨la, hla⟩ : ∃ l, (bnds n).map Int.ofNat = l := ⟨_, rfl⟩
    have elb : lb = la := by rw [← hla]; exact HLB.out hr
    subst elb
    rw [if_pos rfl, hla] at hvaa
    clear HLB hla hr
    have hva0 := hvaa
    have hvb0 := hvb
    have HVA := Lib.hid hvaa; clear hvaa
    have HVB := Lib.hid hvb; clear hvb
    obtain ⟨hm, hca⟩ := ReadI.cases hva0
    obtain ⟨_, hcb⟩ := ReadI.cases hvb0
    clear hva0 hvb0
    unfold maxLen at hm
    rcases hca with ⟨h0, a, cap, rfl⟩ | ⟨b, off, cap, rfl, hbl, hc⟩
    · subst h0
      rcases hcb with ⟨_, a', cap', rfl⟩ | ⟨b', off', cap', rfl, _, _⟩
      all_goals
        cases nm
        all_goals
          go_wp2_with (first
            | (go_at_call 24; refine (name_any _ HA2.out _).mono ?_; rintro e w' ⟨rfl, rfl⟩; rw [HN.out])
            | (go_at_call 25; refine (refname_any _ HA2.out _).mono ?_; rintro e w' ⟨rfl, rfl⟩; rw [HN.out]))
          go_loopw [9] (fun i wr => i = .int .i64 0 ∧ wr = w3) (fun _ _ => 0)
          case atStart => exact ⟨rfl, rfl⟩
          case round =>
            obtain ⟨rfl, rfl⟩ := hrel
            go_wp2_with fail
            go_ret
            exact ⟨rfl, HB5.out⟩
    · rcases hcb with ⟨h0, a', cap', rfl⟩ | ⟨b', off', cap', rfl, _, hc'⟩
      · subst h0
        cases nm
        all_goals
          go_wp2_with (first
            | (go_at_call 24; refine (name_any _ HA2.out _).mono ?_; rintro e w' ⟨rfl, rfl⟩; rw [HN.out])
            | (go_at_call 25; refine (refname_any _ HA2.out _).mono ?_; rintro e w' ⟨rfl, rfl⟩; rw [HN.out]))
          go_loopw [9] (fun i wr => i = .int .i64 0 ∧ wr = w3) (fun _ _ => 0)
          case atStart => exact ⟨rfl, rfl⟩
          case round =>
            obtain ⟨rfl, rfl⟩ := hrel
            go_wp2_with fail
            go_ret
            exact ⟨rfl, HB5.out⟩
      have HC := Lib.hid hc; clear hc
      have HC' := Lib.hid hc'; clear hc'
      cases nm
      all_goals
        go_wp2_with (first
          | (go_at_call 24; refine (name_any _ HA2.out _).mono ?_; rintro e w' ⟨rfl, rfl⟩; rw [HN.out])
          | (go_at_call 25; refine (refname_any _ HA2.out _).mono ?_; rintro e w' ⟨rfl, rfl⟩; rw [HN.out]))
        go_loopw [9] (fun i wr => (∃ k : Nat, k ≤ lb.length ∧ i = .int .i64 (k : Int)) ∧ ∃ m, wr = w3.drewN m) (fun i _ => lb.length - (intOf i).toNat)
        case atStart => exact ⟨⟨0, Nat.zero_le _, rfl⟩, ⟨0, rfl⟩⟩
        case round =>
          obtain ⟨⟨k, hk, rfl⟩, ⟨m, rfl⟩⟩ := hrel
          by_cases hlt : k < lb.length
          · have g1 := HC.out k hlt
            have g2 := HC'.out k hlt
            go_wp2_with fail
            go_quiet (fail)
            go_wp2_with fail
            go_roundw
            case rel => exact ⟨⟨k + 1, by omega, by go_num⟩, ⟨_, rfl⟩⟩
            case measure => simp [intOf]; omega
          · go_wp2_with fail
            go_ret
            exact ⟨rfl, below_drewN HB5.out _⟩

end Go.Proofs.YtjhgpifccleknaaDoor
