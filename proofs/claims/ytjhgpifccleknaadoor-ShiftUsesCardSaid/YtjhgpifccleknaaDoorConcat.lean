/- What slices.Grow (of nothing) and slices.Concat of slices of nodes come to: a row of the call's own; condition: the nodes are at most a million. -/
import Derived.Test.YtjhgpifccleknaaDoorRefA
import Derived.Test.YtjhgpifccleknaaDoorZeroRow
namespace Go.Proofs.YtjhgpifccleknaaDoor
set_option linter.unusedSimpArgs false
set_option linter.unusedVariables false
open Go.RowKit

def OwnN (base : Nat) (w : World) (v : Value) (l : List Nd) : Prop := w.ownsRow base 23 4 v l.length (l.flatMap nodeV)
theorem OwnN.read {base : Nat} {w : World} {v : Value} {l : List Nd} (h : OwnN base w v l) : ReadN w v l := RowAt.of_own h

def GrowPost (w : World) (e : Ending) (w' : World) : Prop := ∃ v, e = .returned v ∧ OwnN w.heap.size w' v [] ∧ Below w.heap.size w w'

set_option maxRecDepth 20000 in
set_option maxHeartbeats 1000000 in
theorem grow_any (n : Nat) (w : World) (hn : n ≤ 1000000) :
    Calls Tryd.prog 88 #[.slice none 0 0, .int .i64 (n : Int)] w (GrowPost w) := by
  obtain ⟨i0, hi, hz0, hz1, hz2⟩ := info_parts Tryd.infoNode
  by_cases h0 : n = 0
  · subst h0
    go_enter Tryd.func88, Tryd.ntmps88
    go_wp2_with fail
    go_ret
    exact ⟨_, rfl, World.ownsRow_nil _ _ _ _, Below.refl _ _⟩
  · have hp : 0 < n := by omega
    obtain ⟨zc, hzc⟩ : ∃ zc, (Builtin.zeroCells (Value.agg #[.int .i64 0, .int .i64 0, .int .i64 0, .string ByteArray.empty]).cells n) = zc := ⟨_, rfl⟩
    obtain ⟨v', w', hrun, hown, hg, _⟩ := run_append_zero_row (P := Tryd.prog) w w.heap.size 30 3 30 23 i0 (.agg #[.int .i64 0, .int .i64 0, .int .i64 0, .string ByteArray.empty]) 4 40 Tryd.underlying30 Tryd.underlying3 hi hz0 hz1 hz2 rfl (by decide) (.slice none 0 0) 0 [] (World.ownsRow_nil _ _ _ _) n hp (by
      intro u hu
      rw [Array.mem_toList_iff] at hu
      unfold Builtin.zeroCells at hu
      obtain ⟨i, _, rfl⟩ := Array.mem_map.1 hu
      have h4 : i % 4 < 4 := by omega
      show ((#[Value.int .i64 0, .int .i64 0, .int .i64 0, .string ByteArray.empty] : Array Value)[i % 4]!).oneCell' = true
      generalize i % 4 = j at h4
      match j, h4 with
      | 0, _ => rfl
      | 1, _ => rfl
      | 2, _ => rfl
      | 3, _ => rfl) (by unfold maxLen; omega) (by omega) (Nat.le_refl _)
    obtain ⟨a, cap, rfl, hcap, hcut⟩ := ownsRow_cut hown (k := 0) (by omega)
    have hb : Below w.heap.size w w' := (Below.refl _ w).grown hg (Nat.le_refl _) (fun g h => by cases h)
    have HRUN := Lib.hid hrun; clear hrun
    have HCUT := Lib.hid hcut; clear hcut
    have HB := Lib.hid hb; clear hb hg hown hzc
    have hn1 : ((n : Int) == 0) = false := by simp; omega
    go_enter Tryd.func88, Tryd.ntmps88
    go_wp2_with (at_builtin; go_must (refine wpList_append_run rfl (.tmp 20) (.tmp 21) 30 3 rfl _ _ rfl rfl HRUN.out ?_))
    go_ret
    exact ⟨_, rfl, by simpa [OwnN] using HCUT.out, HB.out⟩

def ConcatPost (L : List (List Nd)) (w : World) (e : Ending) (w' : World) : Prop := ∃ v, e = .returned v ∧ OwnN w.heap.size w' v L.flatten ∧ Below w.heap.size w w'

theorem flat_take {L : List (List Nd)} {k : Nat} (h : k < L.length) : (L.take (k + 1)).flatten = (L.take k).flatten ++ L[k] := by
  rw [List.take_add_one, List.getElem?_eq_getElem h]
  show (L.take k ++ [L[k]]).flatten = _
  rw [List.flatten_append]
  congr 1
  exact List.append_nil _
theorem flat_le (L : List (List Nd)) (k : Nat) : (L.take k).flatten.length ≤ L.flatten.length := by
  have h : L.flatten = (L.take k).flatten ++ (L.drop k).flatten := by rw [← List.flatten_append, List.take_append_drop]
  rw [h, List.length_append]
  omega

set_option maxRecDepth 20000 in
set_option maxHeartbeats 2000000 in
theorem concat_any (L : List (List Nd)) (v : Value) (w : World) (hv : ReadNN w v L) (hn : L.flatten.length ≤ 1000000) :
    Calls Tryd.prog 66 #[v] w (ConcatPost L w) := by
  obtain ⟨i0, hi, hz0, hz1, hz2⟩ := info_parts Tryd.infoNode
  obtain ⟨hm, ⟨h0, a, cap, rfl⟩ | ⟨b, off, cap, rfl, hbw⟩⟩ := hv.shape
  · subst h0
    go_enter Tryd.func66, Tryd.ntmps66
    go_wp2_with fail
    go_loopw [3, 11] (fun n i wr => n = .int .i64 0 ∧ i = .int .i64 0 ∧ wr = w) (fun _ _ _ => 0)
    case atStart => exact ⟨rfl, rfl, rfl⟩
    case round =>
      obtain ⟨rfl, rfl, rfl⟩ := hrel
      go_wp2_with fail
      refine (grow_any 0 _ (by omega)).mono ?_
      rintro e w1 ⟨u, rfl, hu, hb⟩
      have HU := Lib.hid hu; clear hu
      have HB := Lib.hid hb; clear hb
      go_wp2_with fail
      go_loopw [6, 27] (fun x i wr => x = u ∧ i = .int .i64 0 ∧ wr = w1) (fun _ _ _ => 0)
      case atStart => exact ⟨rfl, rfl, rfl⟩
      case round =>
        obtain ⟨rfl, rfl, rfl⟩ := hrel
        go_wp2_with fail
        go_ret
        exact ⟨_, rfl, HU.out, HB.out⟩
  have HV := Lib.hid hv; clear hv
  have hm9 : L.length ≤ 9223372036854775807 := by unfold maxLen at hm; omega
  clear hm
  go_enter Tryd.func66, Tryd.ntmps66
  go_wp2_with fail
  go_loopw [3, 11] (fun n i wr => (∃ k : Nat, k ≤ L.length ∧ i = .int .i64 (k : Int) ∧ n = .int .i64 ((L.take k).flatten.length : Int)) ∧ wr = w) (fun _ i _ => L.length - (intOf i).toNat)
  case atStart => exact ⟨⟨0, Nat.zero_le _, rfl, rfl⟩, rfl⟩
  case round =>
    obtain ⟨⟨k, hk, rfl, rfl⟩, rfl⟩ := hrel
    have hle := flat_le L k
    by_cases hlt : k < L.length
    · obtain ⟨a1, c1, g1, r1⟩ := HV.out.at hlt
      have hft := flat_take hlt
      have hle2 := flat_le L (k + 1)
      rw [hft, List.length_append] at hle2
      have hln : (L.take (k + 1)).flatten.length = (L.take k).flatten.length + L[k].length := by rw [hft, List.length_append]
      have HLN := Lib.hid hln
      obtain ⟨p, hp⟩ : ∃ p, (L.take k).flatten.length = p := ⟨_, rfl⟩
      obtain ⟨q, hq⟩ : ∃ q, L[k].length = q := ⟨_, rfl⟩
      rw [hp, hq] at hle2 HLN
      rw [hp] at hle ⊢
      rw [hq] at g1
      clear r1 hft hln hp hq
      have hp6 : p ≤ 1000000 := by omega
      have hq6 : q ≤ 1000000 := by omega
      go_wp2_with fail
      refine ⟨⟨⟨k + 1, by omega, by go_num, by rw [HLN.out]; go_num⟩, trivial⟩, by simp [intOf]; omega⟩
    · obtain rfl : k = L.length := by omega
      rw [List.take_length]
      obtain ⟨p, hp⟩ : ∃ p, L.flatten.length = p := ⟨_, rfl⟩
      have hp6 : p ≤ 1000000 := by omega
      rw [hp]
      clear hp
      go_wp2_with fail
      refine (grow_any p _ hp6).mono ?_
      rintro e w1 ⟨u, rfl, hu, hb⟩
      have HU := Lib.hid hu; clear hu
      have HB := Lib.hid hb; clear hb
      clear hle
      go_wp2_with fail
      go_loopw [6, 27] (fun x i wq => ∃ k : Nat, k ≤ L.length ∧ i = .int .i64 (k : Int) ∧ OwnN wr.heap.size wq x (L.take k).flatten ∧ Below wr.heap.size wr wq) (fun _ i _ => L.length - (intOf i).toNat)
      case atStart => exact ⟨0, Nat.zero_le _, rfl, by simpa using HU.out, HB.out⟩
      case round =>
        rename World => wq
        obtain ⟨k, hk, rfl, ho, hb⟩ := hrel
        have HO := Lib.hid ho; clear ho
        have HBB := Lib.hid hb; clear hb
        by_cases hlt : k < L.length
        · obtain ⟨a1, c1, g1, r1⟩ := (HV.out.below HBB.out).at hlt
          have R1 := Lib.hid r1; clear r1
          have hft := flat_take hlt
          have hle2 := flat_le L (k + 1)
          rw [hft, List.length_append] at hle2
          obtain ⟨ao, co, rfl, _⟩ := (RowAt.of_own HO.out).form
          have HFT := Lib.hid hft; clear hft
          go_wp2_with (at_builtin; go_must (refine wpList_append_row rfl (.tmp 31) (.tmp 32) 30 rfl wr.heap.size 23 i0 (.agg #[.int .i64 0, .int .i64 0, .int .i64 0, .string ByteArray.empty]) 4 40 Tryd.underlying30 hi hz0 hz1 hz2 rfl (by decide) (.slice ao (L.take k).flatten.length co) (L.take k).flatten.length ((L.take k).flatten.flatMap nodeV) rfl HO.out (.slice a1 L[k].length c1) L[k].length (L[k].flatMap nodeV) rfl R1.out (nodes_one _) (by omega) (by unfold maxLen; omega) (by have := HBB.out.size; omega) ?_); intro v5 w5 hown5 hg5 hat5)
          have hb5 : Below wr.heap.size wr w5 := HBB.out.grown hg5 (by have := HBB.out.size; omega) (fun g hg => (HO.out.lt g hg).1)
          have HO5 := Lib.hid hown5; clear hown5 hg5 hat5
          have HB5 := Lib.hid hb5; clear hb5
          go_wp2_with fail
          refine ⟨⟨k + 1, by omega, by go_num, ?_, HB5.out⟩, by simp [intOf]; omega⟩
          unfold OwnN
          rw [HFT.out, List.length_append, List.flatMap_append]
          exact HO5.out
        · obtain rfl : k = L.length := by omega
          rw [List.take_length] at HO
          go_wp2_with fail
          go_ret
          exact ⟨_, rfl, HO.out, HBB.out⟩

end Go.Proofs.YtjhgpifccleknaaDoor
