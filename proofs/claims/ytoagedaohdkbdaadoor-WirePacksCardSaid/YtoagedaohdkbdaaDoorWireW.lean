/- Rows of nodes that differ; heavy and shown of cornicelaw05. -/
import Derived.Test.YtoagedaohdkbdaaDoorWireV
namespace Go.Proofs.YtoagedaohdkbdaaDoor
set_option linter.unusedSimpArgs false
set_option linter.unusedVariables false
open Go.RowKit

theorem nd_first {n m : Nd} (h : n ≠ m) : ¬ n.K = m.K ∨ (n.K = m.K ∧ ¬ n.N = m.N) ∨ (n.K = m.K ∧ n.N = m.N ∧ ¬ n.M = m.M) ∨ (n.K = m.K ∧ n.N = m.N ∧ n.M = m.M ∧ ¬ n.S.toList = m.S.toList) := by
  by_cases h1 : n.K = m.K
  · by_cases h2 : n.N = m.N
    · by_cases h3 : n.M = m.M
      · refine .inr (.inr (.inr ⟨h1, h2, h3, fun h4 => h ?_⟩))
        rw [ByteArray.toList_eq, ByteArray.toList_eq] at h4
        have h5 : n.S = m.S := by
          apply ByteArray.ext
          exact Array.toList_inj.1 h4
        cases n; cases m
        simp only at h1 h2 h3 h5
        rw [h1, h2, h3, h5]
      · exact .inr (.inr (.inl ⟨h1, h2, h3⟩))
    · exact .inr (.inl ⟨h1, h2⟩)
  · exact .inl h1

set_option maxRecDepth 20000 in
set_option maxHeartbeats 1000000 in
theorem same_no (l m : List Nd) (hlm : l ≠ m) (va vb : Value) (w : World) (ha : ReadN w va l) (hb : ReadN w vb m) :
    Calls Tryd.prog 15 #[va, vb] w fun e w' => e = .returned (.bool false) ∧ Below w.heap.size w w' := by
  obtain ⟨aa, ca, rfl⟩ := ha.len_slice
  obtain ⟨ab, cb, rfl⟩ := hb.len_slice
  obtain ⟨hm, hca⟩ := ha.cases
  obtain ⟨hm', hcb⟩ := hb.cases
  have hm9 : l.length ≤ 9223372036854775807 := by unfold maxLen at hm; omega
  have hm9' : m.length ≤ 9223372036854775807 := by unfold maxLen at hm'; omega
  clear hm hm'
  by_cases hlen : l.length = m.length
  rotate_left
  · have hb1 : ((l.length : Int) != (m.length : Int)) = true := by simp; omega
    have hb2 : (l.length != m.length) = true := by simpa using hlen
    clear hca hcb ha hb hlm hlen
    go_enter Tryd.func15, Tryd.ntmps15
    go_wp2_with fail
    go_ret
    exact ⟨rfl, Below.refl _ _⟩
  have HLM := Lib.hid hlm
  have HCA := Lib.hid hca
  have HCB := Lib.hid hcb
  have HLN := Lib.hid hlen
  obtain ⟨N, hN⟩ : ∃ N, m.length = N := ⟨_, rfl⟩
  rw [hlen, hN]
  rw [hN] at hm9'
  have HN := Lib.hid hN
  clear hca hcb ha hb hlm hlen hN hm9
  go_enter Tryd.func15, Tryd.ntmps15
  go_wp2_with fail
  go_loopw [5] (fun i wr => (∃ k : Nat, k ≤ N ∧ i = .int .i64 (k : Int) ∧ l.take k = m.take k) ∧ ∃ n, wr = w.drewN n) (fun i _ => N - (intOf i).toNat)
  case atStart => exact ⟨⟨0, Nat.zero_le _, rfl, rfl⟩, 0, rfl⟩
  case round =>
    obtain ⟨⟨k, hk, rfl, htk⟩, n, rfl⟩ := hrel
    have HTK := Lib.hid htk
    clear htk
    by_cases hlt : k < N
    rotate_left
    · exfalso
      have hkN : k = N := by omega
      have h := HTK.out
      rw [hkN, ← HN.out, List.take_of_length_le (Nat.le_refl _), ← HLN.out, List.take_of_length_le (Nat.le_refl _)] at h
      exact HLM.out h
    have hla : k < l.length := by have := HLN.out; have := HN.out; omega
    have hlb : k < m.length := by have := HN.out; omega
    rcases HCA.out with ⟨h0, _⟩ | ⟨b, off, cap, he, _, _, _, hc⟩
    · subst h0; simp at hla
    rcases HCB.out with ⟨h0, _⟩ | ⟨b', off', cap', he', _, _, _, hc'⟩
    · subst h0; simp at hlb
    obtain ⟨rfl, rfl⟩ : aa = some ⟨b, off, none⟩ ∧ ca = cap := by simpa using he
    obtain ⟨rfl, rfl⟩ : ab = some ⟨b', off', none⟩ ∧ cb = cap' := by simpa using he'
    obtain ⟨g0, g1, g2, g3⟩ := hc k hla
    obtain ⟨f0, f1, f2, f3⟩ := hc' k hlb
    obtain ⟨nd, hnd⟩ : ∃ nd, l[k] = nd := ⟨_, rfl⟩
    obtain ⟨md, hmd⟩ : ∃ md, m[k] = md := ⟨_, rfl⟩
    rw [hnd] at g0 g1 g2 g3
    rw [hmd] at f0 f1 f2 f3
    have HNX : Hid (nd = md → l.take (k + 1) = m.take (k + 1)) := by
      show _ → _
      intro e
      rw [List.take_succ_eq_append_getElem hla, List.take_succ_eq_append_getElem hlb, HTK.out, hnd, hmd, e]
    clear he he' hc hc' hnd hmd hla hlb
    by_cases hq : nd = md
    · subst hq
      have HT := Lib.hid (HNX.out rfl)
      go_wp2_with fail
      go_quiet (fail)
      go_wp2_with fail
      go_roundw
      case rel => exact ⟨⟨k + 1, by omega, by go_num, HT.out⟩, ⟨_, rfl⟩⟩
      case measure => simp [intOf]; omega
    · rcases nd_first hq with h1 | ⟨h1, h2⟩ | ⟨h1, h2, h3⟩ | ⟨h1, h2, h3, h4⟩
      · clear hq HNX
        go_wp2_with fail
        go_quiet (fail)
        go_wp2_with fail
        go_ret
        exact ⟨rfl, below_drewN (below_drewN (Below.refl _ _) _) _⟩
      · rw [h1] at g0
        clear hq HNX h1
        go_wp2_with fail
        go_quiet (fail)
        go_wp2_with fail
        go_ret
        exact ⟨rfl, below_drewN (below_drewN (Below.refl _ _) _) _⟩
      · rw [h1] at g0
        rw [h2] at g1
        clear hq HNX h1 h2
        go_wp2_with fail
        go_quiet (fail)
        go_wp2_with fail
        go_ret
        exact ⟨rfl, below_drewN (below_drewN (Below.refl _ _) _) _⟩
      · rw [h1] at g0
        rw [h2] at g1
        rw [h3] at g2
        clear hq HNX h1 h2 h3
        go_wp2_with fail
        go_quiet (fail)
        go_wp2_with fail
        go_ret
        exact ⟨rfl, below_drewN (below_drewN (Below.refl _ _) _) _⟩
/-- any two rows -/
def sameB (l m : List Nd) : Prop := l = m
theorem same5_any (l m : List Nd) (va vb : Value) (w : World) (ha : ReadN w va l) (hb : ReadN w vb m) :
    Calls Tryd.prog 15 #[va, vb] w fun e w' => (∃ b : Bool, e = .returned (.bool b) ∧ (b = true ↔ l = m)) ∧ Below w.heap.size w w' := by
  by_cases h : l = m
  · subst h
    exact (same_yes l va vb w ha hb).mono fun e w' ⟨h1, n, h2⟩ => ⟨⟨true, h1, by simp⟩, by rw [h2]; exact below_drewN (Below.refl _ _) _⟩
  · exact (same_no l m h va vb w ha hb).mono fun e w' ⟨h1, h2⟩ => ⟨⟨false, h1, by simp [h]⟩, h2⟩

/-! ### heavy, shown -/
set_option maxRecDepth 20000 in
set_option maxHeartbeats 1000000 in
/-- 'true', or no more than so many -/
def Heavy5 (l : List Nd) (w : World) (e : Ending) (w' : World) : Prop := ∃ b : Bool, e = .returned (.bool b) ∧ (b = false → l.length ≤ 500) ∧ w' = w
set_option maxRecDepth 20000 in
set_option maxHeartbeats 1000000 in
theorem heavy5_any (l : List Nd) (v : Value) (w : World) (hv : ReadN w v l) (hs : SmallN l) :
    Calls Tryd.prog 9 #[v] w (Heavy5 l w) := by
  obtain ⟨hm, ⟨h0, a, cap, rfl⟩ | ⟨b, off, cap, rfl, _, _, _, hc⟩⟩ := hv.cases
  · subst h0
    go_enter Tryd.func9, Tryd.ntmps9
    go_wp2_with fail
    go_loopw [3] (fun i wr => i = .int .i64 0 ∧ wr = w) (fun _ _ => 0)
    case atStart => exact ⟨rfl, rfl⟩
    case round =>
      obtain ⟨rfl, rfl⟩ := hrel
      go_wp2_with fail
      go_ret
      exact ⟨_, rfl, fun _ => by simp, rfl⟩
  have HC := Lib.hid hc; clear hc
  have HSM := Lib.hid hs; clear hs
  have hm9 : l.length ≤ 9223372036854775807 := by unfold maxLen at hm; omega
  clear hm hv
  by_cases h3 : l.length > 500
  · have d : decide ((l.length : Int) > 500) = true := by simp; omega
    go_enter Tryd.func9, Tryd.ntmps9
    go_wp2_with fail
    go_ret
    exact ⟨true, rfl, (fun h => by cases h), rfl⟩
  have d : decide ((l.length : Int) > 500) = false := by simp; omega
  have hfin : Hid (l.length ≤ 500) := by show _ ≤ _; omega
  go_enter Tryd.func9, Tryd.ntmps9
  go_wp2_with fail
  go_loopw [3] (fun i wr => (∃ k : Nat, k ≤ l.length ∧ i = .int .i64 (k : Int)) ∧ wr = w) (fun i _ => l.length - (intOf i).toNat)
  case atStart => exact ⟨⟨0, Nat.zero_le _, rfl⟩, rfl⟩
  case round =>
    obtain ⟨⟨k, hk, rfl⟩, rfl⟩ := hrel
    by_cases hlt : k < l.length
    · obtain ⟨g0, g1, g2, g3⟩ := HC.out k hlt
      have hz := HSM.out l[k] (List.getElem_mem hlt)
      obtain ⟨nd, hnd⟩ : ∃ nd, l[k] = nd := ⟨_, rfl⟩
      rw [hnd] at g0 g1 g2 g3 hz
      clear hnd
      have hz9 : nd.S.size ≤ 9223372036854775807 := by unfold maxLen at hz; omega
      clear hz
      by_cases hmm : nd.S.size > 300
      · have d2 : decide ((nd.S.size : Int) > 300) = true := by simp; omega
        go_wp2_with fail
        go_ret
        exact ⟨true, rfl, (fun h => by cases h), rfl⟩
      · have d2 : decide ((nd.S.size : Int) > 300) = false := by simp; omega
        go_wp2_with fail
        exact ⟨⟨⟨k + 1, by omega, by go_num⟩, trivial⟩, by simp [intOf]; omega⟩
    · obtain rfl : k = l.length := by omega
      go_wp2_with fail
      go_ret
      exact ⟨false, rfl, fun h => hfin.out, rfl⟩

def oneZ : List Nd := [⟨11, 0, 0, ByteArray.empty⟩]
theorem oz_chk : chk oneZ = 0 := by decide +kernel
theorem oz_cod : codE oneZ = [1, 0, 11] := by unfold codE; rw [if_pos oz_chk]; decide +kernel
theorem oz_small : SmallN oneZ := by
  intro n hn
  simp [oneZ] at hn
  subst hn
  show (0 : Nat) ≤ maxLen
  omega
set_option maxRecDepth 20000 in
set_option maxHeartbeats 1000000 in
theorem shown5_any (w : World) (hS : ShapesAt w) (hF : FieldsAt w) :
    Calls Tryd.prog 10 #[] w fun e w' => e = .returned (.bool true) ∧ Below w.heap.size w w' := by
  obtain ⟨w1, hw1⟩ : ∃ w1, w.alloc (.cells #[.int .i64 11, .int .i64 0, .int .i64 0, .string ByteArray.empty] 30) = w1 := ⟨_, rfl⟩
  have hb1 : Below w.heap.size w w1 := by rw [← hw1]; exact (Below.refl _ w).alloc (Nat.le_refl _) _
  have r1 : ReadN w1 (.slice (some ⟨w.heap.size, 0, none⟩) 1 1) oneZ := by rw [← hw1]; exact RowAt.lit w 30 #[.int .i64 11, .int .i64 0, .int .i64 0, .string ByteArray.empty] 1 rfl (by unfold maxLen; omega)
  have HEN := Lib.hid (encode_any oneZ _ w1 (hS.below hb1) (hF.below hb1) r1 oz_small)
  have HB1 := Lib.hid hb1
  have HW1 := Lib.hid hw1
  clear hb1 r1 hS hF hw1
  go_enter Tryd.func10, Tryd.ntmps10
  go_wp2_with fail
  refine Calls.mono (show Calls _ _ _ (w.alloc (.cells #[.int .i64 11, .int .i64 0, .int .i64 0, .string ByteArray.empty] 30)) _ from HW1.out ▸ HEN.out) ?_
  rintro e w3 ⟨s, rfl, hs, hb3⟩
  rw [oz_cod] at hs
  rw [oz_chk]
  obtain rfl : s = ⟨#[1, 0, 11]⟩ := text_eq hs
  rw [HW1.out] at hb3
  have HB3 : Hid (Below w.heap.size w w3) := HB1.out.trans (hb3.mono HB1.out.size)
  clear hs hb3
  go_wp2_with fail
  go_ret
  exact ⟨rfl, HB3.out⟩

end Go.Proofs.YtoagedaohdkbdaaDoor
