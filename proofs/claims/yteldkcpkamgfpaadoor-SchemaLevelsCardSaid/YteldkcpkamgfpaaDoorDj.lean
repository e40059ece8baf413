/- schema.Mentions, corniceref17.Mentions: whether a term mentions a type; no condition. -/
import Derived.Test.YteldkcpkamgfpaaDoorDi
namespace Go.Proofs.YteldkcpkamgfpaaDoor
set_option linter.unusedSimpArgs false
set_option linter.unusedVariables false
open Go.RowKit

def mentN (n : Nd) (s : ByteArray) : Bool := decide (n.S.data = s.data) && (n.K == 25 || (n.K == 26 || n.K == 27))
theorem mentB_any (t : List Nd) (s : ByteArray) : mentB t s = t.any fun n => mentN n s := rfl
theorem mentN_eq (n : Nd) (s : ByteArray) : decide (n.S.data = s.data) = (n.S.toList == s.toList) := by
  rw [ByteArray.toList_eq, ByteArray.toList_eq, Bool.eq_iff_iff]
  simp [Array.toList_inj]

set_option maxHeartbeats 2000000 in
set_option maxRecDepth 100000 in
theorem mention1_any (n : Nd) (s : ByteArray) (p : Nat) (w : World) (hp : w.cell? ⟨p, 0, none⟩ = some (.string s)) :
    Calls Tryd.prog 33 #[.agg #[.int .i64 n.K, .int .i64 n.N, .int .i64 n.M, .string n.S], .pointer (some ⟨p, 0, none⟩)] w fun e w' => e = .returned (.bool (mentN n s)) ∧ Below w.heap.size w w' := by
  obtain ⟨R, hR⟩ : ∃ R, mentN n s = R := ⟨_, rfl⟩
  rw [hR]
  obtain ⟨K, N, M, S⟩ := n
  unfold mentN at hR
  have hq := mentN_eq ⟨K, N, M, S⟩ s
  simp only at hR hq ⊢
  obtain ⟨x, hx⟩ : ∃ x, (S.toList == s.toList) = x := ⟨_, rfl⟩
  rw [hq, hx] at hR
  clear hq
  have hpl : p < w.heap.size := cell_lt hp
  obtain ⟨W, hW⟩ : ∃ m, w.alloc (.cells #[.int .i64 K, .int .i64 N, .int .i64 M, .string S] 30) = m := ⟨_, rfl⟩
  have hb : Below w.heap.size w W := by rw [← hW]; exact (Below.refl _ _).alloc (Nat.le_refl _) _
  have hcs := (MapKept.heap_alloc w (.cells #[.int .i64 K, .int .i64 N, .int .i64 M, .string S] 30)).1
  rw [hW] at hcs
  have c0 : W.cell? ⟨w.heap.size, 0, none⟩ = some (.int .i64 K) := by rw [Lib.cell_of_heap hcs]; rfl
  have c3 : W.cell? ⟨w.heap.size, 3, none⟩ = some (.string S) := by rw [Lib.cell_of_heap hcs]; rfl
  have cp : W.cell? ⟨p, 0, none⟩ = some (.string s) := (hb.cell (p := ⟨p, 0, none⟩) hpl).trans hp
  have HB := Lib.hid hb
  clear hcs hb hp hpl
  cases x
  · have : R = false := by rw [← hR]; rfl
    subst this
    clear hR
    go_enter Tryd.func33, Tryd.ntmps33
    go_wp2_with fail
    go_ret
    exact ⟨rfl, HB.out⟩
  by_cases h1 : K = 25
  · subst h1
    have : R = true := by rw [← hR]; rfl
    subst this
    clear hR
    go_enter Tryd.func33, Tryd.ntmps33
    go_wp2_with fail
    go_ret
    exact ⟨rfl, HB.out⟩
  have n1 : (K == 25) = false := by simpa using h1
  by_cases h2 : K = 26
  · subst h2
    have : R = true := by rw [← hR]; rfl
    subst this
    clear hR
    go_enter Tryd.func33, Tryd.ntmps33
    go_wp2_with fail
    go_ret
    exact ⟨rfl, HB.out⟩
  have n2 : (K == 26) = false := by simpa using h2
  obtain ⟨y, hy⟩ : ∃ y, (K == 27) = y := ⟨_, rfl⟩
  have : R = y := by rw [← hR, n1, n2, hy]; rfl
  subst this
  clear hR
  go_enter Tryd.func33, Tryd.ntmps33
  go_wp2_with fail
  go_ret
  exact ⟨rfl, HB.out⟩

def RMent (s : ByteArray) (w : World) (t : List Nd) (i : Value) (wr : World) : Prop :=
  ∃ k : Nat, k ≤ t.length ∧ i = .int .i64 k ∧ (∀ n ∈ t.take k, mentN n s = false) ∧ Below w.heap.size w wr
theorem ment_none {t : List Nd} {s : ByteArray} (h : ∀ n ∈ t.take t.length, mentN n s = false) : mentB t s = false := by
  rw [mentB_any, List.any_eq_false]
  intro n hn
  rw [h n (by rw [List.take_length]; exact hn)]
  decide
theorem ment_some {t : List Nd} {s : ByteArray} {k : Nat} (hk : k < t.length) (h : mentN t[k] s = true) : mentB t s = true := by
  rw [mentB_any, List.any_eq_true]
  exact ⟨t[k], List.getElem_mem hk, h⟩
theorem ment_next {t : List Nd} {s : ByteArray} {k : Nat} (hk : k < t.length) (hz : ∀ n ∈ t.take k, mentN n s = false) (h : mentN t[k] s = false) : ∀ n ∈ t.take (k + 1), mentN n s = false := by
  intro n hn
  rw [List.take_succ_eq_append_getElem hk] at hn
  rcases List.mem_append.1 hn with h' | h'
  · exact hz n h'
  · simp at h'; subst h'; exact h

def mentPost (b : Bool) (w : World) (e : Ending) (w' : World) : Prop := ∃ n : Int, e = .returned (.int .i64 n) ∧ decide (0 ≤ n) = b ∧ Below w.heap.size w w'

set_option maxHeartbeats 4000000 in
set_option maxRecDepth 100000 in
theorem ment_idx (t : List Nd) (s : ByteArray) (p : Nat) (v : Value) (w : World) (hv : ReadN w v t) (hp : w.cell? ⟨p, 0, none⟩ = some (.string s)) :
    Calls Tryd.prog 54 #[v, .func (.func 33) #[] #[.pointer (some ⟨p, 0, none⟩)]] w (mentPost (mentB t s) w) := by
  obtain ⟨R, hR⟩ : ∃ R, mentB t s = R := ⟨_, rfl⟩
  rw [hR]
  have HR := Lib.hid hR
  have hpl : p < w.heap.size := cell_lt hp
  have HP := Lib.hid (fun w' (hb : Below w.heap.size w w') (n : Nd) => mention1_any n s p w' ((hb.cell (p := ⟨p, 0, none⟩) hpl).trans hp))
  clear hp hpl hR
  obtain ⟨hm, ⟨h0, a, cap, rfl⟩ | ⟨b, off, cap, rfl, hc1, hc2, hbw, hc⟩⟩ := hv.cases
  · subst h0
    have hf : R = false := by rw [← HR.out]; rfl
    subst hf
    clear hv
    go_enter Tryd.func54, Tryd.ntmps54
    go_wp2_with fail
    go_loopw [8] (fun i wr => i = .int .i64 0 ∧ wr = w) (fun _ _ => 0)
    case atStart => exact ⟨rfl, rfl⟩
    case round =>
      obtain ⟨rfl, rfl⟩ := hrel
      go_wp2_with fail
      go_ret
      exact ⟨-1, rfl, rfl, Below.refl _ _⟩
  have HC := Lib.hid hc
  have hm9 : t.length ≤ 9223372036854775807 := by unfold maxLen at hm; omega
  have hcap : cap ≤ 9223372036854775807 := by unfold maxLen at hc2; omega
  clear hv hc hm hc2
  have a0 : Hid (RMent s w t (.int .i64 0) w) := Lib.hid ⟨0, Nat.zero_le _, rfl, by simp, Below.refl _ _⟩
  go_enter Tryd.func54, Tryd.ntmps54
  go_wp2_with fail
  go_loopw [8] (fun i wr => RMent s w t i wr) (fun i _ => t.length - (intOf i).toNat)
  case atStart => exact a0.out
  case round =>
    rename World => wr
    obtain ⟨k, hk, rfl, hz, hbe⟩ := hrel
    have HZ := Lib.hid hz
    have HB := Lib.hid hbe
    clear hz hbe a0
    by_cases hlt : k < t.length
    rotate_left
    · obtain rfl : k = t.length := by omega
      have hf : R = false := by rw [← HR.out]; exact ment_none HZ.out
      subst hf
      go_wp2_with fail
      go_ret
      exact ⟨-1, rfl, rfl, HB.out⟩
    obtain ⟨g0, g1, g2, g3⟩ := HC.out k hlt
    have HNX := Lib.hid (ment_next (s := s) hlt HZ.out)
    have HSM := Lib.hid (fun h => HR.out.symm.trans (ment_some (s := s) hlt h))
    obtain ⟨nd, hnd⟩ : ∃ nd, t[k] = nd := ⟨_, rfl⟩
    rw [hnd] at g0 g1 g2 g3 HNX HSM
    clear hnd
    have f0 := (HB.out.cell (p := ⟨b, off + k * 4, none⟩) hbw).trans g0
    have f1 := (HB.out.cell (p := ⟨b, off + k * 4 + 1, none⟩) hbw).trans g1
    have f2 := (HB.out.cell (p := ⟨b, off + k * 4 + 2, none⟩) hbw).trans g2
    have f3 := (HB.out.cell (p := ⟨b, off + k * 4 + 3, none⟩) hbw).trans g3
    have hcall := HP.out wr HB.out nd
    obtain ⟨y, hy⟩ : ∃ y, mentN nd s = y := ⟨_, rfl⟩
    rw [hy] at hcall HNX HSM
    have HY := Lib.hid hcall
    clear g0 g1 g2 g3 hcall hy
    go_wp2_with (go_at_call 33; refine HY.out.mono ?_)
    rintro e w2 ⟨rfl, hb2⟩
    have HB2 := Lib.hid (HB.out.trans (hb2.mono HB.out.size))
    clear hb2 HY
    cases y
    · go_wp2_with fail
      go_roundw
      case rel => exact ⟨k + 1, by omega, by go_num, HNX.out (by first | rfl | trivial), HB2.out⟩
      case measure => simp [intOf]; omega
    · have hf : R = true := HSM.out (by first | rfl | trivial)
      subst hf
      go_wp2_with fail
      go_ret
      exact ⟨k, rfl, by simp, HB2.out⟩

set_option maxHeartbeats 1000000 in
theorem ment_has (t : List Nd) (s : ByteArray) (p : Nat) (v : Value) (w : World) (hv : ReadN w v t) (hp : w.cell? ⟨p, 0, none⟩ = some (.string s)) :
    Calls Tryd.prog 32 #[v, .func (.func 33) #[] #[.pointer (some ⟨p, 0, none⟩)]] w fun e w' => e = .returned (.bool (mentB t s)) ∧ Below w.heap.size w w' := by
  have H := Lib.hid (ment_idx t s p v w hv hp)
  obtain ⟨a, c, rfl⟩ := hv.len_slice
  clear hv hp
  obtain ⟨x, hx⟩ : ∃ x, mentB t s = x := ⟨_, rfl⟩
  rw [hx] at H ⊢
  clear hx
  go_enter Tryd.func32, Tryd.ntmps32
  go_wp2_with (go_at_call 54; refine H.out.mono ?_)
  rintro e w2 ⟨n, rfl, hn, hb⟩
  have HB := Lib.hid hb
  clear hb
  have hn2 : decide (n ≥ 0) = x := hn
  go_wp2_with fail
  go_ret
  first | exact ⟨rfl, HB.out⟩ | exact ⟨by simp [hn], HB.out⟩

set_option maxHeartbeats 1000000 in
theorem mentions_any (t : List Nd) (s : ByteArray) (v : Value) (w : World) (hv : ReadN w v t) :
    Calls Tryd.prog 14 #[v, .string s] w fun e w' => e = .returned (.bool (mentB t s)) ∧ Below w.heap.size w w' := by
  obtain ⟨W, hW⟩ : ∃ m, w.alloc (.cells #[.string s] 9) = m := ⟨_, rfl⟩
  have hb : Below w.heap.size w W := by rw [← hW]; exact (Below.refl _ _).alloc (Nat.le_refl _) _
  have hcs := (MapKept.heap_alloc w (.cells #[.string s] 9)).1
  rw [hW] at hcs
  have c0 : W.cell? ⟨w.heap.size, 0, none⟩ = some (.string s) := by rw [Lib.cell_of_heap hcs]; rfl
  have H := Lib.hid (ment_has t s w.heap.size v W (hv.below hb) c0)
  have HB := Lib.hid hb
  obtain ⟨a, c, rfl⟩ := hv.len_slice
  clear hv hcs hb c0
  go_enter Tryd.func14, Tryd.ntmps14
  go_wp2_with (go_at_call 32; refine H.out.mono ?_)
  rintro e w2 ⟨rfl, hb2⟩
  have HB2 := Lib.hid (HB.out.trans (hb2.mono HB.out.size))
  clear hb2
  go_wp2_with fail
  go_ret
  exact ⟨rfl, HB2.out⟩

end Go.Proofs.YteldkcpkamgfpaaDoor
