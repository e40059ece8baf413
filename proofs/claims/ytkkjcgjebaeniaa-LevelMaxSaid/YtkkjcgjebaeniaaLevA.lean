/- What Go's slices.IndexFunc, ContainsFunc and Max, and level.all, come to on levels, for every slice; no condition. -/
import Derived.Test.YtkkjcgjebaeniaaRows
import Derived.Test.YtkkjcgjebaeniaaBase
import Derived.BigQuiet
import Derived.Deep.QuietTactic
namespace Go.Proofs.Ytkkjcgjebaeniaa
open Go.RowKit

/-- is a number a level -/
def lv (n : Int) : Bool := decide (0 ≤ n) && decide (n ≤ 9)
theorem lv_t {n : Int} (h1 : 0 ≤ n) (h2 : n ≤ 9) : lv n = true := by simp [lv]; omega
theorem lv_f {n : Int} (h : n < 0 ∨ 9 < n) : lv n = false := by simp [lv]; omega

set_option maxHeartbeats 400000 in
theorem all1_any (n : Int) (w : World) :
    Calls Try.prog 25 #[.int .i64 n] w fun e w' => e = .returned (.bool (!lv n)) ∧ w = w' := by
  by_cases h1 : n < 0
  · have hl := Lib.hid (lv_f (.inl h1))
    go_enter Try.func25, Try.ntmps25
    go_wp2
    go_ret
    exact ⟨ret_bool (by rw [hl.out]; first | done | rfl | (simp; done) | (simp; omega)), rfl⟩
  · by_cases h2 : 9 < n
    · have hl := Lib.hid (lv_f (.inr h2))
      go_enter Try.func25, Try.ntmps25
      go_wp2
      go_ret
      exact ⟨ret_bool (by rw [hl.out]; first | done | rfl | (simp; done) | (simp; omega)), rfl⟩
    · have hl := Lib.hid (lv_t (n := n) (by omega) (by omega))
      go_enter Try.func25, Try.ntmps25
      go_wp2
      go_ret
      exact ⟨ret_bool (by rw [hl.out]; first | done | rfl | (simp; done) | (simp; omega)), rfl⟩

set_option maxHeartbeats 400000 in
theorem reflevel_any (n : Int) (w : World) :
    Calls Try.prog 23 #[.int .i64 n] w fun e w' => e = .returned (.bool (lv n)) ∧ w = w' := by
  by_cases h1 : n < 0
  · have hl := Lib.hid (lv_f (.inl h1))
    go_enter Try.func23, Try.ntmps23
    go_wp2
    go_ret
    exact ⟨ret_bool (by rw [hl.out]; first | done | rfl | (simp; done) | (simp; omega)), rfl⟩
  · by_cases h2 : 9 < n
    · have hl := Lib.hid (lv_f (.inr h2))
      go_enter Try.func23, Try.ntmps23
      go_wp2
      go_ret
      exact ⟨ret_bool (by rw [hl.out]; first | done | rfl | (simp; done) | (simp; omega)), rfl⟩
    · have hl := Lib.hid (lv_t (n := n) (by omega) (by omega))
      go_enter Try.func23, Try.ntmps23
      go_wp2
      go_ret
      exact ⟨ret_bool (by rw [hl.out]; first | done | rfl | (simp; done) | (simp; omega)), rfl⟩

def Good (l : List Int) (k : Nat) : Prop := ∀ i, i < k → lv (l.getD i 0) = true
theorem Good.zero (l : List Int) : Good l 0 := fun i hi => absurd hi (Nat.not_lt_zero _)
theorem Good.succ {l : List Int} {k : Nat} (h : Good l k) (hk : lv (l.getD k 0) = true) : Good l (k + 1) := by
  intro i hi
  by_cases e : i = k
  · rw [e]; exact hk
  · exact h i (by omega)
theorem Good.all {l : List Int} (h : Good l l.length) : l.all lv = true := by
  rw [List.all_eq_true]
  intro x hx
  obtain ⟨i, hi, rfl⟩ := List.getElem_of_mem hx
  have := h i hi
  simpa [List.getD_eq_getElem?_getD, List.getElem?_eq_getElem hi] using this
theorem all_f {l : List Int} {k : Nat} (hk : k < l.length) (h : lv (l.getD k 0) = false) : l.all lv = false := by
  rw [List.all_eq_false]
  refine ⟨l[k], List.getElem_mem hk, ?_⟩
  rw [List.getD_eq_getElem?_getD, List.getElem?_eq_getElem hk] at h
  simpa using h

def SomeIdx (l : List Int) (w : World) (e : Ending) (w' : World) : Prop := (∃ n : Int, e = .returned (.int .i64 n) ∧ (0 ≤ n ↔ l.all lv = false)) ∧ w = w'

set_option maxHeartbeats 400000 in
theorem indexFunc_any (l : List Int) (v : Value) (w : World) (hv : ReadI w v l) :
    Calls Try.prog 27 #[v, .func (.func 25) #[] #[]] w (SomeIdx l w) := by
  obtain ⟨hl, ⟨rfl, a, cap, rfl⟩ | ⟨b, off, cap, rfl, _, hc⟩⟩ := hv.cases
  · unfold maxLen at hl
    go_enter Try.func27, Try.ntmps27
    go_wp2
    go_loop [5, 8] (fun _ i => i = .int .i64 0) (fun _ _ => 0)
    case atStart => rfl
    case round =>
      subst hrel
      go_wp2
      go_ret
      exact ⟨⟨-1, rfl, by simp⟩, rfl⟩
  · unfold maxLen at hl
    have HC := Lib.hid hc; clear hc
    go_enter Try.func27, Try.ntmps27
    go_wp2
    go_loop [5, 8] (fun _ i => ∃ k : Nat, k ≤ l.length ∧ i = .int .i64 k ∧ Good l k) (fun _ i => l.length - (intOf i).toNat)
    case atStart => exact ⟨0, Nat.zero_le _, rfl, Good.zero l⟩
    case round =>
      obtain ⟨k, hk, rfl, hg⟩ := hrel
      by_cases hlt : k < l.length
      · have hcell := HC.out k hlt
        cases hb : lv (l.getD k 0)
        · have hf := Lib.hid (all_f hlt hb)
          obtain ⟨x, hx⟩ : ∃ x, l.getD k 0 = x := ⟨_, rfl⟩
          rw [hx] at hcell hb; clear hx
          go_wp2_with (go_at_call 25; refine (all1_any _ _).mono ?_; rintro e w' ⟨rfl, rfl⟩)
          go_ret
          exact ⟨⟨k, rfl, by simp [hf.out]⟩, rfl⟩
        · have hg' := hg.succ hb; clear hg
          obtain ⟨x, hx⟩ : ∃ x, l.getD k 0 = x := ⟨_, rfl⟩
          rw [hx] at hcell hb; clear hx
          go_wp2_with (go_at_call 25; refine (all1_any _ _).mono ?_; rintro e w' ⟨rfl, rfl⟩)
          go_round
          case rel => exact ⟨k + 1, by omega, by go_num, hg'⟩
          case measure => simp [intOf]; omega
      · obtain rfl : k = l.length := by omega
        have hf := Lib.hid hg.all; clear hg
        go_wp2
        go_ret
        exact ⟨⟨-1, rfl, by simp [hf.out]⟩, rfl⟩

set_option maxHeartbeats 400000 in
theorem contains_any (l : List Int) (v : Value) (w : World) (hv : ReadI w v l) :
    Calls Try.prog 24 #[v, .func (.func 25) #[] #[]] w fun e w' => e = .returned (.bool (!l.all lv)) ∧ w = w' := by
  go_enter Try.func24, Try.ntmps24
  go_wp2_with fail
  refine (indexFunc_any l v w hv).mono ?_
  rintro e w' ⟨⟨n, rfl, hn⟩, rfl⟩
  have hn' := Lib.hid hn; clear hn
  go_wp2
  go_ret
  exact ⟨ret_bool (by
    have h := hn'.out
    cases hx : l.all lv
    · simp [h.2 hx]
    · have : ¬ 0 ≤ n := fun h0 => by rw [h.1 h0] at hx; exact absurd hx (by simp)
      simp; omega), rfl⟩

set_option maxHeartbeats 400000 in
theorem all_any (l : List Int) (v : Value) (w : World) (hv : ReadI w v l) :
    Calls Try.prog 21 #[v] w fun e w' => e = .returned (.bool (l.all lv)) ∧ w = w' := by
  go_enter Try.func21, Try.ntmps21
  go_wp2_with fail
  refine (contains_any l v w hv).mono ?_
  rintro e w' ⟨rfl, rfl⟩
  obtain ⟨c, hx⟩ : ∃ c, l.all lv = c := ⟨_, rfl⟩
  rw [hx]
  have HX := Lib.hid hx; clear hx
  go_wp2
  go_ret
  exact ⟨ret_bool (by simp [HX.out]), rfl⟩

def mx (l : List Int) : Int := l.foldl max 0

set_option maxHeartbeats 400000 in
theorem max_any (x0 : Int) (l : List Int) (v : Value) (w : World) (hv : ReadI w v (x0 :: l)) :
    Calls Try.prog 26 #[v] w fun e w' => e = .returned (.int .i64 (l.foldl max x0)) ∧ w = w' := by
  obtain ⟨hl, ⟨h, _⟩ | ⟨b, off, cap, rfl, _, hc⟩⟩ := hv.cases
  · cases h
  have h0 := hc 0 (by simp)
  unfold maxLen at hl
  simp at h0
  have HC := Lib.hid hc; clear hc
  obtain ⟨n, hn⟩ : ∃ n, (x0 :: l).length = n := ⟨_, rfl⟩
  rw [hn] at hl ⊢
  have h1 : 1 ≤ n := by simp at hn; omega
  have HN := Lib.hid hn; clear hn
  go_enter Try.func26, Try.ntmps26
  go_wp2
  go_loop [3, 4] (fun m i => ∃ k : Nat, k + 1 ≤ n ∧ i = .int .i64 (k + 1 : Nat) ∧ m = .int .i64 ((l.take k).foldl max x0)) (fun _ i => n - (intOf i).toNat)
  case atStart => exact ⟨0, by omega, by go_num, rfl⟩
  case round =>
    obtain ⟨k, hk, rfl, rfl⟩ := hrel
    by_cases hlt : k + 1 < n
    · have hcell := HC.out (k + 1) (by rw [HN.out]; omega)
      rw [List.getD_cons_succ] at hcell
      have hs : (l.take (k + 1)).foldl max x0 = max ((l.take k).foldl max x0) (l.getD k 0) := by
        rw [List.take_add_one, List.foldl_append, List.getD_eq_getElem?_getD, List.getElem?_eq_getElem (by have := HN.out; simp at this; omega)]; rfl
      obtain ⟨x, hx⟩ : ∃ x, l.getD k 0 = x := ⟨_, rfl⟩
      obtain ⟨y, hy⟩ : ∃ y, (l.take k).foldl max x0 = y := ⟨_, rfl⟩
      rw [hx] at hcell hs; rw [hy] at hs; rw [hy]
      have HS := Lib.hid hs; clear hs hx hy
      go_wp2
      all_goals
        go_round
        case rel => exact ⟨k + 1, by omega, by go_num, by rw [HS.out]; first | rfl | (congr 1; omega)⟩
        case measure => simp [intOf]; omega
    · obtain rfl : k + 1 = n := by omega
      have he : l.take k = l := List.take_of_length_le (by have := HN.out; simp at this; omega)
      rw [he]
      clear he
      go_wp2
      go_ret
      exact ⟨rfl, rfl⟩

end Go.Proofs.Ytkkjcgjebaeniaa
