/- What Go's slices.IndexFunc, ContainsFunc, and level.all and Check, and the reference's Check, come to, for every slice and number; no condition. -/
import Derived.Test.YtjhgpifccleknaaDoorRows
import Derived.Test.YtjhgpifccleknaaDoorBase
import Derived.BigQuiet
import Derived.Deep.QuietTactic
namespace Go.Proofs.YtjhgpifccleknaaDoor
set_option linter.unusedSimpArgs false
set_option linter.unusedVariables false
open Go.RowKit

/-- is a number a level -/
def lv (n : Int) : Bool := decide (0 ≤ n) && decide (n ≤ 9)
theorem lv_t {n : Int} (h1 : 0 ≤ n) (h2 : n ≤ 9) : lv n = true := by simp [lv]; omega
theorem lv_f {n : Int} (h : n < 0 ∨ 9 < n) : lv n = false := by simp [lv]; omega

set_option maxHeartbeats 400000 in
theorem all1_any (n : Int) (w : World) :
    Calls Tryd.prog 97 #[.int .i64 n] w fun e w' => e = .returned (.bool (!lv n)) ∧ w = w' := by
  by_cases h1 : n < 0
  · have hl := Lib.hid (lv_f (.inl h1))
    go_enter Tryd.func97, Tryd.ntmps97
    go_wp2
    go_ret
    exact ⟨ret_bool (by rw [hl.out]; first | done | rfl | (simp; done) | (simp; omega)), rfl⟩
  · by_cases h2 : 9 < n
    · have hl := Lib.hid (lv_f (.inr h2))
      go_enter Tryd.func97, Tryd.ntmps97
      go_wp2
      go_ret
      exact ⟨ret_bool (by rw [hl.out]; first | done | rfl | (simp; done) | (simp; omega)), rfl⟩
    · have hl := Lib.hid (lv_t (n := n) (by omega) (by omega))
      go_enter Tryd.func97, Tryd.ntmps97
      go_wp2
      go_ret
      exact ⟨ret_bool (by rw [hl.out]; first | done | rfl | (simp; done) | (simp; omega)), rfl⟩

set_option maxHeartbeats 400000 in
theorem reflevel_any (n : Int) (w : World) :
    Calls Tryd.prog 86 #[.int .i64 n] w fun e w' => e = .returned (.bool (lv n)) ∧ w = w' := by
  by_cases h1 : n < 0
  · have hl := Lib.hid (lv_f (.inl h1))
    go_enter Tryd.func86, Tryd.ntmps86
    go_wp2
    go_ret
    exact ⟨ret_bool (by rw [hl.out]; first | done | rfl | (simp; done) | (simp; omega)), rfl⟩
  · by_cases h2 : 9 < n
    · have hl := Lib.hid (lv_f (.inr h2))
      go_enter Tryd.func86, Tryd.ntmps86
      go_wp2
      go_ret
      exact ⟨ret_bool (by rw [hl.out]; first | done | rfl | (simp; done) | (simp; omega)), rfl⟩
    · have hl := Lib.hid (lv_t (n := n) (by omega) (by omega))
      go_enter Tryd.func86, Tryd.ntmps86
      go_wp2
      go_ret
      exact ⟨ret_bool (by rw [hl.out]; first | done | rfl | (simp; done) | (simp; omega)), rfl⟩

def Good (l : List Int) (k : Nat) : Prop := ∀ i, i < k → lv (l.getD i 0) = true
theorem Good.zero (l : List Int) : Good l 0 := fun i hi => absurd hi (Nat.not_lt_zero _)
theorem Good.succ {l : List Int} {k : Nat} (h : Good l k) (hk : lv (l.getD k 0) = true) : Good l (k + 1) := by
  intro i hi
  by_cases e : i = k
  · rw [e]; exact hk
  · exact h i (by omega)
theorem Good.all {l : List Int} (h : Good l l.length) : l.all lv = true := by
  rw [List.all_eq_true]
  intro x hx
  obtain ⟨i, hi, rfl⟩ := List.getElem_of_mem hx
  have := h i hi
  simpa [List.getD_eq_getElem?_getD, List.getElem?_eq_getElem hi] using this
theorem all_f {l : List Int} {k : Nat} (hk : k < l.length) (h : lv (l.getD k 0) = false) : l.all lv = false := by
  rw [List.all_eq_false]
  refine ⟨l[k], List.getElem_mem hk, ?_⟩
  rw [List.getD_eq_getElem?_getD, List.getElem?_eq_getElem hk] at h
  simpa using h

def SomeIdx (l : List Int) (w : World) (e : Ending) (w' : World) : Prop := (∃ n : Int, e = .returned (.int .i64 n) ∧ (0 ≤ n ↔ l.all lv = false)) ∧ w = w'

set_option maxHeartbeats 400000 in
theorem indexFunc_any (l : List Int) (v : Value) (w : World) (hv : ReadI w v l) :
    Calls Tryd.prog 99 #[v, .func (.func 97) #[] #[]] w (SomeIdx l w) := by
  obtain ⟨hl, ⟨rfl, a, cap, rfl⟩ | ⟨b, off, cap, rfl, _, hc⟩⟩ := hv.cases
  · unfold maxLen at hl
    go_enter Tryd.func99, Tryd.ntmps99
    go_wp2
    go_loop [5, 8] (fun _ i => i = .int .i64 0) (fun _ _ => 0)
    case atStart => rfl
    case round =>
      subst hrel
      go_wp2
      go_ret
      exact ⟨⟨-1, rfl, by simp⟩, rfl⟩
  · unfold maxLen at hl
    have HC := Lib.hid hc; clear hc
    go_enter Tryd.func99, Tryd.ntmps99
    go_wp2
    go_loop [5, 8] (fun _ i => ∃ k : Nat, k ≤ l.length ∧ i = .int .i64 k ∧ Good l k) (fun _ i => l.length - (intOf i).toNat)
    case atStart => exact ⟨0, Nat.zero_le _, rfl, Good.zero l⟩
    case round =>
      obtain ⟨k, hk, rfl, hg⟩ := hrel
      by_cases hlt : k < l.length
      · have hcell := HC.out k hlt
        cases hb : lv (l.getD k 0)
        · have hf := Lib.hid (all_f hlt hb)
          obtain ⟨x, hx⟩ : ∃ x, l.getD k 0 = x := ⟨_, rfl⟩
          rw [hx] at hcell hb; clear hx
          go_wp2_with (go_at_call 97; refine (all1_any _ _).mono ?_; rintro e w' ⟨rfl, rfl⟩)
          go_ret
          exact ⟨⟨k, rfl, by simp [hf.out]⟩, rfl⟩
        · have hg' := hg.succ hb; clear hg
          obtain ⟨x, hx⟩ : ∃ x, l.getD k 0 = x := ⟨_, rfl⟩
          rw [hx] at hcell hb; clear hx
          go_wp2_with (go_at_call 97; refine (all1_any _ _).mono ?_; rintro e w' ⟨rfl, rfl⟩)
          go_round
          case rel => exact ⟨k + 1, by omega, by go_num, hg'⟩
          case measure => simp [intOf]; omega
      · obtain rfl : k = l.length := by omega
        have hf := Lib.hid hg.all; clear hg
        go_wp2
        go_ret
        exact ⟨⟨-1, rfl, by simp [hf.out]⟩, rfl⟩

set_option maxHeartbeats 400000 in
theorem contains_any (l : List Int) (v : Value) (w : World) (hv : ReadI w v l) :
    Calls Tryd.prog 96 #[v, .func (.func 97) #[] #[]] w fun e w' => e = .returned (.bool (!l.all lv)) ∧ w = w' := by
  go_enter Tryd.func96, Tryd.ntmps96
  go_wp2_with fail
  refine (indexFunc_any l v w hv).mono ?_
  rintro e w' ⟨⟨n, rfl, hn⟩, rfl⟩
  have hn' := Lib.hid hn; clear hn
  go_wp2
  go_ret
  exact ⟨ret_bool (by
    have h := hn'.out
    cases hx : l.all lv
    · simp [h.2 hx]
    · have : ¬ 0 ≤ n := fun h0 => by rw [h.1 h0] at hx; exact absurd hx (by simp)
      simp; omega), rfl⟩

set_option maxHeartbeats 400000 in
theorem all_any (l : List Int) (v : Value) (w : World) (hv : ReadI w v l) :
    Calls Tryd.prog 93 #[v] w fun e w' => e = .returned (.bool (l.all lv)) ∧ w = w' := by
  go_enter Tryd.func93, Tryd.ntmps93
  go_wp2_with fail
  refine (contains_any l v w hv).mono ?_
  rintro e w' ⟨rfl, rfl⟩
  obtain ⟨c, hx⟩ : ∃ c, l.all lv = c := ⟨_, rfl⟩
  rw [hx]
  have HX := Lib.hid hx; clear hx
  go_wp2
  go_ret
  exact ⟨ret_bool (by simp [HX.out]), rfl⟩

set_option maxHeartbeats 400000 in
theorem check_any (n : Int) (w : World) :
    Calls Tryd.prog 84 #[.int .i64 n] w fun e w' => e = .returned (.int .i64 (if lv n then 0 else 1)) ∧ Below w.heap.size w w' := by
  cases hx : lv n
  all_goals
    have hal : [n].all lv = lv n := by simp
    rw [hx] at hal
    have HAL := Lib.hid hal; clear hal
    have HX := Lib.hid hx; clear hx
    go_enter Tryd.func84, Tryd.ntmps84
    go_wp2_with fail
    refine (all_any [n] _ _ (ReadI.lit w _ [n] (by simp [maxLen]))).mono ?_
    rintro e w' ⟨rfl, rfl⟩
    rw [HAL.out]
    go_wp2
    go_ret
    exact ⟨rfl, (Below.refl _ _).alloc (Nat.le_refl _) _⟩

set_option maxHeartbeats 400000 in
theorem refcheck_any (n : Int) (w : World) :
    Calls Tryd.prog 58 #[.int .i64 n] w fun e w' => e = .returned (.int .i64 (if lv n then 0 else 1)) ∧ w = w' := by
  obtain ⟨c, hx⟩ : ∃ c, lv n = c := ⟨_, rfl⟩
  rw [hx]
  have HX := Lib.hid hx; clear hx
  cases c
  all_goals
    go_enter Tryd.func58, Tryd.ntmps58
    go_wp2_with fail
    refine (reflevel_any n w).mono ?_
    rintro e w' ⟨rfl, rfl⟩
    rw [HX.out]
    go_wp2
    go_ret
    exact ⟨rfl, rfl⟩

end Go.Proofs.YtjhgpifccleknaaDoor
