/- What the reference's letter, Name and plain come to; no condition but a string's size. -/
import Derived.Test.YtjhgpifccleknaaDoorBinds
namespace Go.Proofs.YtjhgpifccleknaaDoor
set_option linter.unusedSimpArgs false
set_option linter.unusedVariables false
open Go.RowKit

theorem letterB_iff (c : UInt8) : letterB c = true ↔ ((97 ≤ c.toNat ∧ c.toNat ≤ 122) ∨ (65 ≤ c.toNat ∧ c.toNat ≤ 90)) ∨ c.toNat = 95 := by
  unfold letterB; simp
theorem digitB_iff (c : UInt8) : digitB c = true ↔ 48 ≤ c.toNat ∧ c.toNat ≤ 57 := by
  unfold digitB; simp

set_option maxHeartbeats 1000000 in
theorem letter_any (c : UInt8) (n : Nat) (hn : c.toNat = n) (w : World) :
    Calls Tryd.prog 60 #[.int .u8 (n : Int)] w fun e w' => e = .returned (.bool (letterB c)) ∧ w = w' := by
  have hl := letterB_iff c
  rw [hn] at hl
  cases hx : letterB c
  · rw [hx] at hl
    have hf : ¬ (((97 ≤ n ∧ n ≤ 122) ∨ (65 ≤ n ∧ n ≤ 90)) ∨ n = 95) := fun h => by have := hl.2 h; cases this
    clear hl hx hn
    have d5 : ((n : Int) == 95) = false := by simp; omega
    by_cases h1 : 97 ≤ n
    · have d1 : decide ((97 : Int) ≤ (n : Int)) = true := by simp; omega
      have d2 : decide ((n : Int) ≤ 122) = false := by simp; omega
      have d3 : decide ((65 : Int) ≤ (n : Int)) = true := by simp; omega
      have d4 : decide ((n : Int) ≤ 90) = false := by simp; omega
      have HF := Lib.hid hf; clear hf h1
      go_enter Tryd.func60, Tryd.ntmps60
      go_wp2
      go_ret
      exact ⟨rfl, rfl⟩
    · have d1 : decide ((97 : Int) ≤ (n : Int)) = false := by simp; omega
      by_cases h3 : 65 ≤ n
      · have d3 : decide ((65 : Int) ≤ (n : Int)) = true := by simp; omega
        have d4 : decide ((n : Int) ≤ 90) = false := by simp; omega
        have HF := Lib.hid hf; clear hf h1 h3
        go_enter Tryd.func60, Tryd.ntmps60
        go_wp2
        go_ret
        exact ⟨rfl, rfl⟩
      · have d3 : decide ((65 : Int) ≤ (n : Int)) = false := by simp; omega
        have HF := Lib.hid hf; clear hf h1 h3
        go_enter Tryd.func60, Tryd.ntmps60
        go_wp2
        go_ret
        exact ⟨rfl, rfl⟩
  · have ht := hl.1 hx
    clear hl hx hn
    by_cases h1 : 97 ≤ n ∧ n ≤ 122
    · have d1 : decide ((97 : Int) ≤ (n : Int)) = true := by simp; omega
      have d2 : decide ((n : Int) ≤ 122) = true := by simp; omega
      clear ht h1
      go_enter Tryd.func60, Tryd.ntmps60
      go_wp2
      go_ret
      exact ⟨rfl, rfl⟩
    · have d1 : decide ((97 : Int) ≤ (n : Int)) = false := by simp; omega
      by_cases h3 : 65 ≤ n ∧ n ≤ 90
      · have d3 : decide ((65 : Int) ≤ (n : Int)) = true := by simp; omega
        have d4 : decide ((n : Int) ≤ 90) = true := by simp; omega
        clear ht h1 h3
        go_enter Tryd.func60, Tryd.ntmps60
        go_wp2
        go_ret
        exact ⟨rfl, rfl⟩
      · obtain rfl : n = 95 := by omega
        clear ht h1 h3 d1
        go_enter Tryd.func60, Tryd.ntmps60
        go_wp2
        go_ret
        exact ⟨rfl, rfl⟩

theorem nameB_long {s : ByteArray} (h : s.size < 1 ∨ 16 < s.size) : nameB s = false := by
  unfold nameB nameL
  have : s.data.toList.length = s.size := rfl
  rw [this]
  rcases h with h | h
  · rw [decide_eq_false (by omega)]; simp
  · rw [show decide (s.size ≤ 16) = false from decide_eq_false (by omega)]; simp

set_option maxHeartbeats 2000000 in
theorem refname_any (s : ByteArray) (hs : s.size ≤ maxLen) (w : World) :
    Calls Tryd.prog 25 #[.string s] w fun e w' => e = .returned (.bool (nameB s)) ∧ w = w' := by
  unfold maxLen at hs
  by_cases h1 : s.size < 1
  · have hn := Lib.hid (nameB_long (.inl h1))
    have d1 : decide ((s.size : Int) < 1) = true := by simp; omega
    go_enter Tryd.func25, Tryd.ntmps25
    go_wp2
    go_ret
    exact ⟨ret_bool hn.out.symm, rfl⟩
  · have d1 : decide ((s.size : Int) < 1) = false := by simp; omega
    by_cases h2 : 16 < s.size
    · have hn := Lib.hid (nameB_long (.inr h2))
      have d2 : decide ((16 : Int) < (s.size : Int)) = true := by simp; omega
      go_enter Tryd.func25, Tryd.ntmps25
      go_wp2
      go_ret
      exact ⟨ret_bool hn.out.symm, rfl⟩
    · have d2 : decide ((16 : Int) < (s.size : Int)) = false := by simp; omega
      have hget : ∀ k (hk : k < s.size), s.data.toList.getD k 0 = s[k] := by
        intro k hk
        have : k < s.data.toList.length := hk
        rw [List.getD_eq_getElem?_getD, List.getElem?_eq_getElem this]; rfl
      have hpos : 0 < s.size := by omega
      have hg0 := hget 0 hpos
      have HG := Lib.hid hget; clear hget
      cases hl0 : letterB s[0]
      · have hn := Lib.hid (show nameB s = false from nameL_no (l := s.data.toList) (k := 0) hpos (by rw [hg0]; exact okc_no hl0 (.inl rfl)))
        clear hg0
        obtain ⟨c0, hc0⟩ : ∃ c, s[0] = c := ⟨_, rfl⟩
        rw [hc0] at hl0
        go_enter Tryd.func25, Tryd.ntmps25
        go_wp2_with (go_at_call 60; refine (letter_any c0 _ rfl _).mono ?_; rintro e w1 ⟨rfl, rfl⟩; rw [hl0])
        go_ret
        exact ⟨ret_bool hn.out.symm, rfl⟩
      · clear hg0
        obtain ⟨c0, hc0⟩ : ∃ c, s[0] = c := ⟨_, rfl⟩
        rw [hc0] at hl0
        go_enter Tryd.func25, Tryd.ntmps25
        go_wp2_with (go_at_call 60; refine (letter_any c0 _ rfl _).mono ?_; rintro e w1 ⟨rfl, rfl⟩; rw [hl0])
        go_loopw [3] (fun i wr => (∃ k : Nat, k ≤ s.size ∧ i = .int .i64 (k : Int) ∧ Okc s.data.toList k) ∧ wr = w) (fun i _ => s.size - (intOf i).toNat)
        case atStart => exact ⟨⟨0, Nat.zero_le _, rfl, fun i hi => by omega⟩, rfl⟩
        case round =>
          rename World => wq
          obtain ⟨⟨k, hk, rfl, hg⟩, rfl⟩ := hrel
          by_cases hlt : k < s.size
          · have hgk := HG.out k hlt
            obtain ⟨c, hc⟩ : ∃ c, s[k] = c := ⟨_, rfl⟩
            rw [hc] at hgk
            have hdi := digitB_iff c
            cases hl : letterB c
            · cases hd : digitB c
              · have hn := Lib.hid (show nameB s = false from nameL_no (l := s.data.toList) hlt (by rw [hgk]; exact okc_no hl (.inr hd)))
                rw [hd] at hdi
                have hf : ¬ (48 ≤ c.toNat ∧ c.toNat ≤ 57) := fun h => by have := hdi.2 h; cases this
                clear hdi hd hgk hg
                by_cases hlo : c.toNat < 48
                · have d3 : decide ((c.toNat : Int) < 48) = true := by simp; omega
                  clear hf hlo
                  go_wp2_with (go_at_call 60; refine (letter_any c _ rfl _).mono ?_; rintro e w1 ⟨rfl, rfl⟩; rw [hl])
                  go_ret
                  exact ⟨ret_bool hn.out.symm, rfl⟩
                · have d3 : decide ((c.toNat : Int) < 48) = false := by simp; omega
                  have d4 : decide ((57 : Int) < (c.toNat : Int)) = true := by simp; omega
                  clear hf hlo
                  go_wp2_with (go_at_call 60; refine (letter_any c _ rfl _).mono ?_; rintro e w1 ⟨rfl, rfl⟩; rw [hl])
                  go_ret
                  exact ⟨ret_bool hn.out.symm, rfl⟩
              · have h00 : k ≠ 0 := by
                  rintro rfl
                  rw [hc0] at hc
                  subst hc
                  rw [hl] at hl0
                  cases hl0
                have hok := Lib.hid (hg.succ (by rw [hgk]; exact okc_dig h00 hd))
                have hf := hdi.1 hd
                have d3 : decide ((c.toNat : Int) < 48) = false := by simp; omega
                have d4 : decide ((57 : Int) < (c.toNat : Int)) = false := by simp; omega
                clear hdi hd hgk hg hf
                go_wp2_with (go_at_call 60; refine (letter_any c _ rfl _).mono ?_; rintro e w1 ⟨rfl, rfl⟩; rw [hl])
                exact ⟨⟨⟨k + 1, by omega, by go_num, hok.out⟩, trivial⟩, by simp [intOf]; omega⟩
            · have hok := Lib.hid (hg.succ (by rw [hgk]; exact okc_of hl))
              clear hdi hgk hg
              go_wp2_with (go_at_call 60; refine (letter_any c _ rfl _).mono ?_; rintro e w1 ⟨rfl, rfl⟩; rw [hl])
              exact ⟨⟨⟨k + 1, by omega, by go_num, hok.out⟩, trivial⟩, by simp [intOf]; omega⟩
          · obtain rfl : k = s.size := by omega
            have hfin : nameB s = true := by
              have := nameL_all (l := s.data.toList) hg
              have e : s.data.toList.length = s.size := rfl
              unfold nameB
              rw [this, e, decide_eq_true (show 1 ≤ s.size by omega), decide_eq_true (show s.size ≤ 16 by omega)]
              rfl
            have HF := Lib.hid hfin; clear hfin hg
            go_wp2
            go_ret
            exact ⟨ret_bool HF.out.symm, rfl⟩

/-- all of a node's other fields are empty -/
def plainB (n : Nd) : Bool := n.N == 0 && n.M == 0 && decide (n.S.size = 0)

set_option maxHeartbeats 1000000 in
theorem plain_any (n : Nd) (w : World) :
    Calls Tryd.prog 59 #[.agg #[.int .i64 n.K, .int .i64 n.N, .int .i64 n.M, .string n.S]] w fun e w' => e = .returned (.bool (plainB n)) ∧ w' = w.alloc (.cells #[.int .i64 n.K, .int .i64 n.N, .int .i64 n.M, .string n.S] 23) := by
  obtain ⟨K, N, M, S⟩ := n
  unfold plainB
  simp only
  have hs0 := size0 S
  cases hN : N == 0
  · go_enter Tryd.func59, Tryd.ntmps59
    go_wp2
    go_ret
    exact ⟨rfl, rfl⟩
  · cases hM : M == 0
    · go_enter Tryd.func59, Tryd.ntmps59
      go_wp2
      go_ret
      exact ⟨rfl, rfl⟩
    · rw [← hs0]
      clear hs0
      go_enter Tryd.func59, Tryd.ntmps59
      go_wp2
      go_ret
      exact ⟨by simp, rfl⟩

end Go.Proofs.YtjhgpifccleknaaDoor
