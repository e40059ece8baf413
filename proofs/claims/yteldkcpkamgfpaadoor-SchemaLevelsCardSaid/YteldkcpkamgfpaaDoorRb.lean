/- What the reference's letter, Name and plain come to; no condition but a string's size. What the reference's Binds comes to, kind by kind; no condition but the string's size. What the reference's Binds comes to, for the other kinds of one rule; no condition. What the reference's Binds comes to, for the kinds whose fields are looked at; no condition but the string's size. -/
import Derived.Test.YteldkcpkamgfpaaDoorRi
import Derived.Test.YteldkcpkamgfpaaDoorBa
import Derived.Deep.RegionLaw
namespace Go.Proofs.YteldkcpkamgfpaaDoor
set_option linter.unusedSimpArgs false
set_option linter.unusedVariables false
open Go.RowKit

theorem letterB_iff (c : UInt8) : letterB c = true ↔ ((97 ≤ c.toNat ∧ c.toNat ≤ 122) ∨ (65 ≤ c.toNat ∧ c.toNat ≤ 90)) ∨ c.toNat = 95 := by
  unfold letterB; simp
theorem digitB_iff (c : UInt8) : digitB c = true ↔ 48 ≤ c.toNat ∧ c.toNat ≤ 57 := by
  unfold digitB; simp

set_option maxHeartbeats 1000000 in
theorem letter_any (c : UInt8) (n : Nat) (hn : c.toNat = n) (w : World) :
    Calls Tryd.prog 26 #[.int .u8 (n : Int)] w fun e w' => e = .returned (.bool (letterB c)) ∧ w = w' := by
  have hl := letterB_iff c
  rw [hn] at hl
  cases hx : letterB c
  · rw [hx] at hl
    have hf : ¬ (((97 ≤ n ∧ n ≤ 122) ∨ (65 ≤ n ∧ n ≤ 90)) ∨ n = 95) := fun h => by have := hl.2 h; cases this
    clear hl hx hn
    have d5 : ((n : Int) == 95) = false := by simp; omega
    by_cases h1 : 97 ≤ n
    · have d1 : decide ((97 : Int) ≤ (n : Int)) = true := by simp; omega
      have d2 : decide ((n : Int) ≤ 122) = false := by simp; omega
      have d3 : decide ((65 : Int) ≤ (n : Int)) = true := by simp; omega
      have d4 : decide ((n : Int) ≤ 90) = false := by simp; omega
      have HF := Lib.hid hf; clear hf h1
      go_enter Tryd.func26, Tryd.ntmps26
      go_wp2
      go_ret
      exact ⟨rfl, rfl⟩
    · have d1 : decide ((97 : Int) ≤ (n : Int)) = false := by simp; omega
      by_cases h3 : 65 ≤ n
      · have d3 : decide ((65 : Int) ≤ (n : Int)) = true := by simp; omega
        have d4 : decide ((n : Int) ≤ 90) = false := by simp; omega
        have HF := Lib.hid hf; clear hf h1 h3
        go_enter Tryd.func26, Tryd.ntmps26
        go_wp2
        go_ret
        exact ⟨rfl, rfl⟩
      · have d3 : decide ((65 : Int) ≤ (n : Int)) = false := by simp; omega
        have HF := Lib.hid hf; clear hf h1 h3
        go_enter Tryd.func26, Tryd.ntmps26
        go_wp2
        go_ret
        exact ⟨rfl, rfl⟩
  · have ht := hl.1 hx
    clear hl hx hn
    by_cases h1 : 97 ≤ n ∧ n ≤ 122
    · have d1 : decide ((97 : Int) ≤ (n : Int)) = true := by simp; omega
      have d2 : decide ((n : Int) ≤ 122) = true := by simp; omega
      clear ht h1
      go_enter Tryd.func26, Tryd.ntmps26
      go_wp2
      go_ret
      exact ⟨rfl, rfl⟩
    · have d1 : decide ((97 : Int) ≤ (n : Int)) = false := by simp; omega
      by_cases h3 : 65 ≤ n ∧ n ≤ 90
      · have d3 : decide ((65 : Int) ≤ (n : Int)) = true := by simp; omega
        have d4 : decide ((n : Int) ≤ 90) = true := by simp; omega
        clear ht h1 h3
        go_enter Tryd.func26, Tryd.ntmps26
        go_wp2
        go_ret
        exact ⟨rfl, rfl⟩
      · obtain rfl : n = 95 := by omega
        clear ht h1 h3 d1
        go_enter Tryd.func26, Tryd.ntmps26
        go_wp2
        go_ret
        exact ⟨rfl, rfl⟩

theorem nameB_long {s : ByteArray} (h : s.size < 1 ∨ 16 < s.size) : nameB s = false := by
  unfold nameB nameL
  have : s.data.toList.length = s.size := rfl
  rw [this]
  rcases h with h | h
  · rw [decide_eq_false (by omega)]; simp
  · rw [show decide (s.size ≤ 16) = false from decide_eq_false (by omega)]; simp

set_option maxHeartbeats 2000000 in
theorem refname_any (s : ByteArray) (hs : s.size ≤ maxLen) (w : World) :
    Calls Tryd.prog 10 #[.string s] w fun e w' => e = .returned (.bool (nameB s)) ∧ w = w' := by
  unfold maxLen at hs
  by_cases h1 : s.size < 1
  · have hn := Lib.hid (nameB_long (.inl h1))
    have d1 : decide ((s.size : Int) < 1) = true := by simp; omega
    go_enter Tryd.func10, Tryd.ntmps10
    go_wp2
    go_ret
    exact ⟨ret_bool hn.out.symm, rfl⟩
  · have d1 : decide ((s.size : Int) < 1) = false := by simp; omega
    by_cases h2 : 16 < s.size
    · have hn := Lib.hid (nameB_long (.inr h2))
      have d2 : decide ((16 : Int) < (s.size : Int)) = true := by simp; omega
      go_enter Tryd.func10, Tryd.ntmps10
      go_wp2
      go_ret
      exact ⟨ret_bool hn.out.symm, rfl⟩
    · have d2 : decide ((16 : Int) < (s.size : Int)) = false := by simp; omega
      have hget : ∀ k (hk : k < s.size), s.data.toList.getD k 0 = s[k] := by
        intro k hk
        have : k < s.data.toList.length := hk
        rw [List.getD_eq_getElem?_getD, List.getElem?_eq_getElem this]; rfl
      have hpos : 0 < s.size := by omega
      have hg0 := hget 0 hpos
      have HG := Lib.hid hget; clear hget
      cases hl0 : letterB s[0]
      · have hn := Lib.hid (show nameB s = false from nameL_no (l := s.data.toList) (k := 0) hpos (by rw [hg0]; exact okc_no hl0 (.inl rfl)))
        clear hg0
        obtain ⟨c0, hc0⟩ : ∃ c, s[0] = c := ⟨_, rfl⟩
        rw [hc0] at hl0
        go_enter Tryd.func10, Tryd.ntmps10
        go_wp2_with (go_at_call 26; refine (letter_any c0 _ rfl _).mono ?_; rintro e w1 ⟨rfl, rfl⟩; rw [hl0])
        go_ret
        exact ⟨ret_bool hn.out.symm, rfl⟩
      · clear hg0
        obtain ⟨c0, hc0⟩ : ∃ c, s[0] = c := ⟨_, rfl⟩
        rw [hc0] at hl0
        go_enter Tryd.func10, Tryd.ntmps10
        go_wp2_with (go_at_call 26; refine (letter_any c0 _ rfl _).mono ?_; rintro e w1 ⟨rfl, rfl⟩; rw [hl0])
        go_loopw [3] (fun i wr => (∃ k : Nat, k ≤ s.size ∧ i = .int .i64 (k : Int) ∧ Okc s.data.toList k) ∧ wr = w) (fun i _ => s.size - (intOf i).toNat)
        case atStart => exact ⟨⟨0, Nat.zero_le _, rfl, fun i hi => by omega⟩, rfl⟩
        case round =>
          rename World => wq
          obtain ⟨⟨k, hk, rfl, hg⟩, rfl⟩ := hrel
          by_cases hlt : k < s.size
          · have hgk := HG.out k hlt
            obtain ⟨c, hc⟩ : ∃ c, s[k] = c := ⟨_, rfl⟩
            rw [hc] at hgk
            have hdi := digitB_iff c
            cases hl : letterB c
            · cases hd : digitB c
              · have hn := Lib.hid (show nameB s = false from nameL_no (l := s.data.toList) hlt (by rw [hgk]; exact okc_no hl (.inr hd)))
                rw [hd] at hdi
                have hf : ¬ (48 ≤ c.toNat ∧ c.toNat ≤ 57) := fun h => by have := hdi.2 h; cases this
                clear hdi hd hgk hg
                by_cases hlo : c.toNat < 48
                · have d3 : decide ((c.toNat : Int) < 48) = true := by simp; omega
                  clear hf hlo
                  go_wp2_with (go_at_call 26; refine (letter_any c _ rfl _).mono ?_; rintro e w1 ⟨rfl, rfl⟩; rw [hl])
                  go_ret
                  exact ⟨ret_bool hn.out.symm, rfl⟩
                · have d3 : decide ((c.toNat : Int) < 48) = false := by simp; omega
                  have d4 : decide ((57 : Int) < (c.toNat : Int)) = true := by simp; omega
                  clear hf hlo
                  go_wp2_with (go_at_call 26; refine (letter_any c _ rfl _).mono ?_; rintro e w1 ⟨rfl, rfl⟩; rw [hl])
                  go_ret
                  exact ⟨ret_bool hn.out.symm, rfl⟩
              · have h00 : k ≠ 0 := by
                  rintro rfl
                  rw [hc0] at hc
                  subst hc
                  rw [hl] at hl0
                  cases hl0
                have hok := Lib.hid (hg.succ (by rw [hgk]; exact okc_dig h00 hd))
                have hf := hdi.1 hd
                have d3 : decide ((c.toNat : Int) < 48) = false := by simp; omega
                have d4 : decide ((57 : Int) < (c.toNat : Int)) = false := by simp; omega
                clear hdi hd hgk hg hf
                go_wp2_with (go_at_call 26; refine (letter_any c _ rfl _).mono ?_; rintro e w1 ⟨rfl, rfl⟩; rw [hl])
                exact ⟨⟨⟨k + 1, by omega, by go_num, hok.out⟩, trivial⟩, by simp [intOf]; omega⟩
            · have hok := Lib.hid (hg.succ (by rw [hgk]; exact okc_of hl))
              clear hdi hgk hg
              go_wp2_with (go_at_call 26; refine (letter_any c _ rfl _).mono ?_; rintro e w1 ⟨rfl, rfl⟩; rw [hl])
              exact ⟨⟨⟨k + 1, by omega, by go_num, hok.out⟩, trivial⟩, by simp [intOf]; omega⟩
          · obtain rfl : k = s.size := by omega
            have hfin : nameB s = true := by
              have := nameL_all (l := s.data.toList) hg
              have e : s.data.toList.length = s.size := rfl
              unfold nameB
              rw [this, e, decide_eq_true (show 1 ≤ s.size by omega), decide_eq_true (show s.size ≤ 16 by omega)]
              rfl
            have HF := Lib.hid hfin; clear hfin hg
            go_wp2
            go_ret
            exact ⟨ret_bool HF.out.symm, rfl⟩

/-- all of a node's other fields are empty -/
def plainB (n : Nd) : Bool := n.N == 0 && n.M == 0 && decide (n.S.size = 0)

set_option maxHeartbeats 1000000 in
theorem plain_any (n : Nd) (w : World) :
    Calls Tryd.prog 70 #[.agg #[.int .i64 n.K, .int .i64 n.N, .int .i64 n.M, .string n.S]] w fun e w' => e = .returned (.bool (plainB n)) ∧ w' = w.alloc (.cells #[.int .i64 n.K, .int .i64 n.N, .int .i64 n.M, .string n.S] 30) := by
  obtain ⟨K, N, M, S⟩ := n
  unfold plainB
  simp only
  have hs0 := size0 S
  cases hN : N == 0
  · go_enter Tryd.func70, Tryd.ntmps70
    go_wp2
    go_ret
    exact ⟨rfl, rfl⟩
  · cases hM : M == 0
    · go_enter Tryd.func70, Tryd.ntmps70
      go_wp2
      go_ret
      exact ⟨rfl, rfl⟩
    · rw [← hs0]
      clear hs0
      go_enter Tryd.func70, Tryd.ntmps70
      go_wp2
      go_ret
      exact ⟨by simp, rfl⟩

end Go.Proofs.YteldkcpkamgfpaaDoor

namespace Go.Proofs.YteldkcpkamgfpaaDoor
set_option linter.unusedSimpArgs false
set_option linter.unusedVariables false
open Go.RowKit

def RBPost (l : List Int) (b : Bool) (w : World) (e : Ending) (w' : World) : Prop :=
  ∃ v, e = .returned (.tuple #[v, .bool b]) ∧ ReadI w' v l ∧ Below w.heap.size w w'

/-- what the reference's Binds has laid when it comes to a kind's answer -/
theorem rb_start (w : World) (K N M : Int) (S : ByteArray) : ∃ w2 : World, ((w.alloc (.cells #[.int .i64 K, .int .i64 N, .int .i64 M, .string S] 30)).alloc (.cells #[] 3)) = w2 ∧ w2.heap.size = w.heap.size + 2 ∧
    w2.ownsRow w.heap.size 3 1 (.slice (some ⟨w.heap.size + 1, 0, none⟩) 0 0) 0 [] ∧ Below w.heap.size w w2 ∧
    w2.cell? ⟨w.heap.size, 0, none⟩ = some (.int .i64 K) ∧ w2.cell? ⟨w.heap.size, 1, none⟩ = some (.int .i64 N) ∧ w2.cell? ⟨w.heap.size, 2, none⟩ = some (.int .i64 M) ∧ w2.cell? ⟨w.heap.size, 3, none⟩ = some (.string S) := by
  have hb : Below (w.heap.size + 1) (w.alloc (.cells #[.int .i64 K, .int .i64 N, .int .i64 M, .string S] 30)) ((w.alloc (.cells #[.int .i64 K, .int .i64 N, .int .i64 M, .string S] 30)).alloc (.cells #[] 3)) := (Below.refl _ _).alloc (by simp) _
  obtain ⟨c0, c1, c2, c3, _⟩ := box_cells hb
  refine ⟨_, rfl, by simp, ?_, below_box hb, c0, c1, c2, c3⟩
  have h := World.ownsRow_lit (base := w.heap.size) (e := 3) (size := 1) (w.alloc (.cells #[.int .i64 K, .int .i64 N, .int .i64 M, .string S] 30)) #[] 0 (by simp) (by unfold maxLen; omega) (by simp)
  simpa using h

set_option maxRecDepth 20000 in
set_option maxHeartbeats 2000000 in
theorem rb_4 (N M : Int) (S : ByteArray) (w : World) :
    Calls Tryd.prog 45 #[.agg #[.int .i64 4, .int .i64 N, .int .i64 M, .string S]] w (RBPost [0, 1] (plainB ⟨4, N, M, S⟩) w) := by
  obtain ⟨i0, hi, hz0, hz1, hz2⟩ := info_parts Tryd.infoInt
  obtain ⟨pl, hpl⟩ : ∃ b, plainB ⟨4, N, M, S⟩ = b := ⟨_, rfl⟩
  rw [hpl]
  have HP := Lib.hid hpl; clear hpl
  go_enter Tryd.func45, Tryd.ntmps45
  go_wp2_with fail
  obtain ⟨w2, hw2, hsz, hown, hb, c0, c1, c2, c3⟩ := rb_start w 4 N M S
  rw [hw2]
  clear hw2
  have HO := Lib.hid hown; clear hown
  have HB := Lib.hid hb; clear hb
  have hlt : w.heap.size < w2.heap.size := by omega
  have hle : w.heap.size + 1 < w2.heap.size := by omega
  clear hsz
  have hone : ∀ u ∈ [Value.int .i64 0, .int .i64 1], u.oneCell' = true := by intro u hu; obtain ⟨x, _, rfl⟩ := List.mem_map.1 (show u ∈ ([0, 1] : List Int).map (Value.int .i64) from hu); rfl
  have HONE := Lib.hid hone; clear hone
  go_region_law (first
    | (refine step_append_row rfl (.tmp 89) (.tmp 90) 45 rfl w.heap.size 3 i0 (.int .i64 0) 1 8 Tryd.underlying45 hi hz0 hz1 hz2 rfl (by decide) (.slice (some ⟨w.heap.size + 1, 0, none⟩) 0 0) 0 [] (by rfl) (by first | exact HO.out.alloc _ | exact (HO.out.alloc _).drew | exact HO.out.drew.alloc _) (.slice (some ⟨w2.heap.size, 0, none⟩) 2 2) 2 [.int .i64 0, .int .i64 1] (by rfl) (by first | exact RowAt.lit w2 _ #[.int .i64 0, .int .i64 1] 2 rfl (by unfold maxLen; omega) | exact RowAt.lit w2.drew _ #[.int .i64 0, .int .i64 1] 2 rfl (by unfold maxLen; omega)) HONE.out (by omega) (by unfold maxLen; omega) (by simp; omega) ?_; intro v5 w5 hown5 hg5 hat5
       have HO5 := Lib.hid hown5; clear hown5
       have HG5 := Lib.hid hg5; clear hg5
       have d0 : w5.cell? ⟨w.heap.size, 0, none⟩ = some (.int .i64 4) := HG5.out.cell (by first | exact (((Below.refl _ w2).alloc (Nat.le_refl _) _).cell (p := ⟨w.heap.size, 0, none⟩) hlt).trans c0 | exact (((Below.refl _ w2.drew).alloc (Nat.le_refl _) _).cell (p := ⟨w.heap.size, 0, none⟩) hlt).trans c0) (by simp [Value.ownBlock])
       have d1 : w5.cell? ⟨w.heap.size, 1, none⟩ = some (.int .i64 N) := HG5.out.cell (by first | exact (((Below.refl _ w2).alloc (Nat.le_refl _) _).cell (p := ⟨w.heap.size, 1, none⟩) hlt).trans c1 | exact (((Below.refl _ w2.drew).alloc (Nat.le_refl _) _).cell (p := ⟨w.heap.size, 1, none⟩) hlt).trans c1) (by simp [Value.ownBlock])
       have d2 : w5.cell? ⟨w.heap.size, 2, none⟩ = some (.int .i64 M) := HG5.out.cell (by first | exact (((Below.refl _ w2).alloc (Nat.le_refl _) _).cell (p := ⟨w.heap.size, 2, none⟩) hlt).trans c2 | exact (((Below.refl _ w2.drew).alloc (Nat.le_refl _) _).cell (p := ⟨w.heap.size, 2, none⟩) hlt).trans c2) (by simp [Value.ownBlock])
       have d3 : w5.cell? ⟨w.heap.size, 3, none⟩ = some (.string S) := HG5.out.cell (by first | exact (((Below.refl _ w2).alloc (Nat.le_refl _) _).cell (p := ⟨w.heap.size, 3, none⟩) hlt).trans c3 | exact (((Below.refl _ w2.drew).alloc (Nat.le_refl _) _).cell (p := ⟨w.heap.size, 3, none⟩) hlt).trans c3) (by simp [Value.ownBlock]))
    | (go_simp; go_at_call 70; refine (plain_any ⟨4, N, M, S⟩ _).mono ?_; rw [HP.out]; rintro e w9 ⟨rfl, rfl⟩))
  all_goals
    have hb5 : Below w.heap.size w w5 := ((HB.out.alloc HB.out.size _).drew).grown HG5.out (by have := HB.out.size; simp; omega) (fun g hg => by simp [Value.ownBlock] at hg; omega)
    clear d0 d1 d2 d3
    go_wp2_with fail
    go_ret2
    exact ⟨v5, rfl, (read_of_own (l := [0, 1]) HO5.out rfl rfl).alloc _, hb5.alloc hb5.size _⟩

set_option maxRecDepth 20000 in
set_option maxHeartbeats 2000000 in
theorem rb_5 (N M : Int) (S : ByteArray) (w : World) :
    Calls Tryd.prog 45 #[.agg #[.int .i64 5, .int .i64 N, .int .i64 M, .string S]] w (RBPost [0, 0] (plainB ⟨5, N, M, S⟩) w) := by
  obtain ⟨i0, hi, hz0, hz1, hz2⟩ := info_parts Tryd.infoInt
  obtain ⟨pl, hpl⟩ : ∃ b, plainB ⟨5, N, M, S⟩ = b := ⟨_, rfl⟩
  rw [hpl]
  have HP := Lib.hid hpl; clear hpl
  go_enter Tryd.func45, Tryd.ntmps45
  go_wp2_with fail
  obtain ⟨w2, hw2, hsz, hown, hb, c0, c1, c2, c3⟩ := rb_start w 5 N M S
  rw [hw2]
  clear hw2
  have HO := Lib.hid hown; clear hown
  have HB := Lib.hid hb; clear hb
  have hlt : w.heap.size < w2.heap.size := by omega
  have hle : w.heap.size + 1 < w2.heap.size := by omega
  clear hsz
  have hone : ∀ u ∈ [Value.int .i64 0, .int .i64 0], u.oneCell' = true := by intro u hu; obtain ⟨x, _, rfl⟩ := List.mem_map.1 (show u ∈ ([0, 0] : List Int).map (Value.int .i64) from hu); rfl
  have HONE := Lib.hid hone; clear hone
  go_region_law (first
    | (refine step_append_row rfl (.tmp 99) (.tmp 100) 45 rfl w.heap.size 3 i0 (.int .i64 0) 1 8 Tryd.underlying45 hi hz0 hz1 hz2 rfl (by decide) (.slice (some ⟨w.heap.size + 1, 0, none⟩) 0 0) 0 [] (by rfl) (by first | exact HO.out.alloc _ | exact (HO.out.alloc _).drew | exact HO.out.drew.alloc _) (.slice (some ⟨w2.heap.size, 0, none⟩) 2 2) 2 [.int .i64 0, .int .i64 0] (by rfl) (by first | exact RowAt.lit w2 _ #[.int .i64 0, .int .i64 0] 2 rfl (by unfold maxLen; omega) | exact RowAt.lit w2.drew _ #[.int .i64 0, .int .i64 0] 2 rfl (by unfold maxLen; omega)) HONE.out (by omega) (by unfold maxLen; omega) (by simp; omega) ?_; intro v5 w5 hown5 hg5 hat5
       have HO5 := Lib.hid hown5; clear hown5
       have HG5 := Lib.hid hg5; clear hg5
       have d0 : w5.cell? ⟨w.heap.size, 0, none⟩ = some (.int .i64 5) := HG5.out.cell (by first | exact (((Below.refl _ w2).alloc (Nat.le_refl _) _).cell (p := ⟨w.heap.size, 0, none⟩) hlt).trans c0 | exact (((Below.refl _ w2.drew).alloc (Nat.le_refl _) _).cell (p := ⟨w.heap.size, 0, none⟩) hlt).trans c0) (by simp [Value.ownBlock])
       have d1 : w5.cell? ⟨w.heap.size, 1, none⟩ = some (.int .i64 N) := HG5.out.cell (by first | exact (((Below.refl _ w2).alloc (Nat.le_refl _) _).cell (p := ⟨w.heap.size, 1, none⟩) hlt).trans c1 | exact (((Below.refl _ w2.drew).alloc (Nat.le_refl _) _).cell (p := ⟨w.heap.size, 1, none⟩) hlt).trans c1) (by simp [Value.ownBlock])
       have d2 : w5.cell? ⟨w.heap.size, 2, none⟩ = some (.int .i64 M) := HG5.out.cell (by first | exact (((Below.refl _ w2).alloc (Nat.le_refl _) _).cell (p := ⟨w.heap.size, 2, none⟩) hlt).trans c2 | exact (((Below.refl _ w2.drew).alloc (Nat.le_refl _) _).cell (p := ⟨w.heap.size, 2, none⟩) hlt).trans c2) (by simp [Value.ownBlock])
       have d3 : w5.cell? ⟨w.heap.size, 3, none⟩ = some (.string S) := HG5.out.cell (by first | exact (((Below.refl _ w2).alloc (Nat.le_refl _) _).cell (p := ⟨w.heap.size, 3, none⟩) hlt).trans c3 | exact (((Below.refl _ w2.drew).alloc (Nat.le_refl _) _).cell (p := ⟨w.heap.size, 3, none⟩) hlt).trans c3) (by simp [Value.ownBlock]))
    | (go_simp; go_at_call 70; refine (plain_any ⟨5, N, M, S⟩ _).mono ?_; rw [HP.out]; rintro e w9 ⟨rfl, rfl⟩))
  all_goals
    have hb5 : Below w.heap.size w w5 := ((HB.out.alloc HB.out.size _).drew).grown HG5.out (by have := HB.out.size; simp; omega) (fun g hg => by simp [Value.ownBlock] at hg; omega)
    clear d0 d1 d2 d3
    go_wp2_with fail
    go_ret2
    exact ⟨v5, rfl, (read_of_own (l := [0, 0]) HO5.out rfl rfl).alloc _, hb5.alloc hb5.size _⟩

set_option maxRecDepth 20000 in
set_option maxHeartbeats 2000000 in
theorem rb_15 (N M : Int) (S : ByteArray) (w : World) :
    Calls Tryd.prog 45 #[.agg #[.int .i64 15, .int .i64 N, .int .i64 M, .string S]] w (RBPost [0, 0] (plainB ⟨15, N, M, S⟩) w) := by
  obtain ⟨i0, hi, hz0, hz1, hz2⟩ := info_parts Tryd.infoInt
  obtain ⟨pl, hpl⟩ : ∃ b, plainB ⟨15, N, M, S⟩ = b := ⟨_, rfl⟩
  rw [hpl]
  have HP := Lib.hid hpl; clear hpl
  go_enter Tryd.func45, Tryd.ntmps45
  go_wp2_with fail
  obtain ⟨w2, hw2, hsz, hown, hb, c0, c1, c2, c3⟩ := rb_start w 15 N M S
  rw [hw2]
  clear hw2
  have HO := Lib.hid hown; clear hown
  have HB := Lib.hid hb; clear hb
  have hlt : w.heap.size < w2.heap.size := by omega
  have hle : w.heap.size + 1 < w2.heap.size := by omega
  clear hsz
  have hone : ∀ u ∈ [Value.int .i64 0, .int .i64 0], u.oneCell' = true := by intro u hu; obtain ⟨x, _, rfl⟩ := List.mem_map.1 (show u ∈ ([0, 0] : List Int).map (Value.int .i64) from hu); rfl
  have HONE := Lib.hid hone; clear hone
  go_region_law (first
    | (refine step_append_row rfl (.tmp 99) (.tmp 100) 45 rfl w.heap.size 3 i0 (.int .i64 0) 1 8 Tryd.underlying45 hi hz0 hz1 hz2 rfl (by decide) (.slice (some ⟨w.heap.size + 1, 0, none⟩) 0 0) 0 [] (by rfl) (by first | exact HO.out.alloc _ | exact (HO.out.alloc _).drew | exact HO.out.drew.alloc _) (.slice (some ⟨w2.heap.size, 0, none⟩) 2 2) 2 [.int .i64 0, .int .i64 0] (by rfl) (by first | exact RowAt.lit w2 _ #[.int .i64 0, .int .i64 0] 2 rfl (by unfold maxLen; omega) | exact RowAt.lit w2.drew _ #[.int .i64 0, .int .i64 0] 2 rfl (by unfold maxLen; omega)) HONE.out (by omega) (by unfold maxLen; omega) (by simp; omega) ?_; intro v5 w5 hown5 hg5 hat5
       have HO5 := Lib.hid hown5; clear hown5
       have HG5 := Lib.hid hg5; clear hg5
       have d0 : w5.cell? ⟨w.heap.size, 0, none⟩ = some (.int .i64 15) := HG5.out.cell (by first | exact (((Below.refl _ w2).alloc (Nat.le_refl _) _).cell (p := ⟨w.heap.size, 0, none⟩) hlt).trans c0 | exact (((Below.refl _ w2.drew).alloc (Nat.le_refl _) _).cell (p := ⟨w.heap.size, 0, none⟩) hlt).trans c0) (by simp [Value.ownBlock])
       have d1 : w5.cell? ⟨w.heap.size, 1, none⟩ = some (.int .i64 N) := HG5.out.cell (by first | exact (((Below.refl _ w2).alloc (Nat.le_refl _) _).cell (p := ⟨w.heap.size, 1, none⟩) hlt).trans c1 | exact (((Below.refl _ w2.drew).alloc (Nat.le_refl _) _).cell (p := ⟨w.heap.size, 1, none⟩) hlt).trans c1) (by simp [Value.ownBlock])
       have d2 : w5.cell? ⟨w.heap.size, 2, none⟩ = some (.int .i64 M) := HG5.out.cell (by first | exact (((Below.refl _ w2).alloc (Nat.le_refl _) _).cell (p := ⟨w.heap.size, 2, none⟩) hlt).trans c2 | exact (((Below.refl _ w2.drew).alloc (Nat.le_refl _) _).cell (p := ⟨w.heap.size, 2, none⟩) hlt).trans c2) (by simp [Value.ownBlock])
       have d3 : w5.cell? ⟨w.heap.size, 3, none⟩ = some (.string S) := HG5.out.cell (by first | exact (((Below.refl _ w2).alloc (Nat.le_refl _) _).cell (p := ⟨w.heap.size, 3, none⟩) hlt).trans c3 | exact (((Below.refl _ w2.drew).alloc (Nat.le_refl _) _).cell (p := ⟨w.heap.size, 3, none⟩) hlt).trans c3) (by simp [Value.ownBlock]))
    | (go_simp; go_at_call 70; refine (plain_any ⟨15, N, M, S⟩ _).mono ?_; rw [HP.out]; rintro e w9 ⟨rfl, rfl⟩))
  all_goals
    have hb5 : Below w.heap.size w w5 := ((HB.out.alloc HB.out.size _).drew).grown HG5.out (by have := HB.out.size; simp; omega) (fun g hg => by simp [Value.ownBlock] at hg; omega)
    clear d0 d1 d2 d3
    go_wp2_with fail
    go_ret2
    exact ⟨v5, rfl, (read_of_own (l := [0, 0]) HO5.out rfl rfl).alloc _, hb5.alloc hb5.size _⟩

set_option maxRecDepth 20000 in
set_option maxHeartbeats 2000000 in
theorem rb_19 (N M : Int) (S : ByteArray) (w : World) :
    Calls Tryd.prog 45 #[.agg #[.int .i64 19, .int .i64 N, .int .i64 M, .string S]] w (RBPost [0, 0] (plainB ⟨19, N, M, S⟩) w) := by
  obtain ⟨i0, hi, hz0, hz1, hz2⟩ := info_parts Tryd.infoInt
  obtain ⟨pl, hpl⟩ : ∃ b, plainB ⟨19, N, M, S⟩ = b := ⟨_, rfl⟩
  rw [hpl]
  have HP := Lib.hid hpl; clear hpl
  go_enter Tryd.func45, Tryd.ntmps45
  go_wp2_with fail
  obtain ⟨w2, hw2, hsz, hown, hb, c0, c1, c2, c3⟩ := rb_start w 19 N M S
  rw [hw2]
  clear hw2
  have HO := Lib.hid hown; clear hown
  have HB := Lib.hid hb; clear hb
  have hlt : w.heap.size < w2.heap.size := by omega
  have hle : w.heap.size + 1 < w2.heap.size := by omega
  clear hsz
  have hone : ∀ u ∈ [Value.int .i64 0, .int .i64 0], u.oneCell' = true := by intro u hu; obtain ⟨x, _, rfl⟩ := List.mem_map.1 (show u ∈ ([0, 0] : List Int).map (Value.int .i64) from hu); rfl
  have HONE := Lib.hid hone; clear hone
  go_region_law (first
    | (refine step_append_row rfl (.tmp 99) (.tmp 100) 45 rfl w.heap.size 3 i0 (.int .i64 0) 1 8 Tryd.underlying45 hi hz0 hz1 hz2 rfl (by decide) (.slice (some ⟨w.heap.size + 1, 0, none⟩) 0 0) 0 [] (by rfl) (by first | exact HO.out.alloc _ | exact (HO.out.alloc _).drew | exact HO.out.drew.alloc _) (.slice (some ⟨w2.heap.size, 0, none⟩) 2 2) 2 [.int .i64 0, .int .i64 0] (by rfl) (by first | exact RowAt.lit w2 _ #[.int .i64 0, .int .i64 0] 2 rfl (by unfold maxLen; omega) | exact RowAt.lit w2.drew _ #[.int .i64 0, .int .i64 0] 2 rfl (by unfold maxLen; omega)) HONE.out (by omega) (by unfold maxLen; omega) (by simp; omega) ?_; intro v5 w5 hown5 hg5 hat5
       have HO5 := Lib.hid hown5; clear hown5
       have HG5 := Lib.hid hg5; clear hg5
       have d0 : w5.cell? ⟨w.heap.size, 0, none⟩ = some (.int .i64 19) := HG5.out.cell (by first | exact (((Below.refl _ w2).alloc (Nat.le_refl _) _).cell (p := ⟨w.heap.size, 0, none⟩) hlt).trans c0 | exact (((Below.refl _ w2.drew).alloc (Nat.le_refl _) _).cell (p := ⟨w.heap.size, 0, none⟩) hlt).trans c0) (by simp [Value.ownBlock])
       have d1 : w5.cell? ⟨w.heap.size, 1, none⟩ = some (.int .i64 N) := HG5.out.cell (by first | exact (((Below.refl _ w2).alloc (Nat.le_refl _) _).cell (p := ⟨w.heap.size, 1, none⟩) hlt).trans c1 | exact (((Below.refl _ w2.drew).alloc (Nat.le_refl _) _).cell (p := ⟨w.heap.size, 1, none⟩) hlt).trans c1) (by simp [Value.ownBlock])
       have d2 : w5.cell? ⟨w.heap.size, 2, none⟩ = some (.int .i64 M) := HG5.out.cell (by first | exact (((Below.refl _ w2).alloc (Nat.le_refl _) _).cell (p := ⟨w.heap.size, 2, none⟩) hlt).trans c2 | exact (((Below.refl _ w2.drew).alloc (Nat.le_refl _) _).cell (p := ⟨w.heap.size, 2, none⟩) hlt).trans c2) (by simp [Value.ownBlock])
       have d3 : w5.cell? ⟨w.heap.size, 3, none⟩ = some (.string S) := HG5.out.cell (by first | exact (((Below.refl _ w2).alloc (Nat.le_refl _) _).cell (p := ⟨w.heap.size, 3, none⟩) hlt).trans c3 | exact (((Below.refl _ w2.drew).alloc (Nat.le_refl _) _).cell (p := ⟨w.heap.size, 3, none⟩) hlt).trans c3) (by simp [Value.ownBlock]))
    | (go_simp; go_at_call 70; refine (plain_any ⟨19, N, M, S⟩ _).mono ?_; rw [HP.out]; rintro e w9 ⟨rfl, rfl⟩))
  all_goals
    have hb5 : Below w.heap.size w w5 := ((HB.out.alloc HB.out.size _).drew).grown HG5.out (by have := HB.out.size; simp; omega) (fun g hg => by simp [Value.ownBlock] at hg; omega)
    clear d0 d1 d2 d3
    go_wp2_with fail
    go_ret2
    exact ⟨v5, rfl, (read_of_own (l := [0, 0]) HO5.out rfl rfl).alloc _, hb5.alloc hb5.size _⟩

set_option maxRecDepth 20000 in
set_option maxHeartbeats 2000000 in
theorem rb_23 (N M : Int) (S : ByteArray) (w : World) :
    Calls Tryd.prog 45 #[.agg #[.int .i64 23, .int .i64 N, .int .i64 M, .string S]] w (RBPost [0, 0] (plainB ⟨23, N, M, S⟩) w) := by
  obtain ⟨i0, hi, hz0, hz1, hz2⟩ := info_parts Tryd.infoInt
  obtain ⟨pl, hpl⟩ : ∃ b, plainB ⟨23, N, M, S⟩ = b := ⟨_, rfl⟩
  rw [hpl]
  have HP := Lib.hid hpl; clear hpl
  go_enter Tryd.func45, Tryd.ntmps45
  go_wp2_with fail
  obtain ⟨w2, hw2, hsz, hown, hb, c0, c1, c2, c3⟩ := rb_start w 23 N M S
  rw [hw2]
  clear hw2
  have HO := Lib.hid hown; clear hown
  have HB := Lib.hid hb; clear hb
  have hlt : w.heap.size < w2.heap.size := by omega
  have hle : w.heap.size + 1 < w2.heap.size := by omega
  clear hsz
  have hone : ∀ u ∈ [Value.int .i64 0, .int .i64 0], u.oneCell' = true := by intro u hu; obtain ⟨x, _, rfl⟩ := List.mem_map.1 (show u ∈ ([0, 0] : List Int).map (Value.int .i64) from hu); rfl
  have HONE := Lib.hid hone; clear hone
  go_region_law (first
    | (refine step_append_row rfl (.tmp 99) (.tmp 100) 45 rfl w.heap.size 3 i0 (.int .i64 0) 1 8 Tryd.underlying45 hi hz0 hz1 hz2 rfl (by decide) (.slice (some ⟨w.heap.size + 1, 0, none⟩) 0 0) 0 [] (by rfl) (by first | exact HO.out.alloc _ | exact (HO.out.alloc _).drew | exact HO.out.drew.alloc _) (.slice (some ⟨w2.heap.size, 0, none⟩) 2 2) 2 [.int .i64 0, .int .i64 0] (by rfl) (by first | exact RowAt.lit w2 _ #[.int .i64 0, .int .i64 0] 2 rfl (by unfold maxLen; omega) | exact RowAt.lit w2.drew _ #[.int .i64 0, .int .i64 0] 2 rfl (by unfold maxLen; omega)) HONE.out (by omega) (by unfold maxLen; omega) (by simp; omega) ?_; intro v5 w5 hown5 hg5 hat5
       have HO5 := Lib.hid hown5; clear hown5
       have HG5 := Lib.hid hg5; clear hg5
       have d0 : w5.cell? ⟨w.heap.size, 0, none⟩ = some (.int .i64 23) := HG5.out.cell (by first | exact (((Below.refl _ w2).alloc (Nat.le_refl _) _).cell (p := ⟨w.heap.size, 0, none⟩) hlt).trans c0 | exact (((Below.refl _ w2.drew).alloc (Nat.le_refl _) _).cell (p := ⟨w.heap.size, 0, none⟩) hlt).trans c0) (by simp [Value.ownBlock])
       have d1 : w5.cell? ⟨w.heap.size, 1, none⟩ = some (.int .i64 N) := HG5.out.cell (by first | exact (((Below.refl _ w2).alloc (Nat.le_refl _) _).cell (p := ⟨w.heap.size, 1, none⟩) hlt).trans c1 | exact (((Below.refl _ w2.drew).alloc (Nat.le_refl _) _).cell (p := ⟨w.heap.size, 1, none⟩) hlt).trans c1) (by simp [Value.ownBlock])
       have d2 : w5.cell? ⟨w.heap.size, 2, none⟩ = some (.int .i64 M) := HG5.out.cell (by first | exact (((Below.refl _ w2).alloc (Nat.le_refl _) _).cell (p := ⟨w.heap.size, 2, none⟩) hlt).trans c2 | exact (((Below.refl _ w2.drew).alloc (Nat.le_refl _) _).cell (p := ⟨w.heap.size, 2, none⟩) hlt).trans c2) (by simp [Value.ownBlock])
       have d3 : w5.cell? ⟨w.heap.size, 3, none⟩ = some (.string S) := HG5.out.cell (by first | exact (((Below.refl _ w2).alloc (Nat.le_refl _) _).cell (p := ⟨w.heap.size, 3, none⟩) hlt).trans c3 | exact (((Below.refl _ w2.drew).alloc (Nat.le_refl _) _).cell (p := ⟨w.heap.size, 3, none⟩) hlt).trans c3) (by simp [Value.ownBlock]))
    | (go_simp; go_at_call 70; refine (plain_any ⟨23, N, M, S⟩ _).mono ?_; rw [HP.out]; rintro e w9 ⟨rfl, rfl⟩))
  all_goals
    have hb5 : Below w.heap.size w w5 := ((HB.out.alloc HB.out.size _).drew).grown HG5.out (by have := HB.out.size; simp; omega) (fun g hg => by simp [Value.ownBlock] at hg; omega)
    clear d0 d1 d2 d3
    go_wp2_with fail
    go_ret2
    exact ⟨v5, rfl, (read_of_own (l := [0, 0]) HO5.out rfl rfl).alloc _, hb5.alloc hb5.size _⟩

set_option maxRecDepth 20000 in
set_option maxHeartbeats 2000000 in
theorem rb_7 (N M : Int) (S : ByteArray) (w : World) :
    Calls Tryd.prog 45 #[.agg #[.int .i64 7, .int .i64 N, .int .i64 M, .string S]] w (RBPost [0, 0, 0] (plainB ⟨7, N, M, S⟩) w) := by
  obtain ⟨i0, hi, hz0, hz1, hz2⟩ := info_parts Tryd.infoInt
  obtain ⟨pl, hpl⟩ : ∃ b, plainB ⟨7, N, M, S⟩ = b := ⟨_, rfl⟩
  rw [hpl]
  have HP := Lib.hid hpl; clear hpl
  go_enter Tryd.func45, Tryd.ntmps45
  go_wp2_with fail
  obtain ⟨w2, hw2, hsz, hown, hb, c0, c1, c2, c3⟩ := rb_start w 7 N M S
  rw [hw2]
  clear hw2
  have HO := Lib.hid hown; clear hown
  have HB := Lib.hid hb; clear hb
  have hlt : w.heap.size < w2.heap.size := by omega
  have hle : w.heap.size + 1 < w2.heap.size := by omega
  clear hsz
  have hone : ∀ u ∈ [Value.int .i64 0, .int .i64 0, .int .i64 0], u.oneCell' = true := by intro u hu; obtain ⟨x, _, rfl⟩ := List.mem_map.1 (show u ∈ ([0, 0, 0] : List Int).map (Value.int .i64) from hu); rfl
  have HONE := Lib.hid hone; clear hone
  go_region_law (first
    | (refine step_append_row rfl (.tmp 107) (.tmp 108) 45 rfl w.heap.size 3 i0 (.int .i64 0) 1 8 Tryd.underlying45 hi hz0 hz1 hz2 rfl (by decide) (.slice (some ⟨w.heap.size + 1, 0, none⟩) 0 0) 0 [] (by rfl) (by first | exact HO.out.alloc _ | exact (HO.out.alloc _).drew | exact HO.out.drew.alloc _) (.slice (some ⟨w2.heap.size, 0, none⟩) 3 3) 3 [.int .i64 0, .int .i64 0, .int .i64 0] (by rfl) (by first | exact RowAt.lit w2 _ #[.int .i64 0, .int .i64 0, .int .i64 0] 3 rfl (by unfold maxLen; omega) | exact RowAt.lit w2.drew _ #[.int .i64 0, .int .i64 0, .int .i64 0] 3 rfl (by unfold maxLen; omega)) HONE.out (by omega) (by unfold maxLen; omega) (by simp; omega) ?_; intro v5 w5 hown5 hg5 hat5
       have HO5 := Lib.hid hown5; clear hown5
       have HG5 := Lib.hid hg5; clear hg5
       have d0 : w5.cell? ⟨w.heap.size, 0, none⟩ = some (.int .i64 7) := HG5.out.cell (by first | exact (((Below.refl _ w2).alloc (Nat.le_refl _) _).cell (p := ⟨w.heap.size, 0, none⟩) hlt).trans c0 | exact (((Below.refl _ w2.drew).alloc (Nat.le_refl _) _).cell (p := ⟨w.heap.size, 0, none⟩) hlt).trans c0) (by simp [Value.ownBlock])
       have d1 : w5.cell? ⟨w.heap.size, 1, none⟩ = some (.int .i64 N) := HG5.out.cell (by first | exact (((Below.refl _ w2).alloc (Nat.le_refl _) _).cell (p := ⟨w.heap.size, 1, none⟩) hlt).trans c1 | exact (((Below.refl _ w2.drew).alloc (Nat.le_refl _) _).cell (p := ⟨w.heap.size, 1, none⟩) hlt).trans c1) (by simp [Value.ownBlock])
       have d2 : w5.cell? ⟨w.heap.size, 2, none⟩ = some (.int .i64 M) := HG5.out.cell (by first | exact (((Below.refl _ w2).alloc (Nat.le_refl _) _).cell (p := ⟨w.heap.size, 2, none⟩) hlt).trans c2 | exact (((Below.refl _ w2.drew).alloc (Nat.le_refl _) _).cell (p := ⟨w.heap.size, 2, none⟩) hlt).trans c2) (by simp [Value.ownBlock])
       have d3 : w5.cell? ⟨w.heap.size, 3, none⟩ = some (.string S) := HG5.out.cell (by first | exact (((Below.refl _ w2).alloc (Nat.le_refl _) _).cell (p := ⟨w.heap.size, 3, none⟩) hlt).trans c3 | exact (((Below.refl _ w2.drew).alloc (Nat.le_refl _) _).cell (p := ⟨w.heap.size, 3, none⟩) hlt).trans c3) (by simp [Value.ownBlock]))
    | (go_simp; go_at_call 70; refine (plain_any ⟨7, N, M, S⟩ _).mono ?_; rw [HP.out]; rintro e w9 ⟨rfl, rfl⟩))
  all_goals
    have hb5 : Below w.heap.size w w5 := ((HB.out.alloc HB.out.size _).drew).grown HG5.out (by have := HB.out.size; simp; omega) (fun g hg => by simp [Value.ownBlock] at hg; omega)
    clear d0 d1 d2 d3
    go_wp2_with fail
    go_ret2
    exact ⟨v5, rfl, (read_of_own (l := [0, 0, 0]) HO5.out rfl rfl).alloc _, hb5.alloc hb5.size _⟩

set_option maxRecDepth 20000 in
set_option maxHeartbeats 2000000 in
theorem rb_18 (N M : Int) (S : ByteArray) (w : World) :
    Calls Tryd.prog 45 #[.agg #[.int .i64 18, .int .i64 N, .int .i64 M, .string S]] w (RBPost [0, 0, 0] (plainB ⟨18, N, M, S⟩) w) := by
  obtain ⟨i0, hi, hz0, hz1, hz2⟩ := info_parts Tryd.infoInt
  obtain ⟨pl, hpl⟩ : ∃ b, plainB ⟨18, N, M, S⟩ = b := ⟨_, rfl⟩
  rw [hpl]
  have HP := Lib.hid hpl; clear hpl
  go_enter Tryd.func45, Tryd.ntmps45
  go_wp2_with fail
  obtain ⟨w2, hw2, hsz, hown, hb, c0, c1, c2, c3⟩ := rb_start w 18 N M S
  rw [hw2]
  clear hw2
  have HO := Lib.hid hown; clear hown
  have HB := Lib.hid hb; clear hb
  have hlt : w.heap.size < w2.heap.size := by omega
  have hle : w.heap.size + 1 < w2.heap.size := by omega
  clear hsz
  have hone : ∀ u ∈ [Value.int .i64 0, .int .i64 0, .int .i64 0], u.oneCell' = true := by intro u hu; obtain ⟨x, _, rfl⟩ := List.mem_map.1 (show u ∈ ([0, 0, 0] : List Int).map (Value.int .i64) from hu); rfl
  have HONE := Lib.hid hone; clear hone
  go_region_law (first
    | (refine step_append_row rfl (.tmp 107) (.tmp 108) 45 rfl w.heap.size 3 i0 (.int .i64 0) 1 8 Tryd.underlying45 hi hz0 hz1 hz2 rfl (by decide) (.slice (some ⟨w.heap.size + 1, 0, none⟩) 0 0) 0 [] (by rfl) (by first | exact HO.out.alloc _ | exact (HO.out.alloc _).drew | exact HO.out.drew.alloc _) (.slice (some ⟨w2.heap.size, 0, none⟩) 3 3) 3 [.int .i64 0, .int .i64 0, .int .i64 0] (by rfl) (by first | exact RowAt.lit w2 _ #[.int .i64 0, .int .i64 0, .int .i64 0] 3 rfl (by unfold maxLen; omega) | exact RowAt.lit w2.drew _ #[.int .i64 0, .int .i64 0, .int .i64 0] 3 rfl (by unfold maxLen; omega)) HONE.out (by omega) (by unfold maxLen; omega) (by simp; omega) ?_; intro v5 w5 hown5 hg5 hat5
       have HO5 := Lib.hid hown5; clear hown5
       have HG5 := Lib.hid hg5; clear hg5
       have d0 : w5.cell? ⟨w.heap.size, 0, none⟩ = some (.int .i64 18) := HG5.out.cell (by first | exact (((Below.refl _ w2).alloc (Nat.le_refl _) _).cell (p := ⟨w.heap.size, 0, none⟩) hlt).trans c0 | exact (((Below.refl _ w2.drew).alloc (Nat.le_refl _) _).cell (p := ⟨w.heap.size, 0, none⟩) hlt).trans c0) (by simp [Value.ownBlock])
       have d1 : w5.cell? ⟨w.heap.size, 1, none⟩ = some (.int .i64 N) := HG5.out.cell (by first | exact (((Below.refl _ w2).alloc (Nat.le_refl _) _).cell (p := ⟨w.heap.size, 1, none⟩) hlt).trans c1 | exact (((Below.refl _ w2.drew).alloc (Nat.le_refl _) _).cell (p := ⟨w.heap.size, 1, none⟩) hlt).trans c1) (by simp [Value.ownBlock])
       have d2 : w5.cell? ⟨w.heap.size, 2, none⟩ = some (.int .i64 M) := HG5.out.cell (by first | exact (((Below.refl _ w2).alloc (Nat.le_refl _) _).cell (p := ⟨w.heap.size, 2, none⟩) hlt).trans c2 | exact (((Below.refl _ w2.drew).alloc (Nat.le_refl _) _).cell (p := ⟨w.heap.size, 2, none⟩) hlt).trans c2) (by simp [Value.ownBlock])
       have d3 : w5.cell? ⟨w.heap.size, 3, none⟩ = some (.string S) := HG5.out.cell (by first | exact (((Below.refl _ w2).alloc (Nat.le_refl _) _).cell (p := ⟨w.heap.size, 3, none⟩) hlt).trans c3 | exact (((Below.refl _ w2.drew).alloc (Nat.le_refl _) _).cell (p := ⟨w.heap.size, 3, none⟩) hlt).trans c3) (by simp [Value.ownBlock]))
    | (go_simp; go_at_call 70; refine (plain_any ⟨18, N, M, S⟩ _).mono ?_; rw [HP.out]; rintro e w9 ⟨rfl, rfl⟩))
  all_goals
    have hb5 : Below w.heap.size w w5 := ((HB.out.alloc HB.out.size _).drew).grown HG5.out (by have := HB.out.size; simp; omega) (fun g hg => by simp [Value.ownBlock] at hg; omega)
    clear d0 d1 d2 d3
    go_wp2_with fail
    go_ret2
    exact ⟨v5, rfl, (read_of_own (l := [0, 0, 0]) HO5.out rfl rfl).alloc _, hb5.alloc hb5.size _⟩

set_option maxRecDepth 20000 in
set_option maxHeartbeats 2000000 in
theorem rb_8 (N M : Int) (S : ByteArray) (w : World) :
    Calls Tryd.prog 45 #[.agg #[.int .i64 8, .int .i64 N, .int .i64 M, .string S]] w (RBPost [0] (plainB ⟨8, N, M, S⟩) w) := by
  obtain ⟨i0, hi, hz0, hz1, hz2⟩ := info_parts Tryd.infoInt
  obtain ⟨pl, hpl⟩ : ∃ b, plainB ⟨8, N, M, S⟩ = b := ⟨_, rfl⟩
  rw [hpl]
  have HP := Lib.hid hpl; clear hpl
  go_enter Tryd.func45, Tryd.ntmps45
  go_wp2_with fail
  obtain ⟨w2, hw2, hsz, hown, hb, c0, c1, c2, c3⟩ := rb_start w 8 N M S
  rw [hw2]
  clear hw2
  have HO := Lib.hid hown; clear hown
  have HB := Lib.hid hb; clear hb
  have hlt : w.heap.size < w2.heap.size := by omega
  have hle : w.heap.size + 1 < w2.heap.size := by omega
  clear hsz
  have hone : ∀ u ∈ [Value.int .i64 0], u.oneCell' = true := by intro u hu; obtain ⟨x, _, rfl⟩ := List.mem_map.1 (show u ∈ ([0] : List Int).map (Value.int .i64) from hu); rfl
  have HONE := Lib.hid hone; clear hone
  go_region_law (first
    | (refine step_append_row rfl (.tmp 117) (.tmp 118) 45 rfl w.heap.size 3 i0 (.int .i64 0) 1 8 Tryd.underlying45 hi hz0 hz1 hz2 rfl (by decide) (.slice (some ⟨w.heap.size + 1, 0, none⟩) 0 0) 0 [] (by rfl) (by first | exact HO.out.alloc _ | exact (HO.out.alloc _).drew | exact HO.out.drew.alloc _) (.slice (some ⟨w2.heap.size, 0, none⟩) 1 1) 1 [.int .i64 0] (by rfl) (by first | exact RowAt.lit w2 _ #[.int .i64 0] 1 rfl (by unfold maxLen; omega) | exact RowAt.lit w2.drew _ #[.int .i64 0] 1 rfl (by unfold maxLen; omega)) HONE.out (by omega) (by unfold maxLen; omega) (by simp; omega) ?_; intro v5 w5 hown5 hg5 hat5
       have HO5 := Lib.hid hown5; clear hown5
       have HG5 := Lib.hid hg5; clear hg5
       have d0 : w5.cell? ⟨w.heap.size, 0, none⟩ = some (.int .i64 8) := HG5.out.cell (by first | exact (((Below.refl _ w2).alloc (Nat.le_refl _) _).cell (p := ⟨w.heap.size, 0, none⟩) hlt).trans c0 | exact (((Below.refl _ w2.drew).alloc (Nat.le_refl _) _).cell (p := ⟨w.heap.size, 0, none⟩) hlt).trans c0) (by simp [Value.ownBlock])
       have d1 : w5.cell? ⟨w.heap.size, 1, none⟩ = some (.int .i64 N) := HG5.out.cell (by first | exact (((Below.refl _ w2).alloc (Nat.le_refl _) _).cell (p := ⟨w.heap.size, 1, none⟩) hlt).trans c1 | exact (((Below.refl _ w2.drew).alloc (Nat.le_refl _) _).cell (p := ⟨w.heap.size, 1, none⟩) hlt).trans c1) (by simp [Value.ownBlock])
       have d2 : w5.cell? ⟨w.heap.size, 2, none⟩ = some (.int .i64 M) := HG5.out.cell (by first | exact (((Below.refl _ w2).alloc (Nat.le_refl _) _).cell (p := ⟨w.heap.size, 2, none⟩) hlt).trans c2 | exact (((Below.refl _ w2.drew).alloc (Nat.le_refl _) _).cell (p := ⟨w.heap.size, 2, none⟩) hlt).trans c2) (by simp [Value.ownBlock])
       have d3 : w5.cell? ⟨w.heap.size, 3, none⟩ = some (.string S) := HG5.out.cell (by first | exact (((Below.refl _ w2).alloc (Nat.le_refl _) _).cell (p := ⟨w.heap.size, 3, none⟩) hlt).trans c3 | exact (((Below.refl _ w2.drew).alloc (Nat.le_refl _) _).cell (p := ⟨w.heap.size, 3, none⟩) hlt).trans c3) (by simp [Value.ownBlock]))
    | (go_simp; go_at_call 70; refine (plain_any ⟨8, N, M, S⟩ _).mono ?_; rw [HP.out]; rintro e w9 ⟨rfl, rfl⟩))
  all_goals
    have hb5 : Below w.heap.size w w5 := ((HB.out.alloc HB.out.size _).drew).grown HG5.out (by have := HB.out.size; simp; omega) (fun g hg => by simp [Value.ownBlock] at hg; omega)
    clear d0 d1 d2 d3
    go_wp2_with fail
    go_ret2
    exact ⟨v5, rfl, (read_of_own (l := [0]) HO5.out rfl rfl).alloc _, hb5.alloc hb5.size _⟩


end Go.Proofs.YteldkcpkamgfpaaDoor

namespace Go.Proofs.YteldkcpkamgfpaaDoor
set_option linter.unusedSimpArgs false
set_option linter.unusedVariables false
open Go.RowKit

set_option maxRecDepth 20000 in
set_option maxHeartbeats 2000000 in
theorem rb_9 (N M : Int) (S : ByteArray) (w : World) :
    Calls Tryd.prog 45 #[.agg #[.int .i64 9, .int .i64 N, .int .i64 M, .string S]] w (RBPost [0] (plainB ⟨9, N, M, S⟩) w) := by
  obtain ⟨i0, hi, hz0, hz1, hz2⟩ := info_parts Tryd.infoInt
  obtain ⟨pl, hpl⟩ : ∃ b, plainB ⟨9, N, M, S⟩ = b := ⟨_, rfl⟩
  rw [hpl]
  have HP := Lib.hid hpl; clear hpl
  go_enter Tryd.func45, Tryd.ntmps45
  go_wp2_with fail
  obtain ⟨w2, hw2, hsz, hown, hb, c0, c1, c2, c3⟩ := rb_start w 9 N M S
  rw [hw2]
  clear hw2
  have HO := Lib.hid hown; clear hown
  have HB := Lib.hid hb; clear hb
  have hlt : w.heap.size < w2.heap.size := by omega
  have hle : w.heap.size + 1 < w2.heap.size := by omega
  clear hsz
  have hone : ∀ u ∈ [Value.int .i64 0], u.oneCell' = true := by intro u hu; obtain ⟨x, _, rfl⟩ := List.mem_map.1 (show u ∈ ([0] : List Int).map (Value.int .i64) from hu); rfl
  have HONE := Lib.hid hone; clear hone
  go_region_law (first
    | (refine step_append_row rfl (.tmp 117) (.tmp 118) 45 rfl w.heap.size 3 i0 (.int .i64 0) 1 8 Tryd.underlying45 hi hz0 hz1 hz2 rfl (by decide) (.slice (some ⟨w.heap.size + 1, 0, none⟩) 0 0) 0 [] (by rfl) (by first | exact HO.out.alloc _ | exact (HO.out.alloc _).drew | exact HO.out.drew.alloc _) (.slice (some ⟨w2.heap.size, 0, none⟩) 1 1) 1 [.int .i64 0] (by rfl) (by first | exact RowAt.lit w2 _ #[.int .i64 0] 1 rfl (by unfold maxLen; omega) | exact RowAt.lit w2.drew _ #[.int .i64 0] 1 rfl (by unfold maxLen; omega)) HONE.out (by omega) (by unfold maxLen; omega) (by simp; omega) ?_; intro v5 w5 hown5 hg5 hat5
       have HO5 := Lib.hid hown5; clear hown5
       have HG5 := Lib.hid hg5; clear hg5
       have d0 : w5.cell? ⟨w.heap.size, 0, none⟩ = some (.int .i64 9) := HG5.out.cell (by first | exact (((Below.refl _ w2).alloc (Nat.le_refl _) _).cell (p := ⟨w.heap.size, 0, none⟩) hlt).trans c0 | exact (((Below.refl _ w2.drew).alloc (Nat.le_refl _) _).cell (p := ⟨w.heap.size, 0, none⟩) hlt).trans c0) (by simp [Value.ownBlock])
       have d1 : w5.cell? ⟨w.heap.size, 1, none⟩ = some (.int .i64 N) := HG5.out.cell (by first | exact (((Below.refl _ w2).alloc (Nat.le_refl _) _).cell (p := ⟨w.heap.size, 1, none⟩) hlt).trans c1 | exact (((Below.refl _ w2.drew).alloc (Nat.le_refl _) _).cell (p := ⟨w.heap.size, 1, none⟩) hlt).trans c1) (by simp [Value.ownBlock])
       have d2 : w5.cell? ⟨w.heap.size, 2, none⟩ = some (.int .i64 M) := HG5.out.cell (by first | exact (((Below.refl _ w2).alloc (Nat.le_refl _) _).cell (p := ⟨w.heap.size, 2, none⟩) hlt).trans c2 | exact (((Below.refl _ w2.drew).alloc (Nat.le_refl _) _).cell (p := ⟨w.heap.size, 2, none⟩) hlt).trans c2) (by simp [Value.ownBlock])
       have d3 : w5.cell? ⟨w.heap.size, 3, none⟩ = some (.string S) := HG5.out.cell (by first | exact (((Below.refl _ w2).alloc (Nat.le_refl _) _).cell (p := ⟨w.heap.size, 3, none⟩) hlt).trans c3 | exact (((Below.refl _ w2.drew).alloc (Nat.le_refl _) _).cell (p := ⟨w.heap.size, 3, none⟩) hlt).trans c3) (by simp [Value.ownBlock]))
    | (go_simp; go_at_call 70; refine (plain_any ⟨9, N, M, S⟩ _).mono ?_; rw [HP.out]; rintro e w9 ⟨rfl, rfl⟩))
  all_goals
    have hb5 : Below w.heap.size w w5 := ((HB.out.alloc HB.out.size _).drew).grown HG5.out (by have := HB.out.size; simp; omega) (fun g hg => by simp [Value.ownBlock] at hg; omega)
    clear d0 d1 d2 d3
    go_wp2_with fail
    go_ret2
    exact ⟨v5, rfl, (read_of_own (l := [0]) HO5.out rfl rfl).alloc _, hb5.alloc hb5.size _⟩

set_option maxRecDepth 20000 in
set_option maxHeartbeats 2000000 in
theorem rb_12 (N M : Int) (S : ByteArray) (w : World) :
    Calls Tryd.prog 45 #[.agg #[.int .i64 12, .int .i64 N, .int .i64 M, .string S]] w (RBPost [0] (plainB ⟨12, N, M, S⟩) w) := by
  obtain ⟨i0, hi, hz0, hz1, hz2⟩ := info_parts Tryd.infoInt
  obtain ⟨pl, hpl⟩ : ∃ b, plainB ⟨12, N, M, S⟩ = b := ⟨_, rfl⟩
  rw [hpl]
  have HP := Lib.hid hpl; clear hpl
  go_enter Tryd.func45, Tryd.ntmps45
  go_wp2_with fail
  obtain ⟨w2, hw2, hsz, hown, hb, c0, c1, c2, c3⟩ := rb_start w 12 N M S
  rw [hw2]
  clear hw2
  have HO := Lib.hid hown; clear hown
  have HB := Lib.hid hb; clear hb
  have hlt : w.heap.size < w2.heap.size := by omega
  have hle : w.heap.size + 1 < w2.heap.size := by omega
  clear hsz
  have hone : ∀ u ∈ [Value.int .i64 0], u.oneCell' = true := by intro u hu; obtain ⟨x, _, rfl⟩ := List.mem_map.1 (show u ∈ ([0] : List Int).map (Value.int .i64) from hu); rfl
  have HONE := Lib.hid hone; clear hone
  go_region_law (first
    | (refine step_append_row rfl (.tmp 117) (.tmp 118) 45 rfl w.heap.size 3 i0 (.int .i64 0) 1 8 Tryd.underlying45 hi hz0 hz1 hz2 rfl (by decide) (.slice (some ⟨w.heap.size + 1, 0, none⟩) 0 0) 0 [] (by rfl) (by first | exact HO.out.alloc _ | exact (HO.out.alloc _).drew | exact HO.out.drew.alloc _) (.slice (some ⟨w2.heap.size, 0, none⟩) 1 1) 1 [.int .i64 0] (by rfl) (by first | exact RowAt.lit w2 _ #[.int .i64 0] 1 rfl (by unfold maxLen; omega) | exact RowAt.lit w2.drew _ #[.int .i64 0] 1 rfl (by unfold maxLen; omega)) HONE.out (by omega) (by unfold maxLen; omega) (by simp; omega) ?_; intro v5 w5 hown5 hg5 hat5
       have HO5 := Lib.hid hown5; clear hown5
       have HG5 := Lib.hid hg5; clear hg5
       have d0 : w5.cell? ⟨w.heap.size, 0, none⟩ = some (.int .i64 12) := HG5.out.cell (by first | exact (((Below.refl _ w2).alloc (Nat.le_refl _) _).cell (p := ⟨w.heap.size, 0, none⟩) hlt).trans c0 | exact (((Below.refl _ w2.drew).alloc (Nat.le_refl _) _).cell (p := ⟨w.heap.size, 0, none⟩) hlt).trans c0) (by simp [Value.ownBlock])
       have d1 : w5.cell? ⟨w.heap.size, 1, none⟩ = some (.int .i64 N) := HG5.out.cell (by first | exact (((Below.refl _ w2).alloc (Nat.le_refl _) _).cell (p := ⟨w.heap.size, 1, none⟩) hlt).trans c1 | exact (((Below.refl _ w2.drew).alloc (Nat.le_refl _) _).cell (p := ⟨w.heap.size, 1, none⟩) hlt).trans c1) (by simp [Value.ownBlock])
       have d2 : w5.cell? ⟨w.heap.size, 2, none⟩ = some (.int .i64 M) := HG5.out.cell (by first | exact (((Below.refl _ w2).alloc (Nat.le_refl _) _).cell (p := ⟨w.heap.size, 2, none⟩) hlt).trans c2 | exact (((Below.refl _ w2.drew).alloc (Nat.le_refl _) _).cell (p := ⟨w.heap.size, 2, none⟩) hlt).trans c2) (by simp [Value.ownBlock])
       have d3 : w5.cell? ⟨w.heap.size, 3, none⟩ = some (.string S) := HG5.out.cell (by first | exact (((Below.refl _ w2).alloc (Nat.le_refl _) _).cell (p := ⟨w.heap.size, 3, none⟩) hlt).trans c3 | exact (((Below.refl _ w2.drew).alloc (Nat.le_refl _) _).cell (p := ⟨w.heap.size, 3, none⟩) hlt).trans c3) (by simp [Value.ownBlock]))
    | (go_simp; go_at_call 70; refine (plain_any ⟨12, N, M, S⟩ _).mono ?_; rw [HP.out]; rintro e w9 ⟨rfl, rfl⟩))
  all_goals
    have hb5 : Below w.heap.size w w5 := ((HB.out.alloc HB.out.size _).drew).grown HG5.out (by have := HB.out.size; simp; omega) (fun g hg => by simp [Value.ownBlock] at hg; omega)
    clear d0 d1 d2 d3
    go_wp2_with fail
    go_ret2
    exact ⟨v5, rfl, (read_of_own (l := [0]) HO5.out rfl rfl).alloc _, hb5.alloc hb5.size _⟩

set_option maxRecDepth 20000 in
set_option maxHeartbeats 2000000 in
theorem rb_28 (N M : Int) (S : ByteArray) (w : World) :
    Calls Tryd.prog 45 #[.agg #[.int .i64 28, .int .i64 N, .int .i64 M, .string S]] w (RBPost [0] (plainB ⟨28, N, M, S⟩) w) := by
  obtain ⟨i0, hi, hz0, hz1, hz2⟩ := info_parts Tryd.infoInt
  obtain ⟨pl, hpl⟩ : ∃ b, plainB ⟨28, N, M, S⟩ = b := ⟨_, rfl⟩
  rw [hpl]
  have HP := Lib.hid hpl; clear hpl
  go_enter Tryd.func45, Tryd.ntmps45
  go_wp2_with fail
  obtain ⟨w2, hw2, hsz, hown, hb, c0, c1, c2, c3⟩ := rb_start w 28 N M S
  rw [hw2]
  clear hw2
  have HO := Lib.hid hown; clear hown
  have HB := Lib.hid hb; clear hb
  have hlt : w.heap.size < w2.heap.size := by omega
  have hle : w.heap.size + 1 < w2.heap.size := by omega
  clear hsz
  have hone : ∀ u ∈ [Value.int .i64 0], u.oneCell' = true := by intro u hu; obtain ⟨x, _, rfl⟩ := List.mem_map.1 (show u ∈ ([0] : List Int).map (Value.int .i64) from hu); rfl
  have HONE := Lib.hid hone; clear hone
  go_region_law (first
    | (refine step_append_row rfl (.tmp 117) (.tmp 118) 45 rfl w.heap.size 3 i0 (.int .i64 0) 1 8 Tryd.underlying45 hi hz0 hz1 hz2 rfl (by decide) (.slice (some ⟨w.heap.size + 1, 0, none⟩) 0 0) 0 [] (by rfl) (by first | exact HO.out.alloc _ | exact (HO.out.alloc _).drew | exact HO.out.drew.alloc _) (.slice (some ⟨w2.heap.size, 0, none⟩) 1 1) 1 [.int .i64 0] (by rfl) (by first | exact RowAt.lit w2 _ #[.int .i64 0] 1 rfl (by unfold maxLen; omega) | exact RowAt.lit w2.drew _ #[.int .i64 0] 1 rfl (by unfold maxLen; omega)) HONE.out (by omega) (by unfold maxLen; omega) (by simp; omega) ?_; intro v5 w5 hown5 hg5 hat5
       have HO5 := Lib.hid hown5; clear hown5
       have HG5 := Lib.hid hg5; clear hg5
       have d0 : w5.cell? ⟨w.heap.size, 0, none⟩ = some (.int .i64 28) := HG5.out.cell (by first | exact (((Below.refl _ w2).alloc (Nat.le_refl _) _).cell (p := ⟨w.heap.size, 0, none⟩) hlt).trans c0 | exact (((Below.refl _ w2.drew).alloc (Nat.le_refl _) _).cell (p := ⟨w.heap.size, 0, none⟩) hlt).trans c0) (by simp [Value.ownBlock])
       have d1 : w5.cell? ⟨w.heap.size, 1, none⟩ = some (.int .i64 N) := HG5.out.cell (by first | exact (((Below.refl _ w2).alloc (Nat.le_refl _) _).cell (p := ⟨w.heap.size, 1, none⟩) hlt).trans c1 | exact (((Below.refl _ w2.drew).alloc (Nat.le_refl _) _).cell (p := ⟨w.heap.size, 1, none⟩) hlt).trans c1) (by simp [Value.ownBlock])
       have d2 : w5.cell? ⟨w.heap.size, 2, none⟩ = some (.int .i64 M) := HG5.out.cell (by first | exact (((Below.refl _ w2).alloc (Nat.le_refl _) _).cell (p := ⟨w.heap.size, 2, none⟩) hlt).trans c2 | exact (((Below.refl _ w2.drew).alloc (Nat.le_refl _) _).cell (p := ⟨w.heap.size, 2, none⟩) hlt).trans c2) (by simp [Value.ownBlock])
       have d3 : w5.cell? ⟨w.heap.size, 3, none⟩ = some (.string S) := HG5.out.cell (by first | exact (((Below.refl _ w2).alloc (Nat.le_refl _) _).cell (p := ⟨w.heap.size, 3, none⟩) hlt).trans c3 | exact (((Below.refl _ w2.drew).alloc (Nat.le_refl _) _).cell (p := ⟨w.heap.size, 3, none⟩) hlt).trans c3) (by simp [Value.ownBlock]))
    | (go_simp; go_at_call 70; refine (plain_any ⟨28, N, M, S⟩ _).mono ?_; rw [HP.out]; rintro e w9 ⟨rfl, rfl⟩))
  all_goals
    have hb5 : Below w.heap.size w w5 := ((HB.out.alloc HB.out.size _).drew).grown HG5.out (by have := HB.out.size; simp; omega) (fun g hg => by simp [Value.ownBlock] at hg; omega)
    clear d0 d1 d2 d3
    go_wp2_with fail
    go_ret2
    exact ⟨v5, rfl, (read_of_own (l := [0]) HO5.out rfl rfl).alloc _, hb5.alloc hb5.size _⟩

set_option maxRecDepth 20000 in
set_option maxHeartbeats 2000000 in
theorem rb_13 (N M : Int) (S : ByteArray) (w : World) :
    Calls Tryd.prog 45 #[.agg #[.int .i64 13, .int .i64 N, .int .i64 M, .string S]] w (RBPost [1, 0, 2, 0] (plainB ⟨13, N, M, S⟩) w) := by
  obtain ⟨i0, hi, hz0, hz1, hz2⟩ := info_parts Tryd.infoInt
  obtain ⟨pl, hpl⟩ : ∃ b, plainB ⟨13, N, M, S⟩ = b := ⟨_, rfl⟩
  rw [hpl]
  have HP := Lib.hid hpl; clear hpl
  go_enter Tryd.func45, Tryd.ntmps45
  go_wp2_with fail
  obtain ⟨w2, hw2, hsz, hown, hb, c0, c1, c2, c3⟩ := rb_start w 13 N M S
  rw [hw2]
  clear hw2
  have HO := Lib.hid hown; clear hown
  have HB := Lib.hid hb; clear hb
  have hlt : w.heap.size < w2.heap.size := by omega
  have hle : w.heap.size + 1 < w2.heap.size := by omega
  clear hsz
  have hone : ∀ u ∈ [Value.int .i64 1, .int .i64 0, .int .i64 2, .int .i64 0], u.oneCell' = true := by intro u hu; obtain ⟨x, _, rfl⟩ := List.mem_map.1 (show u ∈ ([1, 0, 2, 0] : List Int).map (Value.int .i64) from hu); rfl
  have HONE := Lib.hid hone; clear hone
  go_region_law (first
    | (refine step_append_row rfl (.tmp 134) (.tmp 135) 45 rfl w.heap.size 3 i0 (.int .i64 0) 1 8 Tryd.underlying45 hi hz0 hz1 hz2 rfl (by decide) (.slice (some ⟨w.heap.size + 1, 0, none⟩) 0 0) 0 [] (by rfl) (by first | exact HO.out.alloc _ | exact (HO.out.alloc _).drew | exact HO.out.drew.alloc _) (.slice (some ⟨w2.heap.size, 0, none⟩) 4 4) 4 [.int .i64 1, .int .i64 0, .int .i64 2, .int .i64 0] (by rfl) (by first | exact RowAt.lit w2 _ #[.int .i64 1, .int .i64 0, .int .i64 2, .int .i64 0] 4 rfl (by unfold maxLen; omega) | exact RowAt.lit w2.drew _ #[.int .i64 1, .int .i64 0, .int .i64 2, .int .i64 0] 4 rfl (by unfold maxLen; omega)) HONE.out (by omega) (by unfold maxLen; omega) (by simp; omega) ?_; intro v5 w5 hown5 hg5 hat5
       have HO5 := Lib.hid hown5; clear hown5
       have HG5 := Lib.hid hg5; clear hg5
       have d0 : w5.cell? ⟨w.heap.size, 0, none⟩ = some (.int .i64 13) := HG5.out.cell (by first | exact (((Below.refl _ w2).alloc (Nat.le_refl _) _).cell (p := ⟨w.heap.size, 0, none⟩) hlt).trans c0 | exact (((Below.refl _ w2.drew).alloc (Nat.le_refl _) _).cell (p := ⟨w.heap.size, 0, none⟩) hlt).trans c0) (by simp [Value.ownBlock])
       have d1 : w5.cell? ⟨w.heap.size, 1, none⟩ = some (.int .i64 N) := HG5.out.cell (by first | exact (((Below.refl _ w2).alloc (Nat.le_refl _) _).cell (p := ⟨w.heap.size, 1, none⟩) hlt).trans c1 | exact (((Below.refl _ w2.drew).alloc (Nat.le_refl _) _).cell (p := ⟨w.heap.size, 1, none⟩) hlt).trans c1) (by simp [Value.ownBlock])
       have d2 : w5.cell? ⟨w.heap.size, 2, none⟩ = some (.int .i64 M) := HG5.out.cell (by first | exact (((Below.refl _ w2).alloc (Nat.le_refl _) _).cell (p := ⟨w.heap.size, 2, none⟩) hlt).trans c2 | exact (((Below.refl _ w2.drew).alloc (Nat.le_refl _) _).cell (p := ⟨w.heap.size, 2, none⟩) hlt).trans c2) (by simp [Value.ownBlock])
       have d3 : w5.cell? ⟨w.heap.size, 3, none⟩ = some (.string S) := HG5.out.cell (by first | exact (((Below.refl _ w2).alloc (Nat.le_refl _) _).cell (p := ⟨w.heap.size, 3, none⟩) hlt).trans c3 | exact (((Below.refl _ w2.drew).alloc (Nat.le_refl _) _).cell (p := ⟨w.heap.size, 3, none⟩) hlt).trans c3) (by simp [Value.ownBlock]))
    | (go_simp; go_at_call 70; refine (plain_any ⟨13, N, M, S⟩ _).mono ?_; rw [HP.out]; rintro e w9 ⟨rfl, rfl⟩))
  all_goals
    have hb5 : Below w.heap.size w w5 := ((HB.out.alloc HB.out.size _).drew).grown HG5.out (by have := HB.out.size; simp; omega) (fun g hg => by simp [Value.ownBlock] at hg; omega)
    clear d0 d1 d2 d3
    go_wp2_with fail
    go_ret2
    exact ⟨v5, rfl, (read_of_own (l := [1, 0, 2, 0]) HO5.out rfl rfl).alloc _, hb5.alloc hb5.size _⟩

set_option maxRecDepth 20000 in
set_option maxHeartbeats 2000000 in
theorem rb_20 (N M : Int) (S : ByteArray) (w : World) :
    Calls Tryd.prog 45 #[.agg #[.int .i64 20, .int .i64 N, .int .i64 M, .string S]] w (RBPost [0, 0, 0, 0] (plainB ⟨20, N, M, S⟩) w) := by
  obtain ⟨i0, hi, hz0, hz1, hz2⟩ := info_parts Tryd.infoInt
  obtain ⟨pl, hpl⟩ : ∃ b, plainB ⟨20, N, M, S⟩ = b := ⟨_, rfl⟩
  rw [hpl]
  have HP := Lib.hid hpl; clear hpl
  go_enter Tryd.func45, Tryd.ntmps45
  go_wp2_with fail
  obtain ⟨w2, hw2, hsz, hown, hb, c0, c1, c2, c3⟩ := rb_start w 20 N M S
  rw [hw2]
  clear hw2
  have HO := Lib.hid hown; clear hown
  have HB := Lib.hid hb; clear hb
  have hlt : w.heap.size < w2.heap.size := by omega
  have hle : w.heap.size + 1 < w2.heap.size := by omega
  clear hsz
  have hone : ∀ u ∈ [Value.int .i64 0, .int .i64 0, .int .i64 0, .int .i64 0], u.oneCell' = true := by intro u hu; obtain ⟨x, _, rfl⟩ := List.mem_map.1 (show u ∈ ([0, 0, 0, 0] : List Int).map (Value.int .i64) from hu); rfl
  have HONE := Lib.hid hone; clear hone
  go_region_law (first
    | (refine step_append_row rfl (.tmp 141) (.tmp 142) 45 rfl w.heap.size 3 i0 (.int .i64 0) 1 8 Tryd.underlying45 hi hz0 hz1 hz2 rfl (by decide) (.slice (some ⟨w.heap.size + 1, 0, none⟩) 0 0) 0 [] (by rfl) (by first | exact HO.out.alloc _ | exact (HO.out.alloc _).drew | exact HO.out.drew.alloc _) (.slice (some ⟨w2.heap.size, 0, none⟩) 4 4) 4 [.int .i64 0, .int .i64 0, .int .i64 0, .int .i64 0] (by rfl) (by first | exact RowAt.lit w2 _ #[.int .i64 0, .int .i64 0, .int .i64 0, .int .i64 0] 4 rfl (by unfold maxLen; omega) | exact RowAt.lit w2.drew _ #[.int .i64 0, .int .i64 0, .int .i64 0, .int .i64 0] 4 rfl (by unfold maxLen; omega)) HONE.out (by omega) (by unfold maxLen; omega) (by simp; omega) ?_; intro v5 w5 hown5 hg5 hat5
       have HO5 := Lib.hid hown5; clear hown5
       have HG5 := Lib.hid hg5; clear hg5
       have d0 : w5.cell? ⟨w.heap.size, 0, none⟩ = some (.int .i64 20) := HG5.out.cell (by first | exact (((Below.refl _ w2).alloc (Nat.le_refl _) _).cell (p := ⟨w.heap.size, 0, none⟩) hlt).trans c0 | exact (((Below.refl _ w2.drew).alloc (Nat.le_refl _) _).cell (p := ⟨w.heap.size, 0, none⟩) hlt).trans c0) (by simp [Value.ownBlock])
       have d1 : w5.cell? ⟨w.heap.size, 1, none⟩ = some (.int .i64 N) := HG5.out.cell (by first | exact (((Below.refl _ w2).alloc (Nat.le_refl _) _).cell (p := ⟨w.heap.size, 1, none⟩) hlt).trans c1 | exact (((Below.refl _ w2.drew).alloc (Nat.le_refl _) _).cell (p := ⟨w.heap.size, 1, none⟩) hlt).trans c1) (by simp [Value.ownBlock])
       have d2 : w5.cell? ⟨w.heap.size, 2, none⟩ = some (.int .i64 M) := HG5.out.cell (by first | exact (((Below.refl _ w2).alloc (Nat.le_refl _) _).cell (p := ⟨w.heap.size, 2, none⟩) hlt).trans c2 | exact (((Below.refl _ w2.drew).alloc (Nat.le_refl _) _).cell (p := ⟨w.heap.size, 2, none⟩) hlt).trans c2) (by simp [Value.ownBlock])
       have d3 : w5.cell? ⟨w.heap.size, 3, none⟩ = some (.string S) := HG5.out.cell (by first | exact (((Below.refl _ w2).alloc (Nat.le_refl _) _).cell (p := ⟨w.heap.size, 3, none⟩) hlt).trans c3 | exact (((Below.refl _ w2.drew).alloc (Nat.le_refl _) _).cell (p := ⟨w.heap.size, 3, none⟩) hlt).trans c3) (by simp [Value.ownBlock]))
    | (go_simp; go_at_call 70; refine (plain_any ⟨20, N, M, S⟩ _).mono ?_; rw [HP.out]; rintro e w9 ⟨rfl, rfl⟩))
  all_goals
    have hb5 : Below w.heap.size w w5 := ((HB.out.alloc HB.out.size _).drew).grown HG5.out (by have := HB.out.size; simp; omega) (fun g hg => by simp [Value.ownBlock] at hg; omega)
    clear d0 d1 d2 d3
    go_wp2_with fail
    go_ret2
    exact ⟨v5, rfl, (read_of_own (l := [0, 0, 0, 0]) HO5.out rfl rfl).alloc _, hb5.alloc hb5.size _⟩

set_option maxRecDepth 20000 in
set_option maxHeartbeats 2000000 in
theorem rb_21 (N M : Int) (S : ByteArray) (w : World) :
    Calls Tryd.prog 45 #[.agg #[.int .i64 21, .int .i64 N, .int .i64 M, .string S]] w (RBPost [0, 0, 1, 0, 0, 0] (plainB ⟨21, N, M, S⟩) w) := by
  obtain ⟨i0, hi, hz0, hz1, hz2⟩ := info_parts Tryd.infoInt
  obtain ⟨pl, hpl⟩ : ∃ b, plainB ⟨21, N, M, S⟩ = b := ⟨_, rfl⟩
  rw [hpl]
  have HP := Lib.hid hpl; clear hpl
  go_enter Tryd.func45, Tryd.ntmps45
  go_wp2_with fail
  obtain ⟨w2, hw2, hsz, hown, hb, c0, c1, c2, c3⟩ := rb_start w 21 N M S
  rw [hw2]
  clear hw2
  have HO := Lib.hid hown; clear hown
  have HB := Lib.hid hb; clear hb
  have hlt : w.heap.size < w2.heap.size := by omega
  have hle : w.heap.size + 1 < w2.heap.size := by omega
  clear hsz
  have hone : ∀ u ∈ [Value.int .i64 0, .int .i64 0, .int .i64 1, .int .i64 0, .int .i64 0, .int .i64 0], u.oneCell' = true := by intro u hu; obtain ⟨x, _, rfl⟩ := List.mem_map.1 (show u ∈ ([0, 0, 1, 0, 0, 0] : List Int).map (Value.int .i64) from hu); rfl
  have HONE := Lib.hid hone; clear hone
  go_region_law (first
    | (refine step_append_row rfl (.tmp 148) (.tmp 149) 45 rfl w.heap.size 3 i0 (.int .i64 0) 1 8 Tryd.underlying45 hi hz0 hz1 hz2 rfl (by decide) (.slice (some ⟨w.heap.size + 1, 0, none⟩) 0 0) 0 [] (by rfl) (by first | exact HO.out.alloc _ | exact (HO.out.alloc _).drew | exact HO.out.drew.alloc _) (.slice (some ⟨w2.heap.size, 0, none⟩) 6 6) 6 [.int .i64 0, .int .i64 0, .int .i64 1, .int .i64 0, .int .i64 0, .int .i64 0] (by rfl) (by first | exact RowAt.lit w2 _ #[.int .i64 0, .int .i64 0, .int .i64 1, .int .i64 0, .int .i64 0, .int .i64 0] 6 rfl (by unfold maxLen; omega) | exact RowAt.lit w2.drew _ #[.int .i64 0, .int .i64 0, .int .i64 1, .int .i64 0, .int .i64 0, .int .i64 0] 6 rfl (by unfold maxLen; omega)) HONE.out (by omega) (by unfold maxLen; omega) (by simp; omega) ?_; intro v5 w5 hown5 hg5 hat5
       have HO5 := Lib.hid hown5; clear hown5
       have HG5 := Lib.hid hg5; clear hg5
       have d0 : w5.cell? ⟨w.heap.size, 0, none⟩ = some (.int .i64 21) := HG5.out.cell (by first | exact (((Below.refl _ w2).alloc (Nat.le_refl _) _).cell (p := ⟨w.heap.size, 0, none⟩) hlt).trans c0 | exact (((Below.refl _ w2.drew).alloc (Nat.le_refl _) _).cell (p := ⟨w.heap.size, 0, none⟩) hlt).trans c0) (by simp [Value.ownBlock])
       have d1 : w5.cell? ⟨w.heap.size, 1, none⟩ = some (.int .i64 N) := HG5.out.cell (by first | exact (((Below.refl _ w2).alloc (Nat.le_refl _) _).cell (p := ⟨w.heap.size, 1, none⟩) hlt).trans c1 | exact (((Below.refl _ w2.drew).alloc (Nat.le_refl _) _).cell (p := ⟨w.heap.size, 1, none⟩) hlt).trans c1) (by simp [Value.ownBlock])
       have d2 : w5.cell? ⟨w.heap.size, 2, none⟩ = some (.int .i64 M) := HG5.out.cell (by first | exact (((Below.refl _ w2).alloc (Nat.le_refl _) _).cell (p := ⟨w.heap.size, 2, none⟩) hlt).trans c2 | exact (((Below.refl _ w2.drew).alloc (Nat.le_refl _) _).cell (p := ⟨w.heap.size, 2, none⟩) hlt).trans c2) (by simp [Value.ownBlock])
       have d3 : w5.cell? ⟨w.heap.size, 3, none⟩ = some (.string S) := HG5.out.cell (by first | exact (((Below.refl _ w2).alloc (Nat.le_refl _) _).cell (p := ⟨w.heap.size, 3, none⟩) hlt).trans c3 | exact (((Below.refl _ w2.drew).alloc (Nat.le_refl _) _).cell (p := ⟨w.heap.size, 3, none⟩) hlt).trans c3) (by simp [Value.ownBlock]))
    | (go_simp; go_at_call 70; refine (plain_any ⟨21, N, M, S⟩ _).mono ?_; rw [HP.out]; rintro e w9 ⟨rfl, rfl⟩))
  all_goals
    have hb5 : Below w.heap.size w w5 := ((HB.out.alloc HB.out.size _).drew).grown HG5.out (by have := HB.out.size; simp; omega) (fun g hg => by simp [Value.ownBlock] at hg; omega)
    clear d0 d1 d2 d3
    go_wp2_with fail
    go_ret2
    exact ⟨v5, rfl, (read_of_own (l := [0, 0, 1, 0, 0, 0]) HO5.out rfl rfl).alloc _, hb5.alloc hb5.size _⟩

set_option maxRecDepth 20000 in
set_option maxHeartbeats 2000000 in
theorem rb_22 (N M : Int) (S : ByteArray) (w : World) :
    Calls Tryd.prog 45 #[.agg #[.int .i64 22, .int .i64 N, .int .i64 M, .string S]] w (RBPost [0, 2, 0, 0, 0] (plainB ⟨22, N, M, S⟩) w) := by
  obtain ⟨i0, hi, hz0, hz1, hz2⟩ := info_parts Tryd.infoInt
  obtain ⟨pl, hpl⟩ : ∃ b, plainB ⟨22, N, M, S⟩ = b := ⟨_, rfl⟩
  rw [hpl]
  have HP := Lib.hid hpl; clear hpl
  go_enter Tryd.func45, Tryd.ntmps45
  go_wp2_with fail
  obtain ⟨w2, hw2, hsz, hown, hb, c0, c1, c2, c3⟩ := rb_start w 22 N M S
  rw [hw2]
  clear hw2
  have HO := Lib.hid hown; clear hown
  have HB := Lib.hid hb; clear hb
  have hlt : w.heap.size < w2.heap.size := by omega
  have hle : w.heap.size + 1 < w2.heap.size := by omega
  clear hsz
  have hone : ∀ u ∈ [Value.int .i64 0, .int .i64 2, .int .i64 0, .int .i64 0, .int .i64 0], u.oneCell' = true := by intro u hu; obtain ⟨x, _, rfl⟩ := List.mem_map.1 (show u ∈ ([0, 2, 0, 0, 0] : List Int).map (Value.int .i64) from hu); rfl
  have HONE := Lib.hid hone; clear hone
  go_region_law (first
    | (refine step_append_row rfl (.tmp 155) (.tmp 156) 45 rfl w.heap.size 3 i0 (.int .i64 0) 1 8 Tryd.underlying45 hi hz0 hz1 hz2 rfl (by decide) (.slice (some ⟨w.heap.size + 1, 0, none⟩) 0 0) 0 [] (by rfl) (by first | exact HO.out.alloc _ | exact (HO.out.alloc _).drew | exact HO.out.drew.alloc _) (.slice (some ⟨w2.heap.size, 0, none⟩) 5 5) 5 [.int .i64 0, .int .i64 2, .int .i64 0, .int .i64 0, .int .i64 0] (by rfl) (by first | exact RowAt.lit w2 _ #[.int .i64 0, .int .i64 2, .int .i64 0, .int .i64 0, .int .i64 0] 5 rfl (by unfold maxLen; omega) | exact RowAt.lit w2.drew _ #[.int .i64 0, .int .i64 2, .int .i64 0, .int .i64 0, .int .i64 0] 5 rfl (by unfold maxLen; omega)) HONE.out (by omega) (by unfold maxLen; omega) (by simp; omega) ?_; intro v5 w5 hown5 hg5 hat5
       have HO5 := Lib.hid hown5; clear hown5
       have HG5 := Lib.hid hg5; clear hg5
       have d0 : w5.cell? ⟨w.heap.size, 0, none⟩ = some (.int .i64 22) := HG5.out.cell (by first | exact (((Below.refl _ w2).alloc (Nat.le_refl _) _).cell (p := ⟨w.heap.size, 0, none⟩) hlt).trans c0 | exact (((Below.refl _ w2.drew).alloc (Nat.le_refl _) _).cell (p := ⟨w.heap.size, 0, none⟩) hlt).trans c0) (by simp [Value.ownBlock])
       have d1 : w5.cell? ⟨w.heap.size, 1, none⟩ = some (.int .i64 N) := HG5.out.cell (by first | exact (((Below.refl _ w2).alloc (Nat.le_refl _) _).cell (p := ⟨w.heap.size, 1, none⟩) hlt).trans c1 | exact (((Below.refl _ w2.drew).alloc (Nat.le_refl _) _).cell (p := ⟨w.heap.size, 1, none⟩) hlt).trans c1) (by simp [Value.ownBlock])
       have d2 : w5.cell? ⟨w.heap.size, 2, none⟩ = some (.int .i64 M) := HG5.out.cell (by first | exact (((Below.refl _ w2).alloc (Nat.le_refl _) _).cell (p := ⟨w.heap.size, 2, none⟩) hlt).trans c2 | exact (((Below.refl _ w2.drew).alloc (Nat.le_refl _) _).cell (p := ⟨w.heap.size, 2, none⟩) hlt).trans c2) (by simp [Value.ownBlock])
       have d3 : w5.cell? ⟨w.heap.size, 3, none⟩ = some (.string S) := HG5.out.cell (by first | exact (((Below.refl _ w2).alloc (Nat.le_refl _) _).cell (p := ⟨w.heap.size, 3, none⟩) hlt).trans c3 | exact (((Below.refl _ w2.drew).alloc (Nat.le_refl _) _).cell (p := ⟨w.heap.size, 3, none⟩) hlt).trans c3) (by simp [Value.ownBlock]))
    | (go_simp; go_at_call 70; refine (plain_any ⟨22, N, M, S⟩ _).mono ?_; rw [HP.out]; rintro e w9 ⟨rfl, rfl⟩))
  all_goals
    have hb5 : Below w.heap.size w w5 := ((HB.out.alloc HB.out.size _).drew).grown HG5.out (by have := HB.out.size; simp; omega) (fun g hg => by simp [Value.ownBlock] at hg; omega)
    clear d0 d1 d2 d3
    go_wp2_with fail
    go_ret2
    exact ⟨v5, rfl, (read_of_own (l := [0, 2, 0, 0, 0]) HO5.out rfl rfl).alloc _, hb5.alloc hb5.size _⟩

set_option maxRecDepth 20000 in
set_option maxHeartbeats 2000000 in
theorem rb_24 (N M : Int) (S : ByteArray) (w : World) :
    Calls Tryd.prog 45 #[.agg #[.int .i64 24, .int .i64 N, .int .i64 M, .string S]] w (RBPost [0, 1, 0, 0] (plainB ⟨24, N, M, S⟩) w) := by
  obtain ⟨i0, hi, hz0, hz1, hz2⟩ := info_parts Tryd.infoInt
  obtain ⟨pl, hpl⟩ : ∃ b, plainB ⟨24, N, M, S⟩ = b := ⟨_, rfl⟩
  rw [hpl]
  have HP := Lib.hid hpl; clear hpl
  go_enter Tryd.func45, Tryd.ntmps45
  go_wp2_with fail
  obtain ⟨w2, hw2, hsz, hown, hb, c0, c1, c2, c3⟩ := rb_start w 24 N M S
  rw [hw2]
  clear hw2
  have HO := Lib.hid hown; clear hown
  have HB := Lib.hid hb; clear hb
  have hlt : w.heap.size < w2.heap.size := by omega
  have hle : w.heap.size + 1 < w2.heap.size := by omega
  clear hsz
  have hone : ∀ u ∈ [Value.int .i64 0, .int .i64 1, .int .i64 0, .int .i64 0], u.oneCell' = true := by intro u hu; obtain ⟨x, _, rfl⟩ := List.mem_map.1 (show u ∈ ([0, 1, 0, 0] : List Int).map (Value.int .i64) from hu); rfl
  have HONE := Lib.hid hone; clear hone
  go_region_law (first
    | (refine step_append_row rfl (.tmp 162) (.tmp 163) 45 rfl w.heap.size 3 i0 (.int .i64 0) 1 8 Tryd.underlying45 hi hz0 hz1 hz2 rfl (by decide) (.slice (some ⟨w.heap.size + 1, 0, none⟩) 0 0) 0 [] (by rfl) (by first | exact HO.out.alloc _ | exact (HO.out.alloc _).drew | exact HO.out.drew.alloc _) (.slice (some ⟨w2.heap.size, 0, none⟩) 4 4) 4 [.int .i64 0, .int .i64 1, .int .i64 0, .int .i64 0] (by rfl) (by first | exact RowAt.lit w2 _ #[.int .i64 0, .int .i64 1, .int .i64 0, .int .i64 0] 4 rfl (by unfold maxLen; omega) | exact RowAt.lit w2.drew _ #[.int .i64 0, .int .i64 1, .int .i64 0, .int .i64 0] 4 rfl (by unfold maxLen; omega)) HONE.out (by omega) (by unfold maxLen; omega) (by simp; omega) ?_; intro v5 w5 hown5 hg5 hat5
       have HO5 := Lib.hid hown5; clear hown5
       have HG5 := Lib.hid hg5; clear hg5
       have d0 : w5.cell? ⟨w.heap.size, 0, none⟩ = some (.int .i64 24) := HG5.out.cell (by first | exact (((Below.refl _ w2).alloc (Nat.le_refl _) _).cell (p := ⟨w.heap.size, 0, none⟩) hlt).trans c0 | exact (((Below.refl _ w2.drew).alloc (Nat.le_refl _) _).cell (p := ⟨w.heap.size, 0, none⟩) hlt).trans c0) (by simp [Value.ownBlock])
       have d1 : w5.cell? ⟨w.heap.size, 1, none⟩ = some (.int .i64 N) := HG5.out.cell (by first | exact (((Below.refl _ w2).alloc (Nat.le_refl _) _).cell (p := ⟨w.heap.size, 1, none⟩) hlt).trans c1 | exact (((Below.refl _ w2.drew).alloc (Nat.le_refl _) _).cell (p := ⟨w.heap.size, 1, none⟩) hlt).trans c1) (by simp [Value.ownBlock])
       have d2 : w5.cell? ⟨w.heap.size, 2, none⟩ = some (.int .i64 M) := HG5.out.cell (by first | exact (((Below.refl _ w2).alloc (Nat.le_refl _) _).cell (p := ⟨w.heap.size, 2, none⟩) hlt).trans c2 | exact (((Below.refl _ w2.drew).alloc (Nat.le_refl _) _).cell (p := ⟨w.heap.size, 2, none⟩) hlt).trans c2) (by simp [Value.ownBlock])
       have d3 : w5.cell? ⟨w.heap.size, 3, none⟩ = some (.string S) := HG5.out.cell (by first | exact (((Below.refl _ w2).alloc (Nat.le_refl _) _).cell (p := ⟨w.heap.size, 3, none⟩) hlt).trans c3 | exact (((Below.refl _ w2.drew).alloc (Nat.le_refl _) _).cell (p := ⟨w.heap.size, 3, none⟩) hlt).trans c3) (by simp [Value.ownBlock]))
    | (go_simp; go_at_call 70; refine (plain_any ⟨24, N, M, S⟩ _).mono ?_; rw [HP.out]; rintro e w9 ⟨rfl, rfl⟩))
  all_goals
    have hb5 : Below w.heap.size w w5 := ((HB.out.alloc HB.out.size _).drew).grown HG5.out (by have := HB.out.size; simp; omega) (fun g hg => by simp [Value.ownBlock] at hg; omega)
    clear d0 d1 d2 d3
    go_wp2_with fail
    go_ret2
    exact ⟨v5, rfl, (read_of_own (l := [0, 1, 0, 0]) HO5.out rfl rfl).alloc _, hb5.alloc hb5.size _⟩

set_option maxRecDepth 20000 in
set_option maxHeartbeats 2000000 in
theorem rb_10 (N M : Int) (S : ByteArray) (w : World) :
    Calls Tryd.prog 45 #[.agg #[.int .i64 10, .int .i64 N, .int .i64 M, .string S]] w (RBPost [] (plainB ⟨10, N, M, S⟩) w) := by
  obtain ⟨pl, hpl⟩ : ∃ b, plainB ⟨10, N, M, S⟩ = b := ⟨_, rfl⟩
  rw [hpl]
  have HP := Lib.hid hpl; clear hpl
  go_enter Tryd.func45, Tryd.ntmps45
  go_wp2_with (go_at_call 70; refine (plain_any ⟨10, N, M, S⟩ _).mono ?_; rw [HP.out]; rintro e w9 ⟨rfl, rfl⟩)
  go_ret2
  obtain ⟨w2, hw2, hsz, hown, hb, c0, c1, c2, c3⟩ := rb_start w 10 N M S
  rw [hw2]
  exact ⟨_, rfl, (read_of_own (l := []) hown rfl rfl).alloc _, hb.alloc hb.size _⟩

set_option maxRecDepth 20000 in
set_option maxHeartbeats 2000000 in
theorem rb_11 (N M : Int) (S : ByteArray) (w : World) :
    Calls Tryd.prog 45 #[.agg #[.int .i64 11, .int .i64 N, .int .i64 M, .string S]] w (RBPost [] (plainB ⟨11, N, M, S⟩) w) := by
  obtain ⟨pl, hpl⟩ : ∃ b, plainB ⟨11, N, M, S⟩ = b := ⟨_, rfl⟩
  rw [hpl]
  have HP := Lib.hid hpl; clear hpl
  go_enter Tryd.func45, Tryd.ntmps45
  go_wp2_with (go_at_call 70; refine (plain_any ⟨11, N, M, S⟩ _).mono ?_; rw [HP.out]; rintro e w9 ⟨rfl, rfl⟩)
  go_ret2
  obtain ⟨w2, hw2, hsz, hown, hb, c0, c1, c2, c3⟩ := rb_start w 11 N M S
  rw [hw2]
  exact ⟨_, rfl, (read_of_own (l := []) hown rfl rfl).alloc _, hb.alloc hb.size _⟩

set_option maxRecDepth 20000 in
set_option maxHeartbeats 2000000 in
theorem rb_14 (N M : Int) (S : ByteArray) (w : World) :
    Calls Tryd.prog 45 #[.agg #[.int .i64 14, .int .i64 N, .int .i64 M, .string S]] w (RBPost [] (plainB ⟨14, N, M, S⟩) w) := by
  obtain ⟨pl, hpl⟩ : ∃ b, plainB ⟨14, N, M, S⟩ = b := ⟨_, rfl⟩
  rw [hpl]
  have HP := Lib.hid hpl; clear hpl
  go_enter Tryd.func45, Tryd.ntmps45
  go_wp2_with (go_at_call 70; refine (plain_any ⟨14, N, M, S⟩ _).mono ?_; rw [HP.out]; rintro e w9 ⟨rfl, rfl⟩)
  go_ret2
  obtain ⟨w2, hw2, hsz, hown, hb, c0, c1, c2, c3⟩ := rb_start w 14 N M S
  rw [hw2]
  exact ⟨_, rfl, (read_of_own (l := []) hown rfl rfl).alloc _, hb.alloc hb.size _⟩

set_option maxRecDepth 20000 in
set_option maxHeartbeats 2000000 in
theorem rb_16 (N M : Int) (S : ByteArray) (w : World) :
    Calls Tryd.prog 45 #[.agg #[.int .i64 16, .int .i64 N, .int .i64 M, .string S]] w (RBPost [] (plainB ⟨16, N, M, S⟩) w) := by
  obtain ⟨pl, hpl⟩ : ∃ b, plainB ⟨16, N, M, S⟩ = b := ⟨_, rfl⟩
  rw [hpl]
  have HP := Lib.hid hpl; clear hpl
  go_enter Tryd.func45, Tryd.ntmps45
  go_wp2_with (go_at_call 70; refine (plain_any ⟨16, N, M, S⟩ _).mono ?_; rw [HP.out]; rintro e w9 ⟨rfl, rfl⟩)
  go_ret2
  obtain ⟨w2, hw2, hsz, hown, hb, c0, c1, c2, c3⟩ := rb_start w 16 N M S
  rw [hw2]
  exact ⟨_, rfl, (read_of_own (l := []) hown rfl rfl).alloc _, hb.alloc hb.size _⟩

set_option maxRecDepth 20000 in
set_option maxHeartbeats 2000000 in
theorem rb_17 (N M : Int) (S : ByteArray) (w : World) :
    Calls Tryd.prog 45 #[.agg #[.int .i64 17, .int .i64 N, .int .i64 M, .string S]] w (RBPost [] (plainB ⟨17, N, M, S⟩) w) := by
  obtain ⟨pl, hpl⟩ : ∃ b, plainB ⟨17, N, M, S⟩ = b := ⟨_, rfl⟩
  rw [hpl]
  have HP := Lib.hid hpl; clear hpl
  go_enter Tryd.func45, Tryd.ntmps45
  go_wp2_with (go_at_call 70; refine (plain_any ⟨17, N, M, S⟩ _).mono ?_; rw [HP.out]; rintro e w9 ⟨rfl, rfl⟩)
  go_ret2
  obtain ⟨w2, hw2, hsz, hown, hb, c0, c1, c2, c3⟩ := rb_start w 17 N M S
  rw [hw2]
  exact ⟨_, rfl, (read_of_own (l := []) hown rfl rfl).alloc _, hb.alloc hb.size _⟩

set_option maxRecDepth 20000 in
set_option maxHeartbeats 2000000 in
theorem rb_29 (N M : Int) (S : ByteArray) (w : World) :
    Calls Tryd.prog 45 #[.agg #[.int .i64 29, .int .i64 N, .int .i64 M, .string S]] w (RBPost [] (plainB ⟨29, N, M, S⟩) w) := by
  obtain ⟨pl, hpl⟩ : ∃ b, plainB ⟨29, N, M, S⟩ = b := ⟨_, rfl⟩
  rw [hpl]
  have HP := Lib.hid hpl; clear hpl
  go_enter Tryd.func45, Tryd.ntmps45
  go_wp2_with (go_at_call 70; refine (plain_any ⟨29, N, M, S⟩ _).mono ?_; rw [HP.out]; rintro e w9 ⟨rfl, rfl⟩)
  go_ret2
  obtain ⟨w2, hw2, hsz, hown, hb, c0, c1, c2, c3⟩ := rb_start w 29 N M S
  rw [hw2]
  exact ⟨_, rfl, (read_of_own (l := []) hown rfl rfl).alloc _, hb.alloc hb.size _⟩


end Go.Proofs.YteldkcpkamgfpaaDoor

namespace Go.Proofs.YteldkcpkamgfpaaDoor
set_option linter.unusedSimpArgs false
set_option linter.unusedVariables false
open Go.RowKit

set_option maxRecDepth 20000 in
set_option maxHeartbeats 2000000 in
theorem rb_0 (N M : Int) (S : ByteArray) (w : World) :
    Calls Tryd.prog 45 #[.agg #[.int .i64 0, .int .i64 N, .int .i64 M, .string S]] w (RBPost [] (decide (0 ≤ N) && decide (N ≤ 99) && (M == 0) && decide (S.size = 0)) w) := by
  obtain ⟨w2, hw2, hsz, hown, hb, c0, c1, c2, c3⟩ := rb_start w 0 N M S
  rw [← size0 S]
  have HW := Lib.hid hw2
  have HO := Lib.hid hown
  have HB := Lib.hid hb
  clear hw2 hsz hown hb c0 c1 c2 c3
  cases h1 : decide (0 ≤ N)
  · go_enter Tryd.func45, Tryd.ntmps45
    go_wp2_with fail
    go_quiet (fail)
    go_wp2_with fail
    go_ret2
    rw [HW.out]
    exact ⟨_, rfl, read_of_own (l := []) HO.out rfl rfl, below_drewN HB.out _⟩
  · cases h2 : decide (N ≤ 99)
    · go_enter Tryd.func45, Tryd.ntmps45
      go_wp2_with fail
      go_quiet (fail)
      go_wp2_with fail
      go_ret2
      rw [HW.out]
      exact ⟨_, rfl, read_of_own (l := []) HO.out rfl rfl, below_drewN HB.out _⟩
    · cases h3 : M == 0
      · go_enter Tryd.func45, Tryd.ntmps45
        go_wp2_with fail
        go_quiet (fail)
        go_wp2_with fail
        go_ret2
        rw [HW.out]
        exact ⟨_, rfl, read_of_own (l := []) HO.out rfl rfl, below_drewN HB.out _⟩
      · go_enter Tryd.func45, Tryd.ntmps45
        go_wp2_with fail
        go_quiet (fail)
        go_wp2_with fail
        go_ret2
        rw [HW.out]
        exact ⟨_, rfl, read_of_own (l := []) HO.out rfl rfl, below_drewN HB.out _⟩

set_option maxRecDepth 20000 in
set_option maxHeartbeats 2000000 in
theorem rb_name (k : Nat) (hk : k = 1 ∨ k = 25) (N M : Int) (S : ByteArray) (hs : S.size ≤ maxLen) (w : World) :
    Calls Tryd.prog 45 #[.agg #[.int .i64 (k : Int), .int .i64 N, .int .i64 M, .string S]] w (RBPost [] ((N == 0) && (M == 0) && nameB S) w) := by
  obtain ⟨w2, hw2, hsz, hown, hb, c0, c1, c2, c3⟩ := rb_start w k N M S
  have HW := Lib.hid hw2
  have HO := Lib.hid hown
  have HB := Lib.hid hb
  clear hw2 hsz hown hb c0 c1 c2 c3
  obtain ⟨nb, hnb⟩ : ∃ b, nameB S = b := ⟨_, rfl⟩
  rw [hnb]
  have HN := Lib.hid hnb; clear hnb
  have HSZ := Lib.hid hs; clear hs
  rcases hk with rfl | rfl
  all_goals
    cases h1 : N == 0
    · go_enter Tryd.func45, Tryd.ntmps45
      go_wp2_with fail
      go_ret2
      exact ⟨_, rfl, read_of_own (l := []) (by first | exact HW.out ▸ HO.out) rfl rfl, by first | exact HW.out ▸ HB.out⟩
    · cases h2 : M == 0
      · go_enter Tryd.func45, Tryd.ntmps45
        go_wp2_with fail
        go_ret2
        exact ⟨_, rfl, read_of_own (l := []) (by first | exact HW.out ▸ HO.out) rfl rfl, by first | exact HW.out ▸ HB.out⟩
      · go_enter Tryd.func45, Tryd.ntmps45
        go_wp2_with (go_at_call 10; refine (refname_any S HSZ.out _).mono ?_; rw [HN.out]; rintro e w9 ⟨rfl, rfl⟩)
        go_ret2
        exact ⟨_, rfl, read_of_own (l := []) (by first | exact HW.out ▸ HO.out) rfl rfl, by first | exact HW.out ▸ HB.out⟩

set_option maxRecDepth 20000 in
set_option maxHeartbeats 2000000 in
theorem rb_2 (N M : Int) (S : ByteArray) (w : World) :
    Calls Tryd.prog 45 #[.agg #[.int .i64 2, .int .i64 N, .int .i64 M, .string S]] w (RBPost [] (lv N && (M == 0) && decide (S.size = 0)) w) := by
  obtain ⟨w2, hw2, hsz, hown, hb, c0, c1, c2, c3⟩ := rb_start w 2 N M S
  rw [← size0 S]
  have HW := Lib.hid hw2
  have HO := Lib.hid hown
  have HB := Lib.hid hb
  clear hw2 hsz hown hb c0 c1 c2 c3
  cases h1 : lv N
  · have hq : ∀ w : World, Calls Tryd.prog 44 #[.int .i64 N] w fun e w' => e = .returned (.int .i64 1) ∧ w' = w := by intro w; have h := refcheck_any N w; rw [h1] at h; exact h.mono fun _ _ h => ⟨h.1, h.2.symm⟩
    have HQ := Lib.hid hq; clear hq
    go_enter Tryd.func45, Tryd.ntmps45
    go_wp2_with fail
    go_quiet ((go_at_call 44; exact Calls.quiet_of_same (HQ.out _)))
    go_wp2_with fail
    go_ret2
    rw [HW.out]
    exact ⟨_, rfl, read_of_own (l := []) HO.out rfl rfl, below_drewN HB.out _⟩
  · have hq : ∀ w : World, Calls Tryd.prog 44 #[.int .i64 N] w fun e w' => e = .returned (.int .i64 0) ∧ w' = w := by intro w; have h := refcheck_any N w; rw [h1] at h; exact h.mono fun _ _ h => ⟨h.1, h.2.symm⟩
    have HQ := Lib.hid hq; clear hq
    cases h2 : M == 0
    · go_enter Tryd.func45, Tryd.ntmps45
      go_wp2_with fail
      go_quiet ((go_at_call 44; exact Calls.quiet_of_same (HQ.out _)))
      go_wp2_with fail
      go_ret2
      rw [HW.out]
      exact ⟨_, rfl, read_of_own (l := []) HO.out rfl rfl, below_drewN HB.out _⟩
    · go_enter Tryd.func45, Tryd.ntmps45
      go_wp2_with fail
      go_quiet ((go_at_call 44; exact Calls.quiet_of_same (HQ.out _)))
      go_wp2_with fail
      go_ret2
      rw [HW.out]
      exact ⟨_, rfl, read_of_own (l := []) HO.out rfl rfl, below_drewN HB.out _⟩

end Go.Proofs.YteldkcpkamgfpaaDoor

