/- Levels as they read; slices.EqualFunc of levels and constructors with schema.Fits' own test; where a level stands. -/
import Derived.Test.YteldkcpkamgfpaaDoorDv
namespace Go.Proofs.YteldkcpkamgfpaaDoor
set_option linter.unusedSimpArgs false
set_option linter.unusedVariables false
open Go.RowKit

def ReadII (w : World) (v : Value) (L : List (List Int)) : Prop :=
  ∃ vs : List Value, vs.length = L.length ∧ RowAt w 1 v L.length vs ∧ ∀ i (h : i < L.length) u, vs[i]? = some u → ReadI w u (L[i])
theorem ReadII.below {w w' : World} {v : Value} {L : List (List Int)} (h : ReadII w v L) (hb : Below w.heap.size w w') : ReadII w' v L := by
  obtain ⟨vs, hl, hr, he⟩ := h
  exact ⟨vs, hl, hr.below hb, fun i hi u hu => (he i hi u hu).below hb⟩
theorem ReadII.form {w : World} {v : Value} {L : List (List Int)} (h : ReadII w v L) : ∃ a c, v = .slice a L.length c := by
  obtain ⟨vs, hl, hr, he⟩ := h
  obtain ⟨a, c, hv, _⟩ := hr.form
  exact ⟨a, c, hv⟩
theorem ReadII.at {w : World} {b off cap : Nat} {L : List (List Int)} (h : ReadII w (.slice (some ⟨b, off, none⟩) L.length cap) L) {i : Nat} (hi : i < L.length) :
    ∃ a c, w.cell? ⟨b, off + i, none⟩ = some (.slice a (L[i]).length c) ∧ ReadI w (.slice a (L[i]).length c) (L[i]) := by
  obtain ⟨vs, hl, hr, he⟩ := h
  obtain ⟨b', off', cap', h1, _, _, _, hc⟩ := RowAt.pos hr (by omega)
  obtain ⟨⟨rfl, rfl⟩, rfl⟩ : (b = b' ∧ off = off') ∧ cap = cap' := by simpa using h1
  have hv : vs[i]? = some vs[i] := List.getElem?_eq_getElem (by omega)
  have hn := he i hi _ hv
  have hcell := hc _ _ hv
  obtain ⟨a, c, hu⟩ := ReadI.len_slice hn
  rw [hu] at hn hcell
  exact ⟨a, c, hcell, hn⟩
theorem ReadII.shape {w : World} {v : Value} {L : List (List Int)} (h : ReadII w v L) : L.length ≤ maxLen ∧ ((L = [] ∧ ∃ a cap, v = .slice a 0 cap) ∨ ∃ b off cap, v = .slice (some ⟨b, off, none⟩) L.length cap ∧ b < w.heap.size) := by
  obtain ⟨vs, hl, hr, he⟩ := h
  refine ⟨hr.small, ?_⟩
  by_cases h0 : L = []
  · subst h0
    obtain ⟨a, cap, rfl, _⟩ := hr.form
    exact .inl ⟨rfl, a, cap, rfl⟩
  · obtain ⟨b, off, cap, rfl, _, _, hb, _⟩ := RowAt.pos hr (List.length_pos_iff.2 h0)
    exact .inr ⟨b, off, cap, rfl, hb⟩

/-- a level at (i, k), as it lies -/
theorem level_at {w : World} {v : Value} {L : List (List Int)} (h : ReadII w v L) {i k : Nat} (hi : i < L.length) (hk : k < (L[i]).length) :
    ∃ b off n b1 off1 n1, v = .slice (some ⟨b, off, none⟩) L.length n ∧ b < w.heap.size ∧ w.cell? ⟨b, off + i, none⟩ = some (.slice (some ⟨b1, off1, none⟩) (L[i]).length n1) ∧ b1 < w.heap.size ∧
      w.cell? ⟨b1, off1 + k, none⟩ = some (.int .i64 (L[i])[k]) := by
  obtain ⟨_, ⟨h0, _⟩ | ⟨b, off, cap, rfl, hbw⟩⟩ := h.shape
  · subst h0; simp at hi
  obtain ⟨a1, n1, g1, r1⟩ := h.at hi
  obtain ⟨b1, off1, cap1, he, _, _, hb1, hc⟩ := RowAt.pos r1 (by omega)
  obtain ⟨rfl, rfl⟩ : a1 = some ⟨b1, off1, none⟩ ∧ n1 = cap1 := by simpa using he
  exact ⟨b, off, cap, b1, off1, n1, rfl, hbw, g1, hb1, hc k _ (by simp [hk])⟩

/-- rows of one shape: where an element stands -/
theorem flat_at : ∀ (T : List (List (List Nd))) (L : List (List Int)), L.map List.length = T.map List.length → ∀ i k (hi : i < L.length) (hk : k < (L[i]).length),
    L.flatten[startT T i + k]? = some (L[i])[k] := by
  intro T
  induction T with
  | nil => intro L hL i k hi; simp at hL; subst hL; simp at hi
  | cons c r ih =>
    intro L hL i k hi hk
    match L, hL with
    | l :: m, hL =>
    simp only [List.map_cons, List.cons.injEq] at hL
    cases i with
    | zero =>
      have hk' : k < l.length := hk
      simp only [startT, List.take_zero, List.flatten_nil, List.length_nil, Nat.zero_add, List.flatten_cons]
      rw [List.getElem?_append_left hk', List.getElem?_eq_getElem hk']
      rfl
    | succ i =>
      have hi' : i < m.length := by simpa using hi
      have hk' : k < (m[i]).length := hk
      have e : startT (c :: r) (i + 1) = c.length + startT r i := by simp [startT]
      rw [e, List.flatten_cons, List.getElem?_append_right (by rw [hL.1]; omega), hL.1, show c.length + startT r i + k - c.length = startT r i + k from by omega]
      exact ih m hL.2 i k hi' hk'
theorem flat_len {T : List (List (List Nd))} {L : List (List Int)} (h : L.map List.length = T.map List.length) : L.flatten.length = T.flatten.length := by
  rw [List.length_flatten, List.length_flatten, h]
theorem shape_at {T : List (List (List Nd))} {L : List (List Int)} (h : L.map List.length = T.map List.length) {i : Nat} (hi : i < T.length) : ∃ hl : i < L.length, (L[i]).length = (T[i]).length := by
  have h1 := congrArg List.length h
  simp at h1
  refine ⟨by omega, ?_⟩
  have h2 := congrArg (fun l => l[i]?) h
  simp only [List.getElem?_map] at h2
  rw [List.getElem?_eq_getElem (by omega), List.getElem?_eq_getElem hi] at h2
  simpa using h2

theorem same_len (a1 : Option Addr) (n1 c1 : Nat) (a2 : Option Addr) (n2 c2 : Nat) (h1 : n1 ≤ 9223372036854775807) (h2 : n2 ≤ 9223372036854775807) (w : World) :
    Calls Tryd.prog 42 #[.slice a1 n1 c1, .slice a2 n2 c2] w fun e w' => e = .returned (.bool (decide (n1 = n2))) ∧ w = w' := by
  by_cases h : n1 = n2
  · have d : decide (n1 = n2) = true := by simpa using h
    have e : ((n1 : Int) == n2) = true := by rw [beq_iff_eq]; omega
    rw [d]
    clear h d
    go_enter Tryd.func42, Tryd.ntmps42
    go_wp2_with fail
    go_ret
    exact ⟨rfl, rfl⟩
  · have d : decide (n1 = n2) = false := by simpa using h
    have e : ((n1 : Int) == n2) = false := by rw [beq_eq_false_iff_ne]; omega
    rw [d]
    clear d
    go_enter Tryd.func42, Tryd.ntmps42
    go_wp2_with fail
    go_ret
    exact ⟨rfl, rfl⟩

set_option maxHeartbeats 2000000 in
theorem eqshape_any (L : List (List Int)) (T : List (List (List Nd))) (vl vc : Value) (w : World) (hl : ReadII w vl L) (hc : ReadNNN w vc T) :
    Calls Tryd.prog 41 #[vl, vc, .func (.func 42) #[] #[]] w fun e w' => e = .returned (.bool (decide (L.map List.length = T.map List.length))) ∧ w = w' := by
  obtain ⟨R, hR⟩ : ∃ R, decide (L.map List.length = T.map List.length) = R := ⟨_, rfl⟩
  rw [hR]
  have HR := Lib.hid hR
  obtain ⟨a1, n1, rfl⟩ := hl.form
  obtain ⟨a2, n2, rfl⟩ := hc.form
  have hm1 : L.length ≤ 9223372036854775807 := by have := hl.shape.1; unfold maxLen at this; omega
  have hm2 : T.length ≤ 9223372036854775807 := by have := hc.shape.1; unfold maxLen at this; omega
  have HL := Lib.hid hl
  have HC := Lib.hid hc
  clear hR hl hc
  by_cases hlen : L.length = T.length
  rotate_left
  · have e1 : ((L.length : Int) != T.length) = true := by rw [bne_iff_ne]; omega
    have hr : R = false := by
      rw [← HR.out, decide_eq_false_iff_not]
      intro h
      have := congrArg List.length h
      simp at this
      omega
    subst hr
    clear hlen
    go_enter Tryd.func41, Tryd.ntmps41
    go_wp2_with fail
    go_ret
    exact ⟨rfl, rfl⟩
  have HLN := Lib.hid hlen
  obtain ⟨N, hN⟩ : ∃ N, T.length = N := ⟨_, rfl⟩
  have HN := Lib.hid hN
  rw [hlen, hN] at HL ⊢
  rw [hN] at HC hm2
  clear hlen hN hm1
  go_enter Tryd.func41, Tryd.ntmps41
  go_wp2_with fail
  go_loopw [17] (fun i wr => (∃ k : Nat, k ≤ N ∧ i = .int .i64 k ∧ (L.map List.length).take k = (T.map List.length).take k) ∧ wr = w) (fun i _ => N - (intOf i).toNat)
  case atStart => exact ⟨⟨0, Nat.zero_le _, rfl, by simp⟩, rfl⟩
  case round =>
    obtain ⟨⟨k, hk, rfl, hz⟩, rfl⟩ := hrel
    have HZ := Lib.hid hz
    clear hz
    by_cases hlt : k < N
    rotate_left
    · obtain rfl : k = N := by omega
      have hr : R = true := by
        rw [← HR.out, decide_eq_true_eq]
        have h := HZ.out
        rw [List.take_of_length_le (by simp; have := HLN.out; have := HN.out; omega), List.take_of_length_le (by simp; have := HN.out; omega)] at h
        exact h
      subst hr
      go_wp2_with fail
      go_ret
      exact ⟨rfl, rfl⟩
    have hkL : k < L.length := by have := HLN.out; have := HN.out; omega
    have hkT : k < T.length := by have := HN.out; omega
    have hl := HL.out
    have hc := HC.out
    rw [← HN.out] at hc
    rw [show N = L.length from by have := HLN.out; have := HN.out; omega] at hl
    obtain ⟨_, ⟨h0, _⟩ | ⟨b, off, cap, he, hbw⟩⟩ := hl.shape
    · subst h0; simp at hkL
    obtain ⟨rfl, rfl⟩ : a1 = some ⟨b, off, none⟩ ∧ n1 = cap := by simpa using he
    obtain ⟨_, ⟨h0, _⟩ | ⟨b2, off2, cap2, he2, hbw2⟩⟩ := hc.shape
    · subst h0; simp at hkT
    obtain ⟨rfl, rfl⟩ : a2 = some ⟨b2, off2, none⟩ ∧ n2 = cap2 := by simpa using he2
    obtain ⟨a3, n3, g3, r3⟩ := hl.at hkL
    obtain ⟨a4, n4, g4, r4⟩ := hc.at hkT
    have m3 : (L[k]).length ≤ 9223372036854775807 := by have := (ReadI.cases r3).1; unfold maxLen at this; omega
    have m4 : (T[k]).length ≤ 9223372036854775807 := by have := r4.shape.1; unfold maxLen at this; omega
    have hst : (L.map List.length).take (k + 1) = (L.map List.length).take k ++ [(L[k]).length] := by rw [List.take_succ_eq_append_getElem (by simpa using hkL)]; simp
    have hst2 : (T.map List.length).take (k + 1) = (T.map List.length).take k ++ [(T[k]).length] := by rw [List.take_succ_eq_append_getElem (by simpa using hkT)]; simp
    obtain ⟨p, hp⟩ : ∃ p, (L[k]).length = p := ⟨_, rfl⟩
    obtain ⟨q, hq⟩ : ∃ p, (T[k]).length = p := ⟨_, rfl⟩
    rw [hp] at g3 m3 hst
    rw [hq] at g4 m4 hst2
    have HST := Lib.hid hst
    have HST2 := Lib.hid hst2
    have hcall := fun w' => same_len a3 p n3 a4 q n4 m3 m4 w'
    have HCALL := Lib.hid hcall
    clear he he2 r3 r4 hl hc hp hq hst hst2 hcall hkL hkT
    go_wp2_with (go_at_call 42; refine (HCALL.out _).mono ?_)
    rintro e w2 ⟨rfl, rfl⟩
    by_cases hpq : p = q
    · have d3 : decide (p = q) = true := by simpa using hpq
      rw [d3]
      go_wp2_with fail
      go_roundw
      case rel => exact ⟨⟨k + 1, by omega, by go_num, by rw [HST.out, HST2.out, HZ.out, hpq]⟩, trivial⟩
      case measure => simp [intOf]; omega
    · have d3 : decide (p = q) = false := by simpa using hpq
      rw [d3]
      have hr : R = false := by
        rw [← HR.out, decide_eq_false_iff_not]
        intro h
        have h2 : (L.map List.length).take (k + 1) = (T.map List.length).take (k + 1) := by rw [h]
        rw [HST.out, HST2.out, HZ.out] at h2
        simp at h2
        exact hpq h2
      subst hr
      go_wp2_with fail
      go_ret
      exact ⟨rfl, rfl⟩

end Go.Proofs.YteldkcpkamgfpaaDoor
