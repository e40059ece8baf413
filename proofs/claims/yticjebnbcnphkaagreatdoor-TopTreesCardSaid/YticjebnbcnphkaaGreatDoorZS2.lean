/- A part of the proof that the abstract interpreter is sound, and of the two goroutines of the lexer. -/
import Derived.Test.YticjebnbcnphkaaGreatDoorZS1
import Derived.IntWalk

set_option linter.unusedSimpArgs false
set_option linter.unusedVariables false
set_option linter.unusedSectionVars false

namespace Go.Ai
open Go
variable {P : Program}

/- what the askings say -/
theorem optK_t {α : Type} {o : Option α} {f : α → Bool} : optK o f = true ↔ ∃ x, o = some x ∧ f x = true := by
  cases o <;> simp [optK]
theorem asNat_t {x : AV} {f : IntKind → Nat → Bool} : asNat x f = true ↔ ∃ k n, x = .nat k n ∧ f k n = true := by
  constructor
  · intro h; cases x <;> first | exact ⟨_, _, rfl, h⟩ | cases h
  · rintro ⟨k, n, rfl, h⟩; exact h
theorem asBool_t {x : AV} {f : Bool → Bool} : asBool x f = true ↔ ∃ b, x = .bool b ∧ f b = true := by
  constructor
  · intro h; cases x <;> first | exact ⟨_, rfl, h⟩ | cases h
  · rintro ⟨b, rfl, h⟩; exact h
theorem asStr_t {x : AV} {f : List Nat → Bool} : asStr x f = true ↔ ∃ s, x = .str s ∧ f s = true := by
  constructor
  · intro h; cases x <;> first | exact ⟨_, rfl, h⟩ | cases h
  · rintro ⟨b, rfl, h⟩; exact h
theorem beq_t {a b : Nat} : Nat.beq a b = true ↔ a = b := ⟨Nat.eq_of_beq_eq_true, fun h => by rw [h]; exact Nat.beq_refl b⟩
theorem and_t {a b : Bool} : (a && b) = true ↔ a = true ∧ b = true := by cases a <;> cases b <;> simp
theorem asPtr_t {x : AV} {f : Pa → Nat → Nat → Bool} : asPtr x f = true ↔ ∃ b i n c, x = .ref 0 b i n c ∧ f b i n = true := by
  constructor
  · intro h
    cases x with
    | ref t b i n c => obtain ⟨h1, h2⟩ := and_t.1 h; cases beq_t.1 h1; exact ⟨b, i, n, c, rfl, h2⟩
    | _ => cases h
  · rintro ⟨b, i, n, c, rfl, h⟩; exact h
theorem asMap_t {x : AV} {f : Pa → Bool} : asMap x f = true ↔ ∃ b i n c, x = .ref 2 b i n c ∧ f b = true := by
  constructor
  · intro h
    cases x with
    | ref t b i n c => obtain ⟨h1, h2⟩ := and_t.1 h; cases beq_t.1 h1; exact ⟨b, i, n, c, rfl, h2⟩
    | _ => cases h
  · rintro ⟨b, i, n, c, rfl, h⟩; exact h
theorem asCom_t {u : Nat} {x : AV} {f : Nat → List AV → List AV → Bool} : asCom u x f = true ↔ ∃ n a c, x = .com u n a c ∧ f n a c = true := by
  constructor
  · intro h
    cases x with
    | com t n a c => obtain ⟨h1, h2⟩ := and_t.1 h; cases beq_t.1 h1; exact ⟨n, a, c, rfl, h2⟩
    | _ => cases h
  · rintro ⟨n, a, c, rfl, h⟩; exact and_t.2 ⟨beq_t.2 rfl, h⟩
theorem oRow_t {o : AO} {f : Nat → Nat → Tr (List AV) → Bool} : oRow o f = true ↔ ∃ s n t, o = .row s n t ∧ f s n t = true := by
  constructor
  · intro h; cases o <;> first | exact ⟨_, _, _, rfl, h⟩ | cases h
  · rintro ⟨s, n, t, rfl, h⟩; exact h
theorem oMap_t {o : AO} {f : Nat → List (Nat × AV × AV) → Bool} : oMap o f = true ↔ ∃ c es, o = .map c es ∧ f c es = true := by
  constructor
  · intro h; cases o <;> first | exact ⟨_, _, rfl, h⟩ | cases h
  · rintro ⟨c, s, rfl, h⟩; exact h
theorem oIter_t {o : AO} {f : Option Pa → Nat → List Nat → Nat → Bool} : oIter o f = true ↔ ∃ m s l c, o = .iter m s l c ∧ f m s l c = true := by
  constructor
  · intro h; cases o <;> first | exact ⟨_, _, _, _, rfl, h⟩ | cases h
  · rintro ⟨m, s, l, c, rfl, h⟩; exact h
theorem oLoop_t {u : Bool} {o : AO} {f : ALoop → Bool} : oLoop u o f = true ↔ ∃ L, o = .loop u L ∧ f L = true := by
  constructor
  · intro h
    cases o with
    | loop b L => obtain ⟨h1, h2⟩ := and_t.1 h; refine ⟨L, ?_, h2⟩; cases b <;> cases u <;> first | rfl | cases h1
    | _ => cases h
  · rintro ⟨L, rfl, h⟩; cases u <;> exact and_t.2 ⟨rfl, h⟩
theorem asRow_t {A : AH} {b : Pa} {f : Nat → Nat → Tr (List AV) → Bool} : asRow A b f = true ↔ ∃ s n t, A.get b = some (.row s n t) ∧ f s n t = true := by
  unfold asRow
  rw [optK_t]
  constructor
  · rintro ⟨o, ho, h⟩; obtain ⟨s, n, t, rfl, hf⟩ := oRow_t.1 h; exact ⟨s, n, t, ho, hf⟩
  · rintro ⟨s, n, t, ho, hf⟩; exact ⟨_, ho, oRow_t.2 ⟨s, n, t, rfl, hf⟩⟩
theorem asRowW_t {A : AH} {b : Pa} {f : Nat → Nat → Tr (List AV) → Bool} : asRowW A b f = true ↔ rom b = false ∧ ∃ s n t, A.get b = some (.row s n t) ∧ f s n t = true := by
  unfold asRowW
  rw [and_t, asRow_t]
  cases rom b <;> simp
theorem elemK_t {i n : Nat} {t : Tr (List AV)} {f : List AV → Bool} : elemK i n t f = true ↔ i < n ∧ ∃ c, t.get i = some c ∧ f c = true := by
  simp only [elemK, Bool.and_eq_true, optK_t, Nat.blt_eq]
theorem cellsK_t {s : Nat} {v : AV} {f : List AV → Bool} : cellsK s v f = true ↔ ∃ c, cellsO v = some c ∧ c.length = s ∧ f c = true := by
  simp only [cellsK, optK_t, Bool.and_eq_true, beq_t]
theorem kEq_t {j k : IntKind} : kEq j k = true ↔ j = k := by cases j <;> cases k <;> simp [kEq, kNum]

theorem nth_get {α : Type} (l : List α) (n : Nat) : nth l n = l[n]? := by
  induction l generalizing n with
  | nil => rfl
  | cons x xs ih =>
    show (cond (Nat.beq n 0) (some x) (nth xs (n - 1))) = _
    cases n with
    | zero => rfl
    | succ n => exact ih n
theorem dropN_eq {α : Type} : ∀ (n : Nat) (l r : List α), dropN n l = some r → r = l.drop n ∧ n ≤ l.length
  | 0, l, r, h => by simp [dropN] at h; simp [h]
  | n + 1, [], r, h => by simp [dropN] at h
  | n + 1, x :: xs, r, h => by
    have := dropN_eq n xs r (by simpa [dropN] using h)
    simpa using this
theorem takeN_eq {α : Type} : ∀ (n : Nat) (l r : List α), takeN n l = some r → r = l.take n ∧ n ≤ l.length
  | 0, l, r, h => by simp [takeN] at h; simp [h]
  | n + 1, [], r, h => by simp [takeN] at h
  | n + 1, x :: xs, r, h => by
    simp only [takeN] at h
    split at h
    · rename_i l' hl
      have := takeN_eq n xs l' hl
      simp at h
      subst h
      simp [this.1, this.2]
    · cases h
theorem sub_eq {α : Type} {off n : Nat} {l r : List α} (h : sub off n l = some r) : r = (l.drop off).take n ∧ off + n ≤ l.length := by
  unfold sub at h
  split at h
  · rename_i d hd
    obtain ⟨rfl, h1⟩ := dropN_eq _ _ _ hd
    obtain ⟨rfl, h2⟩ := takeN_eq _ _ _ h
    simp at h2
    exact ⟨rfl, by omega⟩
  · cases h
theorem setAt_eq {α : Type} : ∀ (off : Nat) (xs c r : List α), setAt off xs c = some r → r = c.take off ++ xs ++ c.drop (off + xs.length) ∧ off + xs.length ≤ c.length
  | 0, [], c, r, h => by simp [setAt] at h; simp [h]
  | 0, x :: xs, [], r, h => by simp [setAt] at h
  | 0, x :: xs, y :: c, r, h => by
    simp only [setAt] at h
    split at h
    · rename_i l hl
      have := setAt_eq 0 xs c l hl
      simp at h; subst h
      simp [this.1]
      have := this.2
      simp at this
      omega
    · cases h
  | n + 1, xs, [], r, h => by simp [setAt] at h
  | n + 1, xs, y :: c, r, h => by
    simp only [setAt] at h
    split at h
    · rename_i l hl
      have := setAt_eq n xs c l hl
      simp at h; subst h
      have h2 := this.2
      refine ⟨?_, by simp; omega⟩
      rw [this.1]
      simp [show n + 1 + xs.length = (n + xs.length) + 1 by omega]
    · cases h

/- slots -/
def evT (tmps : Array Value) : Operand → Value := Act.eval ⟨tmps, []⟩

theorem getE_lt {t : Nat} {f : Ev} (h : getE t = some f) : t / 16 < 16 := by
  unfold getE at h
  split at h
  · rename_i a b ha hb
    rw [nth_get] at ha
    have := (List.getElem?_eq_some_iff.1 ha).1
    have h16 : (G16.gets (G16 AV)).length = 16 := rfl
    rw [h16] at this
    exact this
  · cases h

theorem gets_sets {α : Type} : ∀ i j (g : G16 α → α) (s : α → G16 α → G16 α), nth (G16.gets α) i = some g → nth (G16.sets α) j = some s → ∀ v x, g (s v x) = if i = j then v else g x := by
  intro i j g s hg hs v x
  rw [nth_get] at hg hs
  have hi := (List.getElem?_eq_some_iff.1 hg).1
  have hj := (List.getElem?_eq_some_iff.1 hs).1
  have hi' : i < 16 := by simpa [G16.gets] using hi
  have hj' : j < 16 := by simpa [G16.sets] using hj
  cases x
  have hi2 : i = 0 ∨ i = 1 ∨ i = 2 ∨ i = 3 ∨ i = 4 ∨ i = 5 ∨ i = 6 ∨ i = 7 ∨ i = 8 ∨ i = 9 ∨ i = 10 ∨ i = 11 ∨ i = 12 ∨ i = 13 ∨ i = 14 ∨ i = 15 := by omega
  have hj2 : j = 0 ∨ j = 1 ∨ j = 2 ∨ j = 3 ∨ j = 4 ∨ j = 5 ∨ j = 6 ∨ j = 7 ∨ j = 8 ∨ j = 9 ∨ j = 10 ∨ j = 11 ∨ j = 12 ∨ j = 13 ∨ j = 14 ∨ j = 15 := by omega
  rcases hj2 with rfl | rfl | rfl | rfl | rfl | rfl | rfl | rfl | rfl | rfl | rfl | rfl | rfl | rfl | rfl | rfl <;>
    (cases Option.some.inj hs
     rcases hi2 with rfl | rfl | rfl | rfl | rfl | rfl | rfl | rfl | rfl | rfl | rfl | rfl | rfl | rfl | rfl | rfl <;> (cases Option.some.inj hg; rfl))

theorem getE_setE {t u : Nat} {f : Ev} {s : Up} (hf : getE t = some f) (hs : setE u = some s) (v : AV) (e : Env) : f (s v e) = if t = u then v else f e := by
  unfold getE at hf
  unfold setE at hs
  split at hf
  · rename_i a b ha hb
    split at hs
    · rename_i a' c d ha' hc hd
      cases hf; cases hs
      have h1 := gets_sets (Nat.div t 16) (Nat.div u 16) a c ha hc
      have h2 := gets_sets (Nat.mod t 16) (Nat.mod u 16) b d hb hd
      show b (a (c (d v (a' e)) e)) = if t = u then v else b (a e)
      rw [h1]
      by_cases hq : Nat.div t 16 = Nat.div u 16
      · rw [if_pos hq, h2]
        have : a' = a := by rw [hq] at ha; rw [ha] at ha'; exact (Option.some.inj ha').symm
        subst this
        by_cases hr : Nat.mod t 16 = Nat.mod u 16
        · have : t = u := by
            have h3 : t / 16 = u / 16 := hq
            have h4 : t % 16 = u % 16 := hr
            omega
          simp [this]
        · have : t ≠ u := fun e => hr (by rw [e])
          simp [hr, this]
      · have : t ≠ u := fun e => hq (by rw [e])
        simp [hq, this]
    · cases hs
  · cases hf

theorem RelV.set {V V' : Nat → Prop} {σ : Sub} {n : Nat} {e : Env} {tmps : Array Value} (r : RelV V σ n e tmps) {u : Nat} {s : Up} (hs : setE u = some s) (hu : u < n) (hV : ∀ t, V' t → t = u ∨ V t) {v : AV} {x : Value} (hv : VRel σ v x) : RelV V' σ n (s v e) (tmps.setIfInBounds u x) := by
  refine ⟨by simpa using r.size, fun t f ht hf => ?_⟩
  rw [getE_setE hf hs]
  have hlt : u < tmps.size := Nat.lt_of_lt_of_le hu r.size
  by_cases h : t = u
  · subst h; simpa [hlt] using hv
  · have := r.slot t f ((hV t ht).resolve_left h) hf
    simpa [h, Ne.symm h, Array.getD_eq_getD_getElem?, Array.getElem?_setIfInBounds_ne (Ne.symm h)] using this
end Go.Ai
