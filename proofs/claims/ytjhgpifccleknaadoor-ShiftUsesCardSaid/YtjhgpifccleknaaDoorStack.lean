/- The stack of numbers by which a term is walked from the root on: it never runs empty, never grows above the nodes that are left, and its top is the node's number of binders. Plain lists; no function of the program is named here. -/
import Derived.Test.YtjhgpifccleknaaDoorTreeE
import Derived.Test.YtjhgpifccleknaaDoorMany
namespace Go.Proofs.YtjhgpifccleknaaDoor
set_option linter.unusedSimpArgs false
set_option linter.unusedVariables false

theorem vrun_get (l : List Nd) : ∀ (o : List Nat) (j : Nat), j < l.length → (vrun o l)[j]? = some ((vend o (l.take j)).headD 0) := by
  induction l with
  | nil => intro o j h; simp at h
  | cons n r ih =>
    intro o j h
    cases j with
    | zero => simp [vrun, vend]
    | succ j =>
      simp only [vrun, List.getElem?_cons_succ, List.take_succ_cons, vend]
      exact ih _ j (by simpa using h)
theorem vend_under (l : List Nd) : ∀ (s o : List Nat), (∀ i, i < l.length → vend s (l.take i) ≠ []) → vend (s ++ o) l = vend s l ++ o ∧ vrun (s ++ o) l = vrun s l := by
  induction l with
  | nil => intro s o _; simp [vend, vrun]
  | cons n r ih =>
    intro s o h
    have h0 := h 0 (by simp)
    cases s with
    | nil => simp [vend] at h0
    | cons x s =>
      have e : vstep (x :: s ++ o) n = vstep (x :: s) n ++ o := by simp [vstep]
      have := ih (vstep (x :: s) n) o (fun i hi => by have := h (i + 1) (by simpa using hi); simpa [vend] using this)
      simp only [vend, vrun, e, this.1, this.2]
      simp
theorem vend_len (l : List Nd) : ∀ (o : List Nat), o.length ≤ (vend o l).length + l.length := by
  induction l with
  | nil => intro o; simp [vend]
  | cons n r ih =>
    intro o
    have := ih (vstep o n)
    have h2 : o.length ≤ (vstep o n).length + 1 := by simp [vstep]; omega
    simp only [vend, List.length_cons]
    omega

/-- the stack behind j nodes, the last node first -/
def stk (T : Tm) (j : Nat) : List Nat := vend [0] (T.flat.reverse.take j)

theorem stk_ne {T : Tm} (hw : T.wf = true) : ∀ j, j < T.flat.length → stk T j ≠ [] := by
  intro j
  induction j using Nat.strongRecOn with
  | _ j ih =>
    intro hj he
    have hu := vend_under (T.flat.reverse.take j) [0] [1] (fun i hi => by
      have hij : i < j := by simp at hi; omega
      have := ih i hij (by omega)
      unfold stk at this
      rwa [List.take_take, Nat.min_eq_left (by omega)])
    unfold stk at he
    rw [he] at hu
    have e : T.flat.reverse = T.flat.reverse.take j ++ T.flat.reverse.drop j := (List.take_append_drop _ _).symm
    have h1 := (vrun_flat T hw 0 []).1
    have h2 := (vrun_flat T hw 0 [1]).1
    rw [← h1, e, vrun_append, vrun_append, he] at h2
    have e3 : (0 : Nat) :: [1] = [0] ++ [1] := rfl
    rw [e3, hu.2, hu.1] at h2
    have h3 := List.append_cancel_left h2
    cases hd : T.flat.reverse.drop j with
    | nil =>
      have := congrArg List.length hd
      simp at this
      omega
    | cons n r =>
      rw [hd] at h3
      simp [vrun] at h3
theorem stk_len {T : Tm} (hw : T.wf = true) (j : Nat) (hj : j ≤ T.flat.length) : (stk T j).length ≤ T.flat.length - j := by
  have e : T.flat.reverse = T.flat.reverse.take j ++ T.flat.reverse.drop j := (List.take_append_drop _ _).symm
  have h1 := (vrun_flat T hw 0 []).2
  rw [e, vend_append] at h1
  have := vend_len (T.flat.reverse.drop j) (vend [0] (T.flat.reverse.take j))
  rw [h1] at this
  simp at this
  exact this
theorem stk_zero (T : Tm) : stk T 0 = [0] := rfl
theorem rev_at {T : Tm} {j : Nat} (hj : j < T.flat.length) : T.flat.reverse[j]'(by simpa using hj) = T.flat[T.flat.length - 1 - j] := by simp
theorem stk_step {T : Tm} {j : Nat} (hj : j < T.flat.length) : stk T (j + 1) = vstep (stk T j) T.flat[T.flat.length - 1 - j] := by
  unfold stk
  rw [List.take_add_one, List.getElem?_eq_getElem (by simpa using hj), rev_at hj, vend_append]
  rfl
theorem und_get {T : Tm} (hw : T.wf = true) {j : Nat} (hj : j < T.flat.length) : (T.und 0)[T.flat.length - 1 - j]? = some ((stk T j).headD 0) := by
  have h1 := (vrun_flat T hw 0 []).1
  have h2 := vrun_get T.flat.reverse [0] j (by simpa using hj)
  rw [h1, List.getElem?_reverse (by rw [und_length]; exact hj), und_length] at h2
  exact h2

theorem bnds_two {n : Nd} (hr : rightB n = true) : ∀ x, x ∈ bnds n → x ≤ 2 := by
  obtain ⟨k, hK, hk⟩ := right_kind hr
  intro x hx
  unfold bnds at hx
  split at hx
  · obtain ⟨_, rfl⟩ := List.mem_replicate.1 hx; omega
  · split at hx
    · rcases List.mem_cons.1 hx with rfl | hx
      · omega
      · obtain ⟨_, rfl⟩ := List.mem_replicate.1 hx; omega
    · rw [hK] at hx
      simp only [Int.toNat_natCast] at hx
      have h : ∀ k, k < 30 → ∀ x, x ∈ (shp k).1 → x ≤ 2 := by decide
      exact h k hk x hx
theorem flat_right : ∀ (t : Tm), t.wf = true → ∀ n, n ∈ t.flat → rightB n = true := by
  refine Tm.ind ?_
  intro n l ih hw x hx
  obtain ⟨h1, h2, h3⟩ := wf_iff.1 hw
  rw [flat_mk] at hx
  rcases List.mem_append.1 hx with hx | hx
  · have hl : ∀ l : List Tm, (∀ t, t ∈ l → ∀ n, n ∈ t.flat → rightB n = true) → ∀ n, n ∈ flatL l → rightB n = true := by
      intro l
      induction l with
      | nil => intro _ n hn; rw [flatL_nil] at hn; cases hn
      | cons t r ihr =>
        intro h n hn
        rw [flatL_cons] at hn
        rcases List.mem_append.1 hn with hn | hn
        · exact h t (by simp) n hn
        · exact ihr (fun t ht => h t (by simp [ht])) n hn
    exact hl l (fun t ht => ih t ht (h3 t ht)) x hx
  · simp at hx
    subst hx
    exact h1
theorem stk_bound {T : Tm} (hw : T.wf = true) : ∀ j, j ≤ T.flat.length → ∀ x, x ∈ stk T j → x ≤ 2 * j := by
  intro j
  induction j with
  | zero => intro _ x hx; rw [stk_zero] at hx; simp at hx; omega
  | succ j ih =>
    intro hj x hx
    rw [stk_step (by omega)] at hx
    unfold vstep at hx
    rcases List.mem_append.1 hx with hx | hx
    · rw [List.mem_reverse] at hx
      obtain ⟨b, hb, rfl⟩ := List.mem_map.1 hx
      have h1 := bnds_two (flat_right T hw _ (List.getElem_mem (by omega))) b hb
      have h2 : (stk T j).headD 0 ≤ 2 * j := by
        cases hs : stk T j with
        | nil => simp
        | cons y r => simp only [List.headD_cons]; exact ih (by omega) y (by rw [hs]; simp)
      omega
    · have := ih (by omega) x (List.mem_of_mem_tail hx)
      omega

end Go.Proofs.YtjhgpifccleknaaDoor
