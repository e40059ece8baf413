/- Plain: what a substitution makes of each node ('outN', 'errN'), how it is gathered from the root on, and that nothing is under more binders than twice the depth. No function of the program is named here. -/
import Derived.Test.YtjhgpifccleknaaDoorShLaw
namespace Go.Proofs.YtjhgpifccleknaaDoor
set_option linter.unusedSimpArgs false
set_option linter.unusedVariables false

/-- how many binders a node can be under -/
theorem und_depth : ∀ (t : Tm), t.wf = true → ∀ (u x : Nat), x ∈ t.und u → x + 2 ≤ u + 2 * t.dep := by
  refine Tm.ind ?_
  intro n l ih hw u x hx
  obtain ⟨h1, h2, h3⟩ := wf_iff.1 hw
  rw [und_mk] at hx
  rw [dep_mk]
  rcases List.mem_append.1 hx with hx | hx
  · have hl : ∀ (l : List Tm), (∀ t, t ∈ l → ∀ (u x : Nat), x ∈ t.und u → x + 2 ≤ u + 2 * t.dep) → ∀ (bs : List Nat), (∀ b, b ∈ bs → b ≤ 2) → x ∈ undL l bs u → x + 2 ≤ u + 2 + 2 * depL l := by
      intro l
      induction l with
      | nil => intro _ bs _ hx; rw [undL_nil] at hx; cases hx
      | cons t r ihr =>
        intro h bs hb hx
        rw [undL_cons] at hx
        rw [depL_cons]
        rcases List.mem_append.1 hx with hx | hx
        · have h4 := h t (by simp) _ x hx
          have h5 : bs.headD 0 ≤ 2 := by
            cases bs with
            | nil => simp
            | cons b r => exact hb b (by simp)
          omega
        · have h4 := ihr (fun t ht => h t (by simp [ht])) bs.tail (fun b hb' => hb b (List.mem_of_mem_tail hb')) hx
          omega
    have := hl l (fun t ht => ih t ht (h3 t ht)) (bnds n) (bnds_two h1) hx
    omega
  · simp at hx
    omega
theorem stk_small {T : Tm} (hw : T.wf = true) (hd : T.dep ≤ 60) {j : Nat} (hj : j < T.flat.length) : (stk T j).headD 0 ≤ 118 := by
  have h := und_get hw hj
  have := und_depth T hw 0 _ (List.mem_of_getElem? h)
  omega

/-! ### what is put -/
section
variable (pU : Int → Option (List Nd)) (pB : Int → Nat → Int)
def outN (n : Nd) (x : Nat) : List Nd :=
  if n.K = 0 ∧ (x : Int) ≤ n.N then (match pU (n.N - x) with | some U => shiftL (pB (n.N - x) x) 0 U | none => [{ n with N := n.N - pB (n.N - x) x }]) else [n]
def errN (n : Nd) (x : Nat) : Int :=
  if n.K = 0 ∧ (x : Int) ≤ n.N then (match pU (n.N - x) with | some U => shiftE (pB (n.N - x) x) 0 U | none => 0) else 0
theorem outN_non {n : Nd} {x : Nat} (h : ¬ (n.K = 0 ∧ (x : Int) ≤ n.N)) : outN pU pB n x = [n] := if_neg h
theorem errN_non {n : Nd} {x : Nat} (h : ¬ (n.K = 0 ∧ (x : Int) ≤ n.N)) : errN pU pB n x = 0 := if_neg h
theorem outN_none {n : Nd} {x : Nat} (h : n.K = 0 ∧ (x : Int) ≤ n.N) (hu : pU (n.N - x) = none) : outN pU pB n x = [{ n with N := n.N - pB (n.N - x) x }] := by
  unfold outN; rw [if_pos h, hu]
theorem errN_none {n : Nd} {x : Nat} (h : n.K = 0 ∧ (x : Int) ≤ n.N) (hu : pU (n.N - x) = none) : errN pU pB n x = 0 := by
  unfold errN; rw [if_pos h, hu]
theorem outN_some {n : Nd} {x : Nat} {U : List Nd} (h : n.K = 0 ∧ (x : Int) ≤ n.N) (hu : pU (n.N - x) = some U) : outN pU pB n x = shiftL (pB (n.N - x) x) 0 U := by
  unfold outN; rw [if_pos h, hu]
theorem errN_some {n : Nd} {x : Nat} {U : List Nd} (h : n.K = 0 ∧ (x : Int) ≤ n.N) (hu : pU (n.N - x) = some U) : errN pU pB n x = shiftE (pB (n.N - x) x) 0 U := by
  unfold errN; rw [if_pos h, hu]

/-- the nodes that the last j nodes have become, the last one first -/
def outR (T : Tm) (j : Nat) : List Nd := ((T.zw (outN pU pB) 0).drop (T.flat.length - j)).flatten.reverse
theorem outR_zero (T : Tm) : outR pU pB T 0 = [] := by
  unfold outR
  rw [Nat.sub_zero, List.drop_of_length_le (by rw [zw_length]; exact Nat.le_refl _)]
  rfl
theorem outR_all (T : Tm) : outR pU pB T T.flat.length = (T.zw (outN pU pB) 0).flatten.reverse := by unfold outR; rw [Nat.sub_self]; rfl
theorem drop_step {β : Type} (g : Nd → Nat → β) {T : Tm} (hw : T.wf = true) {j : Nat} (hj : j < T.flat.length) :
    (T.zw g 0).drop (T.flat.length - (j + 1)) = g (T.flat[T.flat.length - 1 - j]) ((stk T j).headD 0) :: (T.zw g 0).drop (T.flat.length - j) := by
  have hl : T.flat.length - 1 - j < (T.zw g 0).length := by rw [zw_length]; omega
  have h := zw_get g hw hj
  rw [List.getElem?_eq_getElem hl] at h
  have e : T.flat.length - (j + 1) = T.flat.length - 1 - j := by omega
  have e2 : T.flat.length - 1 - j + 1 = T.flat.length - j := by omega
  rw [e, List.drop_eq_getElem_cons hl, e2, Option.some.inj h]
theorem outR_step {T : Tm} (hw : T.wf = true) {j : Nat} (hj : j < T.flat.length) : outR pU pB T (j + 1) = outR pU pB T j ++ (outN pU pB (T.flat[T.flat.length - 1 - j]) ((stk T j).headD 0)).reverse := by
  unfold outR
  rw [drop_step _ hw hj, List.flatten_cons, List.reverse_append]
/-- no error among the last j nodes -/
def noE (T : Tm) (j : Nat) : Prop := ∀ e, e ∈ (T.zw (errN pU pB) 0).drop (T.flat.length - j) → e = 0
theorem noE_zero (T : Tm) : noE pU pB T 0 := by
  intro e he
  rw [Nat.sub_zero, List.drop_of_length_le (by rw [zw_length]; exact Nat.le_refl _)] at he
  cases he
theorem noE_step {T : Tm} (hw : T.wf = true) {j : Nat} (hj : j < T.flat.length) (h : noE pU pB T j) (h0 : errN pU pB (T.flat[T.flat.length - 1 - j]) ((stk T j).headD 0) = 0) : noE pU pB T (j + 1) := by
  intro e he
  rw [drop_step _ hw hj] at he
  rcases List.mem_cons.1 he with rfl | he
  · exact h0
  · exact h e he
theorem noE_all {T : Tm} (h : noE pU pB T T.flat.length) : fstE (T.zw (errN pU pB) 0) = 0 := by
  refine fstE_zero.2 fun e he => h e ?_
  rw [Nat.sub_self]
  exact he
theorem errN_mem {T : Tm} (hw : T.wf = true) {j : Nat} (hj : j < T.flat.length) : errN pU pB (T.flat[T.flat.length - 1 - j]) ((stk T j).headD 0) ∈ T.zw (errN pU pB) 0 :=
  List.mem_of_getElem? (zw_get (errN pU pB) hw hj)

/-- the error, and what is made -/
def putE (T : Tm) : Int := if fstE (T.zw (errN pU pB) 0) = 0 then chk (T.zw (outN pU pB) 0).flatten else fstE (T.zw (errN pU pB) 0)
def putL (T : Tm) : List Nd := if putE pU pB T = 0 then (T.zw (outN pU pB) 0).flatten else []
end

theorem fstE_two {l : List Int} (h : ∀ e, e ∈ l → e = 0 ∨ e = 2) : fstE l = 0 ∨ fstE l = 2 := by
  induction l with
  | nil => exact .inl rfl
  | cons e r ih =>
    rw [fstE_cons]
    by_cases h0 : e = 0
    · rw [if_pos h0]; exact ih fun e he => h e (by simp [he])
    · rw [if_neg h0]
      rcases h e (by simp) with h | h
      · exact absurd h h0
      · exact .inr h
theorem fstE_hit {l : List Int} (h : ∀ e, e ∈ l → e = 0 ∨ e = 2) {e : Int} (he : e ∈ l) (hn : e ≠ 0) : fstE l = e := by
  have h2 : e = 2 := (h e he).resolve_left hn
  rcases fstE_two h with h3 | h3
  · exact absurd (fstE_zero.1 h3 e he) hn
  · rw [h3, h2]
/-- the error of a shift of a term that is one, by nothing less than 0, from 0 on -/
theorem shift_two {b : Int} (hb : 0 ≤ b) {l : List Nd} (hc : chk l = 0) : shiftE b 0 l = 0 ∨ shiftE b 0 l = 2 := by
  obtain ⟨_, T, hw, _⟩ := chk_ok hc
  rw [shiftE_of hc hw]
  refine fstE_two fun e he => ?_
  rw [zw_prs] at he
  obtain ⟨p, hp, rfl⟩ := List.mem_map.1 he
  unfold shE
  split
  · rename_i h
    rw [if_neg (by omega)]
    split
    · exact .inr rfl
    · exact .inl rfl
  · exact .inl rfl
theorem errN_two {pU : Int → Option (List Nd)} {pB : Int → Nat → Int} (hU : ∀ v U, pU v = some U → chk U = 0) (hB : ∀ v x, 0 ≤ pB v x) {T : Tm} {u : Nat} : ∀ e, e ∈ T.zw (errN pU pB) u → e = 0 ∨ e = 2 := by
  intro e he
  rw [zw_prs] at he
  obtain ⟨p, hp, rfl⟩ := List.mem_map.1 he
  unfold errN
  split
  · cases hu : pU (p.1.N - p.2) with
    | none => exact .inl rfl
    | some U => exact shift_two (hB _ _) (hU _ _ hu)
  · exact .inl rfl
theorem shiftL_len {b k : Int} (hk : 0 ≤ k) {l : List Nd} : (shiftL b k l).length ≤ l.length := by
  by_cases h : shiftE b k l = 0
  · obtain ⟨_, _, _, _, _, h2, _⟩ := shiftL_fine hk h
    omega
  · rw [shiftL_bad h]; simp

end Go.Proofs.YtjhgpifccleknaaDoor
