/- What is measured of a row of nodes: of each node where its term begins and how deep it is, by a stack of both. Plain; no function of the program is named here. -/
import Derived.Test.YtjhgpifccleknaaDoorTreeD
namespace Go.Proofs.YtjhgpifccleknaaDoor
set_option linter.unusedSimpArgs false
set_option linter.unusedVariables false

/-- where each of the terms in a row begins (the first one at p), and how deep it is -/
def opn : Nat → List Tm → List (Nat × Nat)
  | _, [] => []
  | p, t :: r => (p, t.dep) :: opn (p + t.flat.length) r

theorem opn_append (p : Nat) (a b : List Tm) : opn p (a ++ b) = opn p a ++ opn (p + (flatL a).length) b := by
  induction a generalizing p with
  | nil => simp [opn, flatL_nil]
  | cons t r ih => simp [opn, flatL_cons, ih, Nat.add_assoc]
theorem opn_length (p : Nat) (a : List Tm) : (opn p a).length = a.length := by
  induction a generalizing p with
  | nil => rfl
  | cons t r ih => simp [opn, ih]

/-- of a stack (its top first): the row of measures, the last one behind -/
def opens (st : List Tm) : List (Nat × Nat) := opn 0 st.reverse
theorem opens_length (st : List Tm) : (opens st).length = st.length := by simp [opens, opn_length]

/-- one measure out of those of the parts -/
def mstep (i : Nat) (ch : List (Nat × Nat)) : Nat × Nat := ((ch.headD (i, 0)).1, ch.foldl (fun d x => max d (x.2 + 1)) 1)

theorem fold_dep (p : Nat) (l : List Tm) (d : Nat) : (opn p l).foldl (fun d x => max d (x.2 + 1)) d = max d (if l = [] then 0 else depL l + 1) := by
  induction l generalizing p d with
  | nil => simp [opn]
  | cons t r ih =>
    simp only [opn, List.foldl_cons, ih, depL_cons]
    by_cases h : r = []
    · subst h
      simp [depL_nil]
    · simp [h]

theorem mstep_opn (p : Nat) (l : List Tm) (n : Nd) : mstep (p + (flatL l).length) (opn p l) = (p, (Tm.mk n l).dep) := by
  unfold mstep
  rw [fold_dep, dep_mk]
  congr 1
  · cases l with
    | nil => simp [opn, flatL_nil]
    | cons t r => simp [opn]
  · split
    · rename_i h
      subst h
      rw [depL_nil]
      omega
    · omega

/-- the step of the stack of measures -/
theorem opens_step {st : List Tm} {n : Nd} (i : Nat) (hi : (flatL st.reverse).length = i) :
    opens (.mk n (st.take (arity n)).reverse :: st.drop (arity n)) = (opens st).take (st.length - arity n) ++ [mstep i ((opens st).drop (st.length - arity n))] := by
  have e : st.reverse = (st.drop (arity n)).reverse ++ (st.take (arity n)).reverse := by rw [← List.reverse_append, List.take_append_drop]
  have el : ((opn 0 (st.drop (arity n)).reverse)).length = st.length - arity n := by rw [opn_length]; simp
  unfold opens
  rw [List.reverse_cons, opn_append, e, opn_append, ← el, List.take_left, List.drop_left]
  congr 1
  rw [Nat.zero_add]
  have hl : i = (flatL (st.drop (arity n)).reverse).length + (flatL (st.take (arity n)).reverse).length := by
    rw [← hi, e, flatL_append, List.length_append]
  rw [hl, mstep_opn _ _ n]
  simp [opn]

/-- the measure of the node at i -/
def topm (l : List Nd) (i : Nat) : Nat × Nat := match prun [] (l.take (i + 1)) with
  | some (t :: _) => (i + 1 - t.flat.length, t.dep)
  | _ => (0, 0)

theorem topm_of {l : List Nd} {i : Nat} {t : Tm} {st : List Tm} (h : prun [] (l.take (i + 1)) = some (t :: st)) (hi : i < l.length) : topm l i = ((flatL st.reverse).length, t.dep) := by
  have hs := prun_sound h (fun t ht => by cases ht)
  unfold topm
  rw [h]
  simp only
  congr 1
  have h2 := hs.2
  rw [List.reverse_cons, flatL_append, flatL_one] at h2
  have h3 := congrArg List.length h2
  simp [flatL_nil] at h3
  omega

theorem prun_take {l : List Nd} {st : List Tm} {i : Nat} (hi : i < l.length) (h : prun [] (l.take i) = some st) : prun [] (l.take (i + 1)) = pstep st l[i] := by
  rw [List.take_add_one, List.getElem?_eq_getElem hi]
  show prun [] (l.take i ++ [l[i]]) = _
  rw [prun_snoc, h]
  rfl

theorem prun_none {l : List Nd} {i : Nat} (h : prun [] (l.take i) = none) : prun [] l = none := by
  have : l = l.take i ++ l.drop i := (List.take_append_drop i l).symm
  rw [this, prun_append, h]
  rfl

/-- a step of a stack that is one: the measure that it lays -/
theorem topm_step {l : List Nd} {st : List Tm} {i : Nat} (hi : i < l.length) (h : prun [] (l.take i) = some st) (h1 : rightB l[i] = true) (h2 : arity l[i] ≤ st.length) :
    topm l i = mstep i ((opens st).drop (st.length - arity l[i])) ∧
    prun [] (l.take (i + 1)) = some (.mk l[i] (st.take (arity l[i])).reverse :: st.drop (arity l[i])) ∧
    opens (.mk l[i] (st.take (arity l[i])).reverse :: st.drop (arity l[i])) = (opens st).take (st.length - arity l[i]) ++ [topm l i] := by
  have hs := prun_sound h (fun t ht => by cases ht)
  have hlen : (flatL st.reverse).length = i := by
    rw [hs.2]
    simp [flatL_nil]
    omega
  have hp : prun [] (l.take (i + 1)) = some (.mk l[i] (st.take (arity l[i])).reverse :: st.drop (arity l[i])) := by
    rw [prun_take hi h]
    unfold pstep
    rw [if_pos ⟨h1, h2⟩]
  have hst := opens_step (n := l[i]) i hlen
  have ht := topm_of hp hi
  have hm : topm l i = mstep i ((opens st).drop (st.length - arity l[i])) := by
    have h3 := congrArg List.getLast? hst
    rw [List.getLast?_concat] at h3
    unfold opens at h3
    rw [List.reverse_cons, opn_append] at h3
    simp only [opn, List.getLast?_concat, Nat.zero_add] at h3
    rw [ht]
    exact Option.some.inj h3
  exact ⟨hm, hp, by rw [hm]; exact hst⟩

/-- of a tree: the measures where its parts end -/
theorem topm_part {n : Nd} {cs : List Tm} (hw : (Tm.mk n cs).wf = true) {j : Nat} (hj : j < cs.length) :
    topm (Tm.mk n cs).flat ((flatL (cs.take (j + 1))).length - 1) = ((flatL (cs.take j)).length, cs[j].dep) := by
  obtain ⟨h1, h2, h3⟩ := wf_iff.1 hw
  have e1 : flatL (cs.take (j + 1)) = flatL (cs.take j) ++ cs[j].flat := by
    rw [List.take_add_one, List.getElem?_eq_getElem hj]
    show flatL (cs.take j ++ [cs[j]]) = _
    rw [flatL_append, flatL_one]
  have hpos : 0 < (flatL (cs.take (j + 1))).length := by
    rw [e1, List.length_append]
    have := flat_pos cs[j]
    omega
  have e2 : (Tm.mk n cs).flat = flatL (cs.take (j + 1)) ++ (flatL (cs.drop (j + 1)) ++ [n]) := by
    rw [flat_mk, ← List.append_assoc, ← flatL_append, List.take_append_drop]
  have e3 : (Tm.mk n cs).flat.take ((flatL (cs.take (j + 1))).length - 1 + 1) = flatL (cs.take (j + 1)) := by
    rw [Nat.sub_add_cancel hpos, e2, List.take_left]
  have hp : prun [] ((Tm.mk n cs).flat.take ((flatL (cs.take (j + 1))).length - 1 + 1)) = some (cs[j] :: (cs.take j).reverse) := by
    rw [e3, prun_flatL _ (fun t ht => h3 t (List.mem_of_mem_take ht))]
    rw [List.take_add_one, List.getElem?_eq_getElem hj]
    simp
  rw [topm_of hp (by rw [e2, List.length_append]; omega), List.reverse_reverse]

theorem topm_root {t : Tm} (hw : t.wf = true) : topm t.flat (t.flat.length - 1) = (0, t.dep) := by
  have hpos := flat_pos t
  have hp : prun [] (t.flat.take (t.flat.length - 1 + 1)) = some [t] := by
    rw [Nat.sub_add_cancel hpos, List.take_length, prun_flat t hw]
  rw [topm_of hp (by omega)]
  rfl

/-- the depths of what waits for a root never pass that of the whole -/
theorem prun_dep {l : List Nd} : ∀ {st st' : List Tm}, prun st l = some st' → ∀ t, t ∈ st → ∃ t', t' ∈ st' ∧ t.dep ≤ t'.dep := by
  induction l with
  | nil => intro st st' h t ht; cases h; exact ⟨t, ht, Nat.le_refl _⟩
  | cons n r ih =>
    intro st st' h t ht
    simp only [prun] at h
    cases hp : pstep st n with
    | none => rw [hp] at h; cases h
    | some s1 =>
      rw [hp] at h
      have : ∃ t', t' ∈ s1 ∧ t.dep ≤ t'.dep := by
        unfold pstep at hp
        split at hp
        · cases hp
          rw [← List.take_append_drop (arity n) st] at ht
          rcases List.mem_append.1 ht with ht | ht
          · refine ⟨_, List.mem_cons_self, ?_⟩
            rw [dep_mk]
            have := dep_le_depL (List.mem_reverse.2 ht)
            omega
          · exact ⟨t, List.mem_cons_of_mem _ ht, Nat.le_refl _⟩
        · cases hp
      obtain ⟨t1, h1, h2⟩ := this
      obtain ⟨t2, h3, h4⟩ := ih h t1 h1
      exact ⟨t2, h3, by omega⟩

end Go.Proofs.YtjhgpifccleknaaDoor
