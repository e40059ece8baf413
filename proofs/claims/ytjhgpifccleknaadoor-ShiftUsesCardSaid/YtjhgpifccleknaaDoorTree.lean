/- The document's terms as trees: a row of nodes, each behind its parts, is read by a stack ('prun'); what it reads is one tree or none ('whole'). Nodes from the root on, with how many binders each is under, by a stack of numbers ('vrun'). No function of the program is named here: plain lists. -/
namespace Go.Proofs.YtjhgpifccleknaaDoor
set_option linter.unusedSimpArgs false
set_option linter.unusedVariables false

structure Nd where
  K : Int
  N : Int
  M : Int
  S : ByteArray

/-- a letter, or the low line -/
def letterB (c : UInt8) : Bool := (decide (97 ≤ c.toNat) && decide (c.toNat ≤ 122)) || (decide (65 ≤ c.toNat) && decide (c.toNat ≤ 90)) || c.toNat == 95
def digitB (c : UInt8) : Bool := decide (48 ≤ c.toNat) && decide (c.toNat ≤ 57)
def nameL (l : List UInt8) : Bool := decide (1 ≤ l.length) && decide (l.length ≤ 16) && letterB (l.headD 0) && l.all (fun c => letterB c || digitB c)
def nameB (s : ByteArray) : Bool := nameL s.data.toList

/-- binders of a kind's parts, and which of the fields N, M, S it has -/
def shp : Nat → List Nat × Bool × Bool × Bool
  | 0 => ([], true, false, false)
  | 1 => ([], false, false, true)
  | 2 => ([], true, false, false)
  | 3 => ([0, 1], true, false, false)
  | 4 => ([0, 1], false, false, false)
  | 5 => ([0, 0], false, false, false)
  | 6 => ([0, 1], true, false, false)
  | 7 => ([0, 0, 0], false, false, false)
  | 8 => ([0], false, false, false)
  | 9 => ([0], false, false, false)
  | 10 => ([], false, false, false)
  | 11 => ([], false, false, false)
  | 12 => ([0], false, false, false)
  | 13 => ([1, 0, 2, 0], false, false, false)
  | 14 => ([], false, false, false)
  | 15 => ([0, 0], false, false, false)
  | 16 => ([], false, false, false)
  | 17 => ([], false, false, false)
  | 18 => ([0, 0, 0], false, false, false)
  | 19 => ([0, 0], false, false, false)
  | 20 => ([0, 0, 0, 0], false, false, false)
  | 21 => ([0, 0, 1, 0, 0, 0], false, false, false)
  | 22 => ([0, 2, 0, 0, 0], false, false, false)
  | 23 => ([0, 0], false, false, false)
  | 24 => ([0, 1, 0, 0], false, false, false)
  | 25 => ([], false, false, true)
  | 26 => ([], true, true, true)
  | 27 => ([], false, true, true)
  | 28 => ([0], false, false, false)
  | 29 => ([], false, false, false)
  | _ => ([], false, false, false)

/-- the most that N may be -/
def mostN (k : Nat) : Int := if k = 0 then 99 else if k = 2 then 9 else if k = 3 ∨ k = 6 then 3 else 5
/-- the most that M may be -/
def mostM (_k : Nat) : Int := 6

/-- are a node's fields right -/
def rightB (n : Nd) : Bool :=
  decide (0 ≤ n.K) && decide (n.K ≤ 29) &&
  (if (shp n.K.toNat).2.1 then decide (0 ≤ n.N) && decide (n.N ≤ mostN n.K.toNat) else n.N == 0) &&
  (if (shp n.K.toNat).2.2.1 then decide (0 ≤ n.M) && decide (n.M ≤ 6) else n.M == 0) &&
  (if (shp n.K.toNat).2.2.2 then nameB n.S else n.S.size == 0)

/-- binders of a node's parts, where its fields are right -/
def bnds (n : Nd) : List Nat :=
  if n.K = 26 then List.replicate n.M.toNat 0 else if n.K = 27 then 1 :: List.replicate (n.M.toNat + 1) 0 else (shp n.K.toNat).1

def arity (n : Nd) : Nat := (bnds n).length

inductive Tm where
  | mk (n : Nd) (l : List Tm) : Tm

def Tm.root : Tm → Nd | .mk n _ => n
def Tm.kids : Tm → List Tm | .mk _ l => l

theorem Tm.ind {P : Tm → Prop} (h : ∀ n l, (∀ t, t ∈ l → P t) → P (.mk n l)) : ∀ t, P t
  | .mk n l => h n l (fun t _ => Tm.ind h t)
termination_by t => sizeOf t
decreasing_by
  rename_i ht
  have := List.sizeOf_lt_of_mem ht
  simp
  omega

mutual
def Tm.flat : Tm → List Nd
  | .mk n l => flatL l ++ [n]
def flatL : List Tm → List Nd
  | [] => []
  | t :: r => t.flat ++ flatL r
end

mutual
def Tm.dep : Tm → Nat
  | .mk _ l => depL l + 1
def depL : List Tm → Nat
  | [] => 0
  | t :: r => max t.dep (depL r)
end

mutual
def Tm.wf : Tm → Bool
  | .mk n l => rightB n && l.length == arity n && wfL l
def wfL : List Tm → Bool
  | [] => true
  | t :: r => t.wf && wfL r
end

theorem flat_mk (n : Nd) (l : List Tm) : (Tm.mk n l).flat = flatL l ++ [n] := by rw [Tm.flat]
theorem flatL_nil : flatL [] = [] := by rw [flatL]
theorem flatL_cons (t : Tm) (r : List Tm) : flatL (t :: r) = t.flat ++ flatL r := by rw [flatL]
theorem flatL_append (a b : List Tm) : flatL (a ++ b) = flatL a ++ flatL b := by
  induction a with
  | nil => simp [flatL_nil]
  | cons t r ih => simp [flatL_cons, ih]
theorem flatL_one (t : Tm) : flatL [t] = t.flat := by simp [flatL_cons, flatL_nil]
theorem flat_pos (t : Tm) : 0 < t.flat.length := by
  cases t with
  | mk n l => simp [flat_mk]
theorem flat_ne (t : Tm) : t.flat ≠ [] := fun h => by have := flat_pos t; rw [h] at this; simp at this
theorem flat_last (t : Tm) : t.flat.getLast? = some t.root := by
  cases t with
  | mk n l => simp [flat_mk, Tm.root]

theorem dep_mk (n : Nd) (l : List Tm) : (Tm.mk n l).dep = depL l + 1 := by rw [Tm.dep]
theorem depL_nil : depL [] = 0 := by rw [depL]
theorem depL_cons (t : Tm) (r : List Tm) : depL (t :: r) = max t.dep (depL r) := by rw [depL]
theorem depL_append (a b : List Tm) : depL (a ++ b) = max (depL a) (depL b) := by
  induction a with
  | nil => simp [depL_nil]
  | cons t r ih => simp [depL_cons, ih, Nat.max_assoc]
theorem dep_le_depL {t : Tm} {l : List Tm} (h : t ∈ l) : t.dep ≤ depL l := by
  induction l with
  | nil => cases h
  | cons x r ih =>
    rw [depL_cons]
    cases h with
    | head => omega
    | tail _ h => have := ih h; omega
theorem dep_pos (t : Tm) : 1 ≤ t.dep := by
  cases t with
  | mk n l => rw [dep_mk]; omega

theorem wf_mk (n : Nd) (l : List Tm) : (Tm.mk n l).wf = (rightB n && l.length == arity n && wfL l) := by rw [Tm.wf]
theorem wfL_nil : wfL [] = true := by rw [wfL]
theorem wfL_cons (t : Tm) (r : List Tm) : wfL (t :: r) = (t.wf && wfL r) := by rw [wfL]
theorem wfL_mem {l : List Tm} : wfL l = true ↔ ∀ t, t ∈ l → t.wf = true := by
  induction l with
  | nil => simp [wfL_nil]
  | cons t r ih => simp [wfL_cons, ih]
theorem wfL_append (a b : List Tm) : wfL (a ++ b) = (wfL a && wfL b) := by
  induction a with
  | nil => simp [wfL_nil]
  | cons t r ih => simp [wfL_cons, ih, Bool.and_assoc]
theorem wf_iff {n : Nd} {l : List Tm} : (Tm.mk n l).wf = true ↔ rightB n = true ∧ l.length = arity n ∧ ∀ t, t ∈ l → t.wf = true := by
  rw [wf_mk]
  simp [wfL_mem, and_assoc]

/-! ### the stack that reads a row of nodes -/

def pstep (st : List Tm) (n : Nd) : Option (List Tm) :=
  if rightB n = true ∧ arity n ≤ st.length then some (.mk n (st.take (arity n)).reverse :: st.drop (arity n)) else none

def prun : List Tm → List Nd → Option (List Tm)
  | st, [] => some st
  | st, n :: r => (pstep st n).bind fun st' => prun st' r

theorem prun_append (st : List Tm) (a b : List Nd) : prun st (a ++ b) = (prun st a).bind fun st' => prun st' b := by
  induction a generalizing st with
  | nil => simp [prun]
  | cons n r ih =>
    simp only [List.cons_append, prun]
    cases pstep st n with
    | none => rfl
    | some st' => simp [ih]

theorem prun_snoc (st : List Tm) (a : List Nd) (n : Nd) : prun st (a ++ [n]) = (prun st a).bind fun st' => pstep st' n := by
  rw [prun_append]
  congr 1
  funext st'
  simp [prun]

theorem pstep_mk (st : List Tm) (n : Nd) (l : List Tm) (h1 : rightB n = true) (h2 : l.length = arity n) : pstep (l.reverse ++ st) n = some (.mk n l :: st) := by
  unfold pstep
  rw [if_pos ⟨h1, by simp [h2]⟩]
  have e : arity n = l.reverse.length := by simp [h2]
  rw [e, List.take_left, List.drop_left, List.reverse_reverse]

theorem prun_flat : ∀ (t : Tm), t.wf = true → ∀ st, prun st t.flat = some (t :: st) := by
  refine Tm.ind ?_
  intro n l ih hwf st
  obtain ⟨h1, h2, h3⟩ := wf_iff.1 hwf
  rw [flat_mk, prun_snoc]
  have hl : ∀ (l : List Tm), (∀ t, t ∈ l → t.wf = true) → (∀ t, t ∈ l → ∀ st, prun st t.flat = some (t :: st)) → ∀ st, prun st (flatL l) = some (l.reverse ++ st) := by
    intro l
    induction l with
    | nil => intro _ _ st; simp [flatL_nil, prun]
    | cons t r ihr =>
      intro hw ht st
      rw [flatL_cons, prun_append, ht t (by simp)]
      simp only [Option.bind_some]
      rw [ihr (fun t h => hw t (by simp [h])) (fun t h => ht t (by simp [h]))]
      simp
  rw [hl l h3 (fun t ht => ih t ht (h3 t ht))]
  exact pstep_mk st n l h1 h2

theorem prun_flatL (l : List Tm) (h : ∀ t, t ∈ l → t.wf = true) (st : List Tm) : prun st (flatL l) = some (l.reverse ++ st) := by
  induction l generalizing st with
  | nil => simp [flatL_nil, prun]
  | cons t r ih =>
    rw [flatL_cons, prun_append, prun_flat t (h t (by simp))]
    simp only [Option.bind_some]
    rw [ih (fun t ht => h t (by simp [ht]))]
    simp

theorem pstep_sound {st st' : List Tm} {n : Nd} (h : pstep st n = some st') (hw : ∀ t, t ∈ st → t.wf = true) :
    (∀ t, t ∈ st' → t.wf = true) ∧ flatL st'.reverse = flatL st.reverse ++ [n] ∧ rightB n = true ∧ arity n ≤ st.length ∧ st' = .mk n (st.take (arity n)).reverse :: st.drop (arity n) := by
  unfold pstep at h
  split at h
  · rename_i hc
    cases h
    refine ⟨?_, ?_, hc.1, hc.2, rfl⟩
    · intro t ht
      rcases List.mem_cons.1 ht with rfl | ht
      · refine wf_iff.2 ⟨hc.1, by simp; omega, fun t ht => hw t ?_⟩
        exact List.mem_of_mem_take (List.mem_reverse.1 ht)
      · exact hw t (List.mem_of_mem_drop ht)
    · rw [List.reverse_cons, flatL_append, flatL_one, flat_mk, ← List.append_assoc, ← flatL_append, ← List.reverse_append, List.take_append_drop]
  · cases h

theorem prun_sound {l : List Nd} : ∀ {st st' : List Tm}, prun st l = some st' → (∀ t, t ∈ st → t.wf = true) →
    (∀ t, t ∈ st' → t.wf = true) ∧ flatL st'.reverse = flatL st.reverse ++ l := by
  induction l with
  | nil => intro st st' h hw; cases h; exact ⟨hw, by simp⟩
  | cons n r ih =>
    intro st st' h hw
    simp only [prun] at h
    cases hp : pstep st n with
    | none => rw [hp] at h; cases h
    | some s1 =>
      rw [hp] at h
      obtain ⟨h1, h2, _⟩ := pstep_sound hp hw
      obtain ⟨h3, h4⟩ := ih h h1
      exact ⟨h3, by rw [h4, h2]; simp⟩

/-- the tree that a row of nodes is, if it is one -/
def whole (l : List Nd) : Option Tm := match prun [] l with | some [t] => some t | _ => none

theorem whole_flat {t : Tm} (h : t.wf = true) : whole t.flat = some t := by
  unfold whole
  rw [prun_flat t h]

theorem whole_some {l : List Nd} {t : Tm} (h : whole l = some t) : t.wf = true ∧ t.flat = l := by
  unfold whole at h
  split at h
  · rename_i s hs
    cases h
    obtain ⟨h1, h2⟩ := prun_sound hs (fun t ht => by cases ht)
    exact ⟨h1 _ (by simp), by simpa [flatL_one, flatL_nil] using h2⟩
  · cases h

theorem whole_iff {l : List Nd} {t : Tm} : whole l = some t ↔ t.wf = true ∧ t.flat = l :=
  ⟨whole_some, fun ⟨h1, h2⟩ => h2 ▸ whole_flat h1⟩

theorem flat_inj {t u : Tm} (ht : t.wf = true) (hu : u.wf = true) (h : t.flat = u.flat) : t = u := by
  have h1 := whole_flat ht
  rw [h, whole_flat hu] at h1
  cases h1
  rfl

/-- the error of a row of nodes -/
def chk (l : List Nd) : Int :=
  if 4000 < l.length then 21 else match whole l with
    | none => 20
    | some t => if 60 < t.dep then 22 else 0

theorem chk_ok {l : List Nd} (h : chk l = 0) : l.length ≤ 4000 ∧ ∃ t, whole l = some t ∧ t.dep ≤ 60 := by
  unfold chk at h
  split at h
  · cases h
  · rename_i hl
    cases hw : whole l with
    | none => rw [hw] at h; cases h
    | some t =>
      rw [hw] at h
      simp only at h
      split at h
      · cases h
      · exact ⟨by omega, t, rfl, by omega⟩

theorem chk_flat {t : Tm} (hw : t.wf = true) : chk t.flat = if 4000 < t.flat.length then 21 else if 60 < t.dep then 22 else 0 := by
  unfold chk
  rw [whole_flat hw]

end Go.Proofs.YtjhgpifccleknaaDoor
