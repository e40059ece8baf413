/- The document's terms as trees: a row of nodes, each behind its parts, is read by a stack ('prun'); what it reads is one tree or none ('whole'). Nodes from the root on, with how many binders each is under, by a stack of numbers ('vrun'). No function of the program is named here: plain lists. Trees, on: how many binders each node is under ('und'), the stack of numbers that tells it from the root on ('vrun'), and what is put in the places of free variables ('bnd'): shifts and substitutions are such. Plain lists; no function of the program is named here. Shifts and substitutions of trees: how they go through one another (the laws of chapters 3 and 4, of trees). Plain; no function of the program is named here. Trees node by node ('zw'): what a shift and a substitution make of each node, and which error comes first. Plain; no function of the program is named here. What is measured of a row of nodes: of each node where its term begins and how deep it is, by a stack of both. Plain; no function of the program is named here. -/

namespace Go.Proofs.YteldkcpkamgfpaaDoor
set_option linter.unusedSimpArgs false
set_option linter.unusedVariables false

structure Nd where
  K : Int
  N : Int
  M : Int
  S : ByteArray

/-- a letter, or the low line -/
def letterB (c : UInt8) : Bool := (decide (97 ≤ c.toNat) && decide (c.toNat ≤ 122)) || (decide (65 ≤ c.toNat) && decide (c.toNat ≤ 90)) || c.toNat == 95
def digitB (c : UInt8) : Bool := decide (48 ≤ c.toNat) && decide (c.toNat ≤ 57)
def nameL (l : List UInt8) : Bool := decide (1 ≤ l.length) && decide (l.length ≤ 16) && letterB (l.headD 0) && l.all (fun c => letterB c || digitB c)
def nameB (s : ByteArray) : Bool := nameL s.data.toList

/-- binders of a kind's parts, and which of the fields N, M, S it has -/
def shp : Nat → List Nat × Bool × Bool × Bool
  | 0 => ([], true, false, false)
  | 1 => ([], false, false, true)
  | 2 => ([], true, false, false)
  | 3 => ([0, 1], true, false, false)
  | 4 => ([0, 1], false, false, false)
  | 5 => ([0, 0], false, false, false)
  | 6 => ([0, 1], true, false, false)
  | 7 => ([0, 0, 0], false, false, false)
  | 8 => ([0], false, false, false)
  | 9 => ([0], false, false, false)
  | 10 => ([], false, false, false)
  | 11 => ([], false, false, false)
  | 12 => ([0], false, false, false)
  | 13 => ([1, 0, 2, 0], false, false, false)
  | 14 => ([], false, false, false)
  | 15 => ([0, 0], false, false, false)
  | 16 => ([], false, false, false)
  | 17 => ([], false, false, false)
  | 18 => ([0, 0, 0], false, false, false)
  | 19 => ([0, 0], false, false, false)
  | 20 => ([0, 0, 0, 0], false, false, false)
  | 21 => ([0, 0, 1, 0, 0, 0], false, false, false)
  | 22 => ([0, 2, 0, 0, 0], false, false, false)
  | 23 => ([0, 0], false, false, false)
  | 24 => ([0, 1, 0, 0], false, false, false)
  | 25 => ([], false, false, true)
  | 26 => ([], true, true, true)
  | 27 => ([], false, true, true)
  | 28 => ([0], false, false, false)
  | 29 => ([], false, false, false)
  | _ => ([], false, false, false)

/-- the most that N may be -/
def mostN (k : Nat) : Int := if k = 0 then 99 else if k = 2 then 9 else if k = 3 ∨ k = 6 then 3 else 5
/-- the most that M may be -/
def mostM (_k : Nat) : Int := 6

/-- are a node's fields right -/
def rightB (n : Nd) : Bool :=
  decide (0 ≤ n.K) && decide (n.K ≤ 29) &&
  (if (shp n.K.toNat).2.1 then decide (0 ≤ n.N) && decide (n.N ≤ mostN n.K.toNat) else n.N == 0) &&
  (if (shp n.K.toNat).2.2.1 then decide (0 ≤ n.M) && decide (n.M ≤ 6) else n.M == 0) &&
  (if (shp n.K.toNat).2.2.2 then nameB n.S else n.S.size == 0)

/-- binders of a node's parts, where its fields are right -/
def bnds (n : Nd) : List Nat :=
  if n.K = 26 then List.replicate n.M.toNat 0 else if n.K = 27 then 1 :: List.replicate (n.M.toNat + 1) 0 else (shp n.K.toNat).1

def arity (n : Nd) : Nat := (bnds n).length

inductive Tm where
  | mk (n : Nd) (l : List Tm) : Tm

def Tm.root : Tm → Nd | .mk n _ => n
def Tm.kids : Tm → List Tm | .mk _ l => l

theorem Tm.ind {P : Tm → Prop} (h : ∀ n l, (∀ t, t ∈ l → P t) → P (.mk n l)) : ∀ t, P t
  | .mk n l => h n l (fun t _ => Tm.ind h t)
termination_by t => sizeOf t
decreasing_by
  rename_i ht
  have := List.sizeOf_lt_of_mem ht
  simp
  omega

mutual
def Tm.flat : Tm → List Nd
  | .mk n l => flatL l ++ [n]
def flatL : List Tm → List Nd
  | [] => []
  | t :: r => t.flat ++ flatL r
end

mutual
def Tm.dep : Tm → Nat
  | .mk _ l => depL l + 1
def depL : List Tm → Nat
  | [] => 0
  | t :: r => max t.dep (depL r)
end

mutual
def Tm.wf : Tm → Bool
  | .mk n l => rightB n && l.length == arity n && wfL l
def wfL : List Tm → Bool
  | [] => true
  | t :: r => t.wf && wfL r
end

theorem flat_mk (n : Nd) (l : List Tm) : (Tm.mk n l).flat = flatL l ++ [n] := by rw [Tm.flat]
theorem flatL_nil : flatL [] = [] := by rw [flatL]
theorem flatL_cons (t : Tm) (r : List Tm) : flatL (t :: r) = t.flat ++ flatL r := by rw [flatL]
theorem flatL_append (a b : List Tm) : flatL (a ++ b) = flatL a ++ flatL b := by
  induction a with
  | nil => simp [flatL_nil]
  | cons t r ih => simp [flatL_cons, ih]
theorem flatL_one (t : Tm) : flatL [t] = t.flat := by simp [flatL_cons, flatL_nil]
theorem flat_pos (t : Tm) : 0 < t.flat.length := by
  cases t with
  | mk n l => simp [flat_mk]
theorem flat_ne (t : Tm) : t.flat ≠ [] := fun h => by have := flat_pos t; rw [h] at this; simp at this
theorem flat_last (t : Tm) : t.flat.getLast? = some t.root := by
  cases t with
  | mk n l => simp [flat_mk, Tm.root]

theorem dep_mk (n : Nd) (l : List Tm) : (Tm.mk n l).dep = depL l + 1 := by rw [Tm.dep]
theorem depL_nil : depL [] = 0 := by rw [depL]
theorem depL_cons (t : Tm) (r : List Tm) : depL (t :: r) = max t.dep (depL r) := by rw [depL]
theorem depL_append (a b : List Tm) : depL (a ++ b) = max (depL a) (depL b) := by
  induction a with
  | nil => simp [depL_nil]
  | cons t r ih => simp [depL_cons, ih, Nat.max_assoc]
theorem dep_le_depL {t : Tm} {l : List Tm} (h : t ∈ l) : t.dep ≤ depL l := by
  induction l with
  | nil => cases h
  | cons x r ih =>
    rw [depL_cons]
    cases h with
    | head => omega
    | tail _ h => have := ih h; omega
theorem dep_pos (t : Tm) : 1 ≤ t.dep := by
  cases t with
  | mk n l => rw [dep_mk]; omega

theorem wf_mk (n : Nd) (l : List Tm) : (Tm.mk n l).wf = (rightB n && l.length == arity n && wfL l) := by rw [Tm.wf]
theorem wfL_nil : wfL [] = true := by rw [wfL]
theorem wfL_cons (t : Tm) (r : List Tm) : wfL (t :: r) = (t.wf && wfL r) := by rw [wfL]
theorem wfL_mem {l : List Tm} : wfL l = true ↔ ∀ t, t ∈ l → t.wf = true := by
  induction l with
  | nil => simp [wfL_nil]
  | cons t r ih => simp [wfL_cons, ih]
theorem wfL_append (a b : List Tm) : wfL (a ++ b) = (wfL a && wfL b) := by
  induction a with
  | nil => simp [wfL_nil]
  | cons t r ih => simp [wfL_cons, ih, Bool.and_assoc]
theorem wf_iff {n : Nd} {l : List Tm} : (Tm.mk n l).wf = true ↔ rightB n = true ∧ l.length = arity n ∧ ∀ t, t ∈ l → t.wf = true := by
  rw [wf_mk]
  simp [wfL_mem, and_assoc]

/-! ### the stack that reads a row of nodes -/

def pstep (st : List Tm) (n : Nd) : Option (List Tm) :=
  if rightB n = true ∧ arity n ≤ st.length then some (.mk n (st.take (arity n)).reverse :: st.drop (arity n)) else none

def prun : List Tm → List Nd → Option (List Tm)
  | st, [] => some st
  | st, n :: r => (pstep st n).bind fun st' => prun st' r

theorem prun_append (st : List Tm) (a b : List Nd) : prun st (a ++ b) = (prun st a).bind fun st' => prun st' b := by
  induction a generalizing st with
  | nil => simp [prun]
  | cons n r ih =>
    simp only [List.cons_append, prun]
    cases pstep st n with
    | none => rfl
    | some st' => simp [ih]

theorem prun_snoc (st : List Tm) (a : List Nd) (n : Nd) : prun st (a ++ [n]) = (prun st a).bind fun st' => pstep st' n := by
  rw [prun_append]
  congr 1
  funext st'
  simp [prun]

theorem pstep_mk (st : List Tm) (n : Nd) (l : List Tm) (h1 : rightB n = true) (h2 : l.length = arity n) : pstep (l.reverse ++ st) n = some (.mk n l :: st) := by
  unfold pstep
  rw [if_pos ⟨h1, by simp [h2]⟩]
  have e : arity n = l.reverse.length := by simp [h2]
  rw [e, List.take_left, List.drop_left, List.reverse_reverse]

theorem prun_flat : ∀ (t : Tm), t.wf = true → ∀ st, prun st t.flat = some (t :: st) := by
  refine Tm.ind ?_
  intro n l ih hwf st
  obtain ⟨h1, h2, h3⟩ := wf_iff.1 hwf
  rw [flat_mk, prun_snoc]
  have hl : ∀ (l : List Tm), (∀ t, t ∈ l → t.wf = true) → (∀ t, t ∈ l → ∀ st, prun st t.flat = some (t :: st)) → ∀ st, prun st (flatL l) = some (l.reverse ++ st) := by
    intro l
    induction l with
    | nil => intro _ _ st; simp [flatL_nil, prun]
    | cons t r ihr =>
      intro hw ht st
      rw [flatL_cons, prun_append, ht t (by simp)]
      simp only [Option.bind_some]
      rw [ihr (fun t h => hw t (by simp [h])) (fun t h => ht t (by simp [h]))]
      simp
  rw [hl l h3 (fun t ht => ih t ht (h3 t ht))]
  exact pstep_mk st n l h1 h2

theorem prun_flatL (l : List Tm) (h : ∀ t, t ∈ l → t.wf = true) (st : List Tm) : prun st (flatL l) = some (l.reverse ++ st) := by
  induction l generalizing st with
  | nil => simp [flatL_nil, prun]
  | cons t r ih =>
    rw [flatL_cons, prun_append, prun_flat t (h t (by simp))]
    simp only [Option.bind_some]
    rw [ih (fun t ht => h t (by simp [ht]))]
    simp

theorem pstep_sound {st st' : List Tm} {n : Nd} (h : pstep st n = some st') (hw : ∀ t, t ∈ st → t.wf = true) :
    (∀ t, t ∈ st' → t.wf = true) ∧ flatL st'.reverse = flatL st.reverse ++ [n] ∧ rightB n = true ∧ arity n ≤ st.length ∧ st' = .mk n (st.take (arity n)).reverse :: st.drop (arity n) := by
  unfold pstep at h
  split at h
  · rename_i hc
    cases h
    refine ⟨?_, ?_, hc.1, hc.2, rfl⟩
    · intro t ht
      rcases List.mem_cons.1 ht with rfl | ht
      · refine wf_iff.2 ⟨hc.1, by simp; omega, fun t ht => hw t ?_⟩
        exact List.mem_of_mem_take (List.mem_reverse.1 ht)
      · exact hw t (List.mem_of_mem_drop ht)
    · rw [List.reverse_cons, flatL_append, flatL_one, flat_mk, ← List.append_assoc, ← flatL_append, ← List.reverse_append, List.take_append_drop]
  · cases h

theorem prun_sound {l : List Nd} : ∀ {st st' : List Tm}, prun st l = some st' → (∀ t, t ∈ st → t.wf = true) →
    (∀ t, t ∈ st' → t.wf = true) ∧ flatL st'.reverse = flatL st.reverse ++ l := by
  induction l with
  | nil => intro st st' h hw; cases h; exact ⟨hw, by simp⟩
  | cons n r ih =>
    intro st st' h hw
    simp only [prun] at h
    cases hp : pstep st n with
    | none => rw [hp] at h; cases h
    | some s1 =>
      rw [hp] at h
      obtain ⟨h1, h2, _⟩ := pstep_sound hp hw
      obtain ⟨h3, h4⟩ := ih h h1
      exact ⟨h3, by rw [h4, h2]; simp⟩

/-- the tree that a row of nodes is, if it is one -/
def whole (l : List Nd) : Option Tm := match prun [] l with | some [t] => some t | _ => none

theorem whole_flat {t : Tm} (h : t.wf = true) : whole t.flat = some t := by
  unfold whole
  rw [prun_flat t h]

theorem whole_some {l : List Nd} {t : Tm} (h : whole l = some t) : t.wf = true ∧ t.flat = l := by
  unfold whole at h
  split at h
  · rename_i s hs
    cases h
    obtain ⟨h1, h2⟩ := prun_sound hs (fun t ht => by cases ht)
    exact ⟨h1 _ (by simp), by simpa [flatL_one, flatL_nil] using h2⟩
  · cases h

theorem whole_iff {l : List Nd} {t : Tm} : whole l = some t ↔ t.wf = true ∧ t.flat = l :=
  ⟨whole_some, fun ⟨h1, h2⟩ => h2 ▸ whole_flat h1⟩

theorem flat_inj {t u : Tm} (ht : t.wf = true) (hu : u.wf = true) (h : t.flat = u.flat) : t = u := by
  have h1 := whole_flat ht
  rw [h, whole_flat hu] at h1
  cases h1
  rfl

/-- the error of a row of nodes -/
def chk (l : List Nd) : Int :=
  if 4000 < l.length then 21 else match whole l with
    | none => 20
    | some t => if 60 < t.dep then 22 else 0

theorem chk_ok {l : List Nd} (h : chk l = 0) : l.length ≤ 4000 ∧ ∃ t, whole l = some t ∧ t.dep ≤ 60 := by
  unfold chk at h
  split at h
  · cases h
  · rename_i hl
    cases hw : whole l with
    | none => rw [hw] at h; cases h
    | some t =>
      rw [hw] at h
      simp only at h
      split at h
      · cases h
      · exact ⟨by omega, t, rfl, by omega⟩

theorem chk_flat {t : Tm} (hw : t.wf = true) : chk t.flat = if 4000 < t.flat.length then 21 else if 60 < t.dep then 22 else 0 := by
  unfold chk
  rw [whole_flat hw]

end Go.Proofs.YteldkcpkamgfpaaDoor

namespace Go.Proofs.YteldkcpkamgfpaaDoor
set_option linter.unusedSimpArgs false
set_option linter.unusedVariables false

mutual
def Tm.und : Tm → Nat → List Nat
  | .mk n l, u => undL l (bnds n) u ++ [u]
def undL : List Tm → List Nat → Nat → List Nat
  | [], _, _ => []
  | t :: r, bs, u => t.und (u + bs.headD 0) ++ undL r bs.tail u
end

theorem und_mk (n : Nd) (l : List Tm) (u : Nat) : (Tm.mk n l).und u = undL l (bnds n) u ++ [u] := by rw [Tm.und]
theorem undL_nil (bs : List Nat) (u : Nat) : undL [] bs u = [] := by rw [undL]
theorem undL_cons (t : Tm) (r : List Tm) (bs : List Nat) (u : Nat) : undL (t :: r) bs u = t.und (u + bs.headD 0) ++ undL r bs.tail u := by rw [undL]

theorem und_length : ∀ (t : Tm) (u : Nat), (t.und u).length = t.flat.length := by
  refine Tm.ind ?_
  intro n l ih u
  rw [und_mk, flat_mk, List.length_append, List.length_append]
  have hl : ∀ (l : List Tm), (∀ t, t ∈ l → ∀ u, (t.und u).length = t.flat.length) → ∀ bs u, (undL l bs u).length = (flatL l).length := by
    intro l
    induction l with
    | nil => intro _ bs u; rw [undL_nil, flatL_nil]; rfl
    | cons t r ihr =>
      intro h bs u
      rw [undL_cons, flatL_cons, List.length_append, List.length_append, h t (by simp), ihr (fun t ht => h t (by simp [ht]))]
  rw [hl l ih]
  rfl

theorem undL_length (l : List Tm) (bs : List Nat) (u : Nat) : (undL l bs u).length = (flatL l).length := by
  induction l generalizing bs with
  | nil => rw [undL_nil, flatL_nil]; rfl
  | cons t r ih => rw [undL_cons, flatL_cons, List.length_append, List.length_append, und_length, ih]

/-- one step of the walk from the root on: the number on top is the node's; what its parts are under is laid on top -/
def vstep (o : List Nat) (n : Nd) : List Nat := ((bnds n).map (o.headD 0 + ·)).reverse ++ o.tail
/-- the numbers that are met, from the last node on -/
def vrun : List Nat → List Nd → List Nat
  | _, [] => []
  | o, n :: r => o.headD 0 :: vrun (vstep o n) r
def vend : List Nat → List Nd → List Nat
  | o, [] => o
  | o, n :: r => vend (vstep o n) r

theorem vrun_append (o : List Nat) (a b : List Nd) : vrun o (a ++ b) = vrun o a ++ vrun (vend o a) b := by
  induction a generalizing o with
  | nil => simp [vrun, vend]
  | cons n r ih => simp [vrun, vend, ih]
theorem vend_append (o : List Nat) (a b : List Nd) : vend o (a ++ b) = vend (vend o a) b := by
  induction a generalizing o with
  | nil => simp [vend]
  | cons n r ih => simp [vend, ih]

/-- the numbers of parts -/
def ofs (bs : List Nat) (u : Nat) : List Nat := bs.map (u + ·)

theorem vrun_flat : ∀ (t : Tm), t.wf = true → ∀ u o, vrun (u :: o) t.flat.reverse = (t.und u).reverse ∧ vend (u :: o) t.flat.reverse = o := by
  refine Tm.ind ?_
  intro n l ih hwf u o
  obtain ⟨h1, h2, h3⟩ := wf_iff.1 hwf
  have hl : ∀ (l : List Tm), (∀ t, t ∈ l → t.wf = true) → (∀ t, t ∈ l → ∀ u o, vrun (u :: o) t.flat.reverse = (t.und u).reverse ∧ vend (u :: o) t.flat.reverse = o) →
      ∀ bs : List Nat, bs.length = l.length → ∀ o, vrun ((bs.map (u + ·)).reverse ++ o) (flatL l).reverse = (undL l bs u).reverse ∧ vend ((bs.map (u + ·)).reverse ++ o) (flatL l).reverse = o := by
    intro l
    induction l with
    | nil =>
      intro _ _ bs hb o
      obtain rfl : bs = [] := List.eq_nil_of_length_eq_zero (by simpa using hb)
      simp [flatL_nil, undL_nil, vrun, vend]
    | cons t r ihr =>
      intro hw ht bs hb o
      cases bs with
      | nil => simp at hb
      | cons b bs =>
        have e : (((b :: bs).map (u + ·)).reverse ++ o) = (bs.map (u + ·)).reverse ++ ((u + b) :: o) := by simp
        have hr := ihr (fun t h => hw t (by simp [h])) (fun t h => ht t (by simp [h])) bs (by simpa using hb) ((u + b) :: o)
        have ht' := ht t (by simp) (u + b) o
        rw [e, flatL_cons, List.reverse_append, vrun_append, vend_append, hr.1, hr.2, ht'.1, ht'.2, undL_cons]
        simp
  have hl' := hl l h3 (fun t ht => ih t ht (h3 t ht)) (bnds n) h2.symm o
  rw [flat_mk, List.reverse_append]
  have es : vstep (u :: o) n = ((bnds n).map (u + ·)).reverse ++ o := by simp [vstep]
  simp only [List.reverse_cons, List.reverse_nil, List.nil_append, List.cons_append, vrun, vend, es, hl'.1, hl'.2, und_mk, List.headD_cons, List.reverse_append]
  simp

/-! ### what is put in the places of free variables -/

def vr (N : Int) : Tm := .mk { K := 0, N := N, M := 0, S := ByteArray.empty } []

mutual
/-- each free variable v, met under u binders, gives way to f v u -/
def Tm.bnd (f : Int → Nat → Tm) : Tm → Nat → Tm
  | .mk n l, u => if n.K = 0 ∧ (u : Int) ≤ n.N then f (n.N - u) u else .mk n (bndL f l (bnds n) u)
def bndL (f : Int → Nat → Tm) : List Tm → List Nat → Nat → List Tm
  | [], _, _ => []
  | t :: r, bs, u => t.bnd f (u + bs.headD 0) :: bndL f r bs.tail u
end

theorem bnd_mk (f : Int → Nat → Tm) (n : Nd) (l : List Tm) (u : Nat) :
    (Tm.mk n l).bnd f u = if n.K = 0 ∧ (u : Int) ≤ n.N then f (n.N - u) u else .mk n (bndL f l (bnds n) u) := by rw [Tm.bnd]
theorem bndL_nil (f : Int → Nat → Tm) (bs : List Nat) (u : Nat) : bndL f [] bs u = [] := by rw [bndL]
theorem bndL_cons (f : Int → Nat → Tm) (t : Tm) (r : List Tm) (bs : List Nat) (u : Nat) : bndL f (t :: r) bs u = t.bnd f (u + bs.headD 0) :: bndL f r bs.tail u := by rw [bndL]
theorem bndL_length (f : Int → Nat → Tm) (l : List Tm) (bs : List Nat) (u : Nat) : (bndL f l bs u).length = l.length := by
  induction l generalizing bs with
  | nil => rw [bndL_nil]
  | cons t r ih => rw [bndL_cons]; simp [ih]

/-- what holds of lists of parts if it holds of each part -/
theorem bndL_ext {f g : Int → Nat → Tm} (l : List Tm) (h : ∀ t, t ∈ l → ∀ u, t.bnd f u = t.bnd g u) (bs : List Nat) (u : Nat) : bndL f l bs u = bndL g l bs u := by
  induction l generalizing bs with
  | nil => rw [bndL_nil, bndL_nil]
  | cons t r ih => rw [bndL_cons, bndL_cons, h t (by simp), ih (fun t ht => h t (by simp [ht]))]

theorem bnd_bnd (f g : Int → Nat → Tm) : ∀ (t : Tm) (u : Nat), (t.bnd f u).bnd g u = t.bnd (fun v u => (f v u).bnd g u) u := by
  refine Tm.ind ?_
  intro n l ih u
  rw [bnd_mk, bnd_mk]
  split
  · rfl
  · rename_i hc
    rw [bnd_mk, if_neg hc]
    congr 1
    have hl : ∀ (l : List Tm), (∀ t, t ∈ l → ∀ u, (t.bnd f u).bnd g u = t.bnd (fun v u => (f v u).bnd g u) u) → ∀ bs u, bndL g (bndL f l bs u) bs u = bndL (fun v u => (f v u).bnd g u) l bs u := by
      intro l
      induction l with
      | nil => intro _ bs u; rw [bndL_nil, bndL_nil, bndL_nil]
      | cons t r ihr => intro h bs u; rw [bndL_cons, bndL_cons, bndL_cons, h t (by simp), ihr (fun t ht => h t (by simp [ht]))]
    exact hl l ih _ _

/-- the same, where both agree at every variable that is free -/
theorem bnd_ext {f g : Int → Nat → Tm} (h : ∀ (v : Int) (u : Nat), 0 ≤ v → f v u = g v u) : ∀ (t : Tm) (u : Nat), t.bnd f u = t.bnd g u := by
  refine Tm.ind ?_
  intro n l ih u
  rw [bnd_mk, bnd_mk]
  split
  · rename_i hc
    exact h _ _ (by omega)
  · rw [bndL_ext l ih]

/-- a variable stays as it is -/
theorem bnd_vr (f : Int → Nat → Tm) (N : Int) (u : Nat) : (vr N).bnd f u = if (u : Int) ≤ N then f (N - u) u else vr N := by
  unfold vr
  rw [bnd_mk]
  split
  · rename_i hc
    rw [if_pos hc.2]
  · rename_i hc
    rw [if_neg (fun h => hc ⟨rfl, h⟩), bndL_nil]

/-- a shift: by so many, from a variable on -/
def shf (b k : Int) (v : Int) (u : Nat) : Tm := if k ≤ v then vr (v + u + b) else vr (v + u)
def Tm.sh (b k : Int) (t : Tm) (u : Nat) : Tm := t.bnd (shf b k) u

end Go.Proofs.YteldkcpkamgfpaaDoor

namespace Go.Proofs.YteldkcpkamgfpaaDoor
set_option linter.unusedSimpArgs false
set_option linter.unusedVariables false

/-- the induction that all laws of two walks go by: variables, and all other nodes -/
theorem Tm.ind2 {P : Tm → Nat → Prop} (hv : ∀ (n : Nd) (l : List Tm) (c : Nat), n.K = 0 → (c : Int) ≤ n.N → P (.mk n l) c)
    (hn : ∀ (n : Nd) (l : List Tm) (c : Nat), ¬ (n.K = 0 ∧ (c : Int) ≤ n.N) → (∀ t, t ∈ l → ∀ c, P t c) → P (.mk n l) c) : ∀ t c, P t c := by
  refine Tm.ind ?_
  intro n l ih c
  by_cases h : n.K = 0 ∧ (c : Int) ≤ n.N
  · exact hv n l c h.1 h.2
  · exact hn n l c h ih

theorem bnd_var (f : Int → Nat → Tm) (n : Nd) (l : List Tm) (c : Nat) (h1 : n.K = 0) (h2 : (c : Int) ≤ n.N) : (Tm.mk n l).bnd f c = f (n.N - c) c := by
  rw [bnd_mk, if_pos ⟨h1, h2⟩]
theorem bnd_non (f : Int → Nat → Tm) (n : Nd) (l : List Tm) (c : Nat) (h : ¬ (n.K = 0 ∧ (c : Int) ≤ n.N)) : (Tm.mk n l).bnd f c = .mk n (bndL f l (bnds n) c) := by
  rw [bnd_mk, if_neg h]

/-- of parts: two walks, one behind the other, from other beginnings, are a third -/
theorem bndL_two {f g h : Int → Nat → Tm} {a b : Nat} (l : List Tm) (hl : ∀ t, t ∈ l → ∀ c, (t.bnd f (c + a)).bnd g (c + b) = t.bnd h c) (bs : List Nat) (c : Nat) :
    bndL g (bndL f l bs (c + a)) bs (c + b) = bndL h l bs c := by
  induction l generalizing bs with
  | nil => rw [bndL_nil, bndL_nil, bndL_nil]
  | cons t r ih =>
    rw [bndL_cons, bndL_cons, bndL_cons, ih (fun t ht => hl t (by simp [ht]))]
    have e1 : c + a + bs.headD 0 = c + bs.headD 0 + a := by omega
    have e2 : c + b + bs.headD 0 = c + bs.headD 0 + b := by omega
    rw [e1, e2, hl t (by simp)]

/-- of parts: one walk from another beginning is another walk -/
theorem bndL_one {f h : Int → Nat → Tm} {a : Nat} (l : List Tm) (hl : ∀ t, t ∈ l → ∀ c, t.bnd f (c + a) = t.bnd h c) (bs : List Nat) (c : Nat) :
    bndL f l bs (c + a) = bndL h l bs c := by
  induction l generalizing bs with
  | nil => rw [bndL_nil, bndL_nil]
  | cons t r ih =>
    rw [bndL_cons, bndL_cons, ih (fun t ht => hl t (by simp [ht]))]
    have e1 : c + a + bs.headD 0 = c + bs.headD 0 + a := by omega
    rw [e1, hl t (by simp)]

/-- of parts: two walks that are two others -/
theorem bndL_four {f g h k : Int → Nat → Tm} {b : Nat} (l : List Tm) (hl : ∀ t, t ∈ l → ∀ c, (t.bnd f c).bnd g (c + b) = (t.bnd h c).bnd k c) (bs : List Nat) (c : Nat) :
    bndL g (bndL f l bs c) bs (c + b) = bndL k (bndL h l bs c) bs c := by
  induction l generalizing bs with
  | nil => simp only [bndL_nil]
  | cons t r ih =>
    simp only [bndL_cons]
    rw [ih (fun t ht => hl t (by simp [ht]))]
    have e2 : c + b + bs.headD 0 = c + bs.headD 0 + b := by omega
    rw [e2, hl t (by simp)]

theorem shf_ge {b k v : Int} {u : Nat} (h : k ≤ v) : shf b k v u = vr (v + u + b) := if_pos h
theorem shf_lt {b k v : Int} {u : Nat} (h : v < k) : shf b k v u = vr (v + u) := if_neg (by omega)

theorem vr_bnd_ge (f : Int → Nat → Tm) {N : Int} {u : Nat} (h : (u : Int) ≤ N) : (vr N).bnd f u = f (N - u) u := by rw [bnd_vr, if_pos h]
theorem vr_bnd_lt (f : Int → Nat → Tm) {N : Int} {u : Nat} (h : N < u) : (vr N).bnd f u = vr N := by rw [bnd_vr, if_neg (by omega)]

/-- a shift, and a walk that begins as much further on: the walk goes through -/
theorem sh_through (g : Int → Nat → Tm) (e : Nat) (hg : ∀ v, 0 ≤ v → ∀ d, g v (d + e) = (g v d).bnd (shf e 0) d) :
    ∀ (t : Tm) (d : Nat), (t.bnd (shf e 0) d).bnd g (d + e) = (t.bnd g d).bnd (shf e 0) d := by
  refine Tm.ind2 ?_ ?_
  · intro n l c h1 h2
    rw [bnd_var _ _ _ _ h1 h2, bnd_var _ _ _ _ h1 h2, shf_ge (by omega), ← hg _ (by omega), vr_bnd_ge _ (by omega)]
    congr 1
    omega
  · intro n l c h ih
    rw [bnd_non _ _ _ _ h, bnd_non _ _ _ _ h, bnd_non _ _ _ _ h, bnd_non _ _ _ _ (by omega)]
    congr 1
    exact bndL_four l ih _ _

/-- a shift by a, then one by e from d on, where d is at most a -/
theorem sh_sh {a e : Int} {d : Nat} (hd : (d : Int) ≤ a) : ∀ (t : Tm) (c : Nat), (t.bnd (shf a 0) c).bnd (shf e 0) (c + d) = t.bnd (shf (a + e) 0) c := by
  refine Tm.ind2 ?_ ?_
  · intro n l c h1 h2
    rw [bnd_var _ _ _ _ h1 h2, bnd_var _ _ _ _ h1 h2, shf_ge (by omega), shf_ge (by omega), vr_bnd_ge _ (by omega), shf_ge (by omega)]
    congr 1
    omega
  · intro n l c h ih
    rw [bnd_non _ _ _ _ h, bnd_non _ _ _ _ h, bnd_non _ _ _ _ (by omega)]
    congr 1
    exact bndL_two (a := 0) l ih _ _

/-- two shifts from one variable on are one -/
theorem sh_add {a b k : Int} (ha : 0 ≤ a) (_hk : 0 ≤ k) (t : Tm) (u : Nat) : (t.sh a k u).sh b k u = t.sh (a + b) k u := by
  unfold Tm.sh
  rw [bnd_bnd]
  apply bnd_ext
  intro v u hv
  by_cases h : k ≤ v
  · rw [shf_ge h, shf_ge h, vr_bnd_ge _ (by omega), shf_ge (by omega)]
    congr 1
    omega
  · rw [shf_lt (by omega), shf_lt (by omega), vr_bnd_ge _ (by omega), shf_lt (by omega)]
    congr 1
    omega

/-- a node of a variable is one, where its fields are right -/
theorem var_right {n : Nd} (h : rightB n = true) (hk : n.K = 0) : n = { K := 0, N := n.N, M := 0, S := ByteArray.empty } ∧ 0 ≤ n.N ∧ n.N ≤ 99 ∧ arity n = 0 := by
  obtain ⟨K, N, M, S⟩ := n
  simp only at hk
  subst hk
  simp only [rightB, mostN, Int.toNat_zero, shp] at h
  simp at h
  obtain ⟨⟨⟨h1, h2⟩, h3⟩, h4⟩ := h
  refine ⟨?_, h1, h2, rfl⟩
  subst h3
  have e : S = ByteArray.empty := by
    simpa using h4
  rw [e]

theorem wf_var {n : Nd} {l : List Tm} (h : (Tm.mk n l).wf = true) (hk : n.K = 0) : Tm.mk n l = vr n.N ∧ 0 ≤ n.N ∧ n.N ≤ 99 := by
  obtain ⟨h1, h2, h3⟩ := wf_iff.1 h
  obtain ⟨e, h4, h5, h6⟩ := var_right h1 hk
  refine ⟨?_, h4, h5⟩
  rw [h6] at h2
  obtain rfl : l = [] := List.eq_nil_of_length_eq_zero h2
  unfold vr
  rw [← e]

theorem bndL_same {f : Int → Nat → Tm} (l : List Tm) (hl : ∀ t, t ∈ l → ∀ c, t.bnd f c = t) (bs : List Nat) (c : Nat) : bndL f l bs c = l := by
  induction l generalizing bs with
  | nil => rw [bndL_nil]
  | cons t r ih => rw [bndL_cons, hl t (by simp), ih (fun t ht => hl t (by simp [ht]))]

/-- variables of which each gives way to itself -/
theorem bnd_id {f : Int → Nat → Tm} (hf : ∀ v u, 0 ≤ v → f v u = vr (v + u)) : ∀ (t : Tm), t.wf = true → ∀ c, t.bnd f c = t := by
  refine Tm.ind ?_
  intro n l ih hw c
  by_cases h : n.K = 0 ∧ (c : Int) ≤ n.N
  · rw [bnd_var _ _ _ _ h.1 h.2, hf _ _ (by omega), (wf_var hw h.1).1]
    congr 1
    omega
  · rw [bnd_non _ _ _ _ h, bndL_same l (fun t ht => ih t ht ((wf_iff.1 hw).2.2 t ht))]

theorem sh_zero (t : Tm) (k : Int) (hw : t.wf = true) (c : Nat) : t.sh 0 k c = t :=
  bnd_id (fun v u _ => by unfold shf; split <;> (congr 1; try omega)) t hw c

/-! ### substitution -/

/-- the variable k gives way to U; those above are one less -/
def sbs (k : Nat) (U : Tm) (v : Int) (u : Nat) : Tm := if v = k then U.sh ((u + k : Nat) : Int) 0 0 else if (k : Int) < v then vr (v + u - 1) else vr (v + u)

theorem sbs_eq (k : Nat) (U : Tm) (u : Nat) : sbs k U k u = U.sh ((u + k : Nat) : Int) 0 0 := if_pos rfl
theorem sbs_gt {k : Nat} {U : Tm} {v : Int} {u : Nat} (h : (k : Int) < v) : sbs k U v u = vr (v + u - 1) := by
  unfold sbs; rw [if_neg (by omega), if_pos h]
theorem sbs_lt {k : Nat} {U : Tm} {v : Int} {u : Nat} (h : v < (k : Int)) : sbs k U v u = vr (v + u) := by
  unfold sbs; rw [if_neg (by omega), if_neg (by omega)]

theorem sbs_unif (k : Nat) (U : Tm) (e : Nat) (v : Int) (hv : 0 ≤ v) (d : Nat) : sbs k U v (d + e) = (sbs k U v d).bnd (shf e 0) d := by
  by_cases h : v = k
  · subst h
    rw [sbs_eq, sbs_eq]
    unfold Tm.sh
    have := sh_sh (a := ((d + k : Nat) : Int)) (e := (e : Int)) (d := d) (by omega) U 0
    rw [Nat.zero_add] at this
    rw [this]
    congr 2
    omega
  · by_cases h2 : (k : Int) < v
    · rw [sbs_gt h2, sbs_gt h2, vr_bnd_ge _ (by omega), shf_ge (by omega)]
      congr 1
      omega
    · rw [sbs_lt (by omega), sbs_lt (by omega), vr_bnd_ge _ (by omega), shf_ge (by omega)]
      congr 1
      omega

/-- what was shifted over a variable is not met by it -/
theorem sbs_drop (U : Tm) (e : Nat) : ∀ (t : Tm) (c : Nat), (t.bnd (shf ((e + 1 : Nat) : Int) 0) c).bnd (sbs 0 U) (c + e) = t.bnd (shf e 0) c := by
  refine Tm.ind2 ?_ ?_
  · intro n l c h1 h2
    rw [bnd_var _ _ _ _ h1 h2, bnd_var _ _ _ _ h1 h2, shf_ge (by omega), shf_ge (by omega), vr_bnd_ge _ (by omega), sbs_gt (by omega)]
    congr 1
    omega
  · intro n l c h ih
    rw [bnd_non _ _ _ _ h, bnd_non _ _ _ _ h, bnd_non _ _ _ _ (by omega)]
    congr 1
    exact bndL_two (a := 0) l ih _ _

/-- P4.3, of trees: a term put into what is put is put twice -/
theorem sbs_order (t U V : Tm) : (t.bnd (sbs 0 U) 0).bnd (sbs 0 V) 0 = (t.bnd (sbs 1 V) 0).bnd (sbs 0 (U.bnd (sbs 0 V) 0)) 0 := by
  rw [bnd_bnd, bnd_bnd]
  apply bnd_ext
  intro v u hv
  by_cases h0 : v = 0
  · subst h0
    have e1 : sbs 0 U 0 u = U.sh (u : Int) 0 0 := by rw [show (0 : Int) = ((0 : Nat) : Int) from rfl, sbs_eq]; rfl
    have e2 : ∀ W, sbs 0 W 0 u = W.sh (u : Int) 0 0 := fun W => by rw [show (0 : Int) = ((0 : Nat) : Int) from rfl, sbs_eq]; rfl
    rw [e1, sbs_lt (by omega), vr_bnd_ge _ (by omega), show (0 : Int) + u - u = 0 from by omega, e2]
    have := sh_through (sbs 0 V) u (sbs_unif 0 V u) U 0
    rw [Nat.zero_add] at this
    exact this
  · by_cases h1 : v = 1
    · subst h1
      rw [sbs_gt (by omega), vr_bnd_ge _ (by omega), show (1 : Int) + u - 1 - u = 0 from by omega]
      have e2 : ∀ W, sbs 0 W 0 u = W.sh (u : Int) 0 0 := fun W => by rw [show (0 : Int) = ((0 : Nat) : Int) from rfl, sbs_eq]; rfl
      have e3 : sbs 1 V 1 u = V.sh ((u + 1 : Nat) : Int) 0 0 := sbs_eq 1 V u
      rw [e2, e3]
      have := sbs_drop (U.bnd (sbs 0 V) 0) u V 0
      rw [Nat.zero_add] at this
      exact this.symm
    · rw [sbs_gt (by omega), sbs_gt (by omega), vr_bnd_ge _ (by omega), vr_bnd_ge _ (by omega), sbs_gt (by omega), sbs_gt (by omega)]

/-- many terms for the first variables -/
def ins (L : List Tm) (v : Int) (u : Nat) : Tm := match L[v.toNat]? with
  | some T => T.sh (u : Int) 0 0
  | none => vr (v + u - L.length)

theorem sbs0 (W : Tm) (u : Nat) : sbs 0 W 0 u = W.sh (u : Int) 0 0 := by rw [show (0 : Int) = ((0 : Nat) : Int) from rfl, sbs_eq]; rfl

theorem ins_one (U : Tm) (v : Int) (u : Nat) (hv : 0 ≤ v) : ins [U] v u = sbs 0 U v u := by
  by_cases h : v = 0
  · subst h
    rw [sbs0]
    rfl
  · rw [sbs_gt (by omega)]
    unfold ins
    have : ([U] : List Tm)[v.toNat]? = none := by simp; omega
    rw [this]
    congr 1

/-- P4.3, of trees: two variables' terms in either order -/
theorem ins_two_a (t U V : Tm) : t.bnd (ins [U, V]) 0 = (t.bnd (sbs 0 (U.sh 1 0 0)) 0).bnd (sbs 0 V) 0 := by
  rw [bnd_bnd]
  apply bnd_ext
  intro v u hv
  by_cases h0 : v = 0
  · subst h0
    rw [sbs0]
    have e : (U.sh 1 0 0).sh (u : Int) 0 0 = U.bnd (shf ((u + 1 : Nat) : Int) 0) 0 := by
      rw [sh_add (by omega) (by omega)]
      unfold Tm.sh
      congr 2
      omega
    rw [e]
    have := sbs_drop V u U 0
    rw [Nat.zero_add] at this
    rw [this]
    rfl
  · by_cases h1 : v = 1
    · subst h1
      rw [sbs_gt (by omega), vr_bnd_ge _ (by omega), show (1 : Int) + u - 1 - u = 0 from by omega, sbs0]
      rfl
    · rw [sbs_gt (by omega), vr_bnd_ge _ (by omega), sbs_gt (by omega)]
      unfold ins
      have : ([U, V] : List Tm)[v.toNat]? = none := by simp; omega
      rw [this]
      simp only [List.length_cons, List.length_nil]
      congr 1
      omega

theorem ins_two_b (t U V : Tm) : t.bnd (ins [U, V]) 0 = (t.bnd (sbs 1 V) 0).bnd (sbs 0 U) 0 := by
  rw [bnd_bnd]
  apply bnd_ext
  intro v u hv
  by_cases h0 : v = 0
  · subst h0
    rw [sbs_lt (by omega), vr_bnd_ge _ (by omega), show (0 : Int) + u - u = 0 from by omega, sbs0]
    rfl
  · by_cases h1 : v = 1
    · subst h1
      have e3 : sbs 1 V 1 u = V.sh ((u + 1 : Nat) : Int) 0 0 := sbs_eq 1 V u
      rw [e3]
      have := sbs_drop U u V 0
      rw [Nat.zero_add] at this
      exact this.symm
    · rw [sbs_gt (by omega), vr_bnd_ge _ (by omega), sbs_gt (by omega)]
      unfold ins
      have : ([U, V] : List Tm)[v.toNat]? = none := by simp; omega
      rw [this]
      simp only [List.length_cons, List.length_nil]
      congr 1
      omega

/-- P4.3, of trees: into a term that is shifted away from it -/
theorem sbs_away (t U : Tm) (hw : t.wf = true) : (t.sh 1 0 0).bnd (sbs 0 U) 0 = t := by
  have := sbs_drop U 0 t 0
  simp only [Nat.zero_add] at this
  unfold Tm.sh
  rw [show (1 : Int) = ((1 : Nat) : Int) from rfl, this]
  exact sh_zero t 0 hw 0

/-- of parts, from there -/
theorem sbs_part (k b : Nat) (U : Tm) : ∀ (t : Tm), t.wf = true → ∀ c, t.bnd (sbs k U) (c + b) = t.bnd (sbs (k + b) U) c := by
  refine Tm.ind ?_
  intro n l ih hw c
  by_cases h : n.K = 0 ∧ ((c + b : Nat) : Int) ≤ n.N
  · rw [bnd_var _ _ _ _ h.1 h.2, bnd_var _ _ _ _ h.1 (by omega)]
    by_cases h1 : n.N - ((c + b : Nat) : Int) = k
    · rw [h1, show n.N - (c : Int) = ((k + b : Nat) : Int) from by omega, sbs_eq, sbs_eq]
      congr 1
      omega
    · by_cases h2 : (k : Int) < n.N - ((c + b : Nat) : Int)
      · rw [sbs_gt h2, sbs_gt (by omega)]
        congr 1
        omega
      · rw [sbs_lt (by omega), sbs_lt (by omega)]
        congr 1
        omega
  · by_cases h1 : n.K = 0 ∧ (c : Int) ≤ n.N
    · obtain ⟨e, _⟩ := wf_var hw h1.1
      rw [bnd_var _ _ _ _ h1.1 h1.2, sbs_lt (by omega), e, vr_bnd_lt _ (by omega)]
      congr 1
      omega
    · rw [bnd_non _ _ _ _ h, bnd_non _ _ _ _ h1]
      congr 1
      have hl := wf_iff.1 hw
      exact bndL_one l (fun t ht c => ih t ht (hl.2.2 t ht) c) _ _

theorem sh_part (e k : Int) (b : Nat) (hk : 0 ≤ k) : ∀ (t : Tm), t.wf = true → ∀ c, t.bnd (shf e k) (c + b) = t.bnd (shf e (k + b)) c := by
  refine Tm.ind ?_
  intro n l ih hw c
  by_cases h : n.K = 0 ∧ ((c + b : Nat) : Int) ≤ n.N
  · rw [bnd_var _ _ _ _ h.1 h.2, bnd_var _ _ _ _ h.1 (by omega)]
    by_cases h2 : k ≤ n.N - ((c + b : Nat) : Int)
    · rw [shf_ge h2, shf_ge (by omega)]
      congr 1
      omega
    · rw [shf_lt (by omega), shf_lt (by omega)]
      congr 1
      omega
  · by_cases h1 : n.K = 0 ∧ (c : Int) ≤ n.N
    · obtain ⟨e', _⟩ := wf_var hw h1.1
      rw [bnd_var _ _ _ _ h1.1 h1.2, shf_lt (by omega), e', vr_bnd_lt _ (by omega)]
      congr 1
      omega
    · rw [bnd_non _ _ _ _ h, bnd_non _ _ _ _ h1]
      congr 1
      have hl := wf_iff.1 hw
      exact bndL_one l (fun t ht c => ih t ht (hl.2.2 t ht) c) _ _

end Go.Proofs.YteldkcpkamgfpaaDoor

namespace Go.Proofs.YteldkcpkamgfpaaDoor
set_option linter.unusedSimpArgs false
set_option linter.unusedVariables false

/-- something of each node and of how many binders it is under, in the nodes' order -/
def Tm.zw {β : Type} (g : Nd → Nat → β) (t : Tm) (u : Nat) : List β := List.zipWith g t.flat (t.und u)
def zwL {β : Type} (g : Nd → Nat → β) (l : List Tm) (bs : List Nat) (u : Nat) : List β := List.zipWith g (flatL l) (undL l bs u)

section
variable {β : Type} (g : Nd → Nat → β)
theorem zw_mk (n : Nd) (l : List Tm) (u : Nat) : (Tm.mk n l).zw g u = zwL g l (bnds n) u ++ [g n u] := by
  unfold Tm.zw zwL
  rw [flat_mk, und_mk, List.zipWith_append (by rw [undL_length])]
  rfl
theorem zwL_nil (bs : List Nat) (u : Nat) : zwL g [] bs u = [] := by unfold zwL; rw [flatL_nil]; rfl
theorem zwL_cons (t : Tm) (r : List Tm) (bs : List Nat) (u : Nat) : zwL g (t :: r) bs u = t.zw g (u + bs.headD 0) ++ zwL g r bs.tail u := by
  unfold Tm.zw zwL
  rw [flatL_cons, undL_cons, List.zipWith_append (by rw [und_length])]
theorem zw_length (t : Tm) (u : Nat) : (t.zw g u).length = t.flat.length := by
  unfold Tm.zw
  rw [List.length_zipWith, und_length, Nat.min_self]
end

theorem zwL_ext {β : Type} {g h : Nd → Nat → β} (l : List Tm) (hl : ∀ t, t ∈ l → ∀ u, t.zw g u = t.zw h u) (bs : List Nat) (u : Nat) : zwL g l bs u = zwL h l bs u := by
  induction l generalizing bs with
  | nil => rw [zwL_nil, zwL_nil]
  | cons t r ih => rw [zwL_cons, zwL_cons, hl t (by simp), ih (fun t ht => hl t (by simp [ht]))]

theorem bnd_flat (f : Int → Nat → Tm) : ∀ t : Tm, t.wf = true → ∀ u, (t.bnd f u).flat = (t.zw (fun n u => if n.K = 0 ∧ (u : Int) ≤ n.N then (f (n.N - u) u).flat else [n]) u).flatten := by
  refine Tm.ind ?_
  intro n l ih hw u
  rw [zw_mk]
  by_cases h : n.K = 0 ∧ (u : Int) ≤ n.N
  · obtain ⟨h1, h2, h3⟩ := wf_iff.1 hw
    obtain ⟨_, _, _, h4⟩ := var_right h1 h.1
    obtain rfl : l = [] := List.eq_nil_of_length_eq_zero (by omega)
    rw [bnd_var _ _ _ _ h.1 h.2, zwL_nil]
    simp [h]
  · rw [bnd_non _ _ _ _ h, flat_mk]
    have hl : ∀ (l : List Tm), (∀ t, t ∈ l → ∀ u, (t.bnd f u).flat = (t.zw (fun n u => if n.K = 0 ∧ (u : Int) ≤ n.N then (f (n.N - u) u).flat else [n]) u).flatten) → ∀ bs u,
        flatL (bndL f l bs u) = (zwL (fun n u => if n.K = 0 ∧ (u : Int) ≤ n.N then (f (n.N - u) u).flat else [n]) l bs u).flatten := by
      intro l
      induction l with
      | nil => intro _ bs u; rw [bndL_nil, flatL_nil, zwL_nil]; rfl
      | cons t r ihr => intro h bs u; rw [bndL_cons, flatL_cons, zwL_cons, List.flatten_append, h t (by simp), ihr (fun t ht => h t (by simp [ht]))]
    rw [hl l (fun t ht => ih t ht ((wf_iff.1 hw).2.2 t ht))]
    simp [h]

theorem bnd_dep {f : Int → Nat → Tm} (hf : ∀ v u, 0 ≤ v → ∃ N, f v u = vr N) : ∀ t : Tm, t.wf = true → ∀ u, (t.bnd f u).dep = t.dep := by
  refine Tm.ind ?_
  intro n l ih hw u
  by_cases h : n.K = 0 ∧ (u : Int) ≤ n.N
  · obtain ⟨e, _⟩ := wf_var hw h.1
    rw [bnd_var _ _ _ _ h.1 h.2, e]
    obtain ⟨N, hN⟩ := hf (n.N - u) u (by omega)
    rw [hN]
    simp [vr, dep_mk]
  · rw [bnd_non _ _ _ _ h, dep_mk, dep_mk]
    have hl : ∀ (l : List Tm), (∀ t, t ∈ l → ∀ u, (t.bnd f u).dep = t.dep) → ∀ bs u, depL (bndL f l bs u) = depL l := by
      intro l
      induction l with
      | nil => intro _ bs u; rw [bndL_nil]
      | cons t r ihr => intro h bs u; rw [bndL_cons, depL_cons, depL_cons, h t (by simp), ihr (fun t ht => h t (by simp [ht]))]
    rw [hl l (fun t ht => ih t ht ((wf_iff.1 hw).2.2 t ht))]

/-! ### errors of nodes: the first one counts -/

def fstE : List Int → Int
  | [] => 0
  | e :: r => if e = 0 then fstE r else e

theorem fstE_append (a b : List Int) : fstE (a ++ b) = if fstE a = 0 then fstE b else fstE a := by
  induction a with
  | nil => simp [fstE]
  | cons e r ih =>
    simp only [List.cons_append, fstE]
    by_cases h : e = 0
    · simp [h, ih]
    · simp [h]
theorem fstE_zero {l : List Int} : fstE l = 0 ↔ ∀ e, e ∈ l → e = 0 := by
  induction l with
  | nil => simp [fstE]
  | cons e r ih =>
    simp only [fstE]
    by_cases h : e = 0
    · simp [h, ih]
    · simp [h]

/-- what a shift makes of a node -/
def shN (b k : Int) (n : Nd) (u : Nat) : Nd := if n.K = 0 ∧ k ≤ n.N - u then { n with N := n.N + b } else n
/-- and its error -/
def shE (b k : Int) (n : Nd) (u : Nat) : Int := if n.K = 0 ∧ k ≤ n.N - u then (if n.N + b - u < k then 30 else if 99 < n.N + b then 2 else 0) else 0

theorem sh_flat (b k : Int) (hk : 0 ≤ k) (t : Tm) (hw : t.wf = true) (u : Nat) : (t.sh b k u).flat = t.zw (shN b k) u := by
  unfold Tm.sh
  rw [bnd_flat _ t hw]
  have : ∀ t : Tm, t.wf = true → ∀ u, t.zw (fun n u => if n.K = 0 ∧ (u : Int) ≤ n.N then (shf b k (n.N - u) u).flat else [n]) u = (t.zw (shN b k) u).map (fun x => [x]) := by
    refine Tm.ind ?_
    intro n l ih hw u
    have hl : ∀ (l : List Tm), (∀ t, t ∈ l → ∀ u, t.zw (fun n u => if n.K = 0 ∧ (u : Int) ≤ n.N then (shf b k (n.N - u) u).flat else [n]) u = (t.zw (shN b k) u).map (fun x => [x])) → ∀ bs u,
        zwL (fun n u => if n.K = 0 ∧ (u : Int) ≤ n.N then (shf b k (n.N - u) u).flat else [n]) l bs u = (zwL (shN b k) l bs u).map (fun x => [x]) := by
      intro l
      induction l with
      | nil => intro _ bs u; rw [zwL_nil, zwL_nil]; rfl
      | cons t r ihr => intro h bs u; rw [zwL_cons, zwL_cons, List.map_append, h t (by simp), ihr (fun t ht => h t (by simp [ht]))]
    rw [zw_mk, zw_mk, List.map_append, hl l (fun t ht => ih t ht ((wf_iff.1 hw).2.2 t ht))]
    congr 1
    simp only [List.map_cons, List.map_nil, List.cons.injEq, and_true]
    have hr := (wf_iff.1 hw).1
    by_cases h : n.K = 0 ∧ (u : Int) ≤ n.N
    · obtain ⟨e, _⟩ := var_right hr h.1
      rw [if_pos h]
      unfold shN
      by_cases h2 : k ≤ n.N - u
      · rw [shf_ge h2, if_pos ⟨h.1, h2⟩]
        simp only [vr, flat_mk, flatL_nil, List.nil_append, List.cons.injEq, and_true]
        rw [e]
        simp
      · rw [shf_lt (by omega), if_neg (by omega)]
        simp only [vr, flat_mk, flatL_nil, List.nil_append, List.cons.injEq, and_true]
        rw [e]
        simp
    · rw [if_neg h]
      unfold shN
      rw [if_neg (by omega)]
  rw [this t hw u]
  induction t.zw (shN b k) u with
  | nil => rfl
  | cons x r ih => simp [ih]

theorem wf_vr {N : Int} (h1 : 0 ≤ N) (h2 : N ≤ 99) : (vr N).wf = true := by
  unfold vr
  refine wf_iff.2 ⟨?_, rfl, fun t ht => by cases ht⟩
  simp only [rightB, mostN, Int.toNat_zero, shp]
  simp [h1, h2]

/-- of a term that is one a walk makes one, if what each variable gives way to is one -/
theorem bnd_wf {f : Int → Nat → Tm} : ∀ t : Tm, t.wf = true → ∀ u, (∀ x, x ∈ t.zw (fun n u => if n.K = 0 ∧ (u : Int) ≤ n.N then (f (n.N - u) u).wf else true) u → x = true) → (t.bnd f u).wf = true := by
  refine Tm.ind ?_
  intro n l ih hw u hx
  rw [zw_mk] at hx
  by_cases h : n.K = 0 ∧ (u : Int) ≤ n.N
  · rw [bnd_var _ _ _ _ h.1 h.2]
    have := hx (if n.K = 0 ∧ (u : Int) ≤ n.N then (f (n.N - u) u).wf else true) (by simp)
    rwa [if_pos h] at this
  · rw [bnd_non _ _ _ _ h]
    obtain ⟨h1, h2, h3⟩ := wf_iff.1 hw
    refine wf_iff.2 ⟨h1, by rw [bndL_length]; exact h2, ?_⟩
    have hl : ∀ (l : List Tm), (∀ t, t ∈ l → ∀ u, (∀ x, x ∈ t.zw (fun n u => if n.K = 0 ∧ (u : Int) ≤ n.N then (f (n.N - u) u).wf else true) u → x = true) → (t.bnd f u).wf = true) → ∀ bs u,
        (∀ x, x ∈ zwL (fun n u => if n.K = 0 ∧ (u : Int) ≤ n.N then (f (n.N - u) u).wf else true) l bs u → x = true) → ∀ t, t ∈ bndL f l bs u → t.wf = true := by
      intro l
      induction l with
      | nil => intro _ bs u _ t ht; rw [bndL_nil] at ht; cases ht
      | cons t r ihr =>
        intro h bs u hx t' ht'
        rw [zwL_cons] at hx
        rw [bndL_cons] at ht'
        rcases List.mem_cons.1 ht' with rfl | ht'
        · exact h t (by simp) _ (fun x hx' => hx x (List.mem_append.2 (.inl hx')))
        · exact ihr (fun t ht => h t (by simp [ht])) _ _ (fun x hx' => hx x (List.mem_append.2 (.inr hx'))) t' ht'
    exact hl l (fun t ht => ih t ht (h3 t ht)) (bnds n) u (fun x hx' => hx x (List.mem_append.2 (.inl hx')))

end Go.Proofs.YteldkcpkamgfpaaDoor

namespace Go.Proofs.YteldkcpkamgfpaaDoor
set_option linter.unusedSimpArgs false
set_option linter.unusedVariables false

/-- where each of the terms in a row begins (the first one at p), and how deep it is -/
def opn : Nat → List Tm → List (Nat × Nat)
  | _, [] => []
  | p, t :: r => (p, t.dep) :: opn (p + t.flat.length) r

theorem opn_append (p : Nat) (a b : List Tm) : opn p (a ++ b) = opn p a ++ opn (p + (flatL a).length) b := by
  induction a generalizing p with
  | nil => simp [opn, flatL_nil]
  | cons t r ih => simp [opn, flatL_cons, ih, Nat.add_assoc]
theorem opn_length (p : Nat) (a : List Tm) : (opn p a).length = a.length := by
  induction a generalizing p with
  | nil => rfl
  | cons t r ih => simp [opn, ih]

/-- of a stack (its top first): the row of measures, the last one behind -/
def opens (st : List Tm) : List (Nat × Nat) := opn 0 st.reverse
theorem opens_length (st : List Tm) : (opens st).length = st.length := by simp [opens, opn_length]

/-- one measure out of those of the parts -/
def mstep (i : Nat) (ch : List (Nat × Nat)) : Nat × Nat := ((ch.headD (i, 0)).1, ch.foldl (fun d x => max d (x.2 + 1)) 1)

theorem fold_dep (p : Nat) (l : List Tm) (d : Nat) : (opn p l).foldl (fun d x => max d (x.2 + 1)) d = max d (if l = [] then 0 else depL l + 1) := by
  induction l generalizing p d with
  | nil => simp [opn]
  | cons t r ih =>
    simp only [opn, List.foldl_cons, ih, depL_cons]
    by_cases h : r = []
    · subst h
      simp [depL_nil]
    · simp [h]

theorem mstep_opn (p : Nat) (l : List Tm) (n : Nd) : mstep (p + (flatL l).length) (opn p l) = (p, (Tm.mk n l).dep) := by
  unfold mstep
  rw [fold_dep, dep_mk]
  congr 1
  · cases l with
    | nil => simp [opn, flatL_nil]
    | cons t r => simp [opn]
  · split
    · rename_i h
      subst h
      rw [depL_nil]
      omega
    · omega

/-- the step of the stack of measures -/
theorem opens_step {st : List Tm} {n : Nd} (i : Nat) (hi : (flatL st.reverse).length = i) :
    opens (.mk n (st.take (arity n)).reverse :: st.drop (arity n)) = (opens st).take (st.length - arity n) ++ [mstep i ((opens st).drop (st.length - arity n))] := by
  have e : st.reverse = (st.drop (arity n)).reverse ++ (st.take (arity n)).reverse := by rw [← List.reverse_append, List.take_append_drop]
  have el : ((opn 0 (st.drop (arity n)).reverse)).length = st.length - arity n := by rw [opn_length]; simp
  unfold opens
  rw [List.reverse_cons, opn_append, e, opn_append, ← el, List.take_left, List.drop_left]
  congr 1
  rw [Nat.zero_add]
  have hl : i = (flatL (st.drop (arity n)).reverse).length + (flatL (st.take (arity n)).reverse).length := by
    rw [← hi, e, flatL_append, List.length_append]
  rw [hl, mstep_opn _ _ n]
  simp [opn]

/-- the measure of the node at i -/
def topm (l : List Nd) (i : Nat) : Nat × Nat := match prun [] (l.take (i + 1)) with
  | some (t :: _) => (i + 1 - t.flat.length, t.dep)
  | _ => (0, 0)

theorem topm_of {l : List Nd} {i : Nat} {t : Tm} {st : List Tm} (h : prun [] (l.take (i + 1)) = some (t :: st)) (hi : i < l.length) : topm l i = ((flatL st.reverse).length, t.dep) := by
  have hs := prun_sound h (fun t ht => by cases ht)
  unfold topm
  rw [h]
  simp only
  congr 1
  have h2 := hs.2
  rw [List.reverse_cons, flatL_append, flatL_one] at h2
  have h3 := congrArg List.length h2
  simp [flatL_nil] at h3
  omega

theorem prun_take {l : List Nd} {st : List Tm} {i : Nat} (hi : i < l.length) (h : prun [] (l.take i) = some st) : prun [] (l.take (i + 1)) = pstep st l[i] := by
  rw [List.take_add_one, List.getElem?_eq_getElem hi]
  show prun [] (l.take i ++ [l[i]]) = _
  rw [prun_snoc, h]
  rfl

theorem prun_none {l : List Nd} {i : Nat} (h : prun [] (l.take i) = none) : prun [] l = none := by
  have : l = l.take i ++ l.drop i := (List.take_append_drop i l).symm
  rw [this, prun_append, h]
  rfl

/-- a step of a stack that is one: the measure that it lays -/
theorem topm_step {l : List Nd} {st : List Tm} {i : Nat} (hi : i < l.length) (h : prun [] (l.take i) = some st) (h1 : rightB l[i] = true) (h2 : arity l[i] ≤ st.length) :
    topm l i = mstep i ((opens st).drop (st.length - arity l[i])) ∧
    prun [] (l.take (i + 1)) = some (.mk l[i] (st.take (arity l[i])).reverse :: st.drop (arity l[i])) ∧
    opens (.mk l[i] (st.take (arity l[i])).reverse :: st.drop (arity l[i])) = (opens st).take (st.length - arity l[i]) ++ [topm l i] := by
  have hs := prun_sound h (fun t ht => by cases ht)
  have hlen : (flatL st.reverse).length = i := by
    rw [hs.2]
    simp [flatL_nil]
    omega
  have hp : prun [] (l.take (i + 1)) = some (.mk l[i] (st.take (arity l[i])).reverse :: st.drop (arity l[i])) := by
    rw [prun_take hi h]
    unfold pstep
    rw [if_pos ⟨h1, h2⟩]
  have hst := opens_step (n := l[i]) i hlen
  have ht := topm_of hp hi
  have hm : topm l i = mstep i ((opens st).drop (st.length - arity l[i])) := by
    have h3 := congrArg List.getLast? hst
    rw [List.getLast?_concat] at h3
    unfold opens at h3
    rw [List.reverse_cons, opn_append] at h3
    simp only [opn, List.getLast?_concat, Nat.zero_add] at h3
    rw [ht]
    exact Option.some.inj h3
  exact ⟨hm, hp, by rw [hm]; exact hst⟩

/-- of a tree: the measures where its parts end -/
theorem topm_part {n : Nd} {cs : List Tm} (hw : (Tm.mk n cs).wf = true) {j : Nat} (hj : j < cs.length) :
    topm (Tm.mk n cs).flat ((flatL (cs.take (j + 1))).length - 1) = ((flatL (cs.take j)).length, cs[j].dep) := by
  obtain ⟨h1, h2, h3⟩ := wf_iff.1 hw
  have e1 : flatL (cs.take (j + 1)) = flatL (cs.take j) ++ cs[j].flat := by
    rw [List.take_add_one, List.getElem?_eq_getElem hj]
    show flatL (cs.take j ++ [cs[j]]) = _
    rw [flatL_append, flatL_one]
  have hpos : 0 < (flatL (cs.take (j + 1))).length := by
    rw [e1, List.length_append]
    have := flat_pos cs[j]
    omega
  have e2 : (Tm.mk n cs).flat = flatL (cs.take (j + 1)) ++ (flatL (cs.drop (j + 1)) ++ [n]) := by
    rw [flat_mk, ← List.append_assoc, ← flatL_append, List.take_append_drop]
  have e3 : (Tm.mk n cs).flat.take ((flatL (cs.take (j + 1))).length - 1 + 1) = flatL (cs.take (j + 1)) := by
    rw [Nat.sub_add_cancel hpos, e2, List.take_left]
  have hp : prun [] ((Tm.mk n cs).flat.take ((flatL (cs.take (j + 1))).length - 1 + 1)) = some (cs[j] :: (cs.take j).reverse) := by
    rw [e3, prun_flatL _ (fun t ht => h3 t (List.mem_of_mem_take ht))]
    rw [List.take_add_one, List.getElem?_eq_getElem hj]
    simp
  rw [topm_of hp (by rw [e2, List.length_append]; omega), List.reverse_reverse]

theorem topm_root {t : Tm} (hw : t.wf = true) : topm t.flat (t.flat.length - 1) = (0, t.dep) := by
  have hpos := flat_pos t
  have hp : prun [] (t.flat.take (t.flat.length - 1 + 1)) = some [t] := by
    rw [Nat.sub_add_cancel hpos, List.take_length, prun_flat t hw]
  rw [topm_of hp (by omega)]
  rfl

/-- the depths of what waits for a root never pass that of the whole -/
theorem prun_dep {l : List Nd} : ∀ {st st' : List Tm}, prun st l = some st' → ∀ t, t ∈ st → ∃ t', t' ∈ st' ∧ t.dep ≤ t'.dep := by
  induction l with
  | nil => intro st st' h t ht; cases h; exact ⟨t, ht, Nat.le_refl _⟩
  | cons n r ih =>
    intro st st' h t ht
    simp only [prun] at h
    cases hp : pstep st n with
    | none => rw [hp] at h; cases h
    | some s1 =>
      rw [hp] at h
      have : ∃ t', t' ∈ s1 ∧ t.dep ≤ t'.dep := by
        unfold pstep at hp
        split at hp
        · cases hp
          rw [← List.take_append_drop (arity n) st] at ht
          rcases List.mem_append.1 ht with ht | ht
          · refine ⟨_, List.mem_cons_self, ?_⟩
            rw [dep_mk]
            have := dep_le_depL (List.mem_reverse.2 ht)
            omega
          · exact ⟨t, List.mem_cons_of_mem _ ht, Nat.le_refl _⟩
        · cases hp
      obtain ⟨t1, h1, h2⟩ := this
      obtain ⟨t2, h3, h4⟩ := ih h t1 h1
      exact ⟨t2, h3, by omega⟩

end Go.Proofs.YteldkcpkamgfpaaDoor

