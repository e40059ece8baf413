/- Trees, on: how many binders each node is under ('und'), the stack of numbers that tells it from the root on ('vrun'), and what is put in the places of free variables ('bnd'): shifts and substitutions are such. Plain lists; no function of the program is named here. -/
import Derived.Test.YtjhgpifccleknaaDoorTree
namespace Go.Proofs.YtjhgpifccleknaaDoor
set_option linter.unusedSimpArgs false
set_option linter.unusedVariables false

mutual
def Tm.und : Tm → Nat → List Nat
  | .mk n l, u => undL l (bnds n) u ++ [u]
def undL : List Tm → List Nat → Nat → List Nat
  | [], _, _ => []
  | t :: r, bs, u => t.und (u + bs.headD 0) ++ undL r bs.tail u
end

theorem und_mk (n : Nd) (l : List Tm) (u : Nat) : (Tm.mk n l).und u = undL l (bnds n) u ++ [u] := by rw [Tm.und]
theorem undL_nil (bs : List Nat) (u : Nat) : undL [] bs u = [] := by rw [undL]
theorem undL_cons (t : Tm) (r : List Tm) (bs : List Nat) (u : Nat) : undL (t :: r) bs u = t.und (u + bs.headD 0) ++ undL r bs.tail u := by rw [undL]

theorem und_length : ∀ (t : Tm) (u : Nat), (t.und u).length = t.flat.length := by
  refine Tm.ind ?_
  intro n l ih u
  rw [und_mk, flat_mk, List.length_append, List.length_append]
  have hl : ∀ (l : List Tm), (∀ t, t ∈ l → ∀ u, (t.und u).length = t.flat.length) → ∀ bs u, (undL l bs u).length = (flatL l).length := by
    intro l
    induction l with
    | nil => intro _ bs u; rw [undL_nil, flatL_nil]; rfl
    | cons t r ihr =>
      intro h bs u
      rw [undL_cons, flatL_cons, List.length_append, List.length_append, h t (by simp), ihr (fun t ht => h t (by simp [ht]))]
  rw [hl l ih]
  rfl

theorem undL_length (l : List Tm) (bs : List Nat) (u : Nat) : (undL l bs u).length = (flatL l).length := by
  induction l generalizing bs with
  | nil => rw [undL_nil, flatL_nil]; rfl
  | cons t r ih => rw [undL_cons, flatL_cons, List.length_append, List.length_append, und_length, ih]

/-- one step of the walk from the root on: the number on top is the node's; what its parts are under is laid on top -/
def vstep (o : List Nat) (n : Nd) : List Nat := ((bnds n).map (o.headD 0 + ·)).reverse ++ o.tail
/-- the numbers that are met, from the last node on -/
def vrun : List Nat → List Nd → List Nat
  | _, [] => []
  | o, n :: r => o.headD 0 :: vrun (vstep o n) r
def vend : List Nat → List Nd → List Nat
  | o, [] => o
  | o, n :: r => vend (vstep o n) r

theorem vrun_append (o : List Nat) (a b : List Nd) : vrun o (a ++ b) = vrun o a ++ vrun (vend o a) b := by
  induction a generalizing o with
  | nil => simp [vrun, vend]
  | cons n r ih => simp [vrun, vend, ih]
theorem vend_append (o : List Nat) (a b : List Nd) : vend o (a ++ b) = vend (vend o a) b := by
  induction a generalizing o with
  | nil => simp [vend]
  | cons n r ih => simp [vend, ih]

/-- the numbers of parts -/
def ofs (bs : List Nat) (u : Nat) : List Nat := bs.map (u + ·)

theorem vrun_flat : ∀ (t : Tm), t.wf = true → ∀ u o, vrun (u :: o) t.flat.reverse = (t.und u).reverse ∧ vend (u :: o) t.flat.reverse = o := by
  refine Tm.ind ?_
  intro n l ih hwf u o
  obtain ⟨h1, h2, h3⟩ := wf_iff.1 hwf
  have hl : ∀ (l : List Tm), (∀ t, t ∈ l → t.wf = true) → (∀ t, t ∈ l → ∀ u o, vrun (u :: o) t.flat.reverse = (t.und u).reverse ∧ vend (u :: o) t.flat.reverse = o) →
      ∀ bs : List Nat, bs.length = l.length → ∀ o, vrun ((bs.map (u + ·)).reverse ++ o) (flatL l).reverse = (undL l bs u).reverse ∧ vend ((bs.map (u + ·)).reverse ++ o) (flatL l).reverse = o := by
    intro l
    induction l with
    | nil =>
      intro _ _ bs hb o
      obtain rfl : bs = [] := List.eq_nil_of_length_eq_zero (by simpa using hb)
      simp [flatL_nil, undL_nil, vrun, vend]
    | cons t r ihr =>
      intro hw ht bs hb o
      cases bs with
      | nil => simp at hb
      | cons b bs =>
        have e : (((b :: bs).map (u + ·)).reverse ++ o) = (bs.map (u + ·)).reverse ++ ((u + b) :: o) := by simp
        have hr := ihr (fun t h => hw t (by simp [h])) (fun t h => ht t (by simp [h])) bs (by simpa using hb) ((u + b) :: o)
        have ht' := ht t (by simp) (u + b) o
        rw [e, flatL_cons, List.reverse_append, vrun_append, vend_append, hr.1, hr.2, ht'.1, ht'.2, undL_cons]
        simp
  have hl' := hl l h3 (fun t ht => ih t ht (h3 t ht)) (bnds n) h2.symm o
  rw [flat_mk, List.reverse_append]
  have es : vstep (u :: o) n = ((bnds n).map (u + ·)).reverse ++ o := by simp [vstep]
  simp only [List.reverse_cons, List.reverse_nil, List.nil_append, List.cons_append, vrun, vend, es, hl'.1, hl'.2, und_mk, List.headD_cons, List.reverse_append]
  simp

/-! ### what is put in the places of free variables -/

def vr (N : Int) : Tm := .mk { K := 0, N := N, M := 0, S := ByteArray.empty } []

mutual
/-- each free variable v, met under u binders, gives way to f v u -/
def Tm.bnd (f : Int → Nat → Tm) : Tm → Nat → Tm
  | .mk n l, u => if n.K = 0 ∧ (u : Int) ≤ n.N then f (n.N - u) u else .mk n (bndL f l (bnds n) u)
def bndL (f : Int → Nat → Tm) : List Tm → List Nat → Nat → List Tm
  | [], _, _ => []
  | t :: r, bs, u => t.bnd f (u + bs.headD 0) :: bndL f r bs.tail u
end

theorem bnd_mk (f : Int → Nat → Tm) (n : Nd) (l : List Tm) (u : Nat) :
    (Tm.mk n l).bnd f u = if n.K = 0 ∧ (u : Int) ≤ n.N then f (n.N - u) u else .mk n (bndL f l (bnds n) u) := by rw [Tm.bnd]
theorem bndL_nil (f : Int → Nat → Tm) (bs : List Nat) (u : Nat) : bndL f [] bs u = [] := by rw [bndL]
theorem bndL_cons (f : Int → Nat → Tm) (t : Tm) (r : List Tm) (bs : List Nat) (u : Nat) : bndL f (t :: r) bs u = t.bnd f (u + bs.headD 0) :: bndL f r bs.tail u := by rw [bndL]
theorem bndL_length (f : Int → Nat → Tm) (l : List Tm) (bs : List Nat) (u : Nat) : (bndL f l bs u).length = l.length := by
  induction l generalizing bs with
  | nil => rw [bndL_nil]
  | cons t r ih => rw [bndL_cons]; simp [ih]

/-- what holds of lists of parts if it holds of each part -/
theorem bndL_ext {f g : Int → Nat → Tm} (l : List Tm) (h : ∀ t, t ∈ l → ∀ u, t.bnd f u = t.bnd g u) (bs : List Nat) (u : Nat) : bndL f l bs u = bndL g l bs u := by
  induction l generalizing bs with
  | nil => rw [bndL_nil, bndL_nil]
  | cons t r ih => rw [bndL_cons, bndL_cons, h t (by simp), ih (fun t ht => h t (by simp [ht]))]

theorem bnd_bnd (f g : Int → Nat → Tm) : ∀ (t : Tm) (u : Nat), (t.bnd f u).bnd g u = t.bnd (fun v u => (f v u).bnd g u) u := by
  refine Tm.ind ?_
  intro n l ih u
  rw [bnd_mk, bnd_mk]
  split
  · rfl
  · rename_i hc
    rw [bnd_mk, if_neg hc]
    congr 1
    have hl : ∀ (l : List Tm), (∀ t, t ∈ l → ∀ u, (t.bnd f u).bnd g u = t.bnd (fun v u => (f v u).bnd g u) u) → ∀ bs u, bndL g (bndL f l bs u) bs u = bndL (fun v u => (f v u).bnd g u) l bs u := by
      intro l
      induction l with
      | nil => intro _ bs u; rw [bndL_nil, bndL_nil, bndL_nil]
      | cons t r ihr => intro h bs u; rw [bndL_cons, bndL_cons, bndL_cons, h t (by simp), ihr (fun t ht => h t (by simp [ht]))]
    exact hl l ih _ _

/-- the same, where both agree at every variable that is free -/
theorem bnd_ext {f g : Int → Nat → Tm} (h : ∀ (v : Int) (u : Nat), 0 ≤ v → f v u = g v u) : ∀ (t : Tm) (u : Nat), t.bnd f u = t.bnd g u := by
  refine Tm.ind ?_
  intro n l ih u
  rw [bnd_mk, bnd_mk]
  split
  · rename_i hc
    exact h _ _ (by omega)
  · rw [bndL_ext l ih]

/-- a variable stays as it is -/
theorem bnd_vr (f : Int → Nat → Tm) (N : Int) (u : Nat) : (vr N).bnd f u = if (u : Int) ≤ N then f (N - u) u else vr N := by
  unfold vr
  rw [bnd_mk]
  split
  · rename_i hc
    rw [if_pos hc.2]
  · rename_i hc
    rw [if_neg (fun h => hc ⟨rfl, h⟩), bndL_nil]

/-- a shift: by so many, from a variable on -/
def shf (b k : Int) (v : Int) (u : Nat) : Tm := if k ≤ v then vr (v + u + b) else vr (v + u)
def Tm.sh (b k : Int) (t : Tm) (u : Nat) : Tm := t.bnd (shf b k) u

end Go.Proofs.YtjhgpifccleknaaDoor
