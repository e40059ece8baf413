/- Trees node by node ('zw'): what a shift and a substitution make of each node, and which error comes first. Plain; no function of the program is named here. -/
import Derived.Test.YtjhgpifccleknaaDoorTreeC
namespace Go.Proofs.YtjhgpifccleknaaDoor
set_option linter.unusedSimpArgs false
set_option linter.unusedVariables false

/-- something of each node and of how many binders it is under, in the nodes' order -/
def Tm.zw {β : Type} (g : Nd → Nat → β) (t : Tm) (u : Nat) : List β := List.zipWith g t.flat (t.und u)
def zwL {β : Type} (g : Nd → Nat → β) (l : List Tm) (bs : List Nat) (u : Nat) : List β := List.zipWith g (flatL l) (undL l bs u)

section
variable {β : Type} (g : Nd → Nat → β)
theorem zw_mk (n : Nd) (l : List Tm) (u : Nat) : (Tm.mk n l).zw g u = zwL g l (bnds n) u ++ [g n u] := by
  unfold Tm.zw zwL
  rw [flat_mk, und_mk, List.zipWith_append (by rw [undL_length])]
  rfl
theorem zwL_nil (bs : List Nat) (u : Nat) : zwL g [] bs u = [] := by unfold zwL; rw [flatL_nil]; rfl
theorem zwL_cons (t : Tm) (r : List Tm) (bs : List Nat) (u : Nat) : zwL g (t :: r) bs u = t.zw g (u + bs.headD 0) ++ zwL g r bs.tail u := by
  unfold Tm.zw zwL
  rw [flatL_cons, undL_cons, List.zipWith_append (by rw [und_length])]
theorem zw_length (t : Tm) (u : Nat) : (t.zw g u).length = t.flat.length := by
  unfold Tm.zw
  rw [List.length_zipWith, und_length, Nat.min_self]
end

theorem zwL_ext {β : Type} {g h : Nd → Nat → β} (l : List Tm) (hl : ∀ t, t ∈ l → ∀ u, t.zw g u = t.zw h u) (bs : List Nat) (u : Nat) : zwL g l bs u = zwL h l bs u := by
  induction l generalizing bs with
  | nil => rw [zwL_nil, zwL_nil]
  | cons t r ih => rw [zwL_cons, zwL_cons, hl t (by simp), ih (fun t ht => hl t (by simp [ht]))]

theorem bnd_flat (f : Int → Nat → Tm) : ∀ t : Tm, t.wf = true → ∀ u, (t.bnd f u).flat = (t.zw (fun n u => if n.K = 0 ∧ (u : Int) ≤ n.N then (f (n.N - u) u).flat else [n]) u).flatten := by
  refine Tm.ind ?_
  intro n l ih hw u
  rw [zw_mk]
  by_cases h : n.K = 0 ∧ (u : Int) ≤ n.N
  · obtain ⟨h1, h2, h3⟩ := wf_iff.1 hw
    obtain ⟨_, _, _, h4⟩ := var_right h1 h.1
    obtain rfl : l = [] := List.eq_nil_of_length_eq_zero (by omega)
    rw [bnd_var _ _ _ _ h.1 h.2, zwL_nil]
    simp [h]
  · rw [bnd_non _ _ _ _ h, flat_mk]
    have hl : ∀ (l : List Tm), (∀ t, t ∈ l → ∀ u, (t.bnd f u).flat = (t.zw (fun n u => if n.K = 0 ∧ (u : Int) ≤ n.N then (f (n.N - u) u).flat else [n]) u).flatten) → ∀ bs u,
        flatL (bndL f l bs u) = (zwL (fun n u => if n.K = 0 ∧ (u : Int) ≤ n.N then (f (n.N - u) u).flat else [n]) l bs u).flatten := by
      intro l
      induction l with
      | nil => intro _ bs u; rw [bndL_nil, flatL_nil, zwL_nil]; rfl
      | cons t r ihr => intro h bs u; rw [bndL_cons, flatL_cons, zwL_cons, List.flatten_append, h t (by simp), ihr (fun t ht => h t (by simp [ht]))]
    rw [hl l (fun t ht => ih t ht ((wf_iff.1 hw).2.2 t ht))]
    simp [h]

theorem bnd_dep {f : Int → Nat → Tm} (hf : ∀ v u, 0 ≤ v → ∃ N, f v u = vr N) : ∀ t : Tm, t.wf = true → ∀ u, (t.bnd f u).dep = t.dep := by
  refine Tm.ind ?_
  intro n l ih hw u
  by_cases h : n.K = 0 ∧ (u : Int) ≤ n.N
  · obtain ⟨e, _⟩ := wf_var hw h.1
    rw [bnd_var _ _ _ _ h.1 h.2, e]
    obtain ⟨N, hN⟩ := hf (n.N - u) u (by omega)
    rw [hN]
    simp [vr, dep_mk]
  · rw [bnd_non _ _ _ _ h, dep_mk, dep_mk]
    have hl : ∀ (l : List Tm), (∀ t, t ∈ l → ∀ u, (t.bnd f u).dep = t.dep) → ∀ bs u, depL (bndL f l bs u) = depL l := by
      intro l
      induction l with
      | nil => intro _ bs u; rw [bndL_nil]
      | cons t r ihr => intro h bs u; rw [bndL_cons, depL_cons, depL_cons, h t (by simp), ihr (fun t ht => h t (by simp [ht]))]
    rw [hl l (fun t ht => ih t ht ((wf_iff.1 hw).2.2 t ht))]

/-! ### errors of nodes: the first one counts -/

def fstE : List Int → Int
  | [] => 0
  | e :: r => if e = 0 then fstE r else e

theorem fstE_append (a b : List Int) : fstE (a ++ b) = if fstE a = 0 then fstE b else fstE a := by
  induction a with
  | nil => simp [fstE]
  | cons e r ih =>
    simp only [List.cons_append, fstE]
    by_cases h : e = 0
    · simp [h, ih]
    · simp [h]
theorem fstE_zero {l : List Int} : fstE l = 0 ↔ ∀ e, e ∈ l → e = 0 := by
  induction l with
  | nil => simp [fstE]
  | cons e r ih =>
    simp only [fstE]
    by_cases h : e = 0
    · simp [h, ih]
    · simp [h]

/-- what a shift makes of a node -/
def shN (b k : Int) (n : Nd) (u : Nat) : Nd := if n.K = 0 ∧ k ≤ n.N - u then { n with N := n.N + b } else n
/-- and its error -/
def shE (b k : Int) (n : Nd) (u : Nat) : Int := if n.K = 0 ∧ k ≤ n.N - u then (if n.N + b - u < k then 30 else if 99 < n.N + b then 2 else 0) else 0

theorem sh_flat (b k : Int) (hk : 0 ≤ k) (t : Tm) (hw : t.wf = true) (u : Nat) : (t.sh b k u).flat = t.zw (shN b k) u := by
  unfold Tm.sh
  rw [bnd_flat _ t hw]
  have : ∀ t : Tm, t.wf = true → ∀ u, t.zw (fun n u => if n.K = 0 ∧ (u : Int) ≤ n.N then (shf b k (n.N - u) u).flat else [n]) u = (t.zw (shN b k) u).map (fun x => [x]) := by
    refine Tm.ind ?_
    intro n l ih hw u
    have hl : ∀ (l : List Tm), (∀ t, t ∈ l → ∀ u, t.zw (fun n u => if n.K = 0 ∧ (u : Int) ≤ n.N then (shf b k (n.N - u) u).flat else [n]) u = (t.zw (shN b k) u).map (fun x => [x])) → ∀ bs u,
        zwL (fun n u => if n.K = 0 ∧ (u : Int) ≤ n.N then (shf b k (n.N - u) u).flat else [n]) l bs u = (zwL (shN b k) l bs u).map (fun x => [x]) := by
      intro l
      induction l with
      | nil => intro _ bs u; rw [zwL_nil, zwL_nil]; rfl
      | cons t r ihr => intro h bs u; rw [zwL_cons, zwL_cons, List.map_append, h t (by simp), ihr (fun t ht => h t (by simp [ht]))]
    rw [zw_mk, zw_mk, List.map_append, hl l (fun t ht => ih t ht ((wf_iff.1 hw).2.2 t ht))]
    congr 1
    simp only [List.map_cons, List.map_nil, List.cons.injEq, and_true]
    have hr := (wf_iff.1 hw).1
    by_cases h : n.K = 0 ∧ (u : Int) ≤ n.N
    · obtain ⟨e, _⟩ := var_right hr h.1
      rw [if_pos h]
      unfold shN
      by_cases h2 : k ≤ n.N - u
      · rw [shf_ge h2, if_pos ⟨h.1, h2⟩]
        simp only [vr, flat_mk, flatL_nil, List.nil_append, List.cons.injEq, and_true]
        rw [e]
        simp
      · rw [shf_lt (by omega), if_neg (by omega)]
        simp only [vr, flat_mk, flatL_nil, List.nil_append, List.cons.injEq, and_true]
        rw [e]
        simp
    · rw [if_neg h]
      unfold shN
      rw [if_neg (by omega)]
  rw [this t hw u]
  induction t.zw (shN b k) u with
  | nil => rfl
  | cons x r ih => simp [ih]

theorem wf_vr {N : Int} (h1 : 0 ≤ N) (h2 : N ≤ 99) : (vr N).wf = true := by
  unfold vr
  refine wf_iff.2 ⟨?_, rfl, fun t ht => by cases ht⟩
  simp only [rightB, mostN, Int.toNat_zero, shp]
  simp [h1, h2]

/-- of a term that is one a walk makes one, if what each variable gives way to is one -/
theorem bnd_wf {f : Int → Nat → Tm} : ∀ t : Tm, t.wf = true → ∀ u, (∀ x, x ∈ t.zw (fun n u => if n.K = 0 ∧ (u : Int) ≤ n.N then (f (n.N - u) u).wf else true) u → x = true) → (t.bnd f u).wf = true := by
  refine Tm.ind ?_
  intro n l ih hw u hx
  rw [zw_mk] at hx
  by_cases h : n.K = 0 ∧ (u : Int) ≤ n.N
  · rw [bnd_var _ _ _ _ h.1 h.2]
    have := hx (if n.K = 0 ∧ (u : Int) ≤ n.N then (f (n.N - u) u).wf else true) (by simp)
    rwa [if_pos h] at this
  · rw [bnd_non _ _ _ _ h]
    obtain ⟨h1, h2, h3⟩ := wf_iff.1 hw
    refine wf_iff.2 ⟨h1, by rw [bndL_length]; exact h2, ?_⟩
    have hl : ∀ (l : List Tm), (∀ t, t ∈ l → ∀ u, (∀ x, x ∈ t.zw (fun n u => if n.K = 0 ∧ (u : Int) ≤ n.N then (f (n.N - u) u).wf else true) u → x = true) → (t.bnd f u).wf = true) → ∀ bs u,
        (∀ x, x ∈ zwL (fun n u => if n.K = 0 ∧ (u : Int) ≤ n.N then (f (n.N - u) u).wf else true) l bs u → x = true) → ∀ t, t ∈ bndL f l bs u → t.wf = true := by
      intro l
      induction l with
      | nil => intro _ bs u _ t ht; rw [bndL_nil] at ht; cases ht
      | cons t r ihr =>
        intro h bs u hx t' ht'
        rw [zwL_cons] at hx
        rw [bndL_cons] at ht'
        rcases List.mem_cons.1 ht' with rfl | ht'
        · exact h t (by simp) _ (fun x hx' => hx x (List.mem_append.2 (.inl hx')))
        · exact ihr (fun t ht => h t (by simp [ht])) _ _ (fun x hx' => hx x (List.mem_append.2 (.inr hx'))) t' ht'
    exact hl l (fun t ht => ih t ht (h3 t ht)) (bnds n) u (fun x hx' => hx x (List.mem_append.2 (.inl hx')))

end Go.Proofs.YtjhgpifccleknaaDoor
