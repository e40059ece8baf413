/- Shifts and substitutions of trees: how they go through one another (the laws of chapters 3 and 4, of trees). Plain; no function of the program is named here. -/
import Derived.Test.YtjhgpifccleknaaDoorTreeB
namespace Go.Proofs.YtjhgpifccleknaaDoor
set_option linter.unusedSimpArgs false
set_option linter.unusedVariables false

/-- the induction that all laws of two walks go by: variables, and all other nodes -/
theorem Tm.ind2 {P : Tm → Nat → Prop} (hv : ∀ (n : Nd) (l : List Tm) (c : Nat), n.K = 0 → (c : Int) ≤ n.N → P (.mk n l) c)
    (hn : ∀ (n : Nd) (l : List Tm) (c : Nat), ¬ (n.K = 0 ∧ (c : Int) ≤ n.N) → (∀ t, t ∈ l → ∀ c, P t c) → P (.mk n l) c) : ∀ t c, P t c := by
  refine Tm.ind ?_
  intro n l ih c
  by_cases h : n.K = 0 ∧ (c : Int) ≤ n.N
  · exact hv n l c h.1 h.2
  · exact hn n l c h ih

theorem bnd_var (f : Int → Nat → Tm) (n : Nd) (l : List Tm) (c : Nat) (h1 : n.K = 0) (h2 : (c : Int) ≤ n.N) : (Tm.mk n l).bnd f c = f (n.N - c) c := by
  rw [bnd_mk, if_pos ⟨h1, h2⟩]
theorem bnd_non (f : Int → Nat → Tm) (n : Nd) (l : List Tm) (c : Nat) (h : ¬ (n.K = 0 ∧ (c : Int) ≤ n.N)) : (Tm.mk n l).bnd f c = .mk n (bndL f l (bnds n) c) := by
  rw [bnd_mk, if_neg h]

/-- of parts: two walks, one behind the other, from other beginnings, are a third -/
theorem bndL_two {f g h : Int → Nat → Tm} {a b : Nat} (l : List Tm) (hl : ∀ t, t ∈ l → ∀ c, (t.bnd f (c + a)).bnd g (c + b) = t.bnd h c) (bs : List Nat) (c : Nat) :
    bndL g (bndL f l bs (c + a)) bs (c + b) = bndL h l bs c := by
  induction l generalizing bs with
  | nil => rw [bndL_nil, bndL_nil, bndL_nil]
  | cons t r ih =>
    rw [bndL_cons, bndL_cons, bndL_cons, ih (fun t ht => hl t (by simp [ht]))]
    have e1 : c + a + bs.headD 0 = c + bs.headD 0 + a := by omega
    have e2 : c + b + bs.headD 0 = c + bs.headD 0 + b := by omega
    rw [e1, e2, hl t (by simp)]

/-- of parts: one walk from another beginning is another walk -/
theorem bndL_one {f h : Int → Nat → Tm} {a : Nat} (l : List Tm) (hl : ∀ t, t ∈ l → ∀ c, t.bnd f (c + a) = t.bnd h c) (bs : List Nat) (c : Nat) :
    bndL f l bs (c + a) = bndL h l bs c := by
  induction l generalizing bs with
  | nil => rw [bndL_nil, bndL_nil]
  | cons t r ih =>
    rw [bndL_cons, bndL_cons, ih (fun t ht => hl t (by simp [ht]))]
    have e1 : c + a + bs.headD 0 = c + bs.headD 0 + a := by omega
    rw [e1, hl t (by simp)]

/-- of parts: two walks that are two others -/
theorem bndL_four {f g h k : Int → Nat → Tm} {b : Nat} (l : List Tm) (hl : ∀ t, t ∈ l → ∀ c, (t.bnd f c).bnd g (c + b) = (t.bnd h c).bnd k c) (bs : List Nat) (c : Nat) :
    bndL g (bndL f l bs c) bs (c + b) = bndL k (bndL h l bs c) bs c := by
  induction l generalizing bs with
  | nil => simp only [bndL_nil]
  | cons t r ih =>
    simp only [bndL_cons]
    rw [ih (fun t ht => hl t (by simp [ht]))]
    have e2 : c + b + bs.headD 0 = c + bs.headD 0 + b := by omega
    rw [e2, hl t (by simp)]

theorem shf_ge {b k v : Int} {u : Nat} (h : k ≤ v) : shf b k v u = vr (v + u + b) := if_pos h
theorem shf_lt {b k v : Int} {u : Nat} (h : v < k) : shf b k v u = vr (v + u) := if_neg (by omega)

theorem vr_bnd_ge (f : Int → Nat → Tm) {N : Int} {u : Nat} (h : (u : Int) ≤ N) : (vr N).bnd f u = f (N - u) u := by rw [bnd_vr, if_pos h]
theorem vr_bnd_lt (f : Int → Nat → Tm) {N : Int} {u : Nat} (h : N < u) : (vr N).bnd f u = vr N := by rw [bnd_vr, if_neg (by omega)]

/-- a shift, and a walk that begins as much further on: the walk goes through -/
theorem sh_through (g : Int → Nat → Tm) (e : Nat) (hg : ∀ v, 0 ≤ v → ∀ d, g v (d + e) = (g v d).bnd (shf e 0) d) :
    ∀ (t : Tm) (d : Nat), (t.bnd (shf e 0) d).bnd g (d + e) = (t.bnd g d).bnd (shf e 0) d := by
  refine Tm.ind2 ?_ ?_
  · intro n l c h1 h2
    rw [bnd_var _ _ _ _ h1 h2, bnd_var _ _ _ _ h1 h2, shf_ge (by omega), ← hg _ (by omega), vr_bnd_ge _ (by omega)]
    congr 1
    omega
  · intro n l c h ih
    rw [bnd_non _ _ _ _ h, bnd_non _ _ _ _ h, bnd_non _ _ _ _ h, bnd_non _ _ _ _ (by omega)]
    congr 1
    exact bndL_four l ih _ _

/-- a shift by a, then one by e from d on, where d is at most a -/
theorem sh_sh {a e : Int} {d : Nat} (hd : (d : Int) ≤ a) : ∀ (t : Tm) (c : Nat), (t.bnd (shf a 0) c).bnd (shf e 0) (c + d) = t.bnd (shf (a + e) 0) c := by
  refine Tm.ind2 ?_ ?_
  · intro n l c h1 h2
    rw [bnd_var _ _ _ _ h1 h2, bnd_var _ _ _ _ h1 h2, shf_ge (by omega), shf_ge (by omega), vr_bnd_ge _ (by omega), shf_ge (by omega)]
    congr 1
    omega
  · intro n l c h ih
    rw [bnd_non _ _ _ _ h, bnd_non _ _ _ _ h, bnd_non _ _ _ _ (by omega)]
    congr 1
    exact bndL_two (a := 0) l ih _ _

/-- two shifts from one variable on are one -/
theorem sh_add {a b k : Int} (ha : 0 ≤ a) (_hk : 0 ≤ k) (t : Tm) (u : Nat) : (t.sh a k u).sh b k u = t.sh (a + b) k u := by
  unfold Tm.sh
  rw [bnd_bnd]
  apply bnd_ext
  intro v u hv
  by_cases h : k ≤ v
  · rw [shf_ge h, shf_ge h, vr_bnd_ge _ (by omega), shf_ge (by omega)]
    congr 1
    omega
  · rw [shf_lt (by omega), shf_lt (by omega), vr_bnd_ge _ (by omega), shf_lt (by omega)]
    congr 1
    omega

/-- a node of a variable is one, where its fields are right -/
theorem var_right {n : Nd} (h : rightB n = true) (hk : n.K = 0) : n = { K := 0, N := n.N, M := 0, S := ByteArray.empty } ∧ 0 ≤ n.N ∧ n.N ≤ 99 ∧ arity n = 0 := by
  obtain ⟨K, N, M, S⟩ := n
  simp only at hk
  subst hk
  simp only [rightB, mostN, Int.toNat_zero, shp] at h
  simp at h
  obtain ⟨⟨⟨h1, h2⟩, h3⟩, h4⟩ := h
  refine ⟨?_, h1, h2, rfl⟩
  subst h3
  have e : S = ByteArray.empty := by
    simpa using h4
  rw [e]

theorem wf_var {n : Nd} {l : List Tm} (h : (Tm.mk n l).wf = true) (hk : n.K = 0) : Tm.mk n l = vr n.N ∧ 0 ≤ n.N ∧ n.N ≤ 99 := by
  obtain ⟨h1, h2, h3⟩ := wf_iff.1 h
  obtain ⟨e, h4, h5, h6⟩ := var_right h1 hk
  refine ⟨?_, h4, h5⟩
  rw [h6] at h2
  obtain rfl : l = [] := List.eq_nil_of_length_eq_zero h2
  unfold vr
  rw [← e]

theorem bndL_same {f : Int → Nat → Tm} (l : List Tm) (hl : ∀ t, t ∈ l → ∀ c, t.bnd f c = t) (bs : List Nat) (c : Nat) : bndL f l bs c = l := by
  induction l generalizing bs with
  | nil => rw [bndL_nil]
  | cons t r ih => rw [bndL_cons, hl t (by simp), ih (fun t ht => hl t (by simp [ht]))]

/-- variables of which each gives way to itself -/
theorem bnd_id {f : Int → Nat → Tm} (hf : ∀ v u, 0 ≤ v → f v u = vr (v + u)) : ∀ (t : Tm), t.wf = true → ∀ c, t.bnd f c = t := by
  refine Tm.ind ?_
  intro n l ih hw c
  by_cases h : n.K = 0 ∧ (c : Int) ≤ n.N
  · rw [bnd_var _ _ _ _ h.1 h.2, hf _ _ (by omega), (wf_var hw h.1).1]
    congr 1
    omega
  · rw [bnd_non _ _ _ _ h, bndL_same l (fun t ht => ih t ht ((wf_iff.1 hw).2.2 t ht))]

theorem sh_zero (t : Tm) (k : Int) (hw : t.wf = true) (c : Nat) : t.sh 0 k c = t :=
  bnd_id (fun v u _ => by unfold shf; split <;> (congr 1; try omega)) t hw c

/-! ### substitution -/

/-- the variable k gives way to U; those above are one less -/
def sbs (k : Nat) (U : Tm) (v : Int) (u : Nat) : Tm := if v = k then U.sh ((u + k : Nat) : Int) 0 0 else if (k : Int) < v then vr (v + u - 1) else vr (v + u)

theorem sbs_eq (k : Nat) (U : Tm) (u : Nat) : sbs k U k u = U.sh ((u + k : Nat) : Int) 0 0 := if_pos rfl
theorem sbs_gt {k : Nat} {U : Tm} {v : Int} {u : Nat} (h : (k : Int) < v) : sbs k U v u = vr (v + u - 1) := by
  unfold sbs; rw [if_neg (by omega), if_pos h]
theorem sbs_lt {k : Nat} {U : Tm} {v : Int} {u : Nat} (h : v < (k : Int)) : sbs k U v u = vr (v + u) := by
  unfold sbs; rw [if_neg (by omega), if_neg (by omega)]

theorem sbs_unif (k : Nat) (U : Tm) (e : Nat) (v : Int) (hv : 0 ≤ v) (d : Nat) : sbs k U v (d + e) = (sbs k U v d).bnd (shf e 0) d := by
  by_cases h : v = k
  · subst h
    rw [sbs_eq, sbs_eq]
    unfold Tm.sh
    have := sh_sh (a := ((d + k : Nat) : Int)) (e := (e : Int)) (d := d) (by omega) U 0
    rw [Nat.zero_add] at this
    rw [this]
    congr 2
    omega
  · by_cases h2 : (k : Int) < v
    · rw [sbs_gt h2, sbs_gt h2, vr_bnd_ge _ (by omega), shf_ge (by omega)]
      congr 1
      omega
    · rw [sbs_lt (by omega), sbs_lt (by omega), vr_bnd_ge _ (by omega), shf_ge (by omega)]
      congr 1
      omega

/-- what was shifted over a variable is not met by it -/
theorem sbs_drop (U : Tm) (e : Nat) : ∀ (t : Tm) (c : Nat), (t.bnd (shf ((e + 1 : Nat) : Int) 0) c).bnd (sbs 0 U) (c + e) = t.bnd (shf e 0) c := by
  refine Tm.ind2 ?_ ?_
  · intro n l c h1 h2
    rw [bnd_var _ _ _ _ h1 h2, bnd_var _ _ _ _ h1 h2, shf_ge (by omega), shf_ge (by omega), vr_bnd_ge _ (by omega), sbs_gt (by omega)]
    congr 1
    omega
  · intro n l c h ih
    rw [bnd_non _ _ _ _ h, bnd_non _ _ _ _ h, bnd_non _ _ _ _ (by omega)]
    congr 1
    exact bndL_two (a := 0) l ih _ _

/-- P4.3, of trees: a term put into what is put is put twice -/
theorem sbs_order (t U V : Tm) : (t.bnd (sbs 0 U) 0).bnd (sbs 0 V) 0 = (t.bnd (sbs 1 V) 0).bnd (sbs 0 (U.bnd (sbs 0 V) 0)) 0 := by
  rw [bnd_bnd, bnd_bnd]
  apply bnd_ext
  intro v u hv
  by_cases h0 : v = 0
  · subst h0
    have e1 : sbs 0 U 0 u = U.sh (u : Int) 0 0 := by rw [show (0 : Int) = ((0 : Nat) : Int) from rfl, sbs_eq]; rfl
    have e2 : ∀ W, sbs 0 W 0 u = W.sh (u : Int) 0 0 := fun W => by rw [show (0 : Int) = ((0 : Nat) : Int) from rfl, sbs_eq]; rfl
    rw [e1, sbs_lt (by omega), vr_bnd_ge _ (by omega), show (0 : Int) + u - u = 0 from by omega, e2]
    have := sh_through (sbs 0 V) u (sbs_unif 0 V u) U 0
    rw [Nat.zero_add] at this
    exact this
  · by_cases h1 : v = 1
    · subst h1
      rw [sbs_gt (by omega), vr_bnd_ge _ (by omega), show (1 : Int) + u - 1 - u = 0 from by omega]
      have e2 : ∀ W, sbs 0 W 0 u = W.sh (u : Int) 0 0 := fun W => by rw [show (0 : Int) = ((0 : Nat) : Int) from rfl, sbs_eq]; rfl
      have e3 : sbs 1 V 1 u = V.sh ((u + 1 : Nat) : Int) 0 0 := sbs_eq 1 V u
      rw [e2, e3]
      have := sbs_drop (U.bnd (sbs 0 V) 0) u V 0
      rw [Nat.zero_add] at this
      exact this.symm
    · rw [sbs_gt (by omega), sbs_gt (by omega), vr_bnd_ge _ (by omega), vr_bnd_ge _ (by omega), sbs_gt (by omega), sbs_gt (by omega)]

/-- many terms for the first variables -/
def ins (L : List Tm) (v : Int) (u : Nat) : Tm := match L[v.toNat]? with
  | some T => T.sh (u : Int) 0 0
  | none => vr (v + u - L.length)

theorem sbs0 (W : Tm) (u : Nat) : sbs 0 W 0 u = W.sh (u : Int) 0 0 := by rw [show (0 : Int) = ((0 : Nat) : Int) from rfl, sbs_eq]; rfl

theorem ins_one (U : Tm) (v : Int) (u : Nat) (hv : 0 ≤ v) : ins [U] v u = sbs 0 U v u := by
  by_cases h : v = 0
  · subst h
    rw [sbs0]
    rfl
  · rw [sbs_gt (by omega)]
    unfold ins
    have : ([U] : List Tm)[v.toNat]? = none := by simp; omega
    rw [this]
    congr 1

/-- P4.3, of trees: two variables' terms in either order -/
theorem ins_two_a (t U V : Tm) : t.bnd (ins [U, V]) 0 = (t.bnd (sbs 0 (U.sh 1 0 0)) 0).bnd (sbs 0 V) 0 := by
  rw [bnd_bnd]
  apply bnd_ext
  intro v u hv
  by_cases h0 : v = 0
  · subst h0
    rw [sbs0]
    have e : (U.sh 1 0 0).sh (u : Int) 0 0 = U.bnd (shf ((u + 1 : Nat) : Int) 0) 0 := by
      rw [sh_add (by omega) (by omega)]
      unfold Tm.sh
      congr 2
      omega
    rw [e]
    have := sbs_drop V u U 0
    rw [Nat.zero_add] at this
    rw [this]
    rfl
  · by_cases h1 : v = 1
    · subst h1
      rw [sbs_gt (by omega), vr_bnd_ge _ (by omega), show (1 : Int) + u - 1 - u = 0 from by omega, sbs0]
      rfl
    · rw [sbs_gt (by omega), vr_bnd_ge _ (by omega), sbs_gt (by omega)]
      unfold ins
      have : ([U, V] : List Tm)[v.toNat]? = none := by simp; omega
      rw [this]
      simp only [List.length_cons, List.length_nil]
      congr 1
      omega

theorem ins_two_b (t U V : Tm) : t.bnd (ins [U, V]) 0 = (t.bnd (sbs 1 V) 0).bnd (sbs 0 U) 0 := by
  rw [bnd_bnd]
  apply bnd_ext
  intro v u hv
  by_cases h0 : v = 0
  · subst h0
    rw [sbs_lt (by omega), vr_bnd_ge _ (by omega), show (0 : Int) + u - u = 0 from by omega, sbs0]
    rfl
  · by_cases h1 : v = 1
    · subst h1
      have e3 : sbs 1 V 1 u = V.sh ((u + 1 : Nat) : Int) 0 0 := sbs_eq 1 V u
      rw [e3]
      have := sbs_drop U u V 0
      rw [Nat.zero_add] at this
      exact this.symm
    · rw [sbs_gt (by omega), vr_bnd_ge _ (by omega), sbs_gt (by omega)]
      unfold ins
      have : ([U, V] : List Tm)[v.toNat]? = none := by simp; omega
      rw [this]
      simp only [List.length_cons, List.length_nil]
      congr 1
      omega

/-- P4.3, of trees: into a term that is shifted away from it -/
theorem sbs_away (t U : Tm) (hw : t.wf = true) : (t.sh 1 0 0).bnd (sbs 0 U) 0 = t := by
  have := sbs_drop U 0 t 0
  simp only [Nat.zero_add] at this
  unfold Tm.sh
  rw [show (1 : Int) = ((1 : Nat) : Int) from rfl, this]
  exact sh_zero t 0 hw 0

/-- of parts, from there -/
theorem sbs_part (k b : Nat) (U : Tm) : ∀ (t : Tm), t.wf = true → ∀ c, t.bnd (sbs k U) (c + b) = t.bnd (sbs (k + b) U) c := by
  refine Tm.ind ?_
  intro n l ih hw c
  by_cases h : n.K = 0 ∧ ((c + b : Nat) : Int) ≤ n.N
  · rw [bnd_var _ _ _ _ h.1 h.2, bnd_var _ _ _ _ h.1 (by omega)]
    by_cases h1 : n.N - ((c + b : Nat) : Int) = k
    · rw [h1, show n.N - (c : Int) = ((k + b : Nat) : Int) from by omega, sbs_eq, sbs_eq]
      congr 1
      omega
    · by_cases h2 : (k : Int) < n.N - ((c + b : Nat) : Int)
      · rw [sbs_gt h2, sbs_gt (by omega)]
        congr 1
        omega
      · rw [sbs_lt (by omega), sbs_lt (by omega)]
        congr 1
        omega
  · by_cases h1 : n.K = 0 ∧ (c : Int) ≤ n.N
    · obtain ⟨e, _⟩ := wf_var hw h1.1
      rw [bnd_var _ _ _ _ h1.1 h1.2, sbs_lt (by omega), e, vr_bnd_lt _ (by omega)]
      congr 1
      omega
    · rw [bnd_non _ _ _ _ h, bnd_non _ _ _ _ h1]
      congr 1
      have hl := wf_iff.1 hw
      exact bndL_one l (fun t ht c => ih t ht (hl.2.2 t ht) c) _ _

theorem sh_part (e k : Int) (b : Nat) (hk : 0 ≤ k) : ∀ (t : Tm), t.wf = true → ∀ c, t.bnd (shf e k) (c + b) = t.bnd (shf e (k + b)) c := by
  refine Tm.ind ?_
  intro n l ih hw c
  by_cases h : n.K = 0 ∧ ((c + b : Nat) : Int) ≤ n.N
  · rw [bnd_var _ _ _ _ h.1 h.2, bnd_var _ _ _ _ h.1 (by omega)]
    by_cases h2 : k ≤ n.N - ((c + b : Nat) : Int)
    · rw [shf_ge h2, shf_ge (by omega)]
      congr 1
      omega
    · rw [shf_lt (by omega), shf_lt (by omega)]
      congr 1
      omega
  · by_cases h1 : n.K = 0 ∧ (c : Int) ≤ n.N
    · obtain ⟨e', _⟩ := wf_var hw h1.1
      rw [bnd_var _ _ _ _ h1.1 h1.2, shf_lt (by omega), e', vr_bnd_lt _ (by omega)]
      congr 1
      omega
    · rw [bnd_non _ _ _ _ h, bnd_non _ _ _ _ h1]
      congr 1
      have hl := wf_iff.1 hw
      exact bndL_one l (fun t ht c => ih t ht (hl.2.2 t ht) c) _ _

end Go.Proofs.YtjhgpifccleknaaDoor
