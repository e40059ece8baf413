/- Plain: what is put into a closed term changes nothing; of a term into which closed ones are put for all its free variables nothing is free. No function of the program is named here. -/
import Derived.Test.YtjhgpifccleknaaDoorSubLawB
namespace Go.Proofs.YtjhgpifccleknaaDoor
set_option linter.unusedSimpArgs false
set_option linter.unusedVariables false

theorem closed_fv {u : List Nd} {U : Tm} (hc : chk u = 0) (hU : whole u = some U) (hz : freeN u = 0) : U.fv 0 = [] := by
  rw [freeN_top hc hU] at hz
  exact topV_zero (fun x hx => (fv_bound (whole_some hU).1 x hx).1) hz
theorem fv_at {T : Tm} : ∀ p, p ∈ T.prs 0 → p.1.K = 0 ∧ (p.2 : Int) ≤ p.1.N → p.1.N - (p.2 : Int) ∈ T.fv 0 := by
  intro p hp hv
  rw [fv_prs]
  refine List.mem_flatten.2 ⟨fvG p.1 p.2, List.mem_map.2 ⟨p, hp, rfl⟩, ?_⟩
  unfold fvG
  rw [if_pos hv]
  simp
theorem closed_shift {u : List Nd} (hc : chk u = 0) (hz : freeN u = 0) (b : Int) : shiftE b 0 u = 0 ∧ shiftL b 0 u = u := by
  obtain ⟨_, U, hU, _⟩ := chk_ok hc
  have hf := closed_fv hc hU hz
  have hE : shiftE b 0 u = 0 := by
    rw [shiftE_of hc hU]
    refine fstE_same fun p hp => ?_
    unfold shE
    rw [if_neg]
    rintro ⟨h1, h2⟩
    have := fv_at p hp ⟨h1, by omega⟩
    rw [hf] at this
    cases this
  exact ⟨hE, free_closed hE hz⟩
theorem fv_more {T : Tm} (h : T.fv 0 = []) (x : Nat) : T.fv x = [] := by
  refine List.eq_nil_iff_forall_not_mem.2 fun y hy => ?_
  unfold Tm.fv at hy
  rw [show x = 0 + x from by omega, zw_add, zw_prs] at hy
  obtain ⟨L, hL, hy⟩ := List.mem_flatten.1 hy
  obtain ⟨p, hp, rfl⟩ := List.mem_map.1 hL
  simp only [fvG] at hy
  split at hy
  · rename_i h1
    have := fv_at p hp ⟨h1.1, by omega⟩
    rw [h] at this
    cases this
  · cases hy
theorem bnd_fv (f : Int → Nat → Tm) : ∀ t : Tm, t.wf = true → ∀ u, (t.bnd f u).fv u = (t.zw (fun n u => if n.K = 0 ∧ (u : Int) ≤ n.N then (f (n.N - u) u).fv u else []) u).flatten := by
  refine Tm.ind ?_
  intro n l ih hw u
  rw [zw_mk]
  by_cases h : n.K = 0 ∧ (u : Int) ≤ n.N
  · obtain ⟨h1, h2, h3⟩ := wf_iff.1 hw
    obtain ⟨_, _, _, h4⟩ := var_right h1 h.1
    obtain rfl : l = [] := List.eq_nil_of_length_eq_zero (by omega)
    rw [bnd_var _ _ _ _ h.1 h.2, zwL_nil]
    simp [h]
  · rw [bnd_non _ _ _ _ h, fv_mk]
    have hl : ∀ (l : List Tm), (∀ t, t ∈ l → ∀ u, (t.bnd f u).fv u = (t.zw (fun n u => if n.K = 0 ∧ (u : Int) ≤ n.N then (f (n.N - u) u).fv u else []) u).flatten) → ∀ bs u,
        (zwL fvG (bndL f l bs u) bs u).flatten = (zwL (fun n u => if n.K = 0 ∧ (u : Int) ≤ n.N then (f (n.N - u) u).fv u else []) l bs u).flatten := by
      intro l
      induction l with
      | nil => intro _ bs u; rw [bndL_nil, zwL_nil, zwL_nil]
      | cons t r ihr =>
        intro h bs u
        rw [bndL_cons, zwL_cons, zwL_cons, List.flatten_append, List.flatten_append, ihr (fun t ht => h t (by simp [ht]))]
        congr 1
        exact h t (by simp) _
    rw [hl l (fun t ht => ih t ht ((wf_iff.1 hw).2.2 t ht))]
    have e : fvG n u = [] := by unfold fvG; rw [if_neg h]
    rw [e]
    simp [h]

theorem rep_whole {u : List Nd} {U : Tm} (hU : whole u = some U) (n : Nat) : ∀ i (h : i < (List.replicate n u).length) (h2 : i < (List.replicate n U).length), whole (List.replicate n u)[i] = some (List.replicate n U)[i] := by
  intro i h h2
  rw [List.getElem_replicate, List.getElem_replicate]
  exact hU
theorem rep_chks {t u : List Nd} (ht : chk t = 0) (hu : chk u = 0) (n : Nat) : chks (t :: List.replicate n u) = 0 := by
  refine chks_zero.2 fun l hl => ?_
  rcases List.mem_cons.1 hl with rfl | hl
  · exact ht
  · rw [List.eq_of_mem_replicate hl]; exact hu
theorem rep_errN {u : List Nd} (hu : chk u = 0) (hz : freeN u = 0) (n : Nat) (nd : Nd) (x : Nat) : errN (iU (List.replicate n u)) (iB (List.replicate n u)) nd x = 0 := by
  by_cases hv : nd.K = 0 ∧ (x : Int) ≤ nd.N
  · cases he : iU (List.replicate n u) (nd.N - x) with
    | none => exact errN_none _ _ hv he
    | some l =>
      rw [errN_some _ _ hv he]
      have : l = u := by
        unfold iU at he
        exact List.eq_of_mem_replicate (List.mem_of_getElem? he)
      rw [this]
      exact (closed_shift hu hz _).1
  · exact errN_non _ _ hv
/-- the error is one of size or depth, or none -/
theorem free_err {t u : List Nd} (ht : chk t = 0) (hu : chk u = 0) (hz : freeN u = 0) (n : Nat) : insE (List.replicate n u) t = 0 ∨ insE (List.replicate n u) t = 21 ∨ insE (List.replicate n u) t = 22 := by
  obtain ⟨_, T, hT, _⟩ := chk_ok ht
  obtain ⟨_, U, hU, _⟩ := chk_ok hu
  rw [insE_of (rep_chks ht hu n) hT]
  obtain ⟨h1, h2⟩ := put_none (fits_ins (M := List.replicate n U) (by simp) (rep_whole hU n)) (whole_some hT).1 (fun p _ => rep_errN hu hz n p.1 p.2)
  rw [h1, chk_flat h2]
  split
  · exact .inr (.inl rfl)
  · split
    · exact .inr (.inr rfl)
    · exact .inl rfl
theorem free_none {t : List Nd} (ht : chk t = 0) (hz : freeN t = 0) : insE [] t = 0 ∧ insL [] t = t := by
  obtain ⟨_, T, hT, _⟩ := chk_ok ht
  obtain ⟨hwf, hfl⟩ := whole_some hT
  have hf := closed_fv ht hT hz
  have hc : chks [t] = 0 := chks_zero.2 fun l hl => by simp at hl; rw [hl]; exact ht
  have hv : ∀ p, p ∈ T.prs 0 → ¬ (p.1.K = 0 ∧ (p.2 : Int) ≤ p.1.N) := by
    intro p hp h
    have := fv_at p hp h
    rw [hf] at this
    cases this
  have h0 : fstE (T.zw (errN (iU []) (iB [])) 0) = 0 := fstE_same fun p hp => errN_non _ _ (hv p hp)
  have h1 : (T.zw (outN (iU []) (iB [])) 0).flatten = t := by
    rw [zw_prs]
    have : (T.prs 0).map (fun p => outN (iU []) (iB []) p.1 p.2) = (T.prs 0).map (fun p => [p.1]) := List.map_congr_left fun p hp => outN_non _ _ (hv p hp)
    rw [this, one_flat]
    have h2 := zw_id (T := T) (u := 0)
    rw [zw_prs] at h2
    rw [h2, hfl]
  have hE : putE (iU []) (iB []) T = 0 := by unfold putE; rw [if_pos h0, h1, ht]
  rw [insE_of hc hT, insL_of hc hT]
  refine ⟨hE, ?_⟩
  unfold putL
  rw [if_pos hE, h1]
theorem free_gone {t u : List Nd} (ht : chk t = 0) (hu : chk u = 0) (hz : freeN u = 0) {n : Nat} (hn : freeN t = (n : Int)) (h : insE (List.replicate n u) t = 0) :
    chk (insL (List.replicate n u) t) = 0 ∧ freeN (insL (List.replicate n u) t) = 0 := by
  obtain ⟨_, U, hU, _⟩ := chk_ok hu
  obtain ⟨hUw, hUf⟩ := whole_some hU
  obtain ⟨T, hT, e, hw, hc, hwh⟩ := ins_fine (M := List.replicate n U) h (by simp) (rep_whole hU n)
  refine ⟨hc, ?_⟩
  rw [freeN_top hc hwh, bnd_fv _ T (whole_some hT).1]
  have hnil : (T.zw (fun n' x => if n'.K = 0 ∧ (x : Int) ≤ n'.N then (ins (List.replicate n U) (n'.N - x) x).fv x else []) 0).flatten = [] := by
    refine List.eq_nil_iff_forall_not_mem.2 fun y hy => ?_
    rw [zw_prs] at hy
    obtain ⟨L, hL, hy⟩ := List.mem_flatten.1 hy
    obtain ⟨p, hp, rfl⟩ := List.mem_map.1 hL
    try simp only at hy
    split at hy
    · rename_i hv
      have hm := fv_at p hp hv
      have hlt := (foldF_ge (T.fv 0) 0).2 _ hm
      rw [freeN_top ht hT] at hn
      unfold topV at hn
      have hi : (p.1.N - (p.2 : Int)).toNat < (List.replicate n U).length := by simp; omega
      unfold ins at hy
      rw [List.getElem?_eq_getElem hi, List.getElem_replicate] at hy
      obtain ⟨h1, h2⟩ := closed_shift hu hz (p.2 : Int)
      obtain ⟨T', hT', _, hw2, _⟩ := shiftL_fine (Int.le_refl 0) h1
      rw [hU] at hT'; obtain rfl := Option.some.inj hT'
      rw [h2, hU] at hw2
      have e2 := (Option.some.inj hw2).symm
      try simp only at hy
      rw [e2, fv_more (closed_fv hu hU hz)] at hy
      cases hy
    · cases hy
  rw [hnil]
  rfl

end Go.Proofs.YtjhgpifccleknaaDoor
