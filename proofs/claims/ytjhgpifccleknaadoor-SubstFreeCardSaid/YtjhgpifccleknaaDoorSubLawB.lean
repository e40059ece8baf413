/- Plain: the laws of chapter 4 on unused variables, on parts, and on closed terms. No function of the program is named here. -/
import Derived.Test.YtjhgpifccleknaaDoorSubLaw
namespace Go.Proofs.YtjhgpifccleknaaDoor
set_option linter.unusedSimpArgs false
set_option linter.unusedVariables false

/-! ### SubstUnused -/
theorem unused_at {T : Tm} {k : Int} (h : cntV k (T.fv 0) = 0) : ∀ p, p ∈ T.prs 0 → p.1.K = 0 ∧ (p.2 : Int) ≤ p.1.N → p.1.N - (p.2 : Int) ≠ k := by
  intro p hp hv e
  have hm : k ∈ T.fv 0 := by
    rw [fv_prs]
    refine List.mem_flatten.2 ⟨fvG p.1 p.2, List.mem_map.2 ⟨p, hp, rfl⟩, ?_⟩
    unfold fvG
    rw [if_pos hv]
    simp [e]
  have h1 : (T.fv 0).countP (· == k) ≠ 0 := fun h0 => by
    have := List.countP_eq_zero.1 h0 k hm
    simp at this
  unfold cntV at h
  omega
theorem one_flat {α β : Type} (l : List α) (g : α → β) : (l.map fun x => [g x]).flatten = l.map g := by
  induction l with
  | nil => rfl
  | cons x r ih => rw [List.map_cons, List.flatten_cons, ih]; rfl
theorem law_unused {t u : List Nd} {k : Nat} (hc : chk t = 0) (hu : usesN k t = 0) (h : subE k u t = 0) : shiftE (-1) k t = 0 ∧ subL k u t = shiftL (-1) k t := by
  obtain ⟨T, U, hT, hU, _, _, hk, hp, e, _, _, _⟩ := sub_fine h
  obtain ⟨hwf, hfl⟩ := whole_some hT
  rw [usesN_fv _ hc hT] at hu
  have hun := unused_at hu
  have hE : shiftE (-1) k t = 0 := by
    rw [shiftE_of hc hT]
    refine fstE_same fun p hp => ?_
    unfold shE
    split
    · rename_i h
      have h1 := right_var (prs_right hwf hp) h.1
      have h2 := hun p hp ⟨h.1, by omega⟩
      rw [if_neg (by omega), if_neg (by omega)]
    · rfl
  refine ⟨hE, ?_⟩
  obtain ⟨_, T2, hT2, _, hL⟩ := shiftE_fine hE
  rw [hT] at hT2; obtain rfl := Option.some.inj hT2
  have hct := (chk_ok hc)
  rw [hL]
  have hk0 : ¬ ((k : Int) < 0 ∨ 99 < (k : Int)) := by omega
  have hcu : chk u = 0 := by obtain ⟨_, _, _, _, _, h2, _⟩ := sub_fine h; exact h2
  rw [subL_of hc hcu hk0 hT]
  unfold putL
  rw [if_pos hp, zw_prs, zw_prs]
  refine Eq.trans ?_ (one_flat (T.prs 0) (fun p => shN (-1) k p.1 p.2))
  congr 1
  refine List.map_congr_left fun p hp => ?_
  by_cases hv : p.1.K = 0 ∧ (p.2 : Int) ≤ p.1.N
  · have h2 := hun p hp hv
    rw [outN_none _ _ hv (by unfold sU; rw [if_neg h2])]
    unfold sB shN
    rw [if_neg h2]
    by_cases h3 : (k : Int) < p.1.N - p.2
    · rw [if_pos h3, if_pos ⟨hv.1, by omega⟩]
      rfl
    · rw [if_neg h3, if_neg (by omega), Int.sub_zero]
  · rw [outN_non _ _ hv]
    unfold shN
    rw [if_neg (fun h => hv ⟨h.1, by omega⟩)]

/-! ### SubstParts -/
theorem errN_add {k : Nat} {u : List Nd} (b : Nat) (n : Nd) (x : Nat) : errN (sU k u) (sB k) n (x + b) = errN (sU ((k + b : Nat) : Int) u) (sB ((k + b : Nat) : Int)) n x := by
  by_cases h : n.K = 0 ∧ ((x + b : Nat) : Int) ≤ n.N
  · have h2 : n.K = 0 ∧ (x : Int) ≤ n.N := ⟨h.1, by omega⟩
    by_cases he : n.N - ((x + b : Nat) : Int) = k
    · have he2 : n.N - (x : Int) = ((k + b : Nat) : Int) := by omega
      rw [errN_some _ _ h (U := u) (by unfold sU; rw [if_pos he]), errN_some _ _ h2 (U := u) (by unfold sU; rw [if_pos he2])]
      unfold sB
      rw [if_pos he, if_pos he2]
      congr 1
      omega
    · have he2 : ¬ n.N - (x : Int) = ((k + b : Nat) : Int) := by omega
      rw [errN_none _ _ h (by unfold sU; rw [if_neg he]), errN_none _ _ h2 (by unfold sU; rw [if_neg he2])]
  · rw [errN_non _ _ h]
    by_cases h2 : n.K = 0 ∧ (x : Int) ≤ n.N
    · rw [errN_none _ _ h2]
      unfold sU
      rw [if_neg]
      intro he
      exact h ⟨h2.1, by omega⟩
    · rw [errN_non _ _ h2]
theorem law_parts {k : Nat} {u t : List Nd} (h : subE k u t = 0) {nd : Nd} {cs : List Tm} (hw : whole t = some (Tm.mk nd cs)) (hK : nd.K ≠ 0) (hk : k ≤ 90) (hb : ∀ i, (bnds nd).getD i 0 ≤ 2) :
    ∃ ds : List Tm, whole (subL k u t) = some (Tm.mk nd ds) ∧ ds.length = cs.length ∧ chk (subL k u t) = 0 ∧ ∀ i (hi : i < cs.length) (hj : i < ds.length),
      subE ((k : Int) + ((bnds nd).getD i 0 : Nat)) u cs[i].flat = 0 ∧ subL ((k : Int) + ((bnds nd).getD i 0 : Nat)) u cs[i].flat = ds[i].flat := by
  obtain ⟨T, U, hT, hU, hc, hcu, _, hp, e, w2, c2, ww⟩ := sub_fine h
  rw [hw] at hT; obtain rfl := Option.some.inj hT
  obtain ⟨hwf, _⟩ := whole_some hw
  have hbd : (Tm.mk nd cs).bnd (sbs k U) 0 = Tm.mk nd (bndL (sbs k U) cs (bnds nd) 0) := bnd_non _ _ _ _ (fun h => hK h.1)
  refine ⟨bndL (sbs k U) cs (bnds nd) 0, by rw [ww, hbd], bndL_length _ _ _ _, c2, fun i hi hj => ?_⟩
  obtain ⟨hpk, hpw, _⟩ := part_ok hc hw hi
  have hcw : cs[i].wf = true := (wf_iff.1 hwf).2.2 _ (List.getElem_mem hi)
  have hbi := hb i
  obtain ⟨b, hbb⟩ : ∃ b, (bnds nd).getD i 0 = b := ⟨_, rfl⟩
  rw [hbb] at hbi ⊢
  rw [show (k : Int) + (b : Int) = ((k + b : Nat) : Int) from by omega]
  have he := (putE_zero hp).1
  have hn : ∀ p, p ∈ cs[i].prs 0 → errN (sU ((k + b : Nat) : Int) u) (sB ((k + b : Nat) : Int)) p.1 p.2 = 0 := by
    intro p hp'
    have hm : errN (sU ((k + b : Nat) : Int) u) (sB ((k + b : Nat) : Int)) p.1 p.2 ∈ cs[i].zw (errN (sU k u) (sB k)) (0 + b) := by
      rw [zw_add, zw_prs]
      refine List.mem_map.2 ⟨p, hp', ?_⟩
      exact errN_add b p.1 p.2
    refine fstE_zero.1 he _ ?_
    rw [zw_mk]
    exact List.mem_append.2 (.inl (zwL_part _ cs (bnds nd) 0 i hi _ (by rw [hbb]; exact hm)))
  obtain ⟨h1, h2⟩ := put_none (fits_sub (k := k + b) hU) hcw hn
  have hbi2 : (bndL (sbs k U) cs (bnds nd) 0)[i]'hj = cs[i].bnd (sbs (k + b) U) 0 := by
    rw [bndL_get _ _ _ _ _ hi, hbb]
    exact sbs_part k b U cs[i] hcw 0
  have hpo := part_ok c2 (ww.trans (by rw [hbd])) hj
  rw [hbi2] at hpo ⊢
  rw [hpo.1] at h1
  have hE : subE ((k + b : Nat) : Int) u cs[i].flat = 0 := by rw [subE_of hpk hcu (by omega) hpw]; exact h1
  refine ⟨hE, ?_⟩
  obtain ⟨T3, U3, hT3, hU3, _, _, _, _, e3, _⟩ := sub_fine hE
  rw [hpw] at hT3; obtain rfl := Option.some.inj hT3
  rw [hU] at hU3; obtain rfl := Option.some.inj hU3
  exact e3

end Go.Proofs.YtjhgpifccleknaaDoor
