/- Plain: what a substitution that goes well makes, as a tree; and the laws of chapter 4 on rows of nodes. No function of the program is named here. -/
import Derived.Test.YtjhgpifccleknaaDoorRefSub
namespace Go.Proofs.YtjhgpifccleknaaDoor
set_option linter.unusedSimpArgs false
set_option linter.unusedVariables false

/-- what is put is what a walk puts -/
def Fits (pU : Int → Option (List Nd)) (pB : Int → Nat → Int) (F : Int → Nat → Tm) : Prop :=
  ∀ (v : Int) (x : Nat), 0 ≤ v → match pU v with
    | some u => ∃ U, whole u = some U ∧ F v x = U.sh (pB v x) 0 0
    | none => F v x = vr (v + x - pB v x) ∧ 0 ≤ v + x - pB v x ∧ 0 ≤ pB v x
section
variable {pU : Int → Option (List Nd)} {pB : Int → Nat → Int} {F : Int → Nat → Tm}
theorem fits_node (hF : Fits pU pB F) {n : Nd} {x : Nat} (hr : rightB n = true) (h0 : errN pU pB n x = 0) :
    outN pU pB n x = (if n.K = 0 ∧ (x : Int) ≤ n.N then (F (n.N - x) x).flat else [n]) ∧ (if n.K = 0 ∧ (x : Int) ≤ n.N then (F (n.N - x) x).wf else true) = true := by
  by_cases h : n.K = 0 ∧ (x : Int) ≤ n.N
  · rw [if_pos h, if_pos h]
    obtain ⟨ev, hN0, hN9, _⟩ := var_right hr h.1
    have hf := hF (n.N - x) x (by omega)
    cases hu : pU (n.N - x) with
    | none =>
      rw [hu] at hf
      obtain ⟨h1, h2, h3⟩ := hf
      have e : n.N - (x : Int) + x - pB (n.N - x) x = n.N - pB (n.N - x) x := by omega
      rw [e] at h1 h2
      rw [outN_none _ _ h hu, h1]
      refine ⟨?_, wf_vr h2 (by omega)⟩
      conv => lhs; rw [ev]
      rfl
    | some u =>
      rw [hu] at hf
      obtain ⟨U, hw, h1⟩ := hf
      rw [errN_some _ _ h hu] at h0
      obtain ⟨T, hw', hwf, hw2, _⟩ := shiftL_fine (Int.le_refl 0) h0
      rw [hw] at hw'
      obtain rfl := Option.some.inj hw'
      obtain ⟨h2, h3⟩ := whole_some hw2
      rw [outN_some _ _ h hu, h1]
      exact ⟨h3.symm, h2⟩
  · rw [if_neg h, if_neg h, outN_non _ _ h]
    exact ⟨rfl, rfl⟩
theorem put_tree (hF : Fits pU pB F) {T : Tm} (hw : T.wf = true) (h : fstE (T.zw (errN pU pB) 0) = 0) : (T.zw (outN pU pB) 0).flatten = (T.bnd F 0).flat ∧ (T.bnd F 0).wf = true := by
  have h0 : ∀ p, p ∈ T.prs 0 → errN pU pB p.1 p.2 = 0 := by
    intro p hp
    refine fstE_zero.1 h _ ?_
    rw [zw_prs]
    exact List.mem_map_of_mem hp
  refine ⟨?_, bnd_wf T hw 0 fun x hx => ?_⟩
  · rw [bnd_flat F T hw 0]
    congr 1
    exact zw_congr fun p hp => (fits_node hF (prs_right hw hp) (h0 p hp)).1
  · rw [zw_prs] at hx
    obtain ⟨p, hp, rfl⟩ := List.mem_map.1 hx
    exact (fits_node hF (prs_right hw hp) (h0 p hp)).2
theorem putE_zero {T : Tm} (h : putE pU pB T = 0) : fstE (T.zw (errN pU pB) 0) = 0 ∧ chk (T.zw (outN pU pB) 0).flatten = 0 := by
  unfold putE at h
  by_cases h0 : fstE (T.zw (errN pU pB) 0) = 0
  · rw [if_pos h0] at h; exact ⟨h0, h⟩
  · rw [if_neg h0] at h; exact absurd h h0
theorem put_fine (hF : Fits pU pB F) {T : Tm} (hw : T.wf = true) (h : putE pU pB T = 0) : putL pU pB T = (T.bnd F 0).flat ∧ (T.bnd F 0).wf = true ∧ chk (T.bnd F 0).flat = 0 := by
  obtain ⟨h1, h2⟩ := putE_zero h
  obtain ⟨h3, h4⟩ := put_tree hF hw h1
  rw [h3] at h2
  unfold putL
  rw [if_pos h]
  exact ⟨h3, h4, h2⟩
/-- no error but of the size or the depth -/
theorem put_none (hF : Fits pU pB F) {T : Tm} (hw : T.wf = true) (h : ∀ p, p ∈ T.prs 0 → errN pU pB p.1 p.2 = 0) : putE pU pB T = chk (T.bnd F 0).flat ∧ (T.bnd F 0).wf = true := by
  have h0 := fstE_same h
  obtain ⟨h3, h4⟩ := put_tree hF hw h0
  unfold putE
  rw [if_pos h0, h3]
  exact ⟨rfl, h4⟩
end
theorem fits_sub {k : Nat} {u : List Nd} {U : Tm} (hw : whole u = some U) : Fits (sU k u) (sB k) (sbs k U) := by
  intro v x hv
  unfold sU
  by_cases h : v = k
  · rw [if_pos h]
    refine ⟨U, hw, ?_⟩
    subst h
    rw [sbs_eq]
    unfold sB
    rw [if_pos rfl]
    rfl
  · rw [if_neg h]
    show sbs k U v x = _ ∧ _
    by_cases h2 : (k : Int) < v
    · have : sB k v x = 1 := by unfold sB; rw [if_neg h, if_pos h2]
      rw [sbs_gt h2, this]
      exact ⟨rfl, by omega, by omega⟩
    · have : sB k v x = 0 := by unfold sB; rw [if_neg h, if_neg h2]
      rw [sbs_lt (by omega), this]
      exact ⟨by rw [Int.sub_zero], by omega, by omega⟩
theorem fits_ins {L : List (List Nd)} {M : List Tm} (hl : M.length = L.length) (hw : ∀ i (h : i < L.length) (h2 : i < M.length), whole L[i] = some M[i]) : Fits (iU L) (iB L) (ins M) := by
  intro v x hv
  unfold iU
  by_cases h : v.toNat < L.length
  · rw [List.getElem?_eq_getElem h]
    refine ⟨M[v.toNat], hw _ h (by omega), ?_⟩
    unfold ins iB
    rw [List.getElem?_eq_getElem (by omega), if_pos h]
  · rw [List.getElem?_eq_none (by omega)]
    show ins M v x = _ ∧ _
    unfold ins iB
    rw [List.getElem?_eq_none (by omega), if_neg h, hl]
    exact ⟨rfl, by omega, by omega⟩

/-! ### substitutions that go well -/
theorem sub_fine {k : Nat} {u t : List Nd} (h : subE k u t = 0) : ∃ T U, whole t = some T ∧ whole u = some U ∧ chk t = 0 ∧ chk u = 0 ∧ k ≤ 99 ∧ putE (sU k u) (sB k) T = 0 ∧ subL k u t = (T.bnd (sbs k U) 0).flat ∧ (T.bnd (sbs k U) 0).wf = true ∧ chk (subL k u t) = 0 ∧ whole (subL k u t) = some (T.bnd (sbs k U) 0) := by
  have hct : chk t = 0 := by
    by_cases hc : chk t = 0
    · exact hc
    · unfold subE at h; rw [if_neg hc] at h; exact h
  have hcu : chk u = 0 := by
    by_cases hc : chk u = 0
    · exact hc
    · unfold subE at h; rw [if_pos hct, if_neg hc] at h; exact h
  have hk : ¬ ((k : Int) < 0 ∨ 99 < (k : Int)) := by
    intro hk
    unfold subE at h
    rw [if_pos hct, if_pos hcu, if_pos hk] at h
    cases h
  obtain ⟨_, T, hT, _⟩ := chk_ok hct
  obtain ⟨_, U, hU, _⟩ := chk_ok hcu
  rw [subE_of hct hcu hk hT] at h
  obtain ⟨h1, h2, h3⟩ := put_fine (fits_sub hU) (whole_some hT).1 h
  refine ⟨T, U, hT, hU, hct, hcu, by omega, h, ?_⟩
  rw [subL_of hct hcu hk hT, h1]
  exact ⟨rfl, h2, h3, whole_flat h2⟩
theorem wholes (L : List (List Nd)) (h : ∀ l, l ∈ L → chk l = 0) : ∃ M : List Tm, M.length = L.length ∧ ∀ i (h : i < L.length) (h2 : i < M.length), whole L[i] = some M[i] := by
  induction L with
  | nil => exact ⟨[], rfl, fun i h => by simp at h⟩
  | cons l r ih =>
    obtain ⟨M, hl, hM⟩ := ih fun l hl => h l (by simp [hl])
    obtain ⟨_, T, hT, _⟩ := chk_ok (h l (by simp))
    refine ⟨T :: M, by simp [hl], fun i h h2 => ?_⟩
    cases i with
    | zero => exact hT
    | succ i => exact hM i (by simpa using h) (by simpa using h2)
theorem insE_zero {L : List (List Nd)} {t : List Nd} (h : insE L t = 0) : chks (t :: L) = 0 := by
  unfold insE at h
  by_cases hc : chks (t :: L) = 0
  · exact hc
  · rw [if_neg hc] at h; exact h
theorem ins_fine {L : List (List Nd)} {t : List Nd} {M : List Tm} (h : insE L t = 0) (hl : M.length = L.length) (hw : ∀ i (h : i < L.length) (h2 : i < M.length), whole L[i] = some M[i]) :
    ∃ T, whole t = some T ∧ insL L t = (T.bnd (ins M) 0).flat ∧ (T.bnd (ins M) 0).wf = true ∧ chk (insL L t) = 0 ∧ whole (insL L t) = some (T.bnd (ins M) 0) := by
  have hc := insE_zero h
  have hct := chks_zero.1 hc t (by simp)
  obtain ⟨_, T, hT, _⟩ := chk_ok hct
  rw [insE_of hc hT] at h
  obtain ⟨h1, h2, h3⟩ := put_fine (fits_ins hl hw) (whole_some hT).1 h
  refine ⟨T, hT, ?_⟩
  rw [insL_of hc hT, h1]
  exact ⟨rfl, h2, h3, whole_flat h2⟩

/-! ### SubstOrder -/
theorem law_order {t u v : List Nd} (h1 : subE (0 : Nat) u t = 0) (h2 : subE (0 : Nat) v (subL (0 : Nat) u t) = 0) (h3 : subE (1 : Nat) v t = 0) (h4 : subE (0 : Nat) v u = 0)
    (h5 : subE (0 : Nat) (subL (0 : Nat) v u) (subL (1 : Nat) v t) = 0) : subL (0 : Nat) (subL (0 : Nat) v u) (subL (1 : Nat) v t) = subL (0 : Nat) v (subL (0 : Nat) u t) := by
  obtain ⟨T, U, hT, hU, _, _, _, _, _, _, _, w1⟩ := sub_fine h1
  obtain ⟨T2, V, hT2, hV, _, _, _, _, e2, _, _, _⟩ := sub_fine h2
  obtain ⟨T3, V3, hT3, hV3, _, _, _, _, _, _, _, w3⟩ := sub_fine h3
  obtain ⟨U4, V4, hU4, hV4, _, _, _, _, _, _, _, w4⟩ := sub_fine h4
  obtain ⟨T5, U5, hT5, hU5, _, _, _, _, e5, _, _, _⟩ := sub_fine h5
  rw [w1] at hT2; obtain rfl := Option.some.inj hT2
  rw [hT] at hT3; obtain rfl := Option.some.inj hT3
  rw [hV] at hV3; obtain rfl := Option.some.inj hV3
  rw [hU] at hU4; obtain rfl := Option.some.inj hU4
  rw [hV] at hV4; obtain rfl := Option.some.inj hV4
  rw [w3] at hT5; obtain rfl := Option.some.inj hT5
  rw [w4] at hU5; obtain rfl := Option.some.inj hU5
  rw [e5, e2, sbs_order]

/-! ### SubstSwaps -/
theorem two_wholes {u v : List Nd} {U V : Tm} (hU : whole u = some U) (hV : whole v = some V) : ∀ i (h : i < [u, v].length) (h2 : i < [U, V].length), whole [u, v][i] = some [U, V][i] := by
  intro i h h2
  have : i = 0 ∨ i = 1 := by simp at h; omega
  rcases this with rfl | rfl
  · exact hU
  · exact hV
theorem law_swaps_a {t u v : List Nd} (h1 : insE [u, v] t = 0) (h2 : shiftE 1 0 u = 0) (h3 : subE (0 : Nat) (shiftL 1 0 u) t = 0) (h4 : subE (0 : Nat) v (subL (0 : Nat) (shiftL 1 0 u) t) = 0) :
    subL (0 : Nat) v (subL (0 : Nat) (shiftL 1 0 u) t) = insL [u, v] t := by
  obtain ⟨U, hU, _, hU2, _⟩ := shiftL_fine (Int.le_refl 0) h2
  obtain ⟨T, U3, hT, hU3, _, _, _, _, _, _, _, w3⟩ := sub_fine h3
  obtain ⟨T4, V, hT4, hV, _, _, _, _, e4, _, _, _⟩ := sub_fine h4
  rw [hU2] at hU3; obtain rfl := Option.some.inj hU3
  rw [w3] at hT4; obtain rfl := Option.some.inj hT4
  obtain ⟨T5, hT5, e5, _⟩ := ins_fine (M := [U, V]) h1 rfl (two_wholes hU hV)
  rw [hT] at hT5; obtain rfl := Option.some.inj hT5
  rw [e4, e5, ins_two_a]
theorem law_swaps_b {t u v : List Nd} (h1 : insE [u, v] t = 0) (h3 : subE (1 : Nat) v t = 0) (h4 : subE (0 : Nat) u (subL (1 : Nat) v t) = 0) :
    subL (0 : Nat) u (subL (1 : Nat) v t) = insL [u, v] t := by
  obtain ⟨T, V, hT, hV, _, _, _, _, _, _, _, w3⟩ := sub_fine h3
  obtain ⟨T4, U, hT4, hU, _, _, _, _, e4, _, _, _⟩ := sub_fine h4
  rw [w3] at hT4; obtain rfl := Option.some.inj hT4
  obtain ⟨T5, hT5, e5, _⟩ := ins_fine (M := [U, V]) h1 rfl (two_wholes hU hV)
  rw [hT] at hT5; obtain rfl := Option.some.inj hT5
  rw [e4, e5, ins_two_b]
theorem shift_one_err {u : List Nd} : shiftE 1 0 u = 0 ∨ shiftE 1 0 u = chk u ∨ shiftE 1 0 u = 2 := by
  by_cases hc : chk u = 0
  · rcases shift_two (b := 1) (by omega) hc with h | h
    · exact .inl h
    · exact .inr (.inr h)
  · exact .inr (.inl (shiftE_bad hc))

/-! ### SubstOne -/
theorem chks_two (t u : List Nd) : chks [t, u] = if chk t = 0 then chk u else chk t := by
  unfold chks
  rw [List.map_cons, fstE_cons, List.map_cons, fstE_cons]
  split
  · split
    · rename_i h; rw [h]; rfl
    · rfl
  · rfl
theorem one_same (t u : List Nd) : insE [u] t = subE (0 : Nat) u t ∧ insL [u] t = subL (0 : Nat) u t := by
  have he : insE [u] t = subE (0 : Nat) u t := by
    unfold insE subE
    rw [chks_two]
    by_cases hct : chk t = 0
    · rw [if_pos hct, if_pos hct]
      by_cases hcu : chk u = 0
      · rw [if_pos hcu, if_pos hcu, if_neg (by omega)]
        rw [putE_congr (sU_g 0 u) (sB_g 0 u), putE_congr (iU_g [u]) (iB_g [u])]
        cases whole t <;> rfl
      · rw [if_neg hcu, if_neg hcu]
    · rw [if_neg hct, if_neg hct, if_neg hct]
  refine ⟨he, ?_⟩
  unfold insL subL
  rw [he, putL_congr (sU_g 0 u) (sB_g 0 u), putL_congr (iU_g [u]) (iB_g [u])]
  cases whole t <;> rfl
theorem law_one {t u : List Nd} (h : shiftE 1 0 t = 0) (hu : chk u = 0) : subE (0 : Nat) u (shiftL 1 0 t) = 0 ∧ subL (0 : Nat) u (shiftL 1 0 t) = t := by
  obtain ⟨T, hT, hwf, hw2, hc2, _, hl, he⟩ := shiftL_fine (Int.le_refl 0) h
  obtain ⟨hc, _⟩ := shiftE_fine h
  obtain ⟨_, hfl⟩ := whole_some hT
  obtain ⟨hwf2, hfl2⟩ := whole_some hw2
  obtain ⟨_, U, hU, _⟩ := chk_ok hu
  have hn : ∀ p, p ∈ (T.sh 1 0 0).prs 0 → errN (sU (0 : Nat) u) (sB (0 : Nat)) p.1 p.2 = 0 := by
    intro p hp
    have hz : (T.sh 1 0 0).zw (fun n x => decide (n.K = 0 ∧ n.N - (x : Int) = 0)) 0 = T.zw (fun n x => decide ((shN 1 0 n x).K = 0 ∧ (shN 1 0 n x).N - (x : Int) = 0)) 0 := zw_sh _ (Int.le_refl 0) hwf 0
    have hm : decide (p.1.K = 0 ∧ p.1.N - (p.2 : Int) = 0) ∈ (T.sh 1 0 0).zw (fun n x => decide (n.K = 0 ∧ n.N - (x : Int) = 0)) 0 := by
      rw [zw_prs]
      exact List.mem_map_of_mem (f := fun p : Nd × Nat => decide (p.1.K = 0 ∧ p.1.N - (p.2 : Int) = 0)) hp
    rw [hz, zw_prs] at hm
    obtain ⟨q, hq, e⟩ := List.mem_map.1 hm
    have hnot : ¬ (p.1.K = 0 ∧ p.1.N - (p.2 : Int) = 0) := by
      intro hx
      rw [decide_eq_true hx, decide_eq_true_eq] at e
      unfold shN at e
      split at e
      · simp only at e; omega
      · rename_i h; exact h ⟨e.1, by omega⟩
    by_cases hv : p.1.K = 0 ∧ (p.2 : Int) ≤ p.1.N
    · refine errN_none _ _ hv ?_
      unfold sU
      rw [if_neg]
      intro hx
      exact hnot ⟨hv.1, by simpa using hx⟩
    · exact errN_non _ _ hv
  obtain ⟨h1, h2⟩ := put_none (fits_sub (k := 0) hU) hwf2 hn
  rw [sbs_away T U hwf, hfl, hc] at h1
  have hE : subE (0 : Nat) u (shiftL 1 0 t) = 0 := by rw [subE_of hc2 hu (by omega) hw2]; exact h1
  refine ⟨hE, ?_⟩
  obtain ⟨T2, U2, hT2, hU2, _, _, _, _, e2, _⟩ := sub_fine hE
  rw [hw2] at hT2; obtain rfl := Option.some.inj hT2
  rw [e2, sbs_away T U2 hwf, hfl]

end Go.Proofs.YtjhgpifccleknaaDoor
