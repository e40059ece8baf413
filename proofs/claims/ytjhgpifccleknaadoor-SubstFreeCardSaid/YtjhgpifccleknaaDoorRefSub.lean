/- What the reference's Put, Subst and Inst (chapter 4) come to: the same as subst.Subst and subst.Inst, for rows of at most 250 nodes; condition: the strings' sizes. -/
import Derived.Test.YtjhgpifccleknaaDoorRefPut
namespace Go.Proofs.YtjhgpifccleknaaDoor
set_option linter.unusedSimpArgs false
set_option linter.unusedVariables false
open Go.RowKit Go.BigFrame

/-- what a substitution comes to, of either side -/
def GotPost (E : Int) (l : List Nd) (w : World) (e : Ending) (w' : World) : Prop :=
  ∃ a c, e = .returned (.tuple #[.slice a l.length c, .int .i64 E]) ∧ ReadN w' (.slice a l.length c) l ∧ Below w.heap.size w w'
theorem GotPost.of {E : Int} {l : List Nd} {w w' : World} {v : Value} (hr : ReadN w' v l) (hb : Below w.heap.size w w') : GotPost E l w (.returned (.tuple #[v, .int .i64 E])) w' := by
  obtain ⟨a, c, rfl, _⟩ := hr.form
  exact ⟨a, c, rfl, hr, hb⟩
theorem GotPost.nil {E : Int} {w w' : World} (hb : Below w.heap.size w w') : GotPost E [] w (.returned (.tuple #[.slice none 0 0, .int .i64 E])) w' := ⟨none, 0, rfl, RowAt.nil _ _, hb⟩

theorem gU_chk {k : Nat} {L : List (List Nd)} (h : ∀ l, l ∈ L → chk l = 0) : ∀ v U, gU k L v = some U → chk U = 0 := by
  intro v U hu
  unfold gU at hu
  split at hu
  · exact h U (List.mem_of_getElem? hu)
  · cases hu
theorem gU_small {k : Nat} {L : List (List Nd)} (h : SmallNN L) : ∀ v U, gU k L v = some U → SmallN U := by
  intro v U hu
  unfold gU at hu
  split at hu
  · exact h U (List.mem_of_getElem? hu)
  · cases hu

set_option maxRecDepth 20000 in
set_option maxHeartbeats 1000000 in
theorem rput_any (k : Nat) (hk : k ≤ 99) (L : List (List Nd)) (hLn : L.length ≤ 1000) (hLc : ∀ l, l ∈ L → chk l = 0) (hLs : SmallNN L) (T : Tm) (hwf : T.wf = true) (hd : T.dep ≤ 60) (hlen : T.flat.length ≤ 250) (hs : SmallN T.flat) (v vL : Value) (w : World) (hv : ReadN w v T.flat) (hvL : ReadNN w vL L) :
    Calls Tryd.prog 82 #[v, .int .i64 (k : Int), vL] w (GotPost (putE (gU k L) (gB k L) T) (putL (gU k L) (gB k L) T) w) := by
  have HP := Lib.hid (rput_all k hk L hLn hLc hLs T hwf 0 v vL w (by omega) hv hs hlen hvL)
  have hsm := put_small (pB := gB k L) hs (gU_small (k := k) hLs)
  obtain ⟨X, hX⟩ : ∃ X, (T.zw (outN (gU k L) (gB k L)) 0).flatten = X := ⟨_, rfl⟩
  obtain ⟨E, hE⟩ : ∃ X, fstE (T.zw (errN (gU k L) (gB k L)) 0) = X := ⟨_, rfl⟩
  rw [hX] at hsm
  have HSM := Lib.hid hsm
  by_cases h0 : E = 0
  · subst h0
    have e1 : putE (gU k L) (gB k L) T = chk X := by unfold putE; rw [hE, if_pos rfl, hX]
    have e2 : putL (gU k L) (gB k L) T = if chk X = 0 then X else [] := by unfold putL; rw [e1, hX]
    rw [e1, e2]
    obtain ⟨Y, hY⟩ : ∃ Y, (if chk X = 0 then X else []) = Y := ⟨_, rfl⟩
    obtain ⟨c, hc⟩ : ∃ c, chk X = c := ⟨_, rfl⟩
    rw [hY, hc]
    rw [hc] at hY
    have HY := Lib.hid hY
    have HC := Lib.hid hc
    clear hY hc
    obtain ⟨ad, cp, rfl⟩ := ReadN.len_slice hv
    obtain ⟨al, cl, rfl⟩ : ∃ al cl, vL = .slice al L.length cl := by
      obtain ⟨vs, _, hr, _⟩ := hvL
      obtain ⟨a, c, h, _⟩ := hr.form
      exact ⟨a, c, h⟩
    have HX := Lib.hid hX
    have HE := Lib.hid hE
    clear hX hE e1 e2 hv hvL hsm hs hLs hLc
    go_enter Tryd.func82, Tryd.ntmps82
    go_wp2_with fail
    refine HP.out.mono ?_
    rintro e w1 ⟨v1, rfl, hr1, _, hb1⟩
    rw [HE.out, if_pos rfl, HX.out] at hr1
    rw [HE.out]
    obtain ⟨a1, c1, rfl, _⟩ := id hr1.form
    have HR1 := Lib.hid hr1
    have HB1 := Lib.hid hb1
    clear hr1 hb1
    go_wp2_with fail
    refine (refcheck2_any X _ w1 HR1.out HSM.out).mono ?_
    rintro e w2 ⟨rfl, hb2⟩
    have HR2 := Lib.hid (HR1.out.below hb2)
    have HB2 := chainB HB1 hb2
    clear hb2
    rw [HC.out]
    by_cases hc0 : c = 0
    · subst hc0
      have e3 : X = Y := by rw [← HY.out, if_pos rfl]
      have E3 := Lib.hid e3
      clear e3
      go_wp2_with fail
      go_ret2
      rw [← E3.out]
      exact GotPost.of HR2.out HB2.out
    · have hcb : (c != 0) = true := by simpa using hc0
      have e3 : [] = Y := by rw [← HY.out, if_neg hc0]
      have E3 := Lib.hid e3
      clear e3 hc0
      go_wp2_with fail
      go_ret2
      rw [← E3.out]
      exact GotPost.nil HB2.out
  · have e1 : putE (gU k L) (gB k L) T = E := by unfold putE; rw [hE, if_neg h0]
    have e2 : putL (gU k L) (gB k L) T = [] := by unfold putL; rw [e1, if_neg h0]
    rw [e1, e2]
    obtain ⟨ad, cp, rfl⟩ := ReadN.len_slice hv
    obtain ⟨al, cl, rfl⟩ : ∃ al cl, vL = .slice al L.length cl := by
      obtain ⟨vs, _, hr, _⟩ := hvL
      obtain ⟨a, c, h, _⟩ := hr.form
      exact ⟨a, c, h⟩
    have hcb : (E == 0) = false := by simpa using h0
    have hcb2 : (E != 0) = true := by simpa using h0
    have HE := Lib.hid hE
    clear hX hE e1 e2 hv hvL hsm hs hLs hLc HSM h0
    go_enter Tryd.func82, Tryd.ntmps82
    go_wp2_with fail
    refine HP.out.mono ?_
    rintro e w1 ⟨v1, rfl, _, _, hb1⟩
    rw [HE.out]
    have HB1 := Lib.hid hb1
    clear hb1
    go_wp2_with fail
    go_ret2
    exact GotPost.nil HB1.out

/-! ### Subst -/
theorem subE_of {k : Int} {u t : List Nd} {T : Tm} (hct : chk t = 0) (hcu : chk u = 0) (hk : ¬ (k < 0 ∨ 99 < k)) (hw : whole t = some T) : subE k u t = putE (sU k u) (sB k) T := by
  unfold subE; rw [if_pos hct, if_pos hcu, if_neg hk, hw]
theorem subL_of {k : Int} {u t : List Nd} {T : Tm} (hct : chk t = 0) (hcu : chk u = 0) (hk : ¬ (k < 0 ∨ 99 < k)) (hw : whole t = some T) : subL k u t = putL (sU k u) (sB k) T := by
  unfold subL
  rw [subE_of hct hcu hk hw, hw]
  unfold putL
  by_cases h : putE (sU k u) (sB k) T = 0
  · rw [if_pos h]
  · rw [if_neg h, if_neg h]
theorem subL_bad {k : Int} {u t : List Nd} (h : subE k u t ≠ 0) : subL k u t = [] := by unfold subL; rw [if_neg h]
theorem insE_of {L : List (List Nd)} {t : List Nd} {T : Tm} (h : chks (t :: L) = 0) (hw : whole t = some T) : insE L t = putE (iU L) (iB L) T := by unfold insE; rw [if_pos h, hw]
theorem insL_of {L : List (List Nd)} {t : List Nd} {T : Tm} (h : chks (t :: L) = 0) (hw : whole t = some T) : insL L t = putL (iU L) (iB L) T := by
  unfold insL
  rw [insE_of h hw, hw]
  unfold putL
  by_cases h : putE (iU L) (iB L) T = 0
  · rw [if_pos h]
  · rw [if_neg h, if_neg h]
theorem insL_bad {L : List (List Nd)} {t : List Nd} (h : insE L t ≠ 0) : insL L t = [] := by unfold insL; rw [if_neg h]

/-- both sides, as the laws use them -/
theorem subst_law (t u : List Nd) (vt vu : Value) (k : Int) (w : World) (hS : ShapesAt w) (ht : ReadN w vt t) (hst : SmallN t) (hu : ReadN w vu u) (hsu : SmallN u) :
    Calls Tryd.prog 52 #[vt, .int .i64 k, vu] w (GotPost (subE k u t) (subL k u t) w) := by
  refine (subst_any t u vt vu k w hS ht hst hu hsu).mono fun e w' ⟨v, h1, h2, h3⟩ => ?_
  rw [h1]
  exact GotPost.of h2.read h3
theorem inst_law (t : List Nd) (L : List (List Nd)) (vt vL : Value) (w : World) (hS : ShapesAt w) (ht : ReadN w vt t) (hst : SmallN t) (hL : ReadNN w vL L) (hsL : SmallNN L) (hn : L.length ≤ 1000) :
    Calls Tryd.prog 54 #[vt, vL] w (GotPost (insE L t) (insL L t) w) := by
  refine (inst_any t L vt vL w hS ht hst hL hsL hn).mono fun e w' ⟨v, h1, h2, h3⟩ => ?_
  rw [h1]
  exact GotPost.of h2.read h3

set_option maxRecDepth 20000 in
set_option maxHeartbeats 1000000 in
theorem rsubst_law (t u : List Nd) (vt vu : Value) (k : Int) (w : World) (ht : ReadN w vt t) (hst : SmallN t) (hu : ReadN w vu u) (hsu : SmallN u) (hlen : t.length ≤ 250) :
    Calls Tryd.prog 53 #[vt, .int .i64 k, vu] w (GotPost (subE k u t) (subL k u t) w) := by
  obtain ⟨at_, ct, rfl⟩ := ReadN.len_slice ht
  obtain ⟨au, cu, rfl⟩ := ReadN.len_slice hu
  have HTW : Hid (∀ x, Below w.heap.size w x → ReadN x (.slice at_ t.length ct) t) := fun x hb => ht.below hb
  have HUW : Hid (∀ x, Below w.heap.size w x → ReadN x (.slice au u.length cu) u) := fun x hb => hu.below hb
  have HST := Lib.hid hst
  have HSU := Lib.hid hsu
  have HB0 : Hid (Below w.heap.size w w) := Below.refl _ _
  clear ht hu hst hsu
  by_cases hct : chk t = 0
  rotate_left
  · have e1 : subE k u t = chk t := by unfold subE; rw [if_neg hct]
    have e2 := subL_bad (k := k) (u := u) (t := t) (by rw [e1]; exact hct)
    rw [e1, e2]
    obtain ⟨c, hc⟩ : ∃ c, chk t = c := ⟨_, rfl⟩
    rw [hc] at hct ⊢
    have HC := Lib.hid hc
    have hcb : (c == 0) = false := by simpa using hct
    have hcb2 : (c != 0) = true := by simpa using hct
    clear hc e1 e2 hct
    go_enter Tryd.func53, Tryd.ntmps53
    go_wp2_with fail
    refine (refcheck2_any t _ w (HTW.out _ HB0.out) HST.out).mono ?_
    rintro e w1 ⟨rfl, hb1⟩
    rw [HC.out]
    have HB1 := chainB HB0 hb1
    clear hb1
    go_wp2_with fail
    go_ret2
    exact GotPost.nil HB1.out
  by_cases hcu : chk u = 0
  rotate_left
  · have e1 : subE k u t = chk u := by unfold subE; rw [if_pos hct, if_neg hcu]
    have e2 := subL_bad (k := k) (u := u) (t := t) (by rw [e1]; exact hcu)
    rw [e1, e2]
    obtain ⟨c, hc⟩ : ∃ c, chk u = c := ⟨_, rfl⟩
    rw [hc] at hcu ⊢
    have HC := Lib.hid hct
    have HD := Lib.hid hc
    have hcb : (c == 0) = false := by simpa using hcu
    have hcb2 : (c != 0) = true := by simpa using hcu
    clear hc e1 e2 hct hcu
    go_enter Tryd.func53, Tryd.ntmps53
    go_wp2_with fail
    refine (refcheck2_any t _ w (HTW.out _ HB0.out) HST.out).mono ?_
    rintro e w1 ⟨rfl, hb1⟩
    rw [HC.out]
    have HB1 := chainB HB0 hb1
    clear hb1
    go_wp2_with fail
    refine (refcheck2_any u _ w1 (HUW.out _ HB1.out) HSU.out).mono ?_
    rintro e w2 ⟨rfl, hb2⟩
    rw [HD.out]
    have HB2 := chainB HB1 hb2
    clear hb2
    go_wp2_with fail
    go_ret2
    exact GotPost.nil HB2.out
  have HC := Lib.hid hct
  have HD := Lib.hid hcu
  by_cases hk : k < 0 ∨ 99 < k
  · have e1 : subE k u t = 1 := by unfold subE; rw [if_pos hct, if_pos hcu, if_pos hk]
    have e2 := subL_bad (k := k) (u := u) (t := t) (by rw [e1]; decide)
    rw [e1, e2]
    clear e1 e2 hct hcu
    have hkk : decide (k < 0) = true ∨ (decide (k < 0) = false ∧ decide (k > 99) = true) := by
      by_cases h : k < 0
      · exact .inl (by simpa using h)
      · exact .inr ⟨by simpa using h, by simp; omega⟩
    rcases hkk with hk1 | ⟨hk1, hk2⟩
    all_goals
      clear hk
      go_enter Tryd.func53, Tryd.ntmps53
      go_wp2_with fail
      refine (refcheck2_any t _ w (HTW.out _ HB0.out) HST.out).mono ?_
      rintro e w1 ⟨rfl, hb1⟩
      rw [HC.out]
      have HB1 := chainB HB0 hb1
      clear hb1
      go_wp2_with fail
      refine (refcheck2_any u _ w1 (HUW.out _ HB1.out) HSU.out).mono ?_
      rintro e w2 ⟨rfl, hb2⟩
      rw [HD.out]
      have HB2 := chainB HB1 hb2
      clear hb2
      go_wp2_with fail
      go_ret2
      exact GotPost.nil HB2.out
  obtain ⟨hle, T, hw, hdep⟩ := chk_ok hct
  obtain ⟨hwf, hfl⟩ := whole_some hw
  rw [subE_of hct hcu hk hw, subL_of hct hcu hk hw]
  obtain ⟨kn, rfl⟩ := Int.eq_ofNat_of_zero_le (show 0 ≤ k by omega)
  have HPUT : Hid (∀ (vL : Value) (w' : World), Below w.heap.size w w' → ReadNN w' vL [u] → Calls Tryd.prog 82 #[.slice at_ t.length ct, .int .i64 (kn : Int), vL] w' (GotPost (putE (sU kn u) (sB kn) T) (putL (sU kn u) (sB kn) T) w')) := by
    show ∀ (vL : Value) (w' : World), _
    intro vL w' hb hL
    rw [putE_congr (sU_g kn u) (sB_g kn u), putL_congr (sU_g kn u) (sB_g kn u)]
    exact rput_any kn (by omega) [u] (by simp) (fun l hl => by simp at hl; subst hl; exact hcu) (fun l hl => by simp at hl; subst hl; exact HSU.out) T hwf hdep (by rw [hfl]; exact hlen) (by rw [hfl]; exact HST.out) _ vL w' (by rw [hfl]; exact HTW.out _ hb) hL
  have hk1 : ¬ (kn : Int) < 0 := by omega
  have hk2 : ¬ (kn : Int) > 99 := by omega
  clear hw hwf hfl hct hcu hk
  go_enter Tryd.func53, Tryd.ntmps53
  go_wp2_with fail
  refine (refcheck2_any t _ w (HTW.out _ HB0.out) HST.out).mono ?_
  rintro e w1 ⟨rfl, hb1⟩
  rw [HC.out]
  have HB1 := chainB HB0 hb1
  clear hb1
  go_wp2_with fail
  refine (refcheck2_any u _ w1 (HUW.out _ HB1.out) HSU.out).mono ?_
  rintro e w2 ⟨rfl, hb2⟩
  rw [HD.out]
  have HB2 := chainB HB1 hb2
  clear hb2
  have hL : ReadNN (w2.alloc (.cells #[.slice au u.length cu] 30)) (.slice (some ⟨w2.heap.size, 0, none⟩) 1 1) [u] := ReadNN.lit1 (HUW.out _ HB2.out)
  have HL := Lib.hid hL
  clear hL
  go_wp2_with fail
  refine (HPUT.out _ _ (HB2.out.alloc HB2.out.size _) HL.out).mono ?_
  rintro e w3 ⟨a3, c3, rfl, hr3, hb3⟩
  have HR3 := Lib.hid hr3
  have HB3 : Hid (Below w.heap.size w w3) := (HB2.out.alloc HB2.out.size _).trans (hb3.mono (by have := HB2.out.size; simp; omega))
  clear hr3 hb3
  go_wp2_with fail
  go_ret2
  exact ⟨_, _, rfl, HR3.out, HB3.out⟩

/-! ### Inst -/
theorem chks_take {M : List (List Nd)} {j : Nat} (hj : j < M.length) (h0 : chks (M.take j) = 0) : chks (M.take (j + 1)) = chk M[j] := by
  unfold chks at *
  rw [List.take_succ_eq_append_getElem hj, List.map_append, fstE_append, if_pos h0, List.map_cons, List.map_nil, fstE_cons]
  split
  · rename_i h; rw [h]; rfl
  · rfl
theorem chks_cut {M : List (List Nd)} {j : Nat} {c : Int} (h : chks (M.take j) = c) (h0 : c ≠ 0) : chks M = c := by
  unfold chks at *
  rw [← List.take_append_drop j M, List.map_append, fstE_append, h, if_neg h0]

def RInsRel (M : List (List Nd)) (w : World) (c i : Value) (wr : World) : Prop :=
  ∃ (j : Nat) (x : Int), j + 1 ≤ M.length ∧ i = .int .i64 (j : Int) ∧ c = .int .i64 x ∧ chks (M.take (j + 1)) = x ∧ Below w.heap.size w wr

set_option maxRecDepth 20000 in
set_option maxHeartbeats 1000000 in
theorem rinst_law (t : List Nd) (L : List (List Nd)) (vt vL : Value) (w : World) (ht : ReadN w vt t) (hst : SmallN t) (hL : ReadNN w vL L) (hsL : SmallNN L) (hn : L.length ≤ 1000) (hlen : t.length ≤ 250) :
    Calls Tryd.prog 55 #[vt, vL] w (GotPost (insE L t) (insL L t) w) := by
  obtain ⟨at_, ct, rfl⟩ := ReadN.len_slice ht
  obtain ⟨al, cl, rfl⟩ : ∃ al cl, vL = .slice al L.length cl := by
    obtain ⟨vs, _, hr, _⟩ := hL
    obtain ⟨a, c, h, _⟩ := hr.form
    exact ⟨a, c, h⟩
  have HTW : Hid (∀ x, Below w.heap.size w x → ReadN x (.slice at_ t.length ct) t) := fun x hb => ht.below hb
  have HLW : Hid (∀ x, Below w.heap.size w x → ReadNN x (.slice al L.length cl) L) := fun x hb => hL.below hb
  have HST := Lib.hid hst
  have HSL := Lib.hid hsL
  have HB0 : Hid (Below w.heap.size w w) := Below.refl _ _
  have hc1 : chks ((t :: L).take 1) = chk t := by
    unfold chks
    show fstE [chk t] = _
    rw [fstE_cons]
    split
    · rename_i h; rw [h]; rfl
    · rfl
  have HC1 := Lib.hid hc1
  have hEb : ∀ c, chks (t :: L) = c → c ≠ 0 → insE L t = c ∧ insL L t = [] := by
    intro c hc h0
    have e1 : insE L t = c := by unfold insE; rw [if_neg (by rw [hc]; exact h0), hc]
    exact ⟨e1, insL_bad (by rw [e1]; exact h0)⟩
  have hEg : chks (t :: L) = 0 → ∃ E l, insE L t = E ∧ insL L t = l ∧ ∀ w', Below w.heap.size w w' → Calls Tryd.prog 82 #[.slice at_ t.length ct, .int .i64 0, .slice al L.length cl] w' (GotPost E l w') := by
    intro hc
    have hcc := chks_zero.1 hc
    have hct := hcc t (by simp)
    obtain ⟨hle, T, hw, hdep⟩ := chk_ok hct
    obtain ⟨hwf, hfl⟩ := whole_some hw
    refine ⟨_, _, insE_of hc hw, insL_of hc hw, fun w' hb => ?_⟩
    rw [putE_congr (iU_g L) (iB_g L), putL_congr (iU_g L) (iB_g L)]
    have h := rput_any 0 (by omega) L hn (fun l hl => hcc l (by simp [hl])) HSL.out T hwf hdep (by rw [hfl]; exact hlen) (by rw [hfl]; exact HST.out) (.slice at_ t.length ct) (.slice al L.length cl) w' (by rw [hfl]; exact HTW.out _ hb) (HLW.out _ hb)
    exact h
  have HEB := Lib.hid hEb
  have HEG := Lib.hid hEg
  obtain ⟨M, hM⟩ : ∃ M, t :: L = M := ⟨_, rfl⟩
  have HM := Lib.hid hM
  rw [hM] at HC1 HEB HEG
  have hMl : M.length = L.length + 1 := by rw [← hM]; rfl
  have HML := Lib.hid hMl
  have HMI : Hid (∀ i (hi : i < L.length) (hi2 : i + 1 < M.length), M[i + 1] = L[i]) := by
    show ∀ i (hi : i < L.length) (hi2 : i + 1 < M.length), _
    subst hM
    intro i hi hi2
    simp
  obtain ⟨E, hE⟩ : ∃ E, insE L t = E := ⟨_, rfl⟩
  obtain ⟨R, hR⟩ : ∃ E, insL L t = E := ⟨_, rfl⟩
  rw [hE, hR] at HEB HEG ⊢
  obtain ⟨c, hc⟩ : ∃ c, chk t = c := ⟨_, rfl⟩
  rw [hc] at HC1
  have HC := Lib.hid hc
  clear ht hL hst hsL hc1 hEb hEg hM hMl hE hR hc
  go_enter Tryd.func55, Tryd.ntmps55
  go_wp2_with fail
  refine (refcheck2_any t _ w (HTW.out _ HB0.out) HST.out).mono ?_
  rintro e w1 ⟨rfl, hb1⟩
  rw [HC.out]
  have HB1 := chainB HB0 hb1
  clear hb1
  go_wp2_with fail
  go_loopw [6, 7] (fun c i wr => RInsRel M w c i wr) (fun _ i _ => L.length - (intOf i).toNat)
  case atStart => exact ⟨0, c, by rw [HML.out]; omega, rfl, rfl, HC1.out, HB1.out⟩
  case round =>
    rename World => wr
    obtain ⟨j, x, hj, rfl, rfl, hx, hb⟩ := hrel
    have HB := Lib.hid hb
    have HX := Lib.hid hx
    rw [HML.out] at hj
    have hj2 : j ≤ L.length := by omega
    clear hb hx hj
    by_cases hx0 : x = 0
    · subst hx0
      by_cases hlt : j < L.length
      · obtain ⟨_, ⟨h0, _⟩ | ⟨pb, po, pcap, hpe, hpb⟩⟩ := ReadNN.shape (HLW.out _ HB.out)
        · subst h0; simp at hlt
        obtain ⟨rfl, rfl⟩ : al = some ⟨pb, po, none⟩ ∧ cl = pcap := by simpa using hpe
        obtain ⟨a1, c1, g1, r1⟩ := (HLW.out _ HB.out).at hlt
        have hsU : SmallN L[j] := HSL.out _ (List.getElem_mem hlt)
        have hnx := chks_take (M := M) (j := j + 1) (by rw [HML.out]; omega) HX.out
        rw [HMI.out j hlt (by rw [HML.out]; omega)] at hnx
        obtain ⟨d, hd⟩ : ∃ d, chk L[j] = d := ⟨_, rfl⟩
        rw [hd] at hnx
        have HD := Lib.hid hd
        have HNX := Lib.hid hnx
        have HSU := Lib.hid hsU
        have R1 := Lib.hid r1
        clear hd hnx hsU r1 hpe
        go_wp2_with fail
        refine (refcheck2_any L[j] _ wr R1.out HSU.out).mono ?_
        rintro e w2 ⟨rfl, hb2⟩
        rw [HD.out]
        have HB2 := chainB HB hb2
        clear hb2
        go_wp2_with fail
        go_roundw
        case rel => exact ⟨j + 1, d, by rw [HML.out]; omega, by go_num, rfl, HNX.out, HB2.out⟩
        case measure => simp [intOf]; omega
      · obtain rfl : j = L.length := by omega
        have hz : chks M = 0 := by
          have h := HX.out
          rwa [List.take_of_length_le (by rw [HML.out]; exact Nat.le_refl _)] at h
        obtain ⟨E', R', rfl, rfl, hput⟩ := HEG.out hz
        have HPUT := Lib.hid hput
        clear hz hput
        go_wp2_with fail
        refine (HPUT.out _ HB.out).mono ?_
        rintro e w3 ⟨a3, c3, rfl, hr3, hb3⟩
        have HR3 := Lib.hid hr3
        have HB3 := chainB HB hb3
        clear hr3 hb3
        go_wp2_with fail
        go_ret2
        exact ⟨_, _, rfl, HR3.out, HB3.out⟩
    · have hxb : (x == 0) = false := by simpa using hx0
      have hxb2 : (x != 0) = true := by simpa using hx0
      obtain ⟨rfl, rfl⟩ := HEB.out x (chks_cut HX.out hx0) hx0
      clear hx0
      by_cases hlt : j < L.length
      all_goals
        go_wp2_with fail
        go_ret2
        exact GotPost.nil HB.out

end Go.Proofs.YtjhgpifccleknaaDoor
