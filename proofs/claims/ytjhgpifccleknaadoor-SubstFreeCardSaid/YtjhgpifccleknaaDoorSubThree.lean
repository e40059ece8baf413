/- The walks of SubstOrder, SubstOne and SubstSwaps: each comes to true for every input. Printed by gen4.py. -/
import Derived.Test.YtjhgpifccleknaaDoorSubTells
import Derived.Test.YtjhgpifccleknaaDoorSubLaw
namespace Go.Proofs.YtjhgpifccleknaaDoor
set_option linter.unusedSimpArgs false
set_option linter.unusedVariables false
open Go.RowKit Go.BigFrame

theorem putL_small {pU : Int → Option (List Nd)} {pB : Int → Nat → Int} {T : Tm} (h : SmallN T.flat) (hU : ∀ v U, pU v = some U → SmallN U) : SmallN (putL pU pB T) := by
  unfold putL
  split
  · exact put_small h hU
  · intro n hn; cases hn
theorem subL_small {k : Int} {u t : List Nd} (ht : SmallN t) (hu : SmallN u) : SmallN (subL k u t) := by
  unfold subL
  split
  · cases hw : whole t with
    | none => intro n hn; cases hn
    | some T =>
      obtain ⟨_, hfl⟩ := whole_some hw
      exact putL_small (by rw [hfl]; exact ht) (fun v U h => by unfold sU at h; split at h; cases h; exact hu; cases h)
  · intro n hn; cases hn
theorem insL_small {L : List (List Nd)} {t : List Nd} (ht : SmallN t) (hL : SmallNN L) : SmallN (insL L t) := by
  unfold insL
  split
  · cases hw : whole t with
    | none => intro n hn; cases hn
    | some T =>
      obtain ⟨_, hfl⟩ := whole_some hw
      exact putL_small (by rw [hfl]; exact ht) (fun v U h => hL U (List.mem_of_getElem? h))
  · intro n hn; cases hn

set_option maxRecDepth 20000 in
set_option maxHeartbeats 4000000 in
theorem order4_walk (W : World) (t : List Nd) (vt : Value) (ht : ReadN W vt t) (hst : SmallN t) (u : List Nd) (vu : Value) (hu : ReadN W vu u) (hsu : SmallN u) (v : List Nd) (vv : Value) (hv : ReadN W vv v) (hsv : SmallN v) (hS : ShapesAt W) :
    Calls Tryd.prog 16 #[vt, vu, vv] W fun e W' => e = .returned (.bool true) ∧ Below W.heap.size W W' := by
  obtain ⟨at_, ct, rfl⟩ := ReadN.len_slice ht
  obtain ⟨au_, cu, rfl⟩ := ReadN.len_slice hu
  obtain ⟨av_, cv, rfl⟩ := ReadN.len_slice hv
  have HSW : Hid (∀ x, Below W.heap.size W x → ShapesAt x) := fun x hb => hS.below hb
  have HTW : Hid (∀ x, Below W.heap.size W x → ReadN x (.slice at_ t.length ct) t) := fun x hb => ht.below hb
  have HST := Lib.hid hst
  have HUW : Hid (∀ x, Below W.heap.size W x → ReadN x (.slice au_ u.length cu) u) := fun x hb => hu.below hb
  have HSU := Lib.hid hsu
  have HVW : Hid (∀ x, Below W.heap.size W x → ReadN x (.slice av_ v.length cv) v) := fun x hb => hv.below hb
  have HSV := Lib.hid hsv
  have HSH : Hid (∀ w', Below W.heap.size W w' → Calls Tryd.prog 51 #[] w' fun e w9 => e = .returned (.bool true) ∧ Below w'.heap.size w' w9) := fun w' hb => shown4_any w' (HSW.out _ hb)
  have HB0 : Hid (Below W.heap.size W W) := Below.refl _ _
  have HVT := Lib.hid (heavy4_any t _ W ht hst)
  have HVU := Lib.hid (heavy4_any u _ W hu hsu)
  have HVV := Lib.hid (heavy4_any v _ W hv hsv)
  clear hS ht hst hu hsu hv hsv
  go_enter Tryd.func16, Tryd.ntmps16
  go_wp2_with fail
  refine HVT.out.mono ?_
  rintro e w1 ⟨⟨b1, rfl, hn1⟩, rfl⟩
  cases b1
  rotate_left
  · go_wp2_with fail
    refine (HSH.out _ HB0.out).mono ?_
    rintro e w2 ⟨rfl, hb2⟩
    go_wp2_with fail
    go_ret
    exact ⟨rfl, hb2⟩
  have hl_t := hn1 rfl
  clear hn1
  go_wp2_with fail
  refine HVU.out.mono ?_
  rintro e w1 ⟨⟨b1, rfl, hn1⟩, rfl⟩
  cases b1
  rotate_left
  · go_wp2_with fail
    refine (HSH.out _ HB0.out).mono ?_
    rintro e w2 ⟨rfl, hb2⟩
    go_wp2_with fail
    go_ret
    exact ⟨rfl, hb2⟩
  have hl_u := hn1 rfl
  clear hn1
  go_wp2_with fail
  refine HVV.out.mono ?_
  rintro e w1 ⟨⟨b1, rfl, hn1⟩, rfl⟩
  cases b1
  rotate_left
  · go_wp2_with fail
    refine (HSH.out _ HB0.out).mono ?_
    rintro e w2 ⟨rfl, hb2⟩
    go_wp2_with fail
    go_ret
    exact ⟨rfl, hb2⟩
  have hl_v := hn1 rfl
  clear hn1
  go_wp2_with fail
  refine (HSH.out _ HB0.out).mono ?_
  rintro e w1 ⟨rfl, hb⟩
  have HB1 := chain HB0 hb
  clear hb
  go_wp2_with fail
  refine (subst_law t u _ _ 0 w1 (HSW.out _ HB1.out) (HTW.out _ HB1.out) HST.out (HUW.out _ HB1.out) HSU.out).mono ?_
  rintro e w2 ⟨aA, cA, rfl, hr, hb⟩
  have HB2 := chain HB1 hb
  clear hb
  obtain ⟨EA, hE⟩ : ∃ E, subE 0 u t = E := ⟨_, rfl⟩
  obtain ⟨XA, hX⟩ : ∃ X, subL 0 u t = X := ⟨_, rfl⟩
  have hs : SmallN XA := by rw [← hX]; exact subL_small HST.out HSU.out
  rw [hX] at hr
  rw [hE, hX]
  have HEA := Lib.hid hE
  have HXA := Lib.hid hX
  have RA := Lib.hid hr
  have SMA := Lib.hid hs
  clear hE hX hr hs
  by_cases h0 : EA = 0
  rotate_left
  · have hb0 : (EA != 0) = true := by simpa using h0
    have hx : XA = [] := by rw [← HXA.out]; exact subL_bad (by rw [HEA.out]; exact h0)
    subst hx
    clear h0
    go_wp2_with fail
    refine (rsubst_law t u _ _ 0 w2 (HTW.out _ HB2.out) HST.out (HUW.out _ HB2.out) HSU.out (by omega)).mono ?_
    rintro e w3 ⟨aQ, cQ, rfl, hr, hb⟩
    have RA := Lib.hid (RA.out.below hb)
    have HB3 := chain HB2 hb
    clear hb
    rw [HXA.out] at hr
    rw [HEA.out, HXA.out]
    clear hr
    go_wp2_with fail
    all_goals (go_ret; exact ⟨rfl, HB3.out⟩)
  subst h0
  go_wp2_with fail
  refine (subst_law XA v _ _ 0 w2 (HSW.out _ HB2.out) RA.out SMA.out (HVW.out _ HB2.out) HSV.out).mono ?_
  rintro e w3 ⟨aB, cB, rfl, hr, hb⟩
  have RA := Lib.hid (RA.out.below hb)
  have HB3 := chain HB2 hb
  clear hb
  obtain ⟨EB, hE⟩ : ∃ E, subE 0 v XA = E := ⟨_, rfl⟩
  obtain ⟨XB, hX⟩ : ∃ X, subL 0 v XA = X := ⟨_, rfl⟩
  have hs : SmallN XB := by rw [← hX]; exact subL_small SMA.out HSV.out
  rw [hX] at hr
  rw [hE, hX]
  have HEB := Lib.hid hE
  have HXB := Lib.hid hX
  have RB := Lib.hid hr
  have SMB := Lib.hid hs
  clear hE hX hr hs
  go_wp2_with fail
  refine (subst_law t v _ _ 1 w3 (HSW.out _ HB3.out) (HTW.out _ HB3.out) HST.out (HVW.out _ HB3.out) HSV.out).mono ?_
  rintro e w4 ⟨aC, cC, rfl, hr, hb⟩
  have RA := Lib.hid (RA.out.below hb)
  have RB := Lib.hid (RB.out.below hb)
  have HB4 := chain HB3 hb
  clear hb
  obtain ⟨EC, hE⟩ : ∃ E, subE 1 v t = E := ⟨_, rfl⟩
  obtain ⟨XC, hX⟩ : ∃ X, subL 1 v t = X := ⟨_, rfl⟩
  have hs : SmallN XC := by rw [← hX]; exact subL_small HST.out HSV.out
  rw [hX] at hr
  rw [hE, hX]
  have HEC := Lib.hid hE
  have HXC := Lib.hid hX
  have RC := Lib.hid hr
  have SMC := Lib.hid hs
  clear hE hX hr hs
  go_wp2_with fail
  refine (subst_law u v _ _ 0 w4 (HSW.out _ HB4.out) (HUW.out _ HB4.out) HSU.out (HVW.out _ HB4.out) HSV.out).mono ?_
  rintro e w5 ⟨aD, cD, rfl, hr, hb⟩
  have RA := Lib.hid (RA.out.below hb)
  have RB := Lib.hid (RB.out.below hb)
  have RC := Lib.hid (RC.out.below hb)
  have HB5 := chain HB4 hb
  clear hb
  obtain ⟨ED, hE⟩ : ∃ E, subE 0 v u = E := ⟨_, rfl⟩
  obtain ⟨XD, hX⟩ : ∃ X, subL 0 v u = X := ⟨_, rfl⟩
  have hs : SmallN XD := by rw [← hX]; exact subL_small HSU.out HSV.out
  rw [hX] at hr
  rw [hE, hX]
  have HED := Lib.hid hE
  have HXD := Lib.hid hX
  have RD := Lib.hid hr
  have SMD := Lib.hid hs
  clear hE hX hr hs
  by_cases h0 : EB = 0
  rotate_left
  · have hb0 : (EB != 0) = true := by simpa using h0
    clear h0
    go_wp2_with fail
    all_goals (go_ret; exact ⟨rfl, HB5.out⟩)
  subst h0
  by_cases h0 : EC = 0
  rotate_left
  · have hb0 : (EC != 0) = true := by simpa using h0
    clear h0
    go_wp2_with fail
    all_goals (go_ret; exact ⟨rfl, HB5.out⟩)
  subst h0
  by_cases h0 : ED = 0
  rotate_left
  · have hb0 : (ED != 0) = true := by simpa using h0
    clear h0
    go_wp2_with fail
    all_goals (go_ret; exact ⟨rfl, HB5.out⟩)
  subst h0
  go_wp2_with fail
  refine (subst_law XC XD _ _ 0 w5 (HSW.out _ HB5.out) RC.out SMC.out RD.out SMD.out).mono ?_
  rintro e w6 ⟨aY, cY, rfl, hr, hb⟩
  have RA := Lib.hid (RA.out.below hb)
  have RB := Lib.hid (RB.out.below hb)
  have RC := Lib.hid (RC.out.below hb)
  have RD := Lib.hid (RD.out.below hb)
  have HB6 := chain HB5 hb
  clear hb
  obtain ⟨EY, hE⟩ : ∃ E, subE 0 XD XC = E := ⟨_, rfl⟩
  obtain ⟨XY, hX⟩ : ∃ X, subL 0 XD XC = X := ⟨_, rfl⟩
  have hs : SmallN XY := by rw [← hX]; exact subL_small SMC.out SMD.out
  rw [hX] at hr
  rw [hE, hX]
  have HEY := Lib.hid hE
  have HXY := Lib.hid hX
  have RY := Lib.hid hr
  have SMY := Lib.hid hs
  clear hE hX hr hs
  by_cases h0 : EY = 0
  rotate_left
  · have hb0 : (EY != 0) = true := by simpa using h0
    clear h0
    go_wp2_with fail
    all_goals (go_ret; exact ⟨rfl, HB6.out⟩)
  subst h0
  have hxy : XY = XB := by
    have h1 := HEA.out
    have h2 := HEB.out
    have h3 := HEC.out
    have h4 := HED.out
    have h5 := HEY.out
    rw [← HXA.out] at h2
    rw [← HXC.out, ← HXD.out] at h5
    rw [← HXY.out, ← HXB.out, ← HXA.out, ← HXC.out, ← HXD.out]
    exact law_order h1 h2 h3 h4 h5
  subst hxy
  go_wp2_with fail
  refine (same_law XY _ _ _ RY.out RB.out).mono ?_
  rintro e w7 ⟨rfl, hb⟩
  have RA := Lib.hid (RA.out.below hb)
  have RB := Lib.hid (RB.out.below hb)
  have RC := Lib.hid (RC.out.below hb)
  have RD := Lib.hid (RD.out.below hb)
  have RY := Lib.hid (RY.out.below hb)
  have HB7 := chain HB6 hb
  clear hb
  go_wp2_with fail
  all_goals (go_ret; exact ⟨rfl, HB7.out⟩)

set_option maxRecDepth 20000 in
set_option maxHeartbeats 4000000 in
theorem one4_walk (W : World) (t : List Nd) (vt : Value) (ht : ReadN W vt t) (hst : SmallN t) (u : List Nd) (vu : Value) (hu : ReadN W vu u) (hsu : SmallN u) (hS : ShapesAt W) :
    Calls Tryd.prog 19 #[vt, vu] W fun e W' => e = .returned (.bool true) ∧ Below W.heap.size W W' := by
  obtain ⟨at_, ct, rfl⟩ := ReadN.len_slice ht
  obtain ⟨au_, cu, rfl⟩ := ReadN.len_slice hu
  have HSW : Hid (∀ x, Below W.heap.size W x → ShapesAt x) := fun x hb => hS.below hb
  have HTW : Hid (∀ x, Below W.heap.size W x → ReadN x (.slice at_ t.length ct) t) := fun x hb => ht.below hb
  have HST := Lib.hid hst
  have HUW : Hid (∀ x, Below W.heap.size W x → ReadN x (.slice au_ u.length cu) u) := fun x hb => hu.below hb
  have HSU := Lib.hid hsu
  have HSH : Hid (∀ w', Below W.heap.size W w' → Calls Tryd.prog 51 #[] w' fun e w9 => e = .returned (.bool true) ∧ Below w'.heap.size w' w9) := fun w' hb => shown4_any w' (HSW.out _ hb)
  have HB0 : Hid (Below W.heap.size W W) := Below.refl _ _
  have HVT := Lib.hid (heavy4_any t _ W ht hst)
  have HVU := Lib.hid (heavy4_any u _ W hu hsu)
  clear hS ht hst hu hsu
  go_enter Tryd.func19, Tryd.ntmps19
  go_wp2_with fail
  refine HVT.out.mono ?_
  rintro e w1 ⟨⟨b1, rfl, hn1⟩, rfl⟩
  cases b1
  rotate_left
  · go_wp2_with fail
    refine (HSH.out _ HB0.out).mono ?_
    rintro e w2 ⟨rfl, hb2⟩
    go_wp2_with fail
    go_ret
    exact ⟨rfl, hb2⟩
  have hl_t := hn1 rfl
  clear hn1
  go_wp2_with fail
  refine HVU.out.mono ?_
  rintro e w1 ⟨⟨b1, rfl, hn1⟩, rfl⟩
  cases b1
  rotate_left
  · go_wp2_with fail
    refine (HSH.out _ HB0.out).mono ?_
    rintro e w2 ⟨rfl, hb2⟩
    go_wp2_with fail
    go_ret
    exact ⟨rfl, hb2⟩
  have hl_u := hn1 rfl
  clear hn1
  go_wp2_with fail
  refine (HSH.out _ HB0.out).mono ?_
  rintro e w1 ⟨rfl, hb⟩
  have HB1 := chain HB0 hb
  clear hb
  have hL : ReadNN (w1.alloc (.cells #[.slice au_ u.length cu] 30)) (.slice (some ⟨w1.heap.size, 0, none⟩) 1 1) [u] := ReadNN.lit1 (HUW.out _ HB1.out)
  have HIL := Lib.hid (inst_law t [u] _ _ _ (HSW.out _ (HB1.out.alloc HB1.out.size _)) ((HTW.out _ HB1.out).alloc _) HST.out hL (fun l hl => by simp at hl; subst hl; exact HSU.out) (by simp))
  rw [(one_same t u).1, (one_same t u).2] at HIL
  clear hL
  go_wp2_with fail
  have HB1 : Hid (Below W.heap.size W (w1.alloc (.cells #[.slice au_ u.length cu] 30))) := HB1.out.alloc HB1.out.size _
  refine (HIL.out).mono ?_
  rintro e w2 ⟨aA, cA, rfl, hr, hb⟩
  have HB2 := chain HB1 hb
  clear hb
  obtain ⟨EA, hE⟩ : ∃ E, subE (0 : Nat) u t = E := ⟨_, rfl⟩
  obtain ⟨XA, hX⟩ : ∃ X, subL (0 : Nat) u t = X := ⟨_, rfl⟩
  have hs : SmallN XA := by rw [← hX]; exact subL_small HST.out HSU.out
  rw [hX] at hr
  rw [hE, hX]
  have HEA := Lib.hid hE
  have HXA := Lib.hid hX
  have RA := Lib.hid hr
  have SMA := Lib.hid hs
  clear hE hX hr hs
  go_wp2_with fail
  refine (subst_law t u _ _ 0 w2 (HSW.out _ HB2.out) (HTW.out _ HB2.out) HST.out (HUW.out _ HB2.out) HSU.out).mono ?_
  rintro e w3 ⟨aB, cB, rfl, hr, hb⟩
  have RA := Lib.hid (RA.out.below hb)
  have HB3 := chain HB2 hb
  clear hb
  have heB : subE 0 u t = EA := HEA.out
  have hxB : subL 0 u t = XA := HXA.out
  rw [hxB] at hr
  rw [heB, hxB]
  have RB := Lib.hid hr
  clear heB hxB hr
  go_wp2_with fail
  refine (same_law XA _ _ _ RA.out RB.out).mono ?_
  rintro e w4 ⟨rfl, hb⟩
  have RA := Lib.hid (RA.out.below hb)
  have HB4 := chain HB3 hb
  clear hb
  go_wp2_with fail
  refine (rshift_law t _ 1 0 w4 (HTW.out _ HB4.out) HST.out 1 0 (by decide) (by decide)).mono ?_
  rintro e w5 ⟨aS, cS, rfl, hr, hb⟩
  have RA := Lib.hid (RA.out.below hb)
  have HB5 := chain HB4 hb
  clear hb
  obtain ⟨ES, hE⟩ : ∃ E, shiftE 1 0 t = E := ⟨_, rfl⟩
  obtain ⟨XS, hX⟩ : ∃ X, shiftL 1 0 t = X := ⟨_, rfl⟩
  have hs : SmallN XS := by rw [← hX]; exact shiftL_small HST.out
  rw [hX] at hr
  rw [hE, hX]
  have HES := Lib.hid hE
  have HXS := Lib.hid hX
  have RS := Lib.hid hr
  have SMS := Lib.hid hs
  clear hE hX hr hs
  by_cases h0 : ES = 0
  rotate_left
  · have hb0 : (ES != 0) = true := by simpa using h0
    clear h0
    go_wp2_with fail
    all_goals (go_ret; exact ⟨rfl, HB5.out⟩)
  subst h0
  obtain ⟨cu0, hcu⟩ : ∃ c, chk u = c := ⟨_, rfl⟩
  have HCU := Lib.hid hcu
  clear hcu
  go_wp2_with fail
  refine (refcheck2_any u _ w5 (HUW.out _ HB5.out) HSU.out).mono ?_
  rintro e w6 ⟨rfl, hb⟩
  have RA := Lib.hid (RA.out.below hb)
  have RS := Lib.hid (RS.out.below hb)
  have HB6 := chain HB5 hb
  clear hb
  rw [HCU.out]
  by_cases h0 : cu0 = 0
  rotate_left
  · have hb0 : (cu0 != 0) = true := by simpa using h0
    have hx : XA = [] := by
      rw [← HXA.out]
      refine subL_bad fun h => ?_
      obtain ⟨_, _, _, _, _, h2, _⟩ := sub_fine h
      rw [HCU.out] at h2
      exact h0 h2
    subst hx
    clear h0
    go_wp2_with fail
    all_goals (go_ret; exact ⟨rfl, HB6.out⟩)
  subst h0
  go_wp2_with fail
  refine (subst_law XS u _ _ 0 w6 (HSW.out _ HB6.out) RS.out SMS.out (HUW.out _ HB6.out) HSU.out).mono ?_
  rintro e w7 ⟨aC, cC, rfl, hr, hb⟩
  have RA := Lib.hid (RA.out.below hb)
  have RS := Lib.hid (RS.out.below hb)
  have HB7 := chain HB6 hb
  clear hb
  obtain ⟨EC, hE⟩ : ∃ E, subE 0 u XS = E := ⟨_, rfl⟩
  obtain ⟨XC, hX⟩ : ∃ X, subL 0 u XS = X := ⟨_, rfl⟩
  have hs : SmallN XC := by rw [← hX]; exact subL_small SMS.out HSU.out
  rw [hX] at hr
  rw [hE, hX]
  have HEC := Lib.hid hE
  have HXC := Lib.hid hX
  have RC := Lib.hid hr
  have SMC := Lib.hid hs
  clear hE hX hr hs
  have h1 := HES.out
  have h2 := law_one h1 HCU.out
  rw [HXS.out] at h2
  have h3 : EC = 0 := by rw [← HEC.out]; exact h2.1
  have h4 : XC = t := by rw [← HXC.out]; exact h2.2
  subst h3 h4
  clear h1 h2
  go_wp2_with fail
  refine (same_law XC _ _ _ RC.out (HTW.out _ HB7.out)).mono ?_
  rintro e w8 ⟨rfl, hb⟩
  have RA := Lib.hid (RA.out.below hb)
  have RS := Lib.hid (RS.out.below hb)
  have RC := Lib.hid (RC.out.below hb)
  have HB8 := chain HB7 hb
  clear hb
  go_wp2_with fail
  all_goals (go_ret; exact ⟨rfl, HB8.out⟩)

end Go.Proofs.YtjhgpifccleknaaDoor
