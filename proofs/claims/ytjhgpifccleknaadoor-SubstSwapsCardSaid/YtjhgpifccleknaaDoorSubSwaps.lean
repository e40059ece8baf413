/- The walk of SubstSwaps: it comes to true for every input. Printed by gen4.py. -/
import Derived.Test.YtjhgpifccleknaaDoorSubThree
namespace Go.Proofs.YtjhgpifccleknaaDoor
set_option linter.unusedSimpArgs false
set_option linter.unusedVariables false
open Go.RowKit Go.BigFrame

set_option maxRecDepth 20000 in
set_option maxHeartbeats 40000000 in
theorem swaps4_walk (W : World) (t : List Nd) (vt : Value) (ht : ReadN W vt t) (hst : SmallN t) (u : List Nd) (vu : Value) (hu : ReadN W vu u) (hsu : SmallN u) (v : List Nd) (vv : Value) (hv : ReadN W vv v) (hsv : SmallN v) (hS : ShapesAt W) :
    Calls Tryd.prog 18 #[vt, vu, vv] W fun e W' => e = .returned (.bool true) ∧ Below W.heap.size W W' := by
  obtain ⟨at_, ct, rfl⟩ := ReadN.len_slice ht
  obtain ⟨au_, cu, rfl⟩ := ReadN.len_slice hu
  obtain ⟨av_, cv, rfl⟩ := ReadN.len_slice hv
  have HSW : Hid (∀ x, Below W.heap.size W x → ShapesAt x) := fun x hb => hS.below hb
  have HTW : Hid (∀ x, Below W.heap.size W x → ReadN x (.slice at_ t.length ct) t) := fun x hb => ht.below hb
  have HST := Lib.hid hst
  have HUW : Hid (∀ x, Below W.heap.size W x → ReadN x (.slice au_ u.length cu) u) := fun x hb => hu.below hb
  have HSU := Lib.hid hsu
  have HVW : Hid (∀ x, Below W.heap.size W x → ReadN x (.slice av_ v.length cv) v) := fun x hb => hv.below hb
  have HSV := Lib.hid hsv
  have HSH : Hid (∀ w', Below W.heap.size W w' → Calls Tryd.prog 51 #[] w' fun e w9 => e = .returned (.bool true) ∧ Below w'.heap.size w' w9) := fun w' hb => shown4_any w' (HSW.out _ hb)
  have HB0 : Hid (Below W.heap.size W W) := Below.refl _ _
  have HVT := Lib.hid (heavy4_any t _ W ht hst)
  have HVU := Lib.hid (heavy4_any u _ W hu hsu)
  have HVV := Lib.hid (heavy4_any v _ W hv hsv)
  clear hS ht hst hu hsu hv hsv
  go_enter Tryd.func18, Tryd.ntmps18
  go_wp2_with fail
  refine HVT.out.mono ?_
  rintro e w1 ⟨⟨b1, rfl, hn1⟩, rfl⟩
  cases b1
  rotate_left
  · go_wp2_with fail
    refine (HSH.out _ HB0.out).mono ?_
    rintro e w2 ⟨rfl, hb2⟩
    go_wp2_with fail
    go_ret
    exact ⟨rfl, hb2⟩
  have hl_t := hn1 rfl
  clear hn1
  go_wp2_with fail
  refine HVU.out.mono ?_
  rintro e w1 ⟨⟨b1, rfl, hn1⟩, rfl⟩
  cases b1
  rotate_left
  · go_wp2_with fail
    refine (HSH.out _ HB0.out).mono ?_
    rintro e w2 ⟨rfl, hb2⟩
    go_wp2_with fail
    go_ret
    exact ⟨rfl, hb2⟩
  have hl_u := hn1 rfl
  clear hn1
  go_wp2_with fail
  refine HVV.out.mono ?_
  rintro e w1 ⟨⟨b1, rfl, hn1⟩, rfl⟩
  cases b1
  rotate_left
  · go_wp2_with fail
    refine (HSH.out _ HB0.out).mono ?_
    rintro e w2 ⟨rfl, hb2⟩
    go_wp2_with fail
    go_ret
    exact ⟨rfl, hb2⟩
  have hl_v := hn1 rfl
  clear hn1
  go_wp2_with fail
  refine (HSH.out _ HB0.out).mono ?_
  rintro e w1 ⟨rfl, hb⟩
  have HB1 := chain HB0 hb
  clear hb
  have hL : ReadNN (w1.alloc (.cells #[.slice au_ u.length cu, .slice av_ v.length cv] 30)) (.slice (some ⟨w1.heap.size, 0, none⟩) 2 2) [u, v] := ReadNN.lit2 (HUW.out _ HB1.out) (HVW.out _ HB1.out)
  have HIL := Lib.hid (inst_law t [u, v] _ _ _ (HSW.out _ (HB1.out.alloc HB1.out.size _)) ((HTW.out _ HB1.out).alloc _) HST.out hL (fun l hl => by simp at hl; rcases hl with rfl | rfl; exact HSU.out; exact HSV.out) (by simp))
  clear hL
  go_wp2_with fail
  have HB1 : Hid (Below W.heap.size W (w1.alloc (.cells #[.slice au_ u.length cu, .slice av_ v.length cv] 30))) := HB1.out.alloc HB1.out.size _
  refine (HIL.out).mono ?_
  rintro e w2 ⟨aA, cA, rfl, hr, hb⟩
  have HB2 := chain HB1 hb
  clear hb
  obtain ⟨EA, hE⟩ : ∃ E, insE [u, v] t = E := ⟨_, rfl⟩
  obtain ⟨XA, hX⟩ : ∃ X, insL [u, v] t = X := ⟨_, rfl⟩
  have hs : SmallN XA := by rw [← hX]; exact insL_small HST.out (fun l hl => by simp at hl; rcases hl with rfl | rfl; exact HSU.out; exact HSV.out)
  rw [hX] at hr
  rw [hE, hX]
  have HEA := Lib.hid hE
  have HXA := Lib.hid hX
  have RA := Lib.hid hr
  have SMA := Lib.hid hs
  clear hE hX hr hs
  go_wp2_with fail
  refine (rshift_law u _ 1 0 w2 (HUW.out _ HB2.out) HSU.out 1 0 (by decide) (by decide)).mono ?_
  rintro e w3 ⟨aS, cS, rfl, hr, hb⟩
  have RA := Lib.hid (RA.out.below hb)
  have HB3 := chain HB2 hb
  clear hb
  obtain ⟨ES, hE⟩ : ∃ E, shiftE 1 0 u = E := ⟨_, rfl⟩
  obtain ⟨XS, hX⟩ : ∃ X, shiftL 1 0 u = X := ⟨_, rfl⟩
  have hs : SmallN XS := by rw [← hX]; exact shiftL_small HSU.out
  rw [hX] at hr
  rw [hE, hX]
  have HES := Lib.hid hE
  have HXS := Lib.hid hX
  have RS := Lib.hid hr
  have SMS := Lib.hid hs
  clear hE hX hr hs
  by_cases h0 : ES = 0
  rotate_left
  · have hb0 : (ES != 0) = true := by simpa using h0
    obtain ⟨cu0, hcu⟩ : ∃ c, chk u = c := ⟨_, rfl⟩
    have hd := shift_one_err (u := u)
    rw [HES.out, hcu] at hd
    have HCU := Lib.hid hcu
    clear hcu
    go_wp2_with fail
    refine (refcheck2_any u _ w3 (HUW.out _ HB3.out) HSU.out).mono ?_
    rintro e w4 ⟨rfl, hb⟩
    have RA := Lib.hid (RA.out.below hb)
    have RS := Lib.hid (RS.out.below hb)
    have HB4 := chain HB3 hb
    clear hb
    rw [HCU.out]
    rcases hd with hd | hd | hd
    · exact absurd hd h0
    · subst hd
      clear h0
      go_wp2_with fail
      all_goals (go_ret; exact ⟨rfl, HB4.out⟩)
    · subst hd
      clear h0
      by_cases h2 : (2 : Int) = cu0
      · have hb2 : ((2 : Int) == cu0) = true := by simpa using h2
        clear h2
        go_wp2_with fail
        all_goals (go_ret; exact ⟨rfl, HB4.out⟩)
      · have hb2 : ((2 : Int) == cu0) = false := by simpa using h2
        clear h2
        go_wp2_with fail
        all_goals (go_ret; exact ⟨rfl, HB4.out⟩)
  subst h0
  go_wp2_with fail
  refine (subst_law t XS _ _ 0 w3 (HSW.out _ HB3.out) (HTW.out _ HB3.out) HST.out RS.out SMS.out).mono ?_
  rintro e w4 ⟨aB, cB, rfl, hr, hb⟩
  have RA := Lib.hid (RA.out.below hb)
  have RS := Lib.hid (RS.out.below hb)
  have HB4 := chain HB3 hb
  clear hb
  obtain ⟨EB, hE⟩ : ∃ E, subE 0 XS t = E := ⟨_, rfl⟩
  obtain ⟨XB, hX⟩ : ∃ X, subL 0 XS t = X := ⟨_, rfl⟩
  have hs : SmallN XB := by rw [← hX]; exact subL_small HST.out SMS.out
  rw [hX] at hr
  rw [hE, hX]
  have HEB := Lib.hid hE
  have HXB := Lib.hid hX
  have RB := Lib.hid hr
  have SMB := Lib.hid hs
  clear hE hX hr hs
  by_cases h0 : EB = 0
  rotate_left
  · have hb0 : (EB != 0) = true := by simpa using h0
    clear h0
    go_wp2_with fail
    all_goals (go_ret; exact ⟨rfl, HB4.out⟩)
  subst h0
  by_cases h0 : EA = 0
  rotate_left
  · have hb0 : (EA != 0) = true := by simpa using h0
    clear h0
    go_wp2_with fail
    all_goals (go_ret; exact ⟨rfl, HB4.out⟩)
  subst h0
  go_wp2_with fail
  refine (subst_law XB v _ _ 0 w4 (HSW.out _ HB4.out) RB.out SMB.out (HVW.out _ HB4.out) HSV.out).mono ?_
  rintro e w5 ⟨aC, cC, rfl, hr, hb⟩
  have RA := Lib.hid (RA.out.below hb)
  have RS := Lib.hid (RS.out.below hb)
  have RB := Lib.hid (RB.out.below hb)
  have HB5 := chain HB4 hb
  clear hb
  obtain ⟨EC, hE⟩ : ∃ E, subE 0 v XB = E := ⟨_, rfl⟩
  obtain ⟨XC, hX⟩ : ∃ X, subL 0 v XB = X := ⟨_, rfl⟩
  have hs : SmallN XC := by rw [← hX]; exact subL_small SMB.out HSV.out
  rw [hX] at hr
  rw [hE, hX]
  have HEC := Lib.hid hE
  have HXC := Lib.hid hX
  have RC := Lib.hid hr
  have SMC := Lib.hid hs
  clear hE hX hr hs
  go_wp2_with fail
  refine (subst_law t v _ _ 1 w5 (HSW.out _ HB5.out) (HTW.out _ HB5.out) HST.out (HVW.out _ HB5.out) HSV.out).mono ?_
  rintro e w6 ⟨aD, cD, rfl, hr, hb⟩
  have RA := Lib.hid (RA.out.below hb)
  have RS := Lib.hid (RS.out.below hb)
  have RB := Lib.hid (RB.out.below hb)
  have RC := Lib.hid (RC.out.below hb)
  have HB6 := chain HB5 hb
  clear hb
  obtain ⟨ED, hE⟩ : ∃ E, subE 1 v t = E := ⟨_, rfl⟩
  obtain ⟨XD, hX⟩ : ∃ X, subL 1 v t = X := ⟨_, rfl⟩
  have hs : SmallN XD := by rw [← hX]; exact subL_small HST.out HSV.out
  rw [hX] at hr
  rw [hE, hX]
  have HED := Lib.hid hE
  have HXD := Lib.hid hX
  have RD := Lib.hid hr
  have SMD := Lib.hid hs
  clear hE hX hr hs
  by_cases h0 : EC = 0
  rotate_left
  · have hb0 : (EC != 0) = true := by simpa using h0
    clear h0
    go_wp2_with fail
    all_goals (go_ret; exact ⟨rfl, HB6.out⟩)
  subst h0
  by_cases h0 : ED = 0
  rotate_left
  · have hb0 : (ED != 0) = true := by simpa using h0
    clear h0
    go_wp2_with fail
    all_goals (go_ret; exact ⟨rfl, HB6.out⟩)
  subst h0
  have hac : XC = XA := by
    have h1 := HEA.out
    have h2 := HES.out
    have h3 := HEB.out
    have h4 := HEC.out
    rw [← HXB.out, ← HXS.out] at h4
    rw [← HXS.out] at h3
    rw [← HXC.out, ← HXA.out, ← HXB.out, ← HXS.out]
    exact law_swaps_a h1 h2 h3 h4
  subst hac
  go_wp2_with fail
  refine (same_law XC _ _ _ RA.out RC.out).mono ?_
  rintro e w7 ⟨rfl, hb⟩
  have RA := Lib.hid (RA.out.below hb)
  have RS := Lib.hid (RS.out.below hb)
  have RB := Lib.hid (RB.out.below hb)
  have RC := Lib.hid (RC.out.below hb)
  have RD := Lib.hid (RD.out.below hb)
  have HB7 := chain HB6 hb
  clear hb
  go_wp2_with fail
  refine (subst_law XD u _ _ 0 w7 (HSW.out _ HB7.out) RD.out SMD.out (HUW.out _ HB7.out) HSU.out).mono ?_
  rintro e w8 ⟨aY, cY, rfl, hr, hb⟩
  have RA := Lib.hid (RA.out.below hb)
  have RS := Lib.hid (RS.out.below hb)
  have RB := Lib.hid (RB.out.below hb)
  have RC := Lib.hid (RC.out.below hb)
  have RD := Lib.hid (RD.out.below hb)
  have HB8 := chain HB7 hb
  clear hb
  obtain ⟨EY, hE⟩ : ∃ E, subE 0 u XD = E := ⟨_, rfl⟩
  obtain ⟨XY, hX⟩ : ∃ X, subL 0 u XD = X := ⟨_, rfl⟩
  have hs : SmallN XY := by rw [← hX]; exact subL_small SMD.out HSU.out
  rw [hX] at hr
  rw [hE, hX]
  have HEY := Lib.hid hE
  have HXY := Lib.hid hX
  have RY := Lib.hid hr
  have SMY := Lib.hid hs
  clear hE hX hr hs
  by_cases h0 : EY = 0
  rotate_left
  · have hb0 : (EY != 0) = true := by simpa using h0
    clear h0
    go_wp2_with fail
    all_goals (go_ret; exact ⟨rfl, HB8.out⟩)
  subst h0
  have hay : XY = XC := by
    have h1 := HEA.out
    have h3 := HED.out
    have h4 := HEY.out
    rw [← HXD.out] at h4
    rw [← HXY.out, ← HXA.out, ← HXD.out]
    exact law_swaps_b h1 h3 h4
  subst hay
  go_wp2_with fail
  refine (same_law XY _ _ _ RA.out RY.out).mono ?_
  rintro e w9 ⟨rfl, hb⟩
  have RA := Lib.hid (RA.out.below hb)
  have RS := Lib.hid (RS.out.below hb)
  have RB := Lib.hid (RB.out.below hb)
  have RC := Lib.hid (RC.out.below hb)
  have RD := Lib.hid (RD.out.below hb)
  have RY := Lib.hid (RY.out.below hb)
  have HB9 := chain HB8 hb
  clear hb
  go_wp2_with fail
  all_goals (go_ret; exact ⟨rfl, HB9.out⟩)

end Go.Proofs.YtjhgpifccleknaaDoor
