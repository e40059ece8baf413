/- The walk of SubstUnused: it comes to true for every input. Printed by gen4u.py. -/
import Derived.Test.YtjhgpifccleknaaDoorSubThree
import Derived.Test.YtjhgpifccleknaaDoorSubLawB
namespace Go.Proofs.YtjhgpifccleknaaDoor
set_option linter.unusedSimpArgs false
set_option linter.unusedVariables false
open Go.RowKit Go.BigFrame

theorem subE_bad {k : Int} {u t : List Nd} (h : chk t ≠ 0) : subE k u t = chk t := by unfold subE; rw [if_neg h]

set_option maxRecDepth 20000 in
set_option maxHeartbeats 4000000 in
theorem unused4_walk (W : World) (t : List Nd) (vt : Value) (ht : ReadN W vt t) (hst : SmallN t) (k0 : Int) (hk0 : (Lit.int .u8 k0).wf = true) (u : List Nd) (vu : Value) (hu : ReadN W vu u) (hsu : SmallN u) (v : List Nd) (vv : Value) (hv : ReadN W vv v) (hsv : SmallN v) (hS : ShapesAt W) :
    Calls Tryd.prog 14 #[vt, .int .u8 k0, vu, vv] W fun e W' => e = .returned (.bool true) ∧ Below W.heap.size W W' := by
  obtain ⟨ku, rfl, hku⟩ := u8_nat hk0
  clear hk0
  obtain ⟨at_, ct, rfl⟩ := ReadN.len_slice ht
  obtain ⟨au_, cu, rfl⟩ := ReadN.len_slice hu
  obtain ⟨av_, cv, rfl⟩ := ReadN.len_slice hv
  have HSW : Hid (∀ x, Below W.heap.size W x → ShapesAt x) := fun x hb => hS.below hb
  have HTW : Hid (∀ x, Below W.heap.size W x → ReadN x (.slice at_ t.length ct) t) := fun x hb => ht.below hb
  have HST := Lib.hid hst
  have HUW : Hid (∀ x, Below W.heap.size W x → ReadN x (.slice au_ u.length cu) u) := fun x hb => hu.below hb
  have HSU := Lib.hid hsu
  have HVW : Hid (∀ x, Below W.heap.size W x → ReadN x (.slice av_ v.length cv) v) := fun x hb => hv.below hb
  have HSV := Lib.hid hsv
  have HSH : Hid (∀ w', Below W.heap.size W w' → Calls Tryd.prog 51 #[] w' fun e w9 => e = .returned (.bool true) ∧ Below w'.heap.size w' w9) := fun w' hb => shown4_any w' (HSW.out _ hb)
  have HB0 : Hid (Below W.heap.size W W) := Below.refl _ _
  have HVT := Lib.hid (heavy4_any t _ W ht hst)
  have HVU := Lib.hid (heavy4_any u _ W hu hsu)
  have HVV := Lib.hid (heavy4_any v _ W hv hsv)
  clear hS ht hst hu hsu hv hsv
  obtain ⟨kn, hkn⟩ : ∃ kn : Nat, (ku : Int) % 30 = (kn : Int) := ⟨ku % 30, by simp⟩
  have hk9 : kn ≤ 29 := by omega
  have hcF : max 0 (clampI (kn : Int)) = (kn : Int) := by rw [clampI_id (by omega) (by omega)]; omega
  have HCF := Lib.hid hcF
  have HHK := Lib.hid hkn
  obtain ⟨c, hc⟩ : ∃ c, chk t = c := ⟨_, rfl⟩
  obtain ⟨m, hm⟩ : ∃ m, usesN (kn : Int) t = m := ⟨_, rfl⟩
  have hm0 : 0 ≤ m := by
    rw [← hm]
    by_cases h : chk t = 0
    · obtain ⟨_, T, hT, _⟩ := chk_ok h
      rw [usesN_fv _ h hT]
      unfold cntV
      omega
    · rw [usesN_bad _ h]; omega
  have HC := Lib.hid hc
  have HM := Lib.hid hm
  clear hcF hkn hc hm
  go_enter Tryd.func14, Tryd.ntmps14
  go_wp2_with fail
  refine HVT.out.mono ?_
  rintro e w1 ⟨⟨b1, rfl, hn1⟩, rfl⟩
  cases b1
  rotate_left
  · go_wp2_with fail
    refine (HSH.out _ HB0.out).mono ?_
    rintro e w2 ⟨rfl, hb2⟩
    go_wp2_with fail
    go_ret
    exact ⟨rfl, hb2⟩
  have hl_t := hn1 rfl
  clear hn1
  go_wp2_with fail
  refine HVU.out.mono ?_
  rintro e w1 ⟨⟨b1, rfl, hn1⟩, rfl⟩
  cases b1
  rotate_left
  · go_wp2_with fail
    refine (HSH.out _ HB0.out).mono ?_
    rintro e w2 ⟨rfl, hb2⟩
    go_wp2_with fail
    go_ret
    exact ⟨rfl, hb2⟩
  have hl_u := hn1 rfl
  clear hn1
  go_wp2_with fail
  refine HVV.out.mono ?_
  rintro e w1 ⟨⟨b1, rfl, hn1⟩, rfl⟩
  cases b1
  rotate_left
  · go_wp2_with fail
    refine (HSH.out _ HB0.out).mono ?_
    rintro e w2 ⟨rfl, hb2⟩
    go_wp2_with fail
    go_ret
    exact ⟨rfl, hb2⟩
  have hl_v := hn1 rfl
  clear hn1
  go_wp2_with fail
  refine (HSH.out _ HB0.out).mono ?_
  rintro e w1 ⟨rfl, hb⟩
  have HB1 := chain HB0 hb
  clear hb
  go_wp2_with fail
  try rw [HHK.out]
  refine (refuses_any t _ (kn : Int) w1 (HTW.out _ HB1.out) HST.out).mono ?_
  rintro e w2 ⟨rfl, hb⟩
  have HB2 := chain HB1 hb
  clear hb
  rw [HM.out, HC.out]
  go_wp2_with fail
  try rw [HHK.out]
  refine (subst_law t u _ _ (kn : Int) w2 (HSW.out _ HB2.out) (HTW.out _ HB2.out) HST.out (HUW.out _ HB2.out) HSU.out).mono ?_
  rintro e w3 ⟨aA, cA, rfl, hr, hb⟩
  have HB3 := chain HB2 hb
  clear hb
  obtain ⟨EA, hE⟩ : ∃ E, subE (kn : Int) u t = E := ⟨_, rfl⟩
  obtain ⟨XA, hX⟩ : ∃ X, subL (kn : Int) u t = X := ⟨_, rfl⟩
  have hs : SmallN XA := by rw [← hX]; exact subL_small HST.out HSU.out
  rw [hX] at hr
  rw [hE, hX]
  have HEA := Lib.hid hE
  have HXA := Lib.hid hX
  have RA := Lib.hid hr
  have SMA := Lib.hid hs
  clear hE hX hr hs
  go_wp2_with fail
  try rw [HHK.out]
  refine (subst_law t v _ _ (kn : Int) w3 (HSW.out _ HB3.out) (HTW.out _ HB3.out) HST.out (HVW.out _ HB3.out) HSV.out).mono ?_
  rintro e w4 ⟨aB, cB, rfl, hr, hb⟩
  have RA := Lib.hid (RA.out.below hb)
  have HB4 := chain HB3 hb
  clear hb
  obtain ⟨EB, hE⟩ : ∃ E, subE (kn : Int) v t = E := ⟨_, rfl⟩
  obtain ⟨XB, hX⟩ : ∃ X, subL (kn : Int) v t = X := ⟨_, rfl⟩
  have hs : SmallN XB := by rw [← hX]; exact subL_small HST.out HSV.out
  rw [hX] at hr
  rw [hE, hX]
  have HEB := Lib.hid hE
  have HXB := Lib.hid hX
  have RB := Lib.hid hr
  have SMB := Lib.hid hs
  clear hE hX hr hs
  by_cases h0 : c = 0
  rotate_left
  · have hb0 : (c != 0) = true := by simpa using h0
    have hb1 : (c == 0) = false := by simpa using h0
    have e1 : EA = c := by rw [← HEA.out, subE_bad (by rw [HC.out]; exact h0), HC.out]
    have e2 : EB = c := by rw [← HEB.out, subE_bad (by rw [HC.out]; exact h0), HC.out]
    subst e1
    subst e2
    clear h0
    go_wp2_with fail
    all_goals (go_ret; exact ⟨rfl, HB4.out⟩)
  subst h0
  by_cases h0 : m = 0
  rotate_left
  · have hb0 : decide (m > 0) = true := by simp; omega
    clear h0
    go_wp2_with fail
    all_goals (go_ret; exact ⟨rfl, HB4.out⟩)
  subst h0
  by_cases h0 : EA = 0
  rotate_left
  · have hb0 : (EA != 0) = true := by simpa using h0
    clear h0
    go_wp2_with fail
    all_goals (go_ret; exact ⟨rfl, HB4.out⟩)
  subst h0
  by_cases h0 : EB = 0
  rotate_left
  · have hb0 : (EB != 0) = true := by simpa using h0
    clear h0
    go_wp2_with fail
    all_goals (go_ret; exact ⟨rfl, HB4.out⟩)
  subst h0
  go_wp2_with fail
  try rw [HHK.out]
  refine (rshift_law t _ (-1) _ w4 (HTW.out _ HB4.out) HST.out (-1) (kn : Int) (by decide) HCF.out).mono ?_
  rintro e w5 ⟨aS, cS, rfl, hr, hb⟩
  have RA := Lib.hid (RA.out.below hb)
  have RB := Lib.hid (RB.out.below hb)
  have HB5 := chain HB4 hb
  clear hb
  obtain ⟨ES, hE⟩ : ∃ E, shiftE (-1) (kn : Int) t = E := ⟨_, rfl⟩
  obtain ⟨XS, hX⟩ : ∃ X, shiftL (-1) (kn : Int) t = X := ⟨_, rfl⟩
  have hs : SmallN XS := by rw [← hX]; exact shiftL_small HST.out
  rw [hX] at hr
  rw [hE, hX]
  have HES := Lib.hid hE
  have HXS := Lib.hid hX
  have RS := Lib.hid hr
  have SMS := Lib.hid hs
  clear hE hX hr hs
  have l1 := law_unused HC.out HM.out HEA.out
  have l2 := law_unused HC.out HM.out HEB.out
  have e0 : ES = 0 := by rw [← HES.out]; exact l1.1
  have e1 : XA = XS := by rw [← HXA.out, ← HXS.out]; exact l1.2
  have e2 : XB = XS := by rw [← HXB.out, ← HXS.out]; exact l2.2
  clear l1 l2 HXA HXB HEA HEB
  subst e0
  subst e1
  subst e2
  go_wp2_with fail
  refine (same_law XB _ _ _ RA.out RB.out).mono ?_
  rintro e w6 ⟨rfl, hb⟩
  have RA := Lib.hid (RA.out.below hb)
  have RB := Lib.hid (RB.out.below hb)
  have RS := Lib.hid (RS.out.below hb)
  have HB6 := chain HB5 hb
  clear hb
  go_wp2_with fail
  refine (same_law XB _ _ _ RA.out RS.out).mono ?_
  rintro e w7 ⟨rfl, hb⟩
  have RA := Lib.hid (RA.out.below hb)
  have RB := Lib.hid (RB.out.below hb)
  have RS := Lib.hid (RS.out.below hb)
  have HB7 := chain HB6 hb
  clear hb
  go_wp2_with fail
  all_goals (go_ret; exact ⟨rfl, HB7.out⟩)

end Go.Proofs.YtjhgpifccleknaaDoor
