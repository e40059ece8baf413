/- The walks of ShiftTells, ShiftBack and ShiftFree: each comes to true for every input. -/
import Derived.Test.YtjhgpifccleknaaDoorShift
import Derived.Test.YtjhgpifccleknaaDoorRefSf
namespace Go.Proofs.YtjhgpifccleknaaDoor
set_option linter.unusedSimpArgs false
set_option linter.unusedVariables false
open Go.RowKit Go.BigFrame

/-- what a shift comes to, of either side, below a world -/
def SftPost (b k : Int) (l : List Nd) (w : World) (e : Ending) (w' : World) : Prop :=
  ∃ a c, e = .returned (.tuple #[.slice a (shiftL b k l).length c, .int .i64 (shiftE b k l)]) ∧ ReadN w' (.slice a (shiftL b k l).length c) (shiftL b k l) ∧ Below w.heap.size w w'
theorem shift_law (l : List Nd) (v : Value) (by_ from_ : Int) (w : World) (hS : ShapesAt w) (hv : ReadN w v l) (hs : SmallN l) (b k : Int) (hb : clampI by_ = b) (hk : max 0 (clampI from_) = k) :
    Calls Tryd.prog 44 #[v, .int .i64 by_, .int .i64 from_] w (SftPost b k l w) := by
  refine (shift_any l v by_ from_ w hS hv hs).mono fun e w' ⟨v, h1, h2, h3⟩ => ?_
  rw [hb, hk] at h1 h2
  obtain ⟨a, c, rfl, _⟩ := (RowAt.of_own h2).form
  exact ⟨a, c, h1, h2.read, h3⟩
theorem rshift_law (l : List Nd) (v : Value) (by_ from_ : Int) (w : World) (hv : ReadN w v l) (hs : SmallN l) (b k : Int) (hb : clampI by_ = b) (hk : max 0 (clampI from_) = k) :
    Calls Tryd.prog 45 #[v, .int .i64 by_, .int .i64 from_] w (SftPost b k l w) := by
  refine (refshift_any l v by_ from_ w hv hs).mono fun e w' ⟨v, h1, h2, h3⟩ => ?_
  rw [hb, hk] at h1 h2
  obtain ⟨a, c, rfl, _⟩ := (RowAt.of_own h2).form
  exact ⟨a, c, h1, h2.read, h3⟩
theorem same_law (l : List Nd) (va vb : Value) (w : World) (ha : ReadN w va l) (hb : ReadN w vb l) :
    Calls Tryd.prog 30 #[va, vb] w fun e w' => e = .returned (.bool true) ∧ Below w.heap.size w w' :=
  (same_yes l va vb w ha hb).mono fun e w' ⟨h1, n, h2⟩ => ⟨h1, by rw [h2]; exact below_drewN (Below.refl _ _) n⟩

set_option maxRecDepth 20000 in
set_option maxHeartbeats 4000000 in
theorem tells_walk (W : World) (t : List Nd) (vt : Value) (ht : ReadN W vt t) (hst : SmallN t) (by_ : Int) (_ : (Lit.int .i64 by_).wf = true) (from_ : Int) (_ : (Lit.int .i64 from_).wf = true) (kk : Int) (_ : (Lit.int .i64 kk).wf = true) (hS : ShapesAt W) :
    Calls Tryd.prog 12 #[vt, .int .i64 by_, .int .i64 from_, .int .i64 kk] W fun e W' => e = .returned (.bool true) ∧ Below W.heap.size W W' := by
  obtain ⟨at_, ct, rfl⟩ := ReadN.len_slice ht
  have HSW : Hid (∀ x, Below W.heap.size W x → ShapesAt x) := fun x hb => hS.below hb
  have HTW : Hid (∀ x, Below W.heap.size W x → ReadN x (.slice at_ t.length ct) t) := fun x hb => ht.below hb
  have HST := Lib.hid hst
  have HSH : Hid (∀ w', Below W.heap.size W w' → Calls Tryd.prog 39 #[] w' fun e w9 => e = .returned (.bool true) ∧ Below w'.heap.size w' w9) := fun w' hb => shown3_any w' (HSW.out _ hb)
  have HB0 : Hid (Below W.heap.size W W) := Below.refl _ _
  have HVT := Lib.hid (heavy3_any t _ W ht hst)
  obtain ⟨b, hb⟩ : ∃ b, clampI by_ = b := ⟨_, rfl⟩
  obtain ⟨k, hk⟩ : ∃ k, max 0 (clampI from_) = k := ⟨_, rfl⟩
  have HBB := Lib.hid hb
  have HKK := Lib.hid hk
  clear ht hS hst hb hk
  go_enter Tryd.func12, Tryd.ntmps12
  go_wp2_with fail
  refine HVT.out.mono ?_
  rintro e w1 ⟨⟨b1, rfl, hn1⟩, rfl⟩
  cases b1
  rotate_left
  · go_wp2_with fail
    refine (HSH.out _ HB0.out).mono ?_
    rintro e w2 ⟨rfl, hb2⟩
    go_wp2_with fail
    go_ret
    exact ⟨rfl, hb2⟩
  clear hn1
  go_wp2_with fail
  refine (HSH.out _ HB0.out).mono ?_
  rintro e w2 ⟨rfl, hb2⟩
  have HB2 := chain HB0 hb2
  clear hb2
  go_wp2_with fail
  refine (shift_law t _ by_ from_ w2 (HSW.out _ HB2.out) (HTW.out _ HB2.out) HST.out b k HBB.out HKK.out).mono ?_
  rintro e w3 ⟨a3, c3, rfl, hr3, hb3⟩
  have HB3 := chain HB2 hb3
  clear hb3
  obtain ⟨E, hE⟩ : ∃ E, shiftE b k t = E := ⟨_, rfl⟩
  obtain ⟨L, hL⟩ : ∃ L, shiftL b k t = L := ⟨_, rfl⟩
  rw [hL] at hr3
  rw [hE, hL]
  have HE := Lib.hid hE
  have HL := Lib.hid hL
  have HR3 := Lib.hid hr3
  clear hE hL hr3
  go_wp2_with fail
  refine (rshift_law t _ by_ from_ w3 (HTW.out _ HB3.out) HST.out b k HBB.out HKK.out).mono ?_
  rintro e w4 ⟨a4, c4, rfl, hr4, hb4⟩
  have HR3 := Lib.hid (HR3.out.below hb4)
  have HB4 := chain HB3 hb4
  rw [HL.out] at hr4
  rw [HE.out, HL.out]
  have HR4 := Lib.hid hr4
  clear hb4 hr4
  go_wp2_with fail
  refine (same_law L _ _ _ HR3.out HR4.out).mono ?_
  rintro e w5 ⟨rfl, hb5⟩
  have HB5 := chain HB4 hb5
  clear hb5
  obtain ⟨c, hc⟩ : ∃ c, chk t = c := ⟨_, rfl⟩
  obtain ⟨fr, hfr⟩ : ∃ f, freeN t = f := ⟨_, rfl⟩
  obtain ⟨us, hus⟩ : ∃ f, usesN kk t = f := ⟨_, rfl⟩
  have HC := Lib.hid hc
  have HFR := Lib.hid hfr
  have HUS := Lib.hid hus
  clear hc hfr hus
  go_wp2_with fail
  refine (free_any t _ w5 (HSW.out _ HB5.out) (HTW.out _ HB5.out) HST.out).mono ?_
  rintro e w6 ⟨rfl, hb6⟩
  rw [HC.out, HFR.out]
  have HB6 := chain HB5 hb6
  clear hb6
  go_wp2_with fail
  refine (reffree_any t _ w6 (HTW.out _ HB6.out) HST.out).mono ?_
  rintro e w7 ⟨rfl, hb7⟩
  rw [HC.out, HFR.out]
  have HB7 := chain HB6 hb7
  clear hb7
  go_wp2_with fail
  refine (uses_any t _ kk w7 (HSW.out _ HB7.out) (HTW.out _ HB7.out) HST.out).mono ?_
  rintro e w8 ⟨rfl, hb8⟩
  rw [HC.out, HUS.out]
  have HB8 := chain HB7 hb8
  clear hb8
  go_wp2_with fail
  refine (refuses_any t _ kk w8 (HTW.out _ HB8.out) HST.out).mono ?_
  rintro e w9 ⟨rfl, hb9⟩
  rw [HC.out, HUS.out]
  have HB9 := chain HB8 hb9
  clear hb9
  go_wp2_with fail
  refine (has_any t _ kk w9 (HSW.out _ HB9.out) (HTW.out _ HB9.out) HST.out).mono ?_
  rintro e w10 ⟨rfl, hb10⟩
  rw [HC.out, HUS.out]
  have HB10 := chain HB9 hb10
  clear hb10
  go_wp2_with fail
  go_ret
  exact ⟨rfl, HB10.out⟩

theorem u8_nat {kk : Int} (hkk : (Lit.int .u8 kk).wf = true) : ∃ cu : Nat, kk = cu ∧ cu < 256 := by
  have h0 : IntKind.u8.min ≤ kk ∧ kk ≤ IntKind.u8.max := by simpa [Lit.wf] using hkk
  have h : 0 ≤ kk ∧ kk ≤ 255 := h0
  obtain ⟨n, hn⟩ := Int.eq_ofNat_of_zero_le h.1
  exact ⟨n, hn, by omega⟩

set_option maxRecDepth 20000 in
set_option maxHeartbeats 4000000 in
theorem back_walk (W : World) (t : List Nd) (vt : Value) (ht : ReadN W vt t) (hst : SmallN t) (a0 : Int) (ha0 : (Lit.int .u8 a0).wf = true) (b0 : Int) (hb0 : (Lit.int .u8 b0).wf = true) (f0 : Int) (hf0 : (Lit.int .u8 f0).wf = true) (hS : ShapesAt W) :
    Calls Tryd.prog 8 #[vt, .int .u8 a0, .int .u8 b0, .int .u8 f0] W fun e W' => e = .returned (.bool true) ∧ Below W.heap.size W W' := by
  obtain ⟨au, rfl, hau⟩ := u8_nat ha0
  obtain ⟨bu, rfl, hbu⟩ := u8_nat hb0
  obtain ⟨fu, rfl, hfu⟩ := u8_nat hf0
  obtain ⟨at_, ct, rfl⟩ := ReadN.len_slice ht
  have HSW : Hid (∀ x, Below W.heap.size W x → ShapesAt x) := fun x hb => hS.below hb
  have HTW : Hid (∀ x, Below W.heap.size W x → ReadN x (.slice at_ t.length ct) t) := fun x hb => ht.below hb
  have HST := Lib.hid hst
  have HSH : Hid (∀ w', Below W.heap.size W w' → Calls Tryd.prog 39 #[] w' fun e w9 => e = .returned (.bool true) ∧ Below w'.heap.size w' w9) := fun w' hb => shown3_any w' (HSW.out _ hb)
  have HB0 : Hid (Below W.heap.size W W) := Below.refl _ _
  have HVT := Lib.hid (heavy3_any t _ W ht hst)
  clear ht hS hst ha0 hb0 hf0
  go_enter Tryd.func8, Tryd.ntmps8
  go_wp2_with fail
  refine HVT.out.mono ?_
  rintro e w1 ⟨⟨b1, rfl, hn1⟩, rfl⟩
  cases b1
  rotate_left
  · go_wp2_with fail
    refine (HSH.out _ HB0.out).mono ?_
    rintro e w2 ⟨rfl, hb2⟩
    go_wp2_with fail
    go_ret
    exact ⟨rfl, hb2⟩
  clear hn1
  go_wp2_with fail
  refine (HSH.out _ HB0.out).mono ?_
  rintro e w2 ⟨rfl, hb2⟩
  have HB2 := chain HB0 hb2
  clear hb2
  have hcA : clampI ((au : Int) % 20) = (au : Int) % 20 := clampI_id (by omega) (by omega)
  have hcN : clampI (-((au : Int) % 20)) = -((au : Int) % 20) := clampI_id (by omega) (by omega)
  have hcB : clampI ((bu : Int) % 20) = (bu : Int) % 20 := clampI_id (by omega) (by omega)
  have hcS : clampI ((au : Int) % 20 + (bu : Int) % 20) = (au : Int) % 20 + (bu : Int) % 20 := clampI_id (by omega) (by omega)
  have hcZ : clampI 0 = 0 := clampI_id (by omega) (by omega)
  have hcF : max 0 (clampI ((fu : Int) % 20)) = (fu : Int) % 20 := by rw [clampI_id (by omega) (by omega)]; omega
  have hA0 : 0 ≤ (au : Int) % 20 := by omega
  have hB0 : 0 ≤ (bu : Int) % 20 := by omega
  have hF0 : 0 ≤ (fu : Int) % 20 := by omega
  have hA9 : (au : Int) % 20 ≤ 19 := by omega
  have hB9 : (bu : Int) % 20 ≤ 19 := by omega
  have hF9 : (fu : Int) % 20 ≤ 19 := by omega
  have HCA := Lib.hid hcA
  have HCN := Lib.hid hcN
  have HCB := Lib.hid hcB
  have HCS := Lib.hid hcS
  have HCZ := Lib.hid hcZ
  have HCF := Lib.hid hcF
  clear hcA hcN hcB hcS hcZ hcF
  go_wp2_with fail
  refine (shift_law t _ _ _ w2 (HSW.out _ HB2.out) (HTW.out _ HB2.out) HST.out ((au : Int) % 20) ((fu : Int) % 20) HCA.out HCF.out).mono ?_
  rintro e w3 ⟨a3, c3, rfl, hr3, hb3⟩
  have HB3 := chain HB2 hb3
  clear hb3
  obtain ⟨E, hE⟩ : ∃ E, shiftE ((au : Int) % 20) ((fu : Int) % 20) t = E := ⟨_, rfl⟩
  obtain ⟨L, hL⟩ : ∃ L, shiftL ((au : Int) % 20) ((fu : Int) % 20) t = L := ⟨_, rfl⟩
  rw [hL] at hr3
  rw [hE, hL]
  have HE := Lib.hid hE
  have HL := Lib.hid hL
  have HR3 := Lib.hid hr3
  clear hE hL hr3
  go_wp2_with fail
  refine (rshift_law t _ _ _ w3 (HTW.out _ HB3.out) HST.out ((au : Int) % 20) ((fu : Int) % 20) HCA.out HCF.out).mono ?_
  rintro e w4 ⟨a4, c4, rfl, hr4, hb4⟩
  have HR3 := Lib.hid (HR3.out.below hb4)
  have HB4 := chain HB3 hb4
  rw [HE.out, HL.out]
  clear hb4 hr4
  by_cases h0 : E = 0
  rotate_left
  · have hEb : (E != 0) = true := by simpa using h0
    have hL0 : L = [] := by rw [← HL.out]; exact shiftL_bad (by rw [HE.out]; exact h0)
    subst hL0
    go_wp2_with fail
    go_ret
    exact ⟨rfl, HB4.out⟩
  subst h0
  obtain ⟨hy1, hy2⟩ := shift_back (a := (au : Int) % 20) (k := (fu : Int) % 20) (l := t) hA0 hF0 HE.out
  obtain ⟨hz1, hz2⟩ := shift_zero (k := (fu : Int) % 20) (shiftE_fine HE.out).1
  obtain ⟨hu1, hu2⟩ := shift_add (a := (au : Int) % 20) (b := (bu : Int) % 20) (k := (fu : Int) % 20) (l := t) hA0 hB0 hF0 HE.out
  rw [HL.out] at hy1 hy2 hu1 hu2
  have HSL : Hid (SmallN L) := by
    show SmallN L
    rw [← HL.out]
    exact shiftL_small HST.out
  have HY1 := Lib.hid hy1
  have HY2 := Lib.hid hy2
  have HZ1 := Lib.hid hz1
  have HZ2 := Lib.hid hz2
  have HU1 := Lib.hid hu1
  have HU2 := Lib.hid hu2
  clear hy1 hy2 hz1 hz2 hu1 hu2
  go_wp2_with fail
  refine (shift_law L _ _ _ w4 (HSW.out _ HB4.out) HR3.out HSL.out (-((au : Int) % 20)) ((fu : Int) % 20) HCN.out HCF.out).mono ?_
  rintro e w5 ⟨a5, c5, rfl, hr5, hb5⟩
  rw [HY2.out] at hr5
  rw [HY1.out, HY2.out]
  have HR3 := Lib.hid (HR3.out.below hb5)
  have HB5 := chain HB4 hb5
  have HR5 := Lib.hid hr5
  clear hb5 hr5
  go_wp2_with fail
  refine (shift_law t _ _ _ w5 (HSW.out _ HB5.out) (HTW.out _ HB5.out) HST.out 0 ((fu : Int) % 20) HCZ.out HCF.out).mono ?_
  rintro e w6 ⟨a6, c6, rfl, hr6, hb6⟩
  rw [HZ2.out] at hr6
  rw [HZ1.out, HZ2.out]
  have HR3 := Lib.hid (HR3.out.below hb6)
  have HR5 := Lib.hid (HR5.out.below hb6)
  have HB6 := chain HB5 hb6
  have HR6 := Lib.hid hr6
  clear hb6 hr6
  go_wp2_with fail
  refine (same_law t _ _ _ HR5.out (HTW.out _ HB6.out)).mono ?_
  rintro e w7 ⟨rfl, hb7⟩
  have HR3 := Lib.hid (HR3.out.below hb7)
  have HR6 := Lib.hid (HR6.out.below hb7)
  have HB7 := chain HB6 hb7
  clear hb7
  go_wp2_with fail
  refine (same_law t _ _ _ HR6.out (HTW.out _ HB7.out)).mono ?_
  rintro e w8 ⟨rfl, hb8⟩
  have HR3 := Lib.hid (HR3.out.below hb8)
  have HB8 := chain HB7 hb8
  clear hb8
  go_wp2_with fail
  refine (shift_law L _ _ _ w8 (HSW.out _ HB8.out) HR3.out HSL.out ((bu : Int) % 20) ((fu : Int) % 20) HCB.out HCF.out).mono ?_
  rintro e w9 ⟨a9, c9, rfl, hr9, hb9⟩
  rw [HU2.out] at hr9
  rw [HU1.out, HU2.out]
  have HB9 := chain HB8 hb9
  obtain ⟨E2, hE2⟩ : ∃ E, shiftE ((au : Int) % 20 + (bu : Int) % 20) ((fu : Int) % 20) t = E := ⟨_, rfl⟩
  obtain ⟨L2, hL2⟩ : ∃ L, shiftL ((au : Int) % 20 + (bu : Int) % 20) ((fu : Int) % 20) t = L := ⟨_, rfl⟩
  rw [hL2] at hr9
  rw [hE2, hL2]
  have HE2 := Lib.hid hE2
  have HL2 := Lib.hid hL2
  have HR9 := Lib.hid hr9
  clear hb9 hr9 hE2 hL2
  go_wp2_with fail
  refine (shift_law t _ _ _ w9 (HSW.out _ HB9.out) (HTW.out _ HB9.out) HST.out ((au : Int) % 20 + (bu : Int) % 20) ((fu : Int) % 20) HCS.out HCF.out).mono ?_
  rintro e w10 ⟨a10, c10, rfl, hr10, hb10⟩
  have HR9 := Lib.hid (HR9.out.below hb10)
  have HB10 := chain HB9 hb10
  rw [HL2.out] at hr10
  rw [HE2.out, HL2.out]
  have HR10 := Lib.hid hr10
  clear hb10 hr10
  go_wp2_with fail
  refine (same_law L2 _ _ _ HR9.out HR10.out).mono ?_
  rintro e w11 ⟨rfl, hb11⟩
  have HB11 := chain HB10 hb11
  clear hb11
  go_wp2_with fail
  go_ret
  exact ⟨rfl, HB11.out⟩

end Go.Proofs.YtjhgpifccleknaaDoor
