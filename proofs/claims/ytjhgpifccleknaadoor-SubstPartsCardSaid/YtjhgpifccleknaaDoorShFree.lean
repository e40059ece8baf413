/- The walk of ShiftFree: it comes to true for every input. -/
import Derived.Test.YtjhgpifccleknaaDoorShTells
namespace Go.Proofs.YtjhgpifccleknaaDoor
set_option linter.unusedSimpArgs false
set_option linter.unusedVariables false
open Go.RowKit Go.BigFrame

set_option maxRecDepth 20000 in
set_option maxHeartbeats 4000000 in
theorem free_walk (W : World) (t : List Nd) (vt : Value) (ht : ReadN W vt t) (hst : SmallN t) (b0 : Int) (hb0 : (Lit.int .u8 b0).wf = true) (k0 : Int) (hk0 : (Lit.int .u8 k0).wf = true) (hS : ShapesAt W) :
    Calls Tryd.prog 13 #[vt, .int .u8 b0, .int .u8 k0] W fun e W' => e = .returned (.bool true) ∧ Below W.heap.size W W' := by
  obtain ⟨bu, rfl, hbu⟩ := u8_nat hb0
  obtain ⟨ku, rfl, hku⟩ := u8_nat hk0
  obtain ⟨at_, ct, rfl⟩ := ReadN.len_slice ht
  have HSW : Hid (∀ x, Below W.heap.size W x → ShapesAt x) := fun x hb => hS.below hb
  have HTW : Hid (∀ x, Below W.heap.size W x → ReadN x (.slice at_ t.length ct) t) := fun x hb => ht.below hb
  have HST := Lib.hid hst
  have HSH : Hid (∀ w', Below W.heap.size W w' → Calls Tryd.prog 39 #[] w' fun e w9 => e = .returned (.bool true) ∧ Below w'.heap.size w' w9) := fun w' hb => shown3_any w' (HSW.out _ hb)
  have HB0 : Hid (Below W.heap.size W W) := Below.refl _ _
  have HVT := Lib.hid (heavy3_any t _ W ht hst)
  clear ht hS hst hb0 hk0
  go_enter Tryd.func13, Tryd.ntmps13
  go_wp2_with fail
  refine HVT.out.mono ?_
  rintro e w1 ⟨⟨b1, rfl, hn1⟩, rfl⟩
  cases b1
  rotate_left
  · go_wp2_with fail
    refine (HSH.out _ HB0.out).mono ?_
    rintro e w2 ⟨rfl, hb2⟩
    go_wp2_with fail
    go_ret
    exact ⟨rfl, hb2⟩
  clear hn1
  go_wp2_with fail
  refine (HSH.out _ HB0.out).mono ?_
  rintro e w2 ⟨rfl, hb2⟩
  have HB2 := chain HB0 hb2
  clear hb2
  have hcB : clampI ((bu : Int) % 30) = (bu : Int) % 30 := clampI_id (by omega) (by omega)
  have hcF : max 0 (clampI 0) = 0 := by rw [clampI_id (by omega) (by omega)]; omega
  have hB0 : 0 ≤ (bu : Int) % 30 := by omega
  have hB9 : (bu : Int) % 30 ≤ 29 := by omega
  have hK0 : 0 ≤ (ku : Int) % 40 := by omega
  have hK9 : (ku : Int) % 40 ≤ 39 := by omega
  have HCB := Lib.hid hcB
  have HCF := Lib.hid hcF
  obtain ⟨c, hc⟩ : ∃ c, chk t = c := ⟨_, rfl⟩
  obtain ⟨n, hn⟩ : ∃ n, freeN t = n := ⟨_, rfl⟩
  have HC := Lib.hid hc
  have HN := Lib.hid hn
  clear hcB hcF hc hn
  go_wp2_with fail
  refine (free_any t _ w2 (HSW.out _ HB2.out) (HTW.out _ HB2.out) HST.out).mono ?_
  rintro e w3 ⟨rfl, hb3⟩
  rw [HC.out, HN.out]
  have HB3 := chain HB2 hb3
  clear hb3
  go_wp2_with fail
  refine (shift_law t _ _ _ w3 (HSW.out _ HB3.out) (HTW.out _ HB3.out) HST.out ((bu : Int) % 30) 0 HCB.out HCF.out).mono ?_
  rintro e w4 ⟨a4, c4, rfl, hr4, hb4⟩
  have HB4 := chain HB3 hb4
  clear hb4
  obtain ⟨E, hE⟩ : ∃ E, shiftE ((bu : Int) % 30) 0 t = E := ⟨_, rfl⟩
  obtain ⟨L, hL⟩ : ∃ L, shiftL ((bu : Int) % 30) 0 t = L := ⟨_, rfl⟩
  rw [hL] at hr4
  rw [hE, hL]
  have HE := Lib.hid hE
  have HL := Lib.hid hL
  have HR4 := Lib.hid hr4
  clear hE hL hr4
  go_wp2_with fail
  refine (refcheck2_any t _ w4 (HTW.out _ HB4.out) HST.out).mono ?_
  rintro e w5 ⟨rfl, hb5⟩
  rw [HC.out]
  have HR5 := Lib.hid (HR4.out.below hb5)
  have HB5 := chain HB4 hb5
  clear hb5 HR4
  by_cases h0 : E = 0
  rotate_left
  · have hEb : (E != 0) = true := by simpa using h0
    have hL0 : L = [] := by rw [← HL.out]; exact shiftL_bad (by rw [HE.out]; exact h0)
    subst hL0
    by_cases hc0 : c = 0
    · subst hc0
      go_wp2_with fail
      go_ret
      exact ⟨rfl, HB5.out⟩
    · have hcb : (c != 0) = true := by simpa using hc0
      go_wp2_with fail
      go_ret
      exact ⟨rfl, HB5.out⟩
  subst h0
  have hc0 : c = 0 := by rw [← HC.out]; exact (shiftE_fine HE.out).1
  subst hc0
  have hnb := freeN_bound HC.out
  rw [HN.out] at hnb
  have hfs := free_shift hB0 HE.out
  have hus := uses_shift (k := (ku : Int) % 40) hB0 HE.out
  have hub := uses_below hB0 HE.out
  obtain ⟨_, _, _, _, hcL, _⟩ := shiftL_fine (Int.le_refl 0) HE.out
  rw [HL.out] at hfs hus hub hcL
  rw [HN.out] at hfs
  have HSL : Hid (SmallN L) := by
    show SmallN L
    rw [← HL.out]
    exact shiftL_small HST.out
  obtain ⟨u, hu⟩ : ∃ u, usesN ((ku : Int) % 40) t = u := ⟨_, rfl⟩
  rw [hu] at hus
  have HFS := Lib.hid hfs
  have HUS := Lib.hid hus
  have HUB := Lib.hid hub
  have HCL := Lib.hid hcL
  have HU := Lib.hid hu
  have HNL : Hid (n = 0 → L = t) := by
    show n = 0 → L = t
    intro h
    rw [← HL.out]
    exact free_closed HE.out (by rw [HN.out]; exact h)
  obtain ⟨hn0, hn9⟩ := hnb
  clear hfs hus hub hcL hu
  by_cases hz : n = 0
  · subst hz
    have hLt := HNL.out rfl
    subst hLt
    go_wp2_with fail
    refine (free_any L _ w5 (HSW.out _ HB5.out) HR5.out HSL.out).mono ?_
    rintro e w6 ⟨rfl, hb6⟩
    rw [HCL.out, HN.out]
    have HR6 := Lib.hid (HR5.out.below hb6)
    have HB6 := chain HB5 hb6
    clear hb6
    go_wp2_with fail
    refine (same_law L _ _ _ HR6.out (HTW.out _ HB6.out)).mono ?_
    rintro e w7 ⟨rfl, hb7⟩
    have HR7 := Lib.hid (HR6.out.below hb7)
    have HB7 := chain HB6 hb7
    clear hb7
    go_wp2_with fail
    refine (uses_any L _ _ w7 (HSW.out _ HB7.out) (HTW.out _ HB7.out) HST.out).mono ?_
    rintro e w8 ⟨rfl, hb8⟩
    rw [HCL.out, HU.out]
    have HR8 := Lib.hid (HR7.out.below hb8)
    have HB8 := chain HB7 hb8
    clear hb8
    go_wp2_with fail
    refine (uses_any L _ _ w8 (HSW.out _ HB8.out) HR8.out HSL.out).mono ?_
    rintro e w9 ⟨rfl, hb9⟩
    rw [HCL.out, HUS.out]
    have HR9 := Lib.hid (HR8.out.below hb9)
    have HB9 := chain HB8 hb9
    clear hb9
    go_wp2_with fail
    refine (has_any L _ _ w9 (HSW.out _ HB9.out) HR9.out HSL.out).mono ?_
    rintro e w10 ⟨rfl, hb10⟩
    rw [HCL.out, HUB.out]
    have HB10 := chain HB9 hb10
    clear hb10
    go_wp2_with fail
    go_ret
    exact ⟨rfl, HB10.out⟩
  · have hzb : (n == 0) = false := by simpa using hz
    have hgt : decide (n > 0) = true := by simp; omega
    have hm : freeN L = n + (bu : Int) % 30 := by rw [HFS.out, if_neg hz]
    have HM := Lib.hid hm
    clear hm
    go_wp2_with fail
    refine (free_any L _ w5 (HSW.out _ HB5.out) HR5.out HSL.out).mono ?_
    rintro e w6 ⟨rfl, hb6⟩
    rw [HCL.out, HM.out]
    have HR6 := Lib.hid (HR5.out.below hb6)
    have HB6 := chain HB5 hb6
    clear hb6
    go_wp2_with fail
    refine (uses_any t _ _ w6 (HSW.out _ HB6.out) (HTW.out _ HB6.out) HST.out).mono ?_
    rintro e w8 ⟨rfl, hb8⟩
    rw [HC.out, HU.out]
    have HR8 := Lib.hid (HR6.out.below hb8)
    have HB8 := chain HB6 hb8
    clear hb8
    go_wp2_with fail
    refine (uses_any L _ _ w8 (HSW.out _ HB8.out) HR8.out HSL.out).mono ?_
    rintro e w9 ⟨rfl, hb9⟩
    rw [HCL.out, HUS.out]
    have HR9 := Lib.hid (HR8.out.below hb9)
    have HB9 := chain HB8 hb9
    clear hb9
    go_wp2_with fail
    refine (has_any L _ _ w9 (HSW.out _ HB9.out) HR9.out HSL.out).mono ?_
    rintro e w10 ⟨rfl, hb10⟩
    rw [HCL.out, HUB.out]
    have HB10 := chain HB9 hb10
    clear hb10
    go_wp2_with fail
    go_ret
    exact ⟨rfl, HB10.out⟩

end Go.Proofs.YtjhgpifccleknaaDoor
