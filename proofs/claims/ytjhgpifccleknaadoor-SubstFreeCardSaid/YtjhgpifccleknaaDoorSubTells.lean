/- The walk of SubstTells (and shown, heavy of cornicelaw04): it comes to true for every input. -/
import Derived.Test.YtjhgpifccleknaaDoorRefSub
import Derived.Test.YtjhgpifccleknaaDoorShTells
namespace Go.Proofs.YtjhgpifccleknaaDoor
set_option linter.unusedSimpArgs false
set_option linter.unusedVariables false
open Go.RowKit Go.BigFrame

set_option maxRecDepth 20000 in
set_option maxHeartbeats 1000000 in
theorem heavy4_any (l : List Nd) (v : Value) (w : World) (hv : ReadN w v l) (hs : SmallN l) :
    Calls Tryd.prog 50 #[v] w (HeavyPost l.length 200 w) := by
  obtain ⟨hm, ⟨h0, a, cap, rfl⟩ | ⟨b, off, cap, rfl, _, _, _, hc⟩⟩ := hv.cases
  · subst h0
    go_enter Tryd.func50, Tryd.ntmps50
    go_wp2_with fail
    go_loopw [3] (fun i wr => i = .int .i64 0 ∧ wr = w) (fun _ _ => 0)
    case atStart => exact ⟨rfl, rfl⟩
    case round =>
      obtain ⟨rfl, rfl⟩ := hrel
      go_wp2_with fail
      go_ret
      exact ⟨⟨_, rfl, fun _ => by simp⟩, rfl⟩
  have HC := Lib.hid hc; clear hc
  have HSM := Lib.hid hs; clear hs
  have hm9 : l.length ≤ 9223372036854775807 := by unfold maxLen at hm; omega
  clear hm hv
  by_cases h3 : l.length > 200
  · have d : decide ((l.length : Int) > 200) = true := by simp; omega
    go_enter Tryd.func50, Tryd.ntmps50
    go_wp2_with fail
    go_ret
    exact ⟨⟨true, rfl, fun h => by cases h⟩, rfl⟩
  have d : decide ((l.length : Int) > 200) = false := by simp; omega
  have hfin : Hid (l.length ≤ 200) := by show _ ≤ _; omega
  go_enter Tryd.func50, Tryd.ntmps50
  go_wp2_with fail
  go_loopw [3] (fun i wr => (∃ k : Nat, k ≤ l.length ∧ i = .int .i64 (k : Int)) ∧ wr = w) (fun i _ => l.length - (intOf i).toNat)
  case atStart => exact ⟨⟨0, Nat.zero_le _, rfl⟩, rfl⟩
  case round =>
    obtain ⟨⟨k, hk, rfl⟩, rfl⟩ := hrel
    by_cases hlt : k < l.length
    · obtain ⟨g0, g1, g2, g3⟩ := HC.out k hlt
      have hz := HSM.out l[k] (List.getElem_mem hlt)
      obtain ⟨nd, hnd⟩ : ∃ nd, l[k] = nd := ⟨_, rfl⟩
      rw [hnd] at g0 g1 g2 g3 hz
      clear hnd
      have hz9 : nd.S.size ≤ 9223372036854775807 := by unfold maxLen at hz; omega
      clear hz
      by_cases hmm : nd.S.size > 100
      · have d2 : decide ((nd.S.size : Int) > 100) = true := by simp; omega
        go_wp2_with fail
        go_ret
        exact ⟨⟨true, rfl, fun h => by cases h⟩, rfl⟩
      · have d2 : decide ((nd.S.size : Int) > 100) = false := by simp; omega
        go_wp2_with fail
        exact ⟨⟨⟨k + 1, by omega, by go_num⟩, trivial⟩, by simp [intOf]; omega⟩
    · obtain rfl : k = l.length := by omega
      go_wp2_with fail
      go_ret
      exact ⟨⟨false, rfl, fun h => hfin.out⟩, rfl⟩


def zVar : List Nd := [⟨0, 0, 0, ByteArray.empty⟩]
def zNum : List Nd := [⟨11, 0, 0, ByteArray.empty⟩]
theorem sz_sub : subE 0 zNum zVar = 0 := by decide +kernel
theorem sz_subL : subL 0 zNum zVar = zNum := by kernel_rfl
theorem zv_small : SmallN zVar := by
  intro n hn
  simp [zVar] at hn
  subst hn
  show (0 : Nat) ≤ maxLen
  omega
theorem zn_small : SmallN zNum := by
  intro n hn
  simp [zNum] at hn
  subst hn
  show (0 : Nat) ≤ maxLen
  omega

set_option maxRecDepth 20000 in
set_option maxHeartbeats 1000000 in
theorem shown4_any (w : World) (hS : ShapesAt w) :
    Calls Tryd.prog 51 #[] w fun e w' => e = .returned (.bool true) ∧ Below w.heap.size w w' := by
  obtain ⟨w1, hw1⟩ : ∃ w1, w.alloc (.cells #[.int .i64 0, .int .i64 0, .int .i64 0, .string ByteArray.empty] 23) = w1 := ⟨_, rfl⟩
  obtain ⟨w2, hw2⟩ : ∃ w2, w1.alloc (.cells #[.int .i64 11, .int .i64 0, .int .i64 0, .string ByteArray.empty] 23) = w2 := ⟨_, rfl⟩
  have hb1 : Below w.heap.size w w1 := by rw [← hw1]; exact (Below.refl _ w).alloc (Nat.le_refl _) _
  have hb2 : Below w1.heap.size w1 w2 := by rw [← hw2]; exact (Below.refl _ w1).alloc (Nat.le_refl _) _
  have r1 : ReadN w1 (.slice (some ⟨w.heap.size, 0, none⟩) 1 1) zVar := by rw [← hw1]; exact RowAt.lit w 23 #[.int .i64 0, .int .i64 0, .int .i64 0, .string ByteArray.empty] 1 rfl (by unfold maxLen; omega)
  have r2 : ReadN w2 (.slice (some ⟨w1.heap.size, 0, none⟩) 1 1) zNum := by rw [← hw2]; exact RowAt.lit w1 23 #[.int .i64 11, .int .i64 0, .int .i64 0, .string ByteArray.empty] 1 rfl (by unfold maxLen; omega)
  have hb : Below w.heap.size w w2 := hb1.trans (hb2.mono hb1.size)
  have HSW : Hid (∀ x, Below w.heap.size w x → ShapesAt x) := fun x hb => hS.below hb
  have R1 := Lib.hid (r1.below hb2)
  have R2 := Lib.hid r2
  have HB2 := Lib.hid hb
  have HS1 : Hid (w1.heap.size = w.heap.size + 1) := by rw [← hw1]; exact World.size_alloc _ _
  have HSL := Lib.hid (subst_law zVar zNum _ _ 0 _ (HSW.out _ HB2.out) R1.out zv_small R2.out zn_small)
  rw [sz_sub, sz_subL] at HSL
  obtain ⟨Z, hZ⟩ : ∃ Z, zNum = Z := ⟨_, rfl⟩
  rw [hZ] at HSL R2
  clear hb1 hb2 r1 r2 hb hS hZ R1
  rw [HS1.out] at HSL R2
  have hwx : (w.alloc (.cells #[.int .i64 0, .int .i64 0, .int .i64 0, .string ByteArray.empty] 23)).alloc (.cells #[.int .i64 11, .int .i64 0, .int .i64 0, .string ByteArray.empty] 23) = w2 := by rw [hw1, hw2]
  have HWX := Lib.hid hwx
  clear hw1 hw2 hwx
  go_enter Tryd.func51, Tryd.ntmps51
  go_wp2_with fail
  refine Calls.mono (show Calls _ _ _ ((w.alloc (.cells #[.int .i64 0, .int .i64 0, .int .i64 0, .string ByteArray.empty] 23)).alloc (.cells #[.int .i64 11, .int .i64 0, .int .i64 0, .string ByteArray.empty] 23)) _ from HWX.out ▸ HSL.out) ?_
  rintro e w3 ⟨a3, c3, rfl, hr3, hb3⟩
  rw [HWX.out] at hb3
  have HR3 := Lib.hid hr3
  have R3 := Lib.hid (R2.out.below hb3)
  have HB3 := chain HB2 hb3
  clear hr3 hb3
  go_wp2_with fail
  refine (same_law Z _ _ _ HR3.out R3.out).mono ?_
  rintro e w5 ⟨rfl, hb5⟩
  have HB5 := chain HB3 hb5
  clear hb5
  go_wp2_with fail
  go_ret
  exact ⟨rfl, HB5.out⟩


def T4Rel (n : Nat) (w : World) (i : Value) (wr : World) : Prop := ∃ j : Nat, j ≤ n ∧ i = .int .i64 (j : Int) ∧ wr = w

set_option maxRecDepth 20000 in
set_option maxHeartbeats 4000000 in
theorem tells4_walk (W : World) (t : List Nd) (vt : Value) (ht : ReadN W vt t) (hst : SmallN t) (k : Int) (_ : (Lit.int .i64 k).wf = true) (u : List Nd) (vu : Value) (hu : ReadN W vu u) (hsu : SmallN u) (L : List (List Nd)) (vL : Value) (hL : ReadNN W vL L) (hsL : SmallNN L) (hS : ShapesAt W) :
    Calls Tryd.prog 17 #[vt, .int .i64 k, vu, vL] W fun e W' => e = .returned (.bool true) ∧ Below W.heap.size W W' := by
  obtain ⟨at_, ct, rfl⟩ := ReadN.len_slice ht
  obtain ⟨au, cu, rfl⟩ := ReadN.len_slice hu
  obtain ⟨al, cl, rfl⟩ : ∃ al cl, vL = .slice al L.length cl := by
    obtain ⟨vs, _, hr, _⟩ := hL
    obtain ⟨a, c, h, _⟩ := hr.form
    exact ⟨a, c, h⟩
  have hm := (ReadNN.shape hL).1
  have HSW : Hid (∀ x, Below W.heap.size W x → ShapesAt x) := fun x hb => hS.below hb
  have HTW : Hid (∀ x, Below W.heap.size W x → ReadN x (.slice at_ t.length ct) t) := fun x hb => ht.below hb
  have HUW : Hid (∀ x, Below W.heap.size W x → ReadN x (.slice au u.length cu) u) := fun x hb => hu.below hb
  have HLW : Hid (∀ x, Below W.heap.size W x → ReadNN x (.slice al L.length cl) L) := fun x hb => hL.below hb
  have HST := Lib.hid hst
  have HSU := Lib.hid hsu
  have HSL := Lib.hid hsL
  have HSH : Hid (∀ w', Below W.heap.size W w' → Calls Tryd.prog 51 #[] w' fun e w9 => e = .returned (.bool true) ∧ Below w'.heap.size w' w9) := fun w' hb => shown4_any w' (HSW.out _ hb)
  have HB0 : Hid (Below W.heap.size W W) := Below.refl _ _
  have HVT := Lib.hid (heavy4_any t _ W ht hst)
  have HVU := Lib.hid (heavy4_any u _ W hu hsu)
  have hm9 : L.length ≤ 9223372036854775807 := by unfold maxLen at hm; omega
  clear ht hS hst hu hsu hL hsL hm
  go_enter Tryd.func17, Tryd.ntmps17
  go_wp2_with fail
  refine HVT.out.mono ?_
  rintro e w1 ⟨⟨b1, rfl, hn1⟩, rfl⟩
  cases b1
  rotate_left
  · go_wp2_with fail
    refine (HSH.out _ HB0.out).mono ?_
    rintro e w2 ⟨rfl, hb2⟩
    go_wp2_with fail
    go_ret
    exact ⟨rfl, hb2⟩
  have hl200 := hn1 rfl
  clear hn1
  go_wp2_with fail
  refine HVU.out.mono ?_
  rintro e w1 ⟨⟨b1, rfl, hn1⟩, rfl⟩
  cases b1
  rotate_left
  · go_wp2_with fail
    refine (HSH.out _ HB0.out).mono ?_
    rintro e w2 ⟨rfl, hb2⟩
    go_wp2_with fail
    go_ret
    exact ⟨rfl, hb2⟩
  clear hn1
  by_cases h5 : L.length > 5
  · have d5 : decide ((L.length : Int) > 5) = true := by simp; omega
    go_wp2_with fail
    refine (HSH.out _ HB0.out).mono ?_
    rintro e w2 ⟨rfl, hb2⟩
    go_wp2_with fail
    go_ret
    exact ⟨rfl, hb2⟩
  have d5 : decide ((L.length : Int) > 5) = false := by simp; omega
  have hl5 : L.length ≤ 5 := by omega
  clear h5
  go_wp2_with fail
  refine (HSH.out _ HB0.out).mono ?_
  rintro e w2 ⟨rfl, hb2⟩
  have HB2 := chain HB0 hb2
  clear hb2
  go_wp2_with fail
  go_loopw [9] (fun i wr => T4Rel L.length w2 i wr) (fun i _ => L.length - (intOf i).toNat)
  case atStart => exact ⟨0, Nat.zero_le _, rfl, rfl⟩
  case round =>
    obtain ⟨j, hj, rfl, rfl⟩ := hrel
    by_cases hlt : j < L.length
    · obtain ⟨_, ⟨h0, _⟩ | ⟨pb, po, pcap, hpe, hpb⟩⟩ := ReadNN.shape (HLW.out _ HB2.out)
      · subst h0; simp at hlt
      obtain ⟨rfl, rfl⟩ : al = some ⟨pb, po, none⟩ ∧ cl = pcap := by simpa using hpe
      obtain ⟨a1, c1, g1, r1⟩ := (HLW.out _ HB2.out).at hlt
      have HVJ := Lib.hid (heavy4_any L[j] _ _ r1 (HSL.out _ (List.getElem_mem hlt)))
      clear r1 hpe
      go_wp2_with fail
      refine HVJ.out.mono ?_
      rintro e w1 ⟨⟨b1, rfl, hn1⟩, rfl⟩
      cases b1
      rotate_left
      · go_wp2_with fail
        refine (HSH.out _ HB2.out).mono ?_
        rintro e w3 ⟨rfl, hb3⟩
        have HB3 := chain HB2 hb3
        clear hb3
        go_wp2_with fail
        go_ret
        exact ⟨rfl, HB3.out⟩
      clear hn1
      go_wp2_with fail
      go_roundw
      case rel => exact ⟨j + 1, by omega, by go_num, rfl⟩
      case measure => simp [intOf]; omega
    · obtain rfl : j = L.length := by omega
      rename World => w2
      go_wp2_with fail
      refine (subst_law t u _ _ k w2 (HSW.out _ HB2.out) (HTW.out _ HB2.out) HST.out (HUW.out _ HB2.out) HSU.out).mono ?_
      rintro e w3 ⟨a3, c3, rfl, hr3, hb3⟩
      have HB3 := chain HB2 hb3
      clear hb3
      obtain ⟨E, hE⟩ : ∃ E, subE k u t = E := ⟨_, rfl⟩
      obtain ⟨X, hX⟩ : ∃ X, subL k u t = X := ⟨_, rfl⟩
      rw [hX] at hr3
      rw [hE, hX]
      have HE := Lib.hid hE
      have HX := Lib.hid hX
      have HR3 := Lib.hid hr3
      clear hE hX hr3
      go_wp2_with fail
      refine (rsubst_law t u _ _ k w3 (HTW.out _ HB3.out) HST.out (HUW.out _ HB3.out) HSU.out (by omega)).mono ?_
      rintro e w4 ⟨a4, c4, rfl, hr4, hb4⟩
      have HR3 := Lib.hid (HR3.out.below hb4)
      have HB4 := chain HB3 hb4
      rw [HX.out] at hr4
      rw [HE.out, HX.out]
      have HR4 := Lib.hid hr4
      clear hb4 hr4
      go_wp2_with fail
      refine (inst_law t L _ _ w4 (HSW.out _ HB4.out) (HTW.out _ HB4.out) HST.out (HLW.out _ HB4.out) HSL.out (by omega)).mono ?_
      rintro e w5 ⟨a5, c5, rfl, hr5, hb5⟩
      have HR3 := Lib.hid (HR3.out.below hb5)
      have HR4 := Lib.hid (HR4.out.below hb5)
      have HB5 := chain HB4 hb5
      clear hb5
      obtain ⟨E2, hE2⟩ : ∃ E, insE L t = E := ⟨_, rfl⟩
      obtain ⟨X2, hX2⟩ : ∃ X, insL L t = X := ⟨_, rfl⟩
      rw [hX2] at hr5
      rw [hE2, hX2]
      have HE2 := Lib.hid hE2
      have HX2 := Lib.hid hX2
      have HR5 := Lib.hid hr5
      clear hE2 hX2 hr5
      go_wp2_with fail
      refine (rinst_law t L _ _ w5 (HTW.out _ HB5.out) HST.out (HLW.out _ HB5.out) HSL.out (by omega) (by omega)).mono ?_
      rintro e w6 ⟨a6, c6, rfl, hr6, hb6⟩
      have HR3 := Lib.hid (HR3.out.below hb6)
      have HR4 := Lib.hid (HR4.out.below hb6)
      have HR5 := Lib.hid (HR5.out.below hb6)
      have HB6 := chain HB5 hb6
      rw [HX2.out] at hr6
      rw [HE2.out, HX2.out]
      have HR6 := Lib.hid hr6
      clear hb6 hr6
      go_wp2_with fail
      refine (same_law X _ _ _ HR3.out HR4.out).mono ?_
      rintro e w7 ⟨rfl, hb7⟩
      have HR5 := Lib.hid (HR5.out.below hb7)
      have HR6 := Lib.hid (HR6.out.below hb7)
      have HB7 := chain HB6 hb7
      clear hb7
      go_wp2_with fail
      refine (same_law X2 _ _ _ HR5.out HR6.out).mono ?_
      rintro e w8 ⟨rfl, hb8⟩
      have HB8 := chain HB7 hb8
      clear hb8
      go_wp2_with fail
      go_ret
      exact ⟨rfl, HB8.out⟩

end Go.Proofs.YtjhgpifccleknaaDoor
