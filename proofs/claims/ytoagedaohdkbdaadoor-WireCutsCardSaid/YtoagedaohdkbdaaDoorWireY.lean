/- The walks of WireEncodes, WireDecodes, WireCuts: each comes to true for every input. -/
import Derived.Test.YtoagedaohdkbdaaDoorWireX
namespace Go.Proofs.YtoagedaohdkbdaaDoor
set_option linter.unusedSimpArgs false
set_option linter.unusedVariables false
open Go.RowKit

theorem codB_size {l : List Nd} (hr : ∀ n, n ∈ l → rightB n = true) (hk : chk l = 0) (hl : l.length ≤ 500) : (codB l).length ≤ 150002 := by
  have h := longs_most hr l.length (Nat.le_refl _)
  rw [List.take_of_length_le (Nat.le_refl _)] at h
  rw [codB_long hk]
  omega
theorem text_ne {a b : ByteArray} (h : a.data.toList ≠ b.data.toList) : (a.toList == b.toList) = false := by
  rw [Bool.eq_false_iff]
  intro h2
  rw [beq_iff_eq, ByteArray.toList_eq, ByteArray.toList_eq] at h2
  exact h h2
theorem decL_small (s : List UInt8) : SmallN (decL s) := by
  intro n hn
  cases hd : decB s with
  | none => rw [(decE_none hd).2] at hn; cases hn
  | some l =>
    rw [(decE_some hd).2] at hn
    have := right_parts (chk_right (enc_dec hd).1 n hn)
    have h1 := this.2.2.2.1
    unfold maxLen
    omega
def DecW (s : List UInt8) (w : World) (e : Ending) (w' : World) : Prop := ∃ v, e = .returned (.tuple #[v, .int .i64 (decE s)]) ∧ ReadN w' v (decL s) ∧ Below w.heap.size w w'
theorem DecP.to {s : List UInt8} {w : World} {e : Ending} {w' : World} (h : DecP s w e w') : DecW s w e w' := by
  obtain ⟨v, h1, h2, h3⟩ := h
  exact ⟨v, h1, h2.read, h3⟩

set_option maxRecDepth 20000 in
set_option maxHeartbeats 4000000 in
theorem encodes_walk (W : World) (t : List Nd) (vt : Value) (ht : ReadN W vt t) (hst : SmallN t) (u : List Nd) (vu : Value) (hu : ReadN W vu u) (hsu : SmallN u) (hS : ShapesAt W) (hF : FieldsAt W) :
    Calls Tryd.prog 4 #[vt, vu] W fun e W' => e = .returned (.bool true) ∧ Below W.heap.size W W' := by
  obtain ⟨at_, ct, rfl⟩ := ReadN.len_slice ht
  obtain ⟨au, cu, rfl⟩ := ReadN.len_slice hu
  have HSW : Hid (∀ x, Below W.heap.size W x → ShapesAt x) := fun x hb => hS.below hb
  have HFW : Hid (∀ x, Below W.heap.size W x → FieldsAt x) := fun x hb => hF.below hb
  have HTW : Hid (∀ x, Below W.heap.size W x → ReadN x (.slice at_ t.length ct) t) := fun x hb => ht.below hb
  have HUW : Hid (∀ x, Below W.heap.size W x → ReadN x (.slice au u.length cu) u) := fun x hb => hu.below hb
  have HST := Lib.hid hst
  have HSU := Lib.hid hsu
  have HSH : Hid (∀ x, Below W.heap.size W x → Calls Tryd.prog 10 #[] x fun e x' => e = .returned (.bool true) ∧ Below x.heap.size x x') := fun x hb => shown5_any x (HSW.out _ hb) (HFW.out _ hb)
  have HET : Hid (∀ x, Below W.heap.size W x → Calls Tryd.prog 11 #[.slice at_ t.length ct] x (EncP t x)) := fun x hb => encode_any t _ x (HSW.out _ hb) (HFW.out _ hb) (HTW.out _ hb) HST.out
  have HRT : Hid (∀ x, Below W.heap.size W x → Calls Tryd.prog 13 #[.slice at_ t.length ct] x (EncP t x)) := fun x hb => rencode_any t _ x (HTW.out _ hb) HST.out
  have HEU : Hid (∀ x, Below W.heap.size W x → Calls Tryd.prog 11 #[.slice au u.length cu] x (EncP u x)) := fun x hb => encode_any u _ x (HSW.out _ hb) (HFW.out _ hb) (HUW.out _ hb) HSU.out
  have HB0 : Hid (Below W.heap.size W W) := Below.refl _ _
  have HVT := Lib.hid (heavy5_any t _ W ht hst)
  have HVU := Lib.hid (heavy5_any u _ W hu hsu)
  obtain ⟨c, hc⟩ : ∃ c, chk t = c := ⟨_, rfl⟩
  have HC := Lib.hid hc
  obtain ⟨d, hd⟩ : ∃ d, chk u = d := ⟨_, rfl⟩
  have HD := Lib.hid hd
  clear ht hu hS hst hsu hF hc hd
  go_enter Tryd.func4, Tryd.ntmps4
  go_wp2_with fail
  refine HVT.out.mono ?_
  rintro e w1 ⟨b1, rfl, hn1, hww⟩
  subst w1
  cases b1
  rotate_left
  · go_wp2_with fail
    refine (HSH.out _ HB0.out).mono ?_
    rintro e w2 ⟨rfl, hb2⟩
    go_wp2_with fail
    go_ret
    exact ⟨rfl, hb2⟩
  have hl5 := hn1 rfl
  clear hn1
  go_wp2_with fail
  refine HVU.out.mono ?_
  rintro e w1 ⟨b1, rfl, hn1, hww⟩
  subst w1
  cases b1
  rotate_left
  · go_wp2_with fail
    refine (HSH.out _ HB0.out).mono ?_
    rintro e w2 ⟨rfl, hb2⟩
    go_wp2_with fail
    go_ret
    exact ⟨rfl, hb2⟩
  clear hn1
  go_wp2_with fail
  refine (HSH.out _ HB0.out).mono ?_
  rintro e w2 ⟨rfl, hb2⟩
  have HB2 := chain5 HB0 hb2
  clear hb2
  go_wp2_with fail
  refine (HET.out _ HB2.out).mono ?_
  rintro e w3 ⟨s, rfl, hs, hb3⟩
  rw [HC.out]
  have HS3 := Lib.hid hs
  have HB3 := chain5 HB2 hb3
  clear hs hb3
  go_wp2_with fail
  refine (HRT.out _ HB3.out).mono ?_
  rintro e w4 ⟨s2, rfl, hs, hb4⟩
  rw [HC.out]
  obtain rfl : s2 = s := by rw [text_eq hs, text_eq HS3.out]
  have HB4 := chain5 HB3 hb4
  clear hs hb4
  by_cases h0 : c = 0
  rotate_left
  · have hcb : (c != 0) = true := by simpa using h0
    have hse : s2.data.toList = [] := by rw [HS3.out]; unfold codE; rw [if_neg (by rw [HC.out]; exact h0)]
    obtain rfl : s2 = ⟨#[]⟩ := text_eq hse
    clear hse h0
    go_wp2_with fail
    go_ret
    exact ⟨rfl, HB4.out⟩
  subst h0
  have HS4 : Hid (s2.data.toList = codB t) := by show _ = _; rw [HS3.out]; unfold codE; rw [if_pos HC.out]
  have hsz : s2.size ≤ maxLen := by
    have h := codB_size (chk_right HC.out) HC.out hl5
    rw [size_list, HS4.out]
    unfold maxLen
    omega
  have HDT : Hid (∀ x, Below W.heap.size W x → Calls Tryd.prog 14 #[.string s2] x (DecW s2.data.toList x)) := fun x hb => (decode_any s2 x (HSW.out _ hb) (HFW.out _ hb) hsz).mono fun e x' h => h.to
  have HDE : Hid (decE s2.data.toList = 0 ∧ decL s2.data.toList = t) := by have h := dec_enc HC.out; rw [← HS4.out] at h; exact decE_some h
  clear hsz
  go_wp2_with fail
  refine (HDT.out _ HB4.out).mono ?_
  rintro e w5 ⟨v5, rfl, hr5, hb5⟩
  rw [HDE.out.1]
  rw [HDE.out.2] at hr5
  obtain ⟨a5, c5, rfl⟩ := hr5.len_slice
  have HR5 := Lib.hid hr5
  have HB5 := chain5 HB4 hb5
  clear hr5 hb5
  go_wp2_with fail
  refine (HEU.out _ HB5.out).mono ?_
  rintro e w6 ⟨s6, rfl, hs6, hb6⟩
  rw [HD.out]
  have HS6 := Lib.hid hs6
  have HB6 := chain5 HB5 hb6
  have HR6 := Lib.hid (HR5.out.below hb6)
  clear hs6 hb6
  go_wp2_with fail
  refine (same_yes t _ _ _ HR6.out (HTW.out _ HB6.out)).mono ?_
  rintro e w7 ⟨rfl, n7, rfl⟩
  have HB7 : Hid (Below W.heap.size W (w6.drewN n7)) := below_drewN HB6.out _
  by_cases h0 : d = 0
  rotate_left
  · have hcb : (d != 0) = true := by simpa using h0
    clear h0
    go_wp2_with fail
    go_ret
    exact ⟨rfl, HB7.out⟩
  subst h0
  have HS7 : Hid (s6.data.toList = codB u) := by show _ = _; rw [HS6.out]; unfold codE; rw [if_pos HD.out]
  have HSAME := Lib.hid (same5_any t u _ _ _ (HTW.out _ HB7.out) (HUW.out _ HB7.out))
  by_cases htu : t = u
  · have hss : s2 = s6 := by rw [text_eq HS4.out, text_eq HS7.out, htu]
    have HTU := Lib.hid htu
    subst hss
    clear htu
    go_wp2_with fail
    refine HSAME.out.mono ?_
    rintro e w8 ⟨⟨b, rfl, hbq⟩, hb8⟩
    obtain rfl : b = true := hbq.2 HTU.out
    have HB8 := chain5 HB7 hb8
    clear hbq hb8
    go_wp2_with fail
    go_ret
    exact ⟨rfl, HB8.out⟩
  · have hne : (s2.toList == s6.toList) = false := text_ne (fun h => htu (enc_inj HC.out HD.out (by rw [← HS4.out, h, HS7.out])))
    have HTU := Lib.hid htu
    clear htu
    go_wp2_with fail
    refine HSAME.out.mono ?_
    rintro e w8 ⟨⟨b, rfl, hbq⟩, hb8⟩
    obtain rfl : b = false := by cases b; rfl; exact absurd (hbq.1 rfl) HTU.out
    have HB8 := chain5 HB7 hb8
    clear hbq hb8
    go_wp2_with fail
    go_ret
    exact ⟨rfl, HB8.out⟩

set_option maxRecDepth 20000 in
set_option maxHeartbeats 4000000 in
theorem decodes_walk (W : World) (s : ByteArray) (hs : s.size ≤ maxLen) (hS : ShapesAt W) (hF : FieldsAt W) :
    Calls Tryd.prog 5 #[.string s] W fun e W' => e = .returned (.bool true) ∧ Below W.heap.size W W' := by
  have HSW : Hid (∀ x, Below W.heap.size W x → ShapesAt x) := fun x hb => hS.below hb
  have HFW : Hid (∀ x, Below W.heap.size W x → FieldsAt x) := fun x hb => hF.below hb
  have HSH : Hid (∀ x, Below W.heap.size W x → Calls Tryd.prog 10 #[] x fun e x' => e = .returned (.bool true) ∧ Below x.heap.size x x') := fun x hb => shown5_any x (HSW.out _ hb) (HFW.out _ hb)
  have HB0 : Hid (Below W.heap.size W W) := Below.refl _ _
  have hs9 : s.size ≤ 9223372036854775807 := by unfold maxLen at hs; omega
  clear hS hF
  by_cases hbig : s.size > 2048
  · have d1 : decide ((s.size : Int) > 2048) = true := by simp; omega
    clear hbig hs
    go_enter Tryd.func5, Tryd.ntmps5
    go_wp2_with fail
    refine (HSH.out _ HB0.out).mono ?_
    rintro e w2 ⟨rfl, hb2⟩
    go_wp2_with fail
    go_ret
    exact ⟨rfl, hb2⟩
  have d1 : decide ((s.size : Int) > 2048) = false := by simp; omega
  have HDT : Hid (∀ x, Below W.heap.size W x → Calls Tryd.prog 14 #[.string s] x (DecW s.data.toList x)) := fun x hb => (decode_any s x (HSW.out _ hb) (HFW.out _ hb) hs).mono fun e x' h => h.to
  have HRD : Hid (∀ x, Calls Tryd.prog 16 #[.string s] x (DecW s.data.toList x)) := fun x => (rdecode_any s x (by omega)).mono fun e x' h => h.to
  obtain ⟨L, hL⟩ : ∃ L, decL s.data.toList = L := ⟨_, rfl⟩
  have hLs := decL_small s.data.toList
  obtain ⟨q, hq⟩ : ∃ q, decE s.data.toList = q := ⟨_, rfl⟩
  have HQ := Lib.hid hq
  have HL := Lib.hid hL
  rw [hL] at hLs
  have HLS := Lib.hid hLs
  clear hbig hs hL hLs hq
  go_enter Tryd.func5, Tryd.ntmps5
  go_wp2_with fail
  refine (HSH.out _ HB0.out).mono ?_
  rintro e w2 ⟨rfl, hb2⟩
  have HB2 := chain5 HB0 hb2
  clear hb2
  go_wp2_with fail
  refine (HDT.out _ HB2.out).mono ?_
  rintro e w3 ⟨v3, rfl, hr3, hb3⟩
  rw [HQ.out]
  rw [HL.out] at hr3
  obtain ⟨a3, c3, rfl⟩ := hr3.len_slice
  have HR3 := Lib.hid hr3
  have HB3 := chain5 HB2 hb3
  clear hr3 hb3
  go_wp2_with fail
  refine (HRD.out _).mono ?_
  rintro e w4 ⟨v4, rfl, hr4, hb4⟩
  rw [HQ.out]
  rw [HL.out] at hr4
  obtain ⟨a4, c4, rfl⟩ := hr4.len_slice
  have HR4 := Lib.hid hr4
  have HB4 := chain5 HB3 hb4
  have HR34 := Lib.hid (HR3.out.below hb4)
  clear hr4 hb4
  go_wp2_with fail
  refine (same_yes L _ _ _ HR34.out HR4.out).mono ?_
  rintro e w5 ⟨rfl, n5, rfl⟩
  have HB5 : Hid (Below W.heap.size W (w4.drewN n5)) := below_drewN HB4.out _
  have HR5 : Hid (ReadN (w4.drewN n5) (.slice a3 L.length c3) L) := RowAt.drewN HR34.out _
  have HEN := Lib.hid (encode_any L _ (w4.drewN n5) (HSW.out _ HB5.out) (HFW.out _ HB5.out) HR5.out HLS.out)
  go_wp2_with fail
  refine HEN.out.mono ?_
  rintro e w6 ⟨s6, rfl, hs6, hb6⟩
  have HS6 := Lib.hid hs6
  have HB6 := chain5 HB5 hb6
  clear hs6 hb6
  cases hd : decB s.data.toList with
  | none =>
    obtain rfl : q = 50 := by rw [← HQ.out, (decE_none hd).1]
    clear hd
    go_wp2_with fail
    go_ret
    exact ⟨rfl, HB6.out⟩
  | some l =>
    obtain rfl : q = 0 := by rw [← HQ.out, (decE_some hd).1]
    obtain rfl : L = l := by rw [← HL.out, (decE_some hd).2]
    obtain ⟨h1, h2⟩ := enc_dec hd
    have hc6 := HS6.out
    unfold codE at hc6
    rw [if_pos h1, h2] at hc6
    obtain rfl : s6 = s := by rw [text_eq hc6]
    rw [h1]
    clear hd h1 h2 hc6
    go_wp2_with fail
    go_ret
    exact ⟨rfl, HB6.out⟩

end Go.Proofs.YtoagedaohdkbdaaDoor
