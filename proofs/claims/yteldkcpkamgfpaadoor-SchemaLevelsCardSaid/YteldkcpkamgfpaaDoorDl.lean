/- schema.Positive; conditions: the strings' sizes; where the table of shapes lies as it is laid. -/
import Derived.Test.YteldkcpkamgfpaaDoorDk
namespace Go.Proofs.YteldkcpkamgfpaaDoor
set_option linter.unusedSimpArgs false
set_option linter.unusedVariables false
open Go.RowKit

theorem kind_two {s : ByteArray} {t : List Nd} {nd : Nd} {cs : List Tm} (hk : kindN s t = 2) (hc : chk t = 0) (hw : whole t = some (.mk nd cs)) : ∃ A B, cs = [A, B] ∧ part1 t = A.flat := by
  unfold kindN at hk
  rw [if_pos hc] at hk
  by_cases h1 : t = ownD s
  · rw [if_pos h1] at hk; cases hk
  rw [if_neg h1] at hk
  by_cases h2 : part2 t = some (ownD s)
  · have hK : nd.K = 3 := by
      unfold part2 at h2
      rw [hw] at h2
      by_cases h3 : nd.K = 3
      · exact h3
      · rcases cs with _ | ⟨a, _ | ⟨b, r⟩⟩ <;> simp [h3] at h2
    obtain ⟨A, B, rfl⟩ := pi_two (whole_some hw).1 hK
    exact ⟨A, B, rfl, by unfold part1; rw [hw]⟩
  · rw [if_neg h2] at hk; cases hk
theorem kind_vals (s : ByteArray) (t : List Nd) : kindN s t = 0 ∨ kindN s t = 1 ∨ kindN s t = 2 := by
  unfold kindN
  split
  · split
    · exact .inr (.inl rfl)
    · split
      · exact .inr (.inr rfl)
      · exact .inl rfl
  · exact .inl rfl

set_option maxHeartbeats 4000000 in
set_option maxRecDepth 100000 in
theorem positive_any (s : ByteArray) (t : List Nd) (v : Value) (w : World) (hS : ShapesAt w) (hv : ReadN w v t) (hs : SmallN t) :
    Calls Tryd.prog 13 #[.string s, v] w fun e w' => e = .returned (.int .i64 (posE s t)) ∧ Below w.heap.size w w' := by
  have HT := Lib.hid (targs_any t v w hS hv hs)
  have HKD := Lib.hid (fun w' (hb : Below w.heap.size w w') => kind_any s t v w' (hS.below hb) (hv.below hb) hs)
  have HMT := Lib.hid (fun w' (hb : Below w.heap.size w w') => mentions_any t s v w' (hv.below hb))
  obtain ⟨a0, n0, rfl⟩ := hv.len_slice
  clear hS hv hs
  by_cases hc : chk t = 0
  rotate_left
  · have hk : posE s t = chk t := by unfold posE; rw [if_neg hc]
    rw [hk]
    go_enter Tryd.func13, Tryd.ntmps13
    go_wp2_with (go_at_call 30; refine HT.out.mono ?_)
    rintro e w1 ⟨v1, rfl, _, hz, hb1⟩
    have hv1 := hz hc
    subst hv1
    have HB1 := Lib.hid hb1
    obtain ⟨c, hcc⟩ : ∃ c, chk t = c := ⟨_, rfl⟩
    rw [hcc] at hc ⊢
    have hb : (c != 0) = true := by simpa using hc
    have HCC := Lib.hid hcc
    clear hb1 HT HKD HMT hcc hz hk
    go_wp2_with fail
    go_ret
    exact ⟨by rw [HCC.out]; rfl, HB1.out⟩
  have HC := Lib.hid hc
  obtain ⟨P, hP⟩ : ∃ P, posE s t = P := ⟨_, rfl⟩
  have HP : Hid (P = if kindN s t = 1 ∨ (kindN s t = 2 ∧ mentB (part1 t) s = false) ∨ mentB t s = false then 0 else 170) := Lib.hid (by rw [← hP]; unfold posE; rw [if_pos hc])
  rw [hP]
  clear hP
  have HTW := Lib.hid (fun (nd : Nd) (cs : List Tm) (hk : kindN s t = 2) (hw : whole t = some (.mk nd cs)) => kind_two hk hc hw)
  have hkv := kind_vals s t
  obtain ⟨kn, hkn⟩ : ∃ k, kindN s t = k := ⟨_, rfl⟩
  obtain ⟨mt, hmt⟩ : ∃ k, mentB t s = k := ⟨_, rfl⟩
  rw [hkn] at HKD HP HTW hkv
  rw [hmt] at HMT HP
  clear hc hkn hmt
  go_enter Tryd.func13, Tryd.ntmps13
  go_wp2_with (go_at_call 30; refine HT.out.mono ?_)
  rintro e w1 ⟨v1, rfl, hok, _, hb1⟩
  obtain ⟨nd, cs, hwh, hr⟩ := hok HC.out
  obtain ⟨a1, c1, rfl⟩ := hr.form
  rw [HC.out]
  have HB1 := Lib.hid hb1
  have HR := Lib.hid hr
  have HW := Lib.hid hwh
  have hk1 := HKD.out w1 hb1
  have HK1 := Lib.hid hk1
  clear hb1 hr hok hwh hk1 HT HKD
  go_wp2_with (go_at_call 31; refine HK1.out.mono ?_)
  rintro e w2 ⟨rfl, hb2⟩
  have HB2 := Lib.hid (HB1.out.trans (hb2.mono HB1.out.size))
  have HR2 := Lib.hid (HR.out.below hb2)
  clear hb2 HK1 HR
  have hm2 := HMT.out w2 HB2.out
  have HM2 := Lib.hid hm2
  clear hm2
  rcases hkv with h | h | h
  · subst h
    have hPe : P = if mt = false then 0 else 170 := by rw [HP.out]; simp
    have HPE := Lib.hid hPe
    clear hPe HP HTW
    go_wp2_with (go_at_call 14; refine HM2.out.mono ?_)
    rintro e w3 ⟨rfl, hb3⟩
    have HB3 := Lib.hid (HB2.out.trans (hb3.mono HB2.out.size))
    clear hb3 HM2 HMT
    cases mt
    · go_wp2_with fail
      go_ret
      exact ⟨by rw [HPE.out]; rfl, HB3.out⟩
    · go_wp2_with fail
      go_ret
      exact ⟨by rw [HPE.out]; rfl, HB3.out⟩
  · subst h
    have hPe : P = 0 := by rw [HP.out]; simp
    subst hPe
    clear HP HTW HM2 HMT
    go_wp2_with fail
    go_ret
    exact ⟨rfl, HB2.out⟩
  · subst h
    obtain ⟨A, B, rfl, hp1⟩ := HTW.out nd cs rfl HW.out
    have hPe : P = if mentB A.flat s = false ∨ mt = false then 0 else 170 := by rw [HP.out, hp1]; simp
    have HPE := Lib.hid hPe
    have hr' : ReadNN w2 (.slice a1 2 c1) [A.flat, B.flat] := HR2.out
    obtain ⟨_, ⟨h0, _⟩ | ⟨b, off, cap, he, hbw⟩⟩ := hr'.shape
    · cases h0
    obtain ⟨rfl, rfl⟩ : a1 = some ⟨b, off, none⟩ ∧ c1 = cap := by simpa using he
    obtain ⟨a2, c2, g1, r1⟩ := ReadNN.at (L := [A.flat, B.flat]) hr' (i := 0) (by simp)
    have r1' : ReadN w2 (.slice a2 A.flat.length c2) A.flat := r1
    have g1' : w2.cell? ⟨b, off, none⟩ = some (.slice a2 A.flat.length c2) := g1
    obtain ⟨p, hp⟩ : ∃ p, A.flat.length = p := ⟨_, rfl⟩
    rw [hp] at g1' r1'
    have hE2 := mentions_any A.flat s _ w2 r1'
    obtain ⟨ma, hma⟩ : ∃ k, mentB A.flat s = k := ⟨_, rfl⟩
    rw [hma] at hE2 HPE
    have HE2 := Lib.hid hE2
    clear r1 r1' g1 hr' hp hE2 he hPe HP HTW hp1 HR2 HW hma HM2
    have hl2 : ([A, B] : List Tm).length = 2 := rfl
    rw [hl2]
    go_wp2_with (go_at_call 14; refine HE2.out.mono ?_)
    rintro e w3 ⟨rfl, hb3⟩
    have HB3 := Lib.hid (HB2.out.trans (hb3.mono HB2.out.size))
    have hm3 := HMT.out w3 HB3.out
    have HM3 := Lib.hid hm3
    clear hb3 HE2 HMT hm3
    cases ma
    · go_wp2_with fail
      go_ret
      exact ⟨by rw [HPE.out]; rfl, HB3.out⟩
    · go_wp2_with (go_at_call 14; refine HM3.out.mono ?_)
      rintro e w4 ⟨rfl, hb4⟩
      have HB4 := Lib.hid (HB3.out.trans (hb4.mono HB3.out.size))
      clear hb4 HM3
      cases mt
      · go_wp2_with fail
        go_ret
        exact ⟨by rw [HPE.out]; rfl, HB4.out⟩
      · go_wp2_with fail
        go_ret
        exact ⟨by rw [HPE.out]; rfl, HB4.out⟩

end Go.Proofs.YteldkcpkamgfpaaDoor
