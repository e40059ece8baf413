/- corniceref17.Positive: the same answer; conditions: the strings' sizes. -/
import Derived.Test.YteldkcpkamgfpaaDoorDl
namespace Go.Proofs.YteldkcpkamgfpaaDoor
set_option linter.unusedSimpArgs false
set_option linter.unusedVariables false
open Go.RowKit

set_option maxHeartbeats 4000000 in
set_option maxRecDepth 100000 in
theorem rpositive_any (s : ByteArray) (t : List Nd) (v : Value) (w : World) (hv : ReadN w v t) (hs : SmallN t) :
    Calls Tryd.prog 22 #[.string s, v] w fun e w' => e = .returned (.int .i64 (posE s t)) ∧ Below w.heap.size w w' := by
  have HT := Lib.hid (refcheck2_any t v w hv hs)
  have HKD := Lib.hid (fun w' (hb : Below w.heap.size w w') => rkind_any s t v w' (hv.below hb) hs)
  have HMT := Lib.hid (fun w' (hb : Below w.heap.size w w') => rmentions_any t s v w' (hv.below hb))
  have HPT : Hid (∀ w', Below w.heap.size w w' → ∀ (nd : Nd) (cs : List Tm), t.length ≤ 4000 → whole t = some (.mk nd cs) → Calls Tryd.prog 29 #[v] w' (PartsPost cs w')) := Lib.hid (by
    intro w' hb nd cs h40 hw
    obtain ⟨hwf, hfl⟩ := whole_some hw
    have hr := hv.below hb
    rw [← hfl] at hr h40 hs
    exact refparts_any nd cs v w' hwf hr hs h40)
  obtain ⟨a0, n0, rfl⟩ := hv.len_slice
  clear hv hs
  obtain ⟨P, hP⟩ : ∃ P, posE s t = P := ⟨_, rfl⟩
  rw [hP]
  by_cases hc : chk t = 0
  rotate_left
  · have hk : P = chk t := by rw [← hP]; unfold posE; rw [if_neg hc]
    obtain ⟨c, hcc⟩ : ∃ c, chk t = c := ⟨_, rfl⟩
    rw [hcc] at HT hc hk
    subst hk
    have hb : (P != 0) = true := by simpa using hc
    clear hcc hP HKD HMT HPT
    go_enter Tryd.func22, Tryd.ntmps22
    go_wp2_with (go_at_call 11; refine HT.out.mono ?_)
    rintro e w1 ⟨rfl, hb1⟩
    have HB1 := Lib.hid hb1
    clear hb1 HT
    go_wp2_with fail
    go_ret
    exact ⟨rfl, HB1.out⟩
  have HP : Hid (P = if kindN s t = 1 ∨ (kindN s t = 2 ∧ mentB (part1 t) s = false) ∨ mentB t s = false then 0 else 170) := Lib.hid (by rw [← hP]; unfold posE; rw [if_pos hc])
  clear hP
  have HTW := Lib.hid (fun (nd : Nd) (cs : List Tm) (hk : kindN s t = 2) (hw : whole t = some (.mk nd cs)) => kind_two hk hc hw)
  have hkv := kind_vals s t
  obtain ⟨h40, T, hw, _⟩ := chk_ok hc
  obtain ⟨nd, cs⟩ := T
  have HPT2 : Hid (∀ w', Below w.heap.size w w' → Calls Tryd.prog 29 #[.slice a0 t.length n0] w' (PartsPost cs w')) := Lib.hid (fun w' hb => HPT.out w' hb nd cs h40 hw)
  have HW := Lib.hid hw
  rw [hc] at HT
  obtain ⟨kn, hkn⟩ : ∃ k, kindN s t = k := ⟨_, rfl⟩
  obtain ⟨mt, hmt⟩ : ∃ k, mentB t s = k := ⟨_, rfl⟩
  rw [hkn] at HKD HP HTW hkv
  rw [hmt] at HMT HP
  clear hc hkn hmt h40 hw HPT
  go_enter Tryd.func22, Tryd.ntmps22
  go_wp2_with (go_at_call 11; refine HT.out.mono ?_)
  rintro e w1 ⟨rfl, hb1⟩
  have HB1 := Lib.hid hb1
  have hk1 := HKD.out w1 hb1
  have HK1 := Lib.hid hk1
  clear hb1 hk1 HT HKD
  go_wp2_with (go_at_call 40; refine HK1.out.mono ?_)
  rintro e w2 ⟨rfl, hb2⟩
  have HB2 := Lib.hid (HB1.out.trans (hb2.mono HB1.out.size))
  clear hb2 HK1
  have hm2 := HMT.out w2 HB2.out
  have HM2 := Lib.hid hm2
  clear hm2
  rcases hkv with h | h | h
  · subst h
    have hPe : P = if mt = false then 0 else 170 := by rw [HP.out]; simp
    have HPE := Lib.hid hPe
    clear hPe HP HTW
    go_wp2_with (go_at_call 21; refine HM2.out.mono ?_)
    rintro e w3 ⟨rfl, rfl⟩
    clear HM2 HMT
    cases mt
    · go_wp2_with fail
      go_ret
      exact ⟨by rw [HPE.out]; rfl, HB2.out⟩
    · go_wp2_with fail
      go_ret
      exact ⟨by rw [HPE.out]; rfl, HB2.out⟩
  · subst h
    have hPe : P = 0 := by rw [HP.out]; simp
    subst hPe
    clear HP HTW HM2 HMT
    go_wp2_with fail
    go_ret
    exact ⟨rfl, HB2.out⟩
  · subst h
    obtain ⟨A, B, rfl, hp1⟩ := HTW.out nd cs rfl HW.out
    have hPe : P = if mentB A.flat s = false ∨ mt = false then 0 else 170 := by rw [HP.out, hp1]; simp
    have HPE := Lib.hid hPe
    have hparts := HPT2.out w2 HB2.out
    have HPR := Lib.hid hparts
    clear hPe HP HTW hp1 HM2 hparts
    go_wp2_with (go_at_call 29; refine HPR.out.mono ?_)
    rintro e w3 ⟨a1, c1, rfl, hr, hb3⟩
    have HB3 := Lib.hid (HB2.out.trans (hb3.mono HB2.out.size))
    have hr' : ReadNN w3 (.slice a1 2 c1) [A.flat, B.flat] := hr
    obtain ⟨_, ⟨h0, _⟩ | ⟨b, off, cap, he, hbw⟩⟩ := hr'.shape
    · cases h0
    obtain ⟨rfl, rfl⟩ : a1 = some ⟨b, off, none⟩ ∧ c1 = cap := by simpa using he
    obtain ⟨a2, c2, g1, r1⟩ := ReadNN.at (L := [A.flat, B.flat]) hr' (i := 0) (by simp)
    have r1' : ReadN w3 (.slice a2 A.flat.length c2) A.flat := r1
    have g1' : w3.cell? ⟨b, off, none⟩ = some (.slice a2 A.flat.length c2) := g1
    obtain ⟨p, hp⟩ : ∃ p, A.flat.length = p := ⟨_, rfl⟩
    rw [hp] at g1' r1'
    have hE2 := rmentions_any A.flat s _ w3 r1'
    obtain ⟨ma, hma⟩ : ∃ k, mentB A.flat s = k := ⟨_, rfl⟩
    rw [hma] at hE2 HPE
    have HE2 := Lib.hid hE2
    have hm3 := HMT.out w3 HB3.out
    have HM3 := Lib.hid hm3
    clear r1 r1' g1 hr hr' hp hE2 he HW hma hb3 HPR HPT2 hm3 HMT
    have hl2 : ([A, B] : List Tm).length = 2 := rfl
    rw [hl2]
    go_wp2_with (go_at_call 21; refine HE2.out.mono ?_)
    rintro e w4 ⟨rfl, rfl⟩
    clear HE2
    cases ma
    · go_wp2_with fail
      go_ret
      exact ⟨by rw [HPE.out]; rfl, HB3.out⟩
    · go_wp2_with (go_at_call 21; refine HM3.out.mono ?_)
      rintro e w4 ⟨rfl, rfl⟩
      clear HM3
      cases mt
      · go_wp2_with fail
        go_ret
        exact ⟨by rw [HPE.out]; rfl, HB3.out⟩
      · go_wp2_with fail
        go_ret
        exact ⟨by rw [HPE.out]; rfl, HB3.out⟩

end Go.Proofs.YteldkcpkamgfpaaDoor
