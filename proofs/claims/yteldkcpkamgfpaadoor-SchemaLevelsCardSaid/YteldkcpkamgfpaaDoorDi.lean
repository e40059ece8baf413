/- corniceref14.data, corniceref14.Kind: the same kinds; conditions: the strings' sizes. -/
import Derived.Test.YteldkcpkamgfpaaDoorDh
namespace Go.Proofs.YteldkcpkamgfpaaDoor
set_option linter.unusedSimpArgs false
set_option linter.unusedVariables false
open Go.RowKit

set_option maxHeartbeats 2000000 in
set_option maxRecDepth 100000 in
theorem rdata_any (s : ByteArray) (t : List Nd) (v : Value) (w : World) (hv : ReadN w v t) :
    Calls Tryd.prog 66 #[.string s, v] w fun e w' => e = .returned (.bool (decide (t = ownD s))) ∧ w = w' := by
  obtain ⟨a0, n0, rfl⟩ := hv.len_slice
  obtain ⟨hm, hca⟩ := hv.cases
  by_cases h1 : t.length = 1
  rotate_left
  · have hne : decide (t = ownD s) = false := by
      rw [decide_eq_false_iff_not]
      intro e
      exact h1 (by rw [e]; rfl)
    rw [hne]
    have hm9 : t.length ≤ 9223372036854775807 := by unfold maxLen at hm; omega
    obtain ⟨q, hq⟩ : ∃ q, t.length = q := ⟨_, rfl⟩
    rw [hq] at hm9 h1 ⊢
    have hb : ((q : Int) == 1) = false := by rw [beq_eq_false_iff_ne]; omega
    have hb2 : (q == 1) = false := by rw [beq_eq_false_iff_ne]; omega
    clear hv hca hm hne hq
    go_enter Tryd.func66, Tryd.ntmps66
    go_wp2_with fail
    go_ret
    exact ⟨rfl, rfl⟩
  match t, h1 with
  | [nd], _ =>
  rcases hca with ⟨h0, _⟩ | ⟨b, off, cap, he, hc1, hc2, _, hc⟩
  · cases h0
  obtain ⟨rfl, rfl⟩ : a0 = some ⟨b, off, none⟩ ∧ n0 = cap := by simpa using he
  obtain ⟨g0, g1, g2, g3⟩ := hc 0 (by simp)
  have e0 : ([nd] : List Nd)[0] = nd := rfl
  rw [e0] at g0 g1 g2 g3
  simp only [Nat.zero_mul, Nat.add_zero] at g0 g1 g2 g3
  have hc9 : n0 ≤ 9223372036854775807 := by unfold maxLen at hc2; omega
  have hc1' : 1 ≤ n0 := hc1
  obtain ⟨R, hR⟩ : ∃ R, decide ([nd] = ownD s) = R := ⟨_, rfl⟩
  have hl1 : ([nd] : List Nd).length = 1 := rfl
  rw [hR, hl1]
  by_cases hq : nd = ⟨25, 0, 0, s⟩
  · subst hq
    have : R = true := by rw [← hR]; exact decide_eq_true rfl
    subst this
    clear hR hv hm hc e0 he hc1 hc2 hl1
    go_enter Tryd.func66, Tryd.ntmps66
    go_wp2_with fail
    go_ret
    exact ⟨rfl, rfl⟩
  have hRf : R = false := by
    rw [← hR, decide_eq_false_iff_not]
    intro e
    unfold ownD at e
    injection e with e
    exact hq e
  subst hRf
  rcases nd_first hq with h1 | ⟨h1, h2⟩ | ⟨h1, h2, h3⟩ | ⟨h1, h2, h3, h4⟩
  · clear hR hv hm hc e0 he hc1 hc2 hl1 hq
    go_enter Tryd.func66, Tryd.ntmps66
    go_wp2_with fail
    go_ret
    exact ⟨rfl, rfl⟩
  · rw [h1] at g0
    clear hR hv hm hc e0 he hc1 hc2 hl1 hq h1
    go_enter Tryd.func66, Tryd.ntmps66
    go_wp2_with fail
    go_ret
    exact ⟨rfl, rfl⟩
  · rw [h1] at g0
    rw [h2] at g1
    clear hR hv hm hc e0 he hc1 hc2 hl1 hq h1 h2
    go_enter Tryd.func66, Tryd.ntmps66
    go_wp2_with fail
    go_ret
    exact ⟨rfl, rfl⟩
  · rw [h1] at g0
    rw [h2] at g1
    rw [h3] at g2
    clear hR hv hm hc e0 he hc1 hc2 hl1 hq h1 h2 h3
    go_enter Tryd.func66, Tryd.ntmps66
    go_wp2_with fail
    go_ret
    exact ⟨rfl, rfl⟩

set_option maxHeartbeats 2000000 in
set_option maxRecDepth 100000 in
theorem rkind_any (s : ByteArray) (t : List Nd) (v : Value) (w : World) (hv : ReadN w v t) (hs : SmallN t) :
    Calls Tryd.prog 40 #[.string s, v] w fun e w' => e = .returned (.int .i64 (kindN s t)) ∧ Below w.heap.size w w' := by
  have HV := Lib.hid hv
  have HM := Lib.hid hs
  obtain ⟨a0, n0, rfl⟩ := hv.len_slice
  clear hv hs
  by_cases hc : chk t = 0
  rotate_left
  · have hk : kindN s t = 0 := by unfold kindN; rw [if_neg hc]
    have hb : (chk t != 0) = true := by simpa using hc
    have HT := Lib.hid (refcheck2_any t _ w HV.out HM.out)
    rw [hk]
    go_enter Tryd.func40, Tryd.ntmps40
    go_wp2_with (go_at_call 11; refine HT.out.mono ?_)
    rintro e w1 ⟨rfl, hb1⟩
    have HB1 := Lib.hid hb1
    clear hb1
    go_wp2_with fail
    go_ret
    exact ⟨rfl, HB1.out⟩
  obtain ⟨h40, T, hT, _⟩ := chk_ok hc
  obtain ⟨nd, cs⟩ := T
  obtain ⟨hwf, hfl⟩ := whole_some hT
  have hlast : t.getLast? = some nd := by rw [← hfl, flat_mk]; simp
  have HT := Lib.hid (refcheck2_any t _ w HV.out HM.out)
  rw [hc] at HT
  have HL := Lib.hid hlast
  have HW := Lib.hid hT
  have HF := Lib.hid hwf
  have HC := Lib.hid hc
  obtain ⟨q, hq⟩ : ∃ q, t.length = q := ⟨_, rfl⟩
  have HP : Hid (∀ w', Below w.heap.size w w' → Calls Tryd.prog 29 #[.slice a0 q n0] w' (PartsPost cs w')) := Lib.hid (fun w' hb => by
    rw [← hq]
    have hr := HV.out.below hb
    have hm := HM.out
    subst hfl
    exact refparts_any nd cs _ w' hwf hr hm h40)
  rw [hq] at HT HV ⊢
  have HD : Hid (∀ (w' : World) (l : List Nd) (x : Value), ReadN w' x l → Calls Tryd.prog 66 #[.string s, x] w' fun e w2 => e = .returned (.bool (decide (l = ownD s))) ∧ w' = w2) := Lib.hid (fun w' l x h => rdata_any s l x w' h)
  obtain ⟨kn, hkn⟩ : ∃ k, kindN s t = k := ⟨_, rfl⟩
  rw [hkn]
  have HK : Hid (kn = if t = ownD s then 1 else if part2 t = some (ownD s) then 2 else 0) := Lib.hid (by rw [← hkn]; unfold kindN; rw [if_pos HC.out])
  clear hc hT hwf hfl hlast hq hkn h40
  go_enter Tryd.func40, Tryd.ntmps40
  go_wp2_with (go_at_call 11; refine HT.out.mono ?_)
  rintro e w1 ⟨rfl, hb1⟩
  have HB1 := Lib.hid hb1
  have hd1 := HD.out w1 t _ (HV.out.below hb1)
  have HD1 := Lib.hid hd1
  clear hb1 HT hd1
  go_wp2_with (go_at_call 66; refine HD1.out.mono ?_)
  rintro e w2 ⟨rfl, rfl⟩
  clear HD1
  by_cases h1 : t = ownD s
  · rw [decide_eq_true h1]
    have hk : kn = 1 := by rw [HK.out, if_pos h1]
    subst hk
    clear h1 HK
    go_wp2_with fail
    go_ret
    exact ⟨rfl, HB1.out⟩
  rw [decide_eq_false h1]
  have hk2 : kn = if part2 t = some (ownD s) then 2 else 0 := by rw [HK.out, if_neg h1]
  have HK2 := Lib.hid hk2
  clear hk2 h1 HK
  have hfk := node_K nd.K nd.N nd.M nd.S
  have hroot := root_any t nd (.slice a0 q n0) w1 (HV.out.below HB1.out) HL.out
  have HR := Lib.hid hroot
  clear hroot
  go_wp2_with (go_at_call 67; refine HR.out.mono ?_)
  rintro e w3 ⟨rfl, hb3⟩
  have HB3 := Lib.hid (HB1.out.trans (hb3.mono HB1.out.size))
  clear hb3 HR
  by_cases h3 : nd.K = 3
  rotate_left
  · have hb : (nd.K == 3) = false := by simpa using h3
    have hk : kn = 0 := by
      rw [HK2.out, if_neg]
      unfold part2
      rw [HW.out]
      rcases cs with _ | ⟨a, _ | ⟨b, r⟩⟩ <;> simp [h3]
    subst hk
    clear h3
    go_wp2_with fail
    go_ret
    exact ⟨rfl, HB3.out⟩
  obtain ⟨A, B, rfl⟩ := pi_two HF.out h3
  have hp2 : part2 t = some B.flat := by unfold part2; rw [HW.out]; simp [h3]
  have HP2 := Lib.hid hp2
  have hb : (nd.K == 3) = true := by simpa using h3
  have hargs := HP.out w3 HB3.out
  have HAR := Lib.hid hargs
  clear h3 hp2 hargs
  go_wp2_with (go_at_call 29; refine HAR.out.mono ?_)
  rintro e w4 ⟨a4, n4, rfl, hr, hb4⟩
  have HB4 := Lib.hid (HB3.out.trans (hb4.mono HB3.out.size))
  clear hb4 HAR
  have hr' : ReadNN w4 (.slice a4 2 n4) [A.flat, B.flat] := hr
  obtain ⟨_, ⟨h0, _⟩ | ⟨b, off, cap, he, hbw⟩⟩ := hr'.shape
  · cases h0
  obtain ⟨rfl, rfl⟩ : a4 = some ⟨b, off, none⟩ ∧ n4 = cap := by simpa using he
  obtain ⟨a1, c1, g1, r1⟩ := ReadNN.at (L := [A.flat, B.flat]) hr' (i := 1) (by simp)
  have r1' : ReadN w4 (.slice a1 B.flat.length c1) B.flat := r1
  have g1' : w4.cell? ⟨b, off + 1, none⟩ = some (.slice a1 B.flat.length c1) := g1
  obtain ⟨p, hp⟩ : ∃ p, B.flat.length = p := ⟨_, rfl⟩
  rw [hp] at g1' r1'
  have hE2 := HD.out w4 B.flat _ r1'
  have HE2 := Lib.hid hE2
  clear r1 r1' g1 hr hr' hp hE2 he
  have hl2 : ([A, B] : List Tm).length = 2 := rfl
  rw [hl2]
  go_wp2_with (go_at_call 66; refine HE2.out.mono ?_)
  rintro e w5 ⟨rfl, rfl⟩
  clear HE2
  by_cases h2 : B.flat = ownD s
  · rw [decide_eq_true h2]
    have hk : kn = 2 := by rw [HK2.out, HP2.out, h2, if_pos rfl]
    subst hk
    clear h2
    go_wp2_with fail
    go_ret
    exact ⟨rfl, HB4.out⟩
  · rw [decide_eq_false h2]
    have hk : kn = 0 := by rw [HK2.out, HP2.out, if_neg (fun e => h2 (Option.some.inj e))]
    subst hk
    clear h2
    go_wp2_with fail
    go_ret
    exact ⟨rfl, HB4.out⟩

end Go.Proofs.YteldkcpkamgfpaaDoor
