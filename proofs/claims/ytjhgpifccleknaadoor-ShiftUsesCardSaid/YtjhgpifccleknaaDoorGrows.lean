/- TermGrows' walk, and its plain law. -/
import Derived.Test.YtjhgpifccleknaaDoorMake
import Derived.Test.YtjhgpifccleknaaDoorHeavy
import Derived.Test.YtjhgpifccleknaaDoorShown
namespace Go.Proofs.YtjhgpifccleknaaDoor
set_option linter.unusedSimpArgs false
set_option linter.unusedVariables false
open Go.RowKit

def sucN : Nd := ⟨12, 0, 0, ByteArray.empty⟩
def appN : Nd := ⟨5, 0, 0, ByteArray.empty⟩
theorem sucN_right : rightB sucN = true := by decide +kernel
theorem sucN_arity : arity sucN = 1 := by decide +kernel

theorem whole_suc {l : List Nd} {T : Tm} (h : whole l = some T) : whole (l ++ [sucN]) = some (Tm.mk sucN [T]) := by
  obtain ⟨hw, rfl⟩ := whole_some h
  have hwf : (Tm.mk sucN [T]).wf = true := wf_iff.2 ⟨sucN_right, by rw [sucN_arity]; rfl, fun t ht => by simp at ht; subst ht; exact hw⟩
  have := whole_flat hwf
  rwa [flat_mk, flatL_one] at this
theorem chk_suc {l : List Nd} {T : Tm} (h : whole l = some T) (hl : l.length ≤ 4000) (hd : T.dep ≤ 60) : chk (l ++ [sucN]) = if l.length = 4000 then 21 else if T.dep = 60 then 22 else 0 := by
  have hw := whole_suc h
  have hdep : (Tm.mk sucN [T]).dep = T.dep + 1 := by rw [dep_mk, depL_cons, depL_nil]; omega
  have hlen : (l ++ [sucN]).length = l.length + 1 := by simp
  unfold chk
  rw [hlen, hw]
  simp only [hdep]
  by_cases h1 : l.length = 4000
  · rw [if_pos (by omega), if_pos h1]
  · rw [if_neg (by omega), if_neg h1]
    by_cases h2 : T.dep = 60
    · rw [if_pos (by omega), if_pos h2]
    · rw [if_neg (by omega), if_neg h2]
theorem dpt_suc {l : List Nd} {T : Tm} (h : whole l = some T) (hc : chk (l ++ [sucN]) = 0) : dpt (l ++ [sucN]) = (T.dep : Int) + 1 := by
  unfold dpt
  rw [if_pos hc, whole_suc h]
  have hdep : (Tm.mk sucN [T]).dep = T.dep + 1 := by rw [dep_mk, depL_cons, depL_nil]; omega
  simp only [hdep]
  omega
theorem makeE_suc (l : List Nd) : makeE sucN [l] = if chk l = 0 then chk (l ++ [sucN]) else chk l := by
  unfold makeE
  simp only [List.map_cons, List.map_nil, fstE, List.flatten_cons, List.flatten_nil, List.append_nil, sucN_right, sucN_arity, List.length_cons, List.length_nil]
  by_cases h : chk l = 0
  · simp [h]
  · simp [h]

theorem chain {W a b : World} (h : Hid (Below W.heap.size W a)) (hb : Below a.heap.size a b) : Hid (Below W.heap.size W b) := h.out.trans (hb.mono h.out.size)

/-- a literal slice of slices -/
theorem ReadNN.lit1 {w : World} {t : TypeId} {v : Value} {l : List Nd} (h : ReadN w v l) : ReadNN (w.alloc (.cells #[v] t)) (.slice (some ⟨w.heap.size, 0, none⟩) 1 1) [l] := by
  refine ⟨[v], rfl, RowAt.lit (size := 1) w t #[v] 1 rfl (by unfold maxLen; omega), fun i hi u hu => ?_⟩
  obtain rfl : i = 0 := by simp at hi; omega
  simp at hu
  subst hu
  exact h.alloc _
theorem ReadNN.lit2 {w : World} {t : TypeId} {v u : Value} {l k : List Nd} (h : ReadN w v l) (h2 : ReadN w u k) : ReadNN (w.alloc (.cells #[v, u] t)) (.slice (some ⟨w.heap.size, 0, none⟩) 2 2) [l, k] := by
  refine ⟨[v, u], rfl, RowAt.lit (size := 1) w t #[v, u] 2 rfl (by unfold maxLen; omega), fun i hi x hx => ?_⟩
  match i, hi with
  | 0, _ => simp at hx; subst hx; exact h.alloc _
  | 1, _ => simp at hx; subst hx; exact h2.alloc _

set_option maxRecDepth 20000 in
set_option maxHeartbeats 4000000 in
theorem grows_walk (W : World) (t : List Nd) (vt : Value) (ht : ReadN W vt t) (hst : SmallN t) (u : List Nd) (vu : Value) (hu : ReadN W vu u) (hsu : SmallN u) (hS : ShapesAt W) :
    Calls Tryd.prog 5 #[vt, vu] W fun e W' => e = .returned (.bool true) ∧ Below W.heap.size W W' := by
  have HS := Lib.hid hS; clear hS
  obtain ⟨at_, ct, rfl⟩ := ReadN.len_slice ht
  obtain ⟨au, cu, rfl⟩ := ReadN.len_slice hu
  have HT := Lib.hid ht; clear ht
  have HU := Lib.hid hu; clear hu
  have HST := Lib.hid hst; clear hst
  have HSU := Lib.hid hsu; clear hsu
  have HSH : Hid (∀ w', Below W.heap.size W w' → Calls Tryd.prog 21 #[] w' fun e w9 => e = .returned (.bool true) ∧ Below w'.heap.size w' w9) := fun w' hb => shown2_any w' (HS.out.below hb)
  have HB0 : Hid (Below W.heap.size W W) := Below.refl _ _
  obtain ⟨lt, hlt⟩ : ∃ n, t.length = n := ⟨_, rfl⟩
  obtain ⟨lu, hlu⟩ : ∃ n, u.length = n := ⟨_, rfl⟩
  have HLT := Lib.hid hlt
  have HLU := Lib.hid hlu
  have hvt := heavy2_any t _ W HT.out
  have hvu := heavy2_any u _ W HU.out
  rw [hlt] at hvt ⊢
  rw [hlu] at hvu ⊢
  have HVT := Lib.hid hvt; clear hvt
  have HVU := Lib.hid hvu; clear hvu hlt hlu
  go_enter Tryd.func5, Tryd.ntmps5
  go_wp2_with fail
  refine HVT.out.mono ?_
  rintro e w1 ⟨⟨b1, rfl, hn1⟩, rfl⟩
  cases b1
  rotate_left
  · go_wp2_with fail
    refine (HSH.out _ HB0.out).mono ?_
    rintro e w2 ⟨rfl, hb2⟩
    go_wp2_with fail
    go_ret
    exact ⟨rfl, hb2⟩
  have hlt8 := hn1 rfl
  clear hn1
  go_wp2_with fail
  refine HVU.out.mono ?_
  rintro e w1 ⟨⟨b1, rfl, hn1⟩, rfl⟩
  cases b1
  rotate_left
  · go_wp2_with fail
    refine (HSH.out _ HB0.out).mono ?_
    rintro e w2 ⟨rfl, hb2⟩
    go_wp2_with fail
    go_ret
    exact ⟨rfl, hb2⟩
  have hlu8 := hn1 rfl
  clear hn1
  go_wp2_with fail
  refine (HSH.out _ HB0.out).mono ?_
  rintro e w2 ⟨rfl, hb2⟩
  have HB2 := chain HB0 hb2
  clear hb2
  have HTL : Hid (ReadN W (.slice at_ lt ct) t) := by show ReadN _ _ _; rw [← HLT.out]; exact HT.out
  have HUL : Hid (ReadN W (.slice au lu cu) u) := by show ReadN _ _ _; rw [← HLU.out]; exact HU.out
  have hme := makeE_suc t
  obtain ⟨c, hc⟩ : ∃ c, chk t = c := ⟨_, rfl⟩
  have HDP : Hid (∀ w', Below W.heap.size W w' → Calls Tryd.prog 29 #[.slice at_ lt ct] w' fun e w9 => e = .returned (.tuple #[.int .i64 (dpt t), .int .i64 c]) ∧ Below w'.heap.size w' w9) := by
    show ∀ w', _
    intro w' hb
    rw [← hc]
    exact tdepth_any t _ w' (HS.out.below hb) (HTL.out.below hb) HST.out
  have HCK : Hid (∀ w', Below W.heap.size W w' → Calls Tryd.prog 32 #[.slice at_ lt ct] w' fun e w9 => e = .returned (.int .i64 c) ∧ Below w'.heap.size w' w9) := by
    show ∀ w', _
    intro w' hb
    rw [← hc]
    exact refcheck2_any t _ w' (HTL.out.below hb) HST.out
  have HMK : Hid (∀ w', Below W.heap.size W w' → Calls Tryd.prog 31 #[.agg #[.int .i64 12, .int .i64 0, .int .i64 0, .string ByteArray.empty], .slice (some ⟨w'.heap.size, 0, none⟩) 1 1] (w'.alloc (.cells #[.slice at_ lt ct] 30)) (MakePost sucN [t] (w'.alloc (.cells #[.slice at_ lt ct] 30)))) := by
    show ∀ w', _
    intro w' hb
    exact tmake_any sucN [t] _ _ (HS.out.below (hb.alloc hb.size _)) (by show (0 : Nat) ≤ maxLen; omega) (ReadNN.lit1 (HTL.out.below hb)) (fun l hl => by simp at hl; subst hl; exact HST.out)
  have HMA : Hid (∀ w', Below W.heap.size W w' → Calls Tryd.prog 31 #[.agg #[.int .i64 5, .int .i64 0, .int .i64 0, .string ByteArray.empty], .slice (some ⟨w'.heap.size, 0, none⟩) 2 2] (w'.alloc (.cells #[.slice at_ lt ct, .slice au lu cu] 30)) (MakePost appN [t, u] (w'.alloc (.cells #[.slice at_ lt ct, .slice au lu cu] 30)))) := by
    show ∀ w', _
    intro w' hb
    exact tmake_any appN [t, u] _ _ (HS.out.below (hb.alloc hb.size _)) (by show (0 : Nat) ≤ maxLen; omega) (ReadNN.lit2 (HTL.out.below hb) (HUL.out.below hb)) (fun l hl => by simp at hl; rcases hl with rfl | rfl; exact HST.out; exact HSU.out)
  have HHC := Lib.hid hc
  rw [hc] at hme
  obtain ⟨me, hmeq⟩ : ∃ me, makeE sucN [t] = me := ⟨_, rfl⟩
  rw [hmeq] at hme
  obtain ⟨dp, hdp⟩ : ∃ dp, dpt t = dp := ⟨_, rfl⟩
  rw [hdp] at HDP
  have HDPQ := Lib.hid hdp
  have HMEQ := Lib.hid hmeq
  clear hc hmeq hdp
  go_wp2_with fail
  refine (HMK.out _ HB2.out).mono ?_
  rintro e w3 ⟨s, rfl, hs, hb3⟩
  rw [HMEQ.out] at hs ⊢
  have HB3 : Hid (Below W.heap.size W w3) := (HB2.out.alloc HB2.out.size _).trans (hb3.mono (by have := HB2.out.size; simp; omega))
  clear hb3
  by_cases h0 : c = 0
  rotate_left
  · rw [if_neg h0] at hme
    subst hme
    rw [if_neg h0] at hs
    obtain ⟨sa, sc, rfl⟩ := ReadN.len_slice hs
    have hcb : (me != 0) = true := by simpa using h0
    clear hs
    go_wp2_with fail
    refine (HDP.out _ HB3.out).mono ?_
    rintro e w4 ⟨rfl, hb4⟩
    have HB4 := chain HB3 hb4
    clear hb4
    go_wp2_with fail
    refine (HCK.out _ HB4.out).mono ?_
    rintro e w5 ⟨rfl, hb5⟩
    have HB5 := chain HB4 hb5
    clear hb5
    go_wp2_with fail
    go_ret
    exact ⟨by simp, HB5.out⟩
  rw [if_pos h0] at hme
  obtain ⟨hl4, T, hw, hd6⟩ := chk_ok (HHC.out.trans h0)
  rw [chk_suc hw hl4 hd6] at hme
  rw [HLT.out] at hme hl4
  have hdq : dp = (T.dep : Int) := by rw [← HDPQ.out]; unfold dpt; rw [if_pos (HHC.out.trans h0), hw]
  have hds := dpt_suc hw
  have hpos := dep_pos T
  subst h0
  subst hdq
  by_cases hbig : T.dep = 60 ∨ lt = 4000
  · have hme0 : me ≠ 0 := by
      rw [hme]
      rcases hbig with h | h
      · rw [h]; split <;> simp
      · rw [if_pos h]; simp
    rw [if_neg hme0] at hs
    obtain ⟨sa, sc, rfl⟩ := ReadN.len_slice hs
    have hcb : (me != 0) = true := by simpa using hme0
    have HSS := Lib.hid hs
    have HME := Lib.hid hme
    clear hs hme hds hw
    have hdc : (T.dep = 60 ∧ ((T.dep : Int) == 60) = true) ∨ (((T.dep : Int) == 60) = false ∧ ((lt : Int) == 4000) = true) := by
      by_cases h : T.dep = 60
      · exact .inl ⟨h, by rw [h]; rfl⟩
      · have h2 : lt = 4000 := by rcases hbig with h' | h'; exact absurd h' h; exact h'
        exact .inr ⟨by rw [beq_eq_false_iff_ne]; omega, by rw [h2]; rfl⟩
    clear hbig
    go_wp2_with fail
    refine (HDP.out _ HB3.out).mono ?_
    rintro e w4 ⟨rfl, hb4⟩
    have HB4 := chain HB3 hb4
    have HSS4 := Lib.hid (HSS.out.below hb4)
    clear hb4
    go_wp2_with fail
    refine (HCK.out _ HB4.out).mono ?_
    rintro e w5 ⟨rfl, hb5⟩
    have HB5 := chain HB4 hb5
    have HSS5 := Lib.hid (HSS4.out.below hb5)
    clear hb5
    go_wp2_with fail
    refine (tdepth_any [] _ _ (HS.out.below HB5.out) HSS5.out (fun n hn => by cases hn)).mono ?_
    rintro e w6 ⟨rfl, hb6⟩
    have HB6 := chain HB5 hb6
    clear hb6
    obtain ⟨x1, hx1⟩ : ∃ x, dpt [] = x := ⟨_, rfl⟩
    obtain ⟨x2, hx2⟩ : ∃ x, chk [] = x := ⟨_, rfl⟩
    rw [hx1, hx2]
    clear hx1 hx2
    rcases hdc with ⟨_, h1⟩ | ⟨h1, h2⟩
    · go_wp2_with fail
      go_ret
      exact ⟨by simp, HB6.out⟩
    · go_wp2_with fail
      go_ret
      exact ⟨by simp, HB6.out⟩
  · have hb1 : T.dep ≠ 60 := fun h => hbig (.inl h)
    have hb2 : lt ≠ 4000 := fun h => hbig (.inr h)
    rw [if_neg hb2, if_neg hb1] at hme
    subst hme
    rw [if_pos rfl] at hs
    have h1 : ((T.dep : Int) == 60) = false := by rw [beq_eq_false_iff_ne]; omega
    have h2 : ((lt : Int) == 4000) = false := by rw [beq_eq_false_iff_ne]; omega
    have hcs : chk (t ++ [sucN]) = 0 := by rw [chk_suc hw (by rw [HLT.out]; exact hl4) hd6, HLT.out, if_neg hb2, if_neg hb1]
    have hdd := hds hcs
    have hfl : [t].flatten ++ [sucN] = t ++ [sucN] := by simp
    rw [hfl] at hs
    have hll : (t ++ [sucN]).length = lt + 1 := by simp [HLT.out]
    have hsm : SmallN (t ++ [sucN]) := by
      intro n hn
      rcases List.mem_append.1 hn with hn | hn
      · exact HST.out n hn
      · simp at hn; subst hn; show (0 : Nat) ≤ maxLen; omega
    obtain ⟨g, hg⟩ : ∃ g, t ++ [sucN] = g := ⟨_, rfl⟩
    rw [hg] at hs hcs hdd hll hsm
    obtain ⟨sa, sc, rfl⟩ := ReadN.len_slice hs
    rw [hll] at hs ⊢
    have HSS := Lib.hid hs
    have HDD := Lib.hid hdd
    have HCS := Lib.hid hcs
    have HAPP : Hid (∀ w' : World, ∀ x, ReadN w' x (if makeE appN [t, u] = 0 then [t, u].flatten ++ [appN] else []) → makeE appN [t, u] = 0 → ∃ a c, x = .slice a (lt + lu + 1) c) := by
      show ∀ w' : World, _
      intro w' x hx he
      rw [if_pos he] at hx
      obtain ⟨a, c, h⟩ := ReadN.len_slice hx
      have : ([t, u].flatten ++ [appN]).length = lt + lu + 1 := by simp [HLT.out, HLU.out]; omega
      rw [this] at h
      exact ⟨a, c, h⟩
    clear hs hdd hcs hfl hll hg hds hw hbig hb1 hb2
    go_wp2_with fail
    refine (HDP.out _ HB3.out).mono ?_
    rintro e w4 ⟨rfl, hb4⟩
    have HB4 := chain HB3 hb4
    have HSS4 := Lib.hid (HSS.out.below hb4)
    clear hb4
    go_wp2_with fail
    refine (HCK.out _ HB4.out).mono ?_
    rintro e w5 ⟨rfl, hb5⟩
    have HB5 := chain HB4 hb5
    have HSS5 := Lib.hid (HSS4.out.below hb5)
    clear hb5
    go_wp2_with fail
    refine (tdepth_any g _ _ (HS.out.below HB5.out) HSS5.out hsm).mono ?_
    rintro e w6 ⟨rfl, hb6⟩
    rw [HDD.out, HCS.out]
    have HB6 := chain HB5 hb6
    clear hb6
    go_wp2_with fail
    refine (HMA.out _ HB6.out).mono ?_
    rintro e w7 ⟨x, rfl, hx, hb7⟩
    have HB7 : Hid (Below W.heap.size W w7) := (HB6.out.alloc HB6.out.size _).trans (hb7.mono (by have := HB6.out.size; simp; omega))
    have hax := HAPP.out _ x hx
    clear hb7 hx
    obtain ⟨h, hh⟩ : ∃ h, makeE appN [t, u] = h := ⟨_, rfl⟩
    rw [hh] at hax ⊢
    clear hh HAPP HMA
    by_cases hz : h = 0
    · obtain ⟨ax, cx, rfl⟩ := hax hz
      subst hz
      clear hax
      go_wp2_with fail
      go_ret
      exact ⟨by simp, HB7.out⟩
    · have hzb : (h != 0) = true := by simpa using hz
      clear hax
      go_wp2_with fail
      go_ret
      exact ⟨by simp, HB7.out⟩

end Go.Proofs.YtjhgpifccleknaaDoor
