/- TermPaths' walk. -/
import Derived.Test.YtjhgpifccleknaaDoorChecks
namespace Go.Proofs.YtjhgpifccleknaaDoor
set_option linter.unusedSimpArgs false
set_option linter.unusedVariables false
open Go.RowKit

theorem partE_zero {l : List Nd} {p : List Int} (h : partE l p = 0) : chk l = 0 ∧ ∃ T u, whole l = some T ∧ walkP T p = some u := by
  unfold partE at h
  split at h
  · rename_i hk
    refine ⟨hk, ?_⟩
    cases hw : whole l with
    | none => rw [hw] at h; simp at h
    | some T =>
      rw [hw] at h
      cases hp : walkP T p with
      | none => simp [hp] at h
      | some u => exact ⟨T, u, rfl, hp⟩
  · contradiction
theorem part_fails {l : List Nd} {a b : List Int} (h : partE l a ≠ 0) : partE l (a ++ b) = partE l a ∧ partL l a = [] ∧ partL l (a ++ b) = [] := by
  by_cases hk : chk l = 0
  · obtain ⟨_, T, hw, _⟩ := chk_ok hk
    cases hp : walkP T a with
    | none =>
      have h2 : walkP T (a ++ b) = none := by rw [walkP_append, hp]; rfl
      obtain ⟨e1, e2⟩ := partE_none hk hw hp
      obtain ⟨e3, e4⟩ := partE_none hk hw h2
      exact ⟨by rw [e1, e3], e2, e4⟩
    | some u => exact absurd (partE_ok hk hw hp).1 h
  · unfold partE partL
    rw [if_neg hk, if_neg hk, if_neg hk, if_neg hk]
    exact ⟨rfl, rfl, rfl⟩
theorem part_laws {l : List Nd} {a b : List Int} (h : partE l a = 0) : (partE l (a ++ b) = partE (partL l a) b ∧ partL l (a ++ b) = partL (partL l a) b) ∧ chk l = 0 ∧ chk (partL l a) = 0 ∧ dpt (partL l a) + (a.length : Int) ≤ dpt l ∧ (SmallN l → SmallN (partL l a)) := by
  obtain ⟨hk, T, u, hw, hp⟩ := partE_zero h
  obtain ⟨hwf, hfl⟩ := whole_some hw
  obtain ⟨hl, T', hw', hd⟩ := chk_ok hk
  rw [hw] at hw'
  obtain rfl : T = T' := Option.some.inj hw'
  obtain ⟨huw, hul, hud, hum⟩ := walkP_wf hwf hp
  have e2 := (partE_ok hk hw hp).2
  rw [e2]
  have hwu : whole u.flat = some u := whole_flat huw
  have hku : chk u.flat = 0 := by rw [chk_flat huw, if_neg (by rw [hfl] at hul; omega), if_neg (by omega)]
  have hdl : dpt l = (T.dep : Int) := by unfold dpt; rw [if_pos hk, hw]
  have hdu : dpt u.flat = (u.dep : Int) := by unfold dpt; rw [if_pos hku, hwu]
  refine ⟨?_, hk, hku, by rw [hdl, hdu]; omega, fun hs n hn => hs n (by rw [← hfl]; exact hum n hn)⟩
  cases hb : walkP u b with
  | none =>
    have h2 : walkP T (a ++ b) = none := by rw [walkP_append, hp]; exact hb
    obtain ⟨e3, e4⟩ := partE_none hk hw h2
    obtain ⟨e5, e6⟩ := partE_none hku hwu hb
    exact ⟨by rw [e3, e5], by rw [e4, e6]⟩
  | some x =>
    have h2 : walkP T (a ++ b) = some x := by rw [walkP_append, hp]; exact hb
    obtain ⟨e3, e4⟩ := partE_ok hk hw h2
    obtain ⟨e5, e6⟩ := partE_ok hku hwu hb
    exact ⟨by rw [e3, e5], by rw [e4, e6]⟩
theorem ints_one (a : List Int) : ∀ u, u ∈ a.map (Value.int .i64) → u.oneCell' = true := by
  intro u hu
  obtain ⟨x, _, rfl⟩ := List.mem_map.1 hu
  rfl

set_option maxRecDepth 20000 in
set_option maxHeartbeats 4000000 in
theorem paths_walk (W : World) (t : List Nd) (vt : Value) (ht : ReadN W vt t) (hst : SmallN t) (a : List Int) (va : Value) (ha : ReadI W va a) (b : List Int) (vb : Value) (hb : ReadI W vb b) (hS : ShapesAt W) :
    Calls Tryd.prog 4 #[vt, va, vb] W fun e W' => e = .returned (.bool true) ∧ Below W.heap.size W W' := by
  obtain ⟨i0, hi, hz0, hz1, hz2⟩ := info_parts Tryd.infoInt
  obtain ⟨at_, ct, rfl⟩ := ReadN.len_slice ht
  obtain ⟨aa, ca, rfl⟩ := ReadI.len_slice ha
  obtain ⟨ab, cb, rfl⟩ := ReadI.len_slice hb
  have HSW : Hid (∀ x, Below W.heap.size W x → ShapesAt x) := fun x hb => hS.below hb
  have HTW : Hid (∀ x, Below W.heap.size W x → ReadN x (.slice at_ t.length ct) t) := fun x hb => ht.below hb
  have HAW : Hid (∀ x, Below W.heap.size W x → ReadI x (.slice aa a.length ca) a) := fun x hb => ha.below hb
  have HBW : Hid (∀ x, Below W.heap.size W x → ReadI x (.slice ab b.length cb) b) := fun x h => hb.below h
  have HST := Lib.hid hst; clear hst
  have HSH : Hid (∀ w', Below W.heap.size W w' → Calls Tryd.prog 21 #[] w' fun e w9 => e = .returned (.bool true) ∧ Below w'.heap.size w' w9) := fun w' hb => shown2_any w' (HSW.out _ hb)
  have HB0 : Hid (Below W.heap.size W W) := Below.refl _ _
  have HVT := Lib.hid (heavy2_any t _ W ht)
  have ha9 : a.length ≤ 9223372036854775807 := by have := RowAt.small ha; unfold maxLen at this; omega
  have hb9 : b.length ≤ 9223372036854775807 := by have := RowAt.small hb; unfold maxLen at this; omega
  obtain ⟨la, hla⟩ : ∃ n, a.length = n := ⟨_, rfl⟩
  obtain ⟨lb, hlb⟩ : ∃ n, b.length = n := ⟨_, rfl⟩
  have HLA := Lib.hid hla
  have HLB := Lib.hid hlb
  rw [hla] at ha9 HAW ⊢
  rw [hlb] at hb9 HBW ⊢
  clear ht hS ha hb hla hlb
  go_enter Tryd.func4, Tryd.ntmps4
  go_wp2_with fail
  refine HVT.out.mono ?_
  rintro e w1 ⟨⟨b1, rfl, hn1⟩, rfl⟩
  clear hn1
  cases b1
  rotate_left
  · go_wp2_with fail
    refine (HSH.out _ HB0.out).mono ?_
    rintro e w2 ⟨rfl, hb2⟩
    go_wp2_with fail
    go_ret
    exact ⟨rfl, hb2⟩
  by_cases h40 : la > 40
  · have hd : decide ((la : Int) > 40) = true := by simp; omega
    go_wp2_with fail
    refine (HSH.out _ HB0.out).mono ?_
    rintro e w2 ⟨rfl, hb2⟩
    go_wp2_with fail
    go_ret
    exact ⟨rfl, hb2⟩
  have hd : decide ((la : Int) > 40) = false := by simp; omega
  by_cases h41 : lb > 40
  · have hd2 : decide ((lb : Int) > 40) = true := by simp; omega
    go_wp2_with fail
    refine (HSH.out _ HB0.out).mono ?_
    rintro e w2 ⟨rfl, hb2⟩
    go_wp2_with fail
    go_ret
    exact ⟨rfl, hb2⟩
  have hd2 : decide ((lb : Int) > 40) = false := by simp; omega
  go_wp2_with fail
  refine (HSH.out _ HB0.out).mono ?_
  rintro e w2 ⟨rfl, hb2⟩
  have HB2 := chain HB0 hb2
  clear hb2 hd hd2
  have HAW' : Hid (∀ x, Below W.heap.size W x → ReadI x (.slice aa la ca) a) := HAW
  obtain ⟨pe, hpe⟩ : ∃ c, partE t a = c := ⟨_, rfl⟩
  have HPE := Lib.hid hpe; clear hpe
  go_wp2_with fail
  refine (tpart_any t a _ _ w2 (HSW.out _ HB2.out) (HTW.out _ HB2.out) HST.out (HAW.out _ HB2.out)).mono ?_
  intro e w3 hpost
  obtain ⟨a3, c3, rfl, hr3, hb3⟩ := part_of hpost
  rw [HPE.out]
  have HR3 := Lib.hid hr3
  have HB3 := chain HB2 hb3
  clear hr3 hb3 hpost
  have hra := HAW.out _ HB3.out
  unfold ReadI at hra
  rw [HLA.out] at hra
  have hrb := fun x h => HBW.out x h
  unfold ReadI at hrb
  rw [HLB.out] at hrb
  have HRB : Hid (∀ x, Below W.heap.size W x → RowAt x 1 (.slice ab lb cb) lb (b.map (.int .i64))) := hrb
  clear hrb
  go_wp2_with (first
    | (at_builtin
       refine wpList_append_row rfl (.tmp 44) (.tmp 45) 25 rfl w3.heap.size 3 i0 (.int .i64 0) 1 8 Tryd.underlying25 hi hz0 hz1 hz2 rfl (by decide) (.slice (some ⟨w3.heap.size, 0, none⟩) 0 0) 0 [] rfl (World.ownsRow_lit w3 #[] 0 (Nat.le_refl _) (by unfold maxLen; omega) rfl) (.slice aa la ca) la (a.map (.int .i64)) rfl (hra.alloc _) (ints_one _) (by omega) (by unfold maxLen; omega) (by simp) ?_
       intro v5 w5 hown5 hg5 hat5
       rw [Nat.zero_add, List.nil_append] at hown5
       obtain ⟨ao, co, rfl, _⟩ := (RowAt.of_own hown5).form
       have hb5 : Below w3.heap.size w3 w5 := ((Below.refl _ w3).alloc (Nat.le_refl _) _).grown hg5 (by simp) (fun g hg => by simp [Value.ownBlock] at hg; omega)
       have HO5 := Lib.hid hown5
       have HB5 := Lib.hid hb5
       clear hown5 hg5 hat5 hb5)
    | (at_builtin
       refine wpList_append_row rfl (.tmp 47) (.tmp 48) 25 rfl w3.heap.size 3 i0 (.int .i64 0) 1 8 Tryd.underlying25 hi hz0 hz1 hz2 rfl (by decide) (.slice ao la co) la (a.map (.int .i64)) rfl HO5.out (.slice ab lb cb) lb (b.map (.int .i64)) rfl (HRB.out _ (HB3.out.trans (HB5.out.mono HB3.out.size))) (ints_one _) (by omega) (by unfold maxLen; omega) HB5.out.size ?_
       intro v6 w6 hown6 hg6 hat6
       obtain ⟨ao2, co2, rfl, _⟩ := (RowAt.of_own hown6).form
       have hb6 : Below w3.heap.size w3 w6 := HB5.out.grown hg6 HB5.out.size (fun g hg => (HO5.out.lt g hg).1)
       have HO6 := Lib.hid hown6
       have HB6 := Lib.hid hb6
       clear hown6 hg6 hat6 hb6))
  have HP6 : Hid (ReadI w6 (.slice ao2 (la + lb) co2) (a ++ b)) := by
    show ReadI _ _ _
    unfold ReadI
    rw [List.length_append, HLA.out, HLB.out, List.map_append]
    exact RowAt.of_own HO6.out
  have HR6 := Lib.hid (HR3.out.below HB6.out)
  have HB6' := chain HB3 HB6.out
  clear HO5 HB5 HO6 HB6 hra HR3 HAW'
  obtain ⟨pf, hpf⟩ : ∃ c, partE t (a ++ b) = c := ⟨_, rfl⟩
  have HPF := Lib.hid hpf; clear hpf
  have hpt := tpart_any t (a ++ b) (.slice at_ t.length ct) (.slice ao2 (la + lb) co2) w6 (HSW.out _ HB6'.out) (HTW.out _ HB6'.out) HST.out HP6.out
  have HPT := Lib.hid hpt; clear hpt
  refine HPT.out.mono ?_
  intro e w7 hpost
  obtain ⟨a7, c7, rfl, hr7, hb7⟩ := part_of hpost
  rw [HPF.out]
  have HR7 := Lib.hid hr7
  have HR6 := Lib.hid (HR6.out.below hb7)
  have HB7 := chain HB6' hb7
  clear hr7 hb7 hpost HPT
  go_wp2_with fail
  refine (refpart_any t a _ _ w7 (HTW.out _ HB7.out) HST.out (HAW.out _ HB7.out)).mono ?_
  intro e w8 hpost
  obtain ⟨a8, c8, rfl, _, hb8⟩ := part_of hpost
  rw [HPE.out]
  have HR6 := Lib.hid (HR6.out.below hb8)
  have HR7 := Lib.hid (HR7.out.below hb8)
  have HB8 := chain HB7 hb8
  clear hb8 hpost
  by_cases h0 : pe = 0
  rotate_left
  · obtain ⟨e1, e2, e3⟩ := part_fails (l := t) (a := a) (b := b) (by rw [HPE.out]; exact h0)
    rw [HPE.out, HPF.out] at e1
    subst e1
    have hz1' : (partL t a).length = 0 := by rw [e2]; rfl
    have hz2' : (partL t (a ++ b)).length = 0 := by rw [e3]; rfl
    rw [hz1', hz2']
    have hpn : (pf != 0) = true := by simpa using h0
    clear e2 e3 hz1' hz2' HR6 HR7
    go_wp2_with fail
    go_ret
    exact ⟨rfl, HB8.out⟩
  subst h0
  obtain ⟨⟨e1, e2⟩, e3, e4, e5, e6⟩ := part_laws (l := t) (a := a) (b := b) HPE.out
  rw [HPF.out] at e1
  rw [HLA.out] at e5
  have hsu := e6 HST.out
  obtain ⟨u, hu⟩ : ∃ u, partL t a = u := ⟨_, rfl⟩
  rw [hu] at e1 e2 e4 e5 hsu HR6 ⊢
  have HU := Lib.hid hsu
  have E1 := Lib.hid e1; have E2 := Lib.hid e2; have E3 := Lib.hid e3; have E4 := Lib.hid e4; have E5 := Lib.hid e5
  clear e1 e2 e3 e4 e5 e6 hsu hu
  go_wp2_with fail
  refine (tpart_any u b _ _ w8 (HSW.out _ HB8.out) HR6.out HU.out (HBW.out _ HB8.out)).mono ?_
  intro e w9 hpost
  obtain ⟨a9, c9, rfl, hr9, hb9⟩ := part_of hpost
  rw [← E1.out]
  rw [← E2.out] at hr9 ⊢
  have HR9 := Lib.hid hr9
  have HR6 := Lib.hid (HR6.out.below hb9)
  have HR7 := Lib.hid (HR7.out.below hb9)
  have HB9 := chain HB8 hb9
  clear hr9 hb9 hpost
  go_wp2_with fail
  refine (tdepth_any t _ w9 (HSW.out _ HB9.out) (HTW.out _ HB9.out) HST.out).mono ?_
  rintro e w10 ⟨rfl, hb10⟩
  rw [E3.out]
  have HR9 := Lib.hid (HR9.out.below hb10)
  have HR6 := Lib.hid (HR6.out.below hb10)
  have HR7 := Lib.hid (HR7.out.below hb10)
  have HB10 := chain HB9 hb10
  clear hb10
  go_wp2_with fail
  refine (tdepth_any u _ w10 (HSW.out _ HB10.out) HR6.out HU.out).mono ?_
  rintro e w11 ⟨rfl, hb11⟩
  rw [E4.out]
  have HSAME := Lib.hid (same_yes _ _ _ w11 (HR7.out.below hb11) (HR9.out.below hb11))
  have HB11 := chain HB10 hb11
  clear hb11 HR6 HR7 HR9
  obtain ⟨m, hm⟩ : ∃ m : Nat, dpt u = (m : Int) := ⟨(dpt u).toNat, by unfold dpt; split <;> (try split) <;> simp⟩
  obtain ⟨n, hn⟩ : ∃ n : Nat, dpt t = (n : Int) := ⟨(dpt t).toNat, by unfold dpt; split <;> (try split) <;> simp⟩
  have h60 : n ≤ 60 := by
    obtain ⟨_, T, hw, hd⟩ := chk_ok E3.out
    have hdl : dpt t = (T.dep : Int) := by unfold dpt; rw [if_pos E3.out, hw]
    omega
  have hmn := E5.out
  rw [hm, hn] at hmn
  rw [hm, hn]
  have hle : m + la ≤ n := by omega
  clear hm hn hmn E1 E2 E3 E4 E5
  go_wp2_with fail
  refine HSAME.out.mono ?_
  rintro e w12 ⟨rfl, n12, rfl⟩
  have hdl : decide ((m : Int) + (la : Int) ≤ (n : Int)) = true := by simp; omega
  go_wp2_with fail
  go_ret
  exact ⟨rfl, below_drewN HB11.out _⟩

end Go.Proofs.YtjhgpifccleknaaDoor
