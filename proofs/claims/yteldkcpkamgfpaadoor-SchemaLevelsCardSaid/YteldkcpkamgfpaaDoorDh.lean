/- unfold.root, unfold.Kind: which kind of argument a type is; conditions: the strings' sizes; where the table of shapes lies as it is laid. -/
import Derived.Test.YteldkcpkamgfpaaDoorDg
import Derived.Deep.CutRange
namespace Go.Proofs.YteldkcpkamgfpaaDoor
set_option linter.unusedSimpArgs false
set_option linter.unusedVariables false
open Go.RowKit

theorem node_K (K N M : Int) (S : ByteArray) (w : World) : (Instr.field 30 (.agg #[.int .i64 K, .int .i64 N, .int .i64 M, .string S]) 0).run Tryd.prog w = .ok (.int .i64 K) w := by kernel_rfl

theorem uroot_any (l : List Nd) (nd : Nd) (v : Value) (w : World) (hv : ReadN w v l) (hl : l.getLast? = some nd) :
    Calls Tryd.prog 53 #[v] w fun e w' => e = .returned (.agg #[.int .i64 nd.K, .int .i64 nd.N, .int .i64 nd.M, .string nd.S]) ∧ Below w.heap.size w w' := by
  obtain ⟨_, ⟨h0, _⟩ | ⟨b, off, cap, rfl, hc1, hc2, hbw, hc⟩⟩ := ReadN.cases hv
  · subst h0; cases hl
  obtain ⟨c, hcl⟩ : ∃ c, l.length = c + 1 := ⟨l.length - 1, by have : l ≠ [] := (by rintro rfl; cases hl); have := List.length_pos_iff.2 this; omega⟩
  have hlast : l[c]? = some nd := by rw [List.getLast?_eq_getElem?, hcl] at hl; exact hl
  obtain ⟨hlt, hcn⟩ := List.getElem?_eq_some_iff.1 hlast
  obtain ⟨r0, r1, r2, r3⟩ := hc c hlt
  rw [hcn] at r0 r1 r2 r3
  rw [hcl] at hc1 ⊢
  have hc9 : cap ≤ 9223372036854775807 := by unfold maxLen at hc2; omega
  clear hc hv hl hlast hcn hlt hcl hc2
  go_enter Tryd.func53, Tryd.ntmps53
  go_wp2_with fail
  exact bodyPost_ret (v := .agg #[.int .i64 nd.K, .int .i64 nd.N, .int .i64 nd.M, .string nd.S]) (by simp [results, Tryd.results53, go_sem]) rfl ⟨rfl, (Below.refl _ _).alloc (Nat.le_refl _) _⟩

theorem pi_two {nd : Nd} {cs : List Tm} (h : (Tm.mk nd cs).wf = true) (hk : nd.K = 3) : ∃ a b, cs = [a, b] := by
  obtain ⟨hr, ha, _⟩ := wf_iff.1 h
  have h2 : arity nd = 2 := by unfold arity bnds; rw [hk]; rfl
  rw [h2] at ha
  match cs, ha with
  | [a, b], _ => exact ⟨a, b, rfl⟩
  | [], h => simp at h
  | [_], h => simp at h
  | _ :: _ :: _ :: _, h => simp at h

set_option maxHeartbeats 2000000 in
set_option maxRecDepth 100000 in
theorem kind_any (s : ByteArray) (t : List Nd) (v : Value) (w : World) (hS : ShapesAt w) (hv : ReadN w v t) (hs : SmallN t) :
    Calls Tryd.prog 31 #[.string s, v] w fun e w' => e = .returned (.int .i64 (kindN s t)) ∧ Below w.heap.size w w' := by
  have HS := Lib.hid hS
  have HV := Lib.hid hv
  have HM := Lib.hid hs
  obtain ⟨a0, n0, rfl⟩ := hv.len_slice
  clear hS hv hs
  by_cases hc : chk t = 0
  rotate_left
  · have hk : kindN s t = 0 := by unfold kindN; rw [if_neg hc]
    have hb : (chk t != 0) = true := by simpa using hc
    have HT := Lib.hid (tcheck_any t _ w HS.out HV.out HM.out)
    rw [hk]
    go_enter Tryd.func31, Tryd.ntmps31
    go_wp2_with (go_at_call 51; refine HT.out.mono ?_)
    rintro e w1 ⟨rfl, hb1⟩
    have HB1 := Lib.hid hb1
    clear hb1
    go_wp2_with fail
    go_ret
    exact ⟨rfl, HB1.out⟩
  obtain ⟨_, T, hT, _⟩ := chk_ok hc
  obtain ⟨nd, cs⟩ := T
  obtain ⟨hwf, hfl⟩ := whole_some hT
  have hlast : t.getLast? = some nd := by rw [← hfl, flat_mk]; simp
  have HT := Lib.hid (tcheck_any t _ w HS.out HV.out HM.out)
  rw [hc] at HT
  have HL := Lib.hid hlast
  have HW := Lib.hid hT
  have HF := Lib.hid hwf
  have HC := Lib.hid hc
  obtain ⟨q, hq⟩ : ∃ q, t.length = q := ⟨_, rfl⟩
  rw [hq] at HT HV ⊢
  have HA : Hid (∀ w', Below w.heap.size w w' → Calls Tryd.prog 30 #[.slice a0 q n0] w' (ArgsPost t w')) := Lib.hid (fun w' hb => targs_any t _ w' (HS.out.below hb) (HV.out.below hb) HM.out)
  have HE : Hid (∀ (w' : World) (l : List Nd) (x y : Value) (m : List Nd), ReadN w' x l → ReadN w' y m → Calls Tryd.prog 52 #[x, y] w' fun e w2 => e = .returned (.bool (decide (l = m))) ∧ Below w'.heap.size w' w2) := Lib.hid (fun w' l x y m h1 h2 => equal_any l m x y w' h1 h2)
  clear hc hT hwf hfl hlast hq
  obtain ⟨kn, hkn⟩ : ∃ k, kindN s t = k := ⟨_, rfl⟩
  rw [hkn]
  have HK : Hid (kn = if t = ownD s then 1 else if part2 t = some (ownD s) then 2 else 0) := Lib.hid (by rw [← hkn]; unfold kindN; rw [if_pos HC.out])
  clear hkn
  go_enter Tryd.func31, Tryd.ntmps31
  go_wp2_with (first | (go_at_call 51; refine HT.out.mono ?_) | (go_at_call 52; fail))
  rintro e w1 ⟨rfl, hb1⟩
  have HB1 := Lib.hid hb1
  clear hb1 HT
  obtain ⟨W, hW⟩ : ∃ m, w1.alloc (.cells #[.int .i64 25, .int .i64 0, .int .i64 0, .string s] 30) = m := ⟨_, rfl⟩
  have hbW : Below w.heap.size w W := by rw [← hW]; exact HB1.out.alloc HB1.out.size _
  have hown : ReadN W (.slice (some ⟨w1.heap.size, 0, none⟩) 1 1) (ownD s) := by
    rw [← hW]
    exact RowAt.lit (size := 4) w1 _ #[.int .i64 25, .int .i64 0, .int .i64 0, .string s] 1 rfl (by unfold maxLen; omega)
  have HBW := Lib.hid hbW
  have HO := Lib.hid hown
  clear hbW hown
  have hE1 := HE.out W t (.slice a0 q n0) _ (ownD s) (HV.out.below HBW.out) HO.out
  have HE1 := Lib.hid hE1
  clear hE1
  go_upto_region 4 with fail
  go_wp2_with (go_at_call 52; refine HE1.out.mono ?_)
  rintro e w2 ⟨rfl, hb2⟩
  have HB2 := Lib.hid (HBW.out.trans (hb2.mono HBW.out.size))
  have HO2 := Lib.hid (HO.out.below hb2)
  clear hb2 HE1 HO
  by_cases h1 : t = ownD s
  · rw [decide_eq_true h1]
    have hk : kn = 1 := by rw [HK.out, if_pos h1]
    subst hk
    clear h1 HK
    go_wp2_with fail
    go_ret
    exact ⟨rfl, HB2.out⟩
  rw [decide_eq_false h1]
  have hk2 : kn = if part2 t = some (ownD s) then 2 else 0 := by rw [HK.out, if_neg h1]
  have HK2 := Lib.hid hk2
  clear hk2 h1 HK
  have hfk := node_K nd.K nd.N nd.M nd.S
  have hroot := uroot_any t nd (.slice a0 q n0) w2 (HV.out.below HB2.out) HL.out
  have HR := Lib.hid hroot
  clear hroot
  go_wp2_with (go_at_call 53; refine HR.out.mono ?_)
  rintro e w3 ⟨rfl, hb3⟩
  have HB3 := Lib.hid (HB2.out.trans (hb3.mono HB2.out.size))
  have HO3 := Lib.hid (HO2.out.below hb3)
  clear hb3 HR HO2
  by_cases h3 : nd.K = 3
  rotate_left
  · have hb : (nd.K == 3) = false := by simpa using h3
    have hk : kn = 0 := by
      rw [HK2.out, if_neg]
      unfold part2
      rw [HW.out]
      rcases cs with _ | ⟨a, _ | ⟨b, r⟩⟩ <;> simp [h3]
    subst hk
    clear h3
    go_wp2_with fail
    go_ret
    exact ⟨rfl, HB3.out⟩
  obtain ⟨A, B, rfl⟩ := pi_two HF.out h3
  have hp2 : part2 t = some B.flat := by unfold part2; rw [HW.out]; simp [h3]
  have HP2 := Lib.hid hp2
  have hb : (nd.K == 3) = true := by simpa using h3
  have hargs := HA.out w3 HB3.out
  have HAR := Lib.hid hargs
  clear h3 hp2 hargs
  go_wp2_with (go_at_call 30; refine HAR.out.mono ?_)
  rintro e w4 ⟨v4, rfl, hok, _, hb4⟩
  obtain ⟨nd', cs', hwh, hr⟩ := hok HC.out
  have hcs : cs' = [A, B] := by
    have e := HW.out.symm.trans hwh
    injection e with e
    injection e with _ e
    exact e.symm
  subst hcs
  have HB4 := Lib.hid (HB3.out.trans (hb4.mono HB3.out.size))
  have HO4 := Lib.hid (HO3.out.below hb4)
  rw [HC.out]
  clear hb4 HAR HO3 hok hwh
  obtain ⟨_, ⟨h0, _⟩ | ⟨b, off, cap, rfl, hbw⟩⟩ := hr.shape
  · cases h0
  obtain ⟨a1, c1, g1, r1⟩ := hr.at (i := 1) (by simp)
  have r1' : ReadN w4 (.slice a1 B.flat.length c1) B.flat := r1
  have g1' : w4.cell? ⟨b, off + 1, none⟩ = some (.slice a1 B.flat.length c1) := g1
  obtain ⟨p, hp⟩ : ∃ p, B.flat.length = p := ⟨_, rfl⟩
  rw [hp] at g1' r1'
  have hE2 := HE.out w4 B.flat _ _ (ownD s) r1' HO4.out
  have HE2 := Lib.hid hE2
  clear r1 r1' g1 hr hp hE2
  go_upto_region 8 with fail
  go_wp2_with (go_at_call 52; refine HE2.out.mono ?_)
  rintro e w5 ⟨rfl, hb5⟩
  have HB5 := Lib.hid (HB4.out.trans (hb5.mono HB4.out.size))
  clear hb5 HE2
  by_cases h2 : B.flat = ownD s
  · rw [decide_eq_true h2]
    have hk : kn = 2 := by rw [HK2.out, HP2.out, h2, if_pos rfl]
    subst hk
    clear h2
    go_wp2_with fail
    go_ret
    exact ⟨rfl, HB5.out⟩
  · rw [decide_eq_false h2]
    have hk : kn = 0 := by rw [HK2.out, HP2.out, if_neg (fun e => h2 (Option.some.inj e))]
    subst hk
    clear h2
    go_wp2_with fail
    go_ret
    exact ⟨rfl, HB5.out⟩

end Go.Proofs.YteldkcpkamgfpaaDoor
