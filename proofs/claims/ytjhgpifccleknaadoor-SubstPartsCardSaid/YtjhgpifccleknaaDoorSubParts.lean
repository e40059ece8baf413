/- The walk of SubstParts: it comes to true for every input. -/
import Derived.Test.YtjhgpifccleknaaDoorSubUnused
import Derived.Test.YtjhgpifccleknaaDoorShParts
namespace Go.Proofs.YtjhgpifccleknaaDoor
set_option linter.unusedSimpArgs false
set_option linter.unusedVariables false
open Go.RowKit Go.BigFrame

set_option maxRecDepth 20000 in
set_option maxHeartbeats 4000000 in
theorem parts4_walk (W : World) (t : List Nd) (vt : Value) (ht : ReadN W vt t) (hst : SmallN t) (k0 : Int) (hk0 : (Lit.int .u8 k0).wf = true) (u : List Nd) (vu : Value) (hu : ReadN W vu u) (hsu : SmallN u) (hS : ShapesAt W) :
    Calls Tryd.prog 15 #[vt, .int .u8 k0, vu] W fun e W' => e = .returned (.bool true) ∧ Below W.heap.size W W' := by
  obtain ⟨ku, rfl, hku⟩ := u8_nat hk0
  obtain ⟨at_, ct, rfl⟩ := ReadN.len_slice ht
  obtain ⟨au, cu, rfl⟩ := ReadN.len_slice hu
  have HSW : Hid (∀ x, Below W.heap.size W x → ShapesAt x) := fun x hb => hS.below hb
  have HTW : Hid (∀ x, Below W.heap.size W x → ReadN x (.slice at_ t.length ct) t) := fun x hb => ht.below hb
  have HUW : Hid (∀ x, Below W.heap.size W x → ReadN x (.slice au u.length cu) u) := fun x hb => hu.below hb
  have HST := Lib.hid hst
  have HSU := Lib.hid hsu
  have HSH : Hid (∀ w', Below W.heap.size W w' → Calls Tryd.prog 51 #[] w' fun e w9 => e = .returned (.bool true) ∧ Below w'.heap.size w' w9) := fun w' hb => shown4_any w' (HSW.out _ hb)
  have HB0 : Hid (Below W.heap.size W W) := Below.refl _ _
  have HVT := Lib.hid (heavy4_any t _ W ht hst)
  have HVU := Lib.hid (heavy4_any u _ W hu hsu)
  clear ht hS hst hk0 hu hsu
  have fK := Tryd.nodeK'
  refine callsIn_wide.1 (callsIn_of_wp (F := Fence.wide) (n := 3) Tryd.func15 rfl trivial ?_ rfl)
  simp only [Tryd.ntmps15, List.size_toArray, List.length_cons, List.length_nil, Nat.reduceAdd, Nat.reduceSub, Array.replicate_succ, Array.replicate_zero, List.push_toArray, List.append_toArray, List.nil_append, List.cons_append]
  gi_wp2_with fail
  refine enterW2 HVT.out ?_
  rintro e w1 ⟨⟨b1, rfl, hn1⟩, rfl⟩
  cases b1
  rotate_left
  · gi_wp2_with fail
    refine ⟨trivial, ?_⟩
    gi_wp2_with fail
    refine ⟨trivial, ?_⟩
    gi_wp2_with fail
    refine enterW2 (HSH.out _ HB0.out) ?_
    rintro e w2 ⟨rfl, hb2⟩
    gi_wp2_with fail
    exact bodyPost_ret (results_tmp rfl _ _ _) rfl ⟨rfl, hb2⟩
  have hl200 := hn1 rfl
  clear hn1
  gi_wp2_with fail
  refine enterW2 HVU.out ?_
  rintro e w1 ⟨⟨b1, rfl, hn1⟩, rfl⟩
  cases b1
  rotate_left
  · gi_wp2_with fail
    refine ⟨trivial, ?_⟩
    gi_wp2_with fail
    refine enterW2 (HSH.out _ HB0.out) ?_
    rintro e w2 ⟨rfl, hb2⟩
    gi_wp2_with fail
    exact bodyPost_ret (results_tmp rfl _ _ _) rfl ⟨rfl, hb2⟩
  clear hn1
  gi_wp2_with fail
  refine enterW2 (HSH.out _ HB0.out) ?_
  rintro e w2 ⟨rfl, hb2⟩
  have HB2 := chain HB0 hb2
  clear hb2
  obtain ⟨kn, hkn⟩ : ∃ kn : Nat, (ku : Int) % 10 = (kn : Int) := ⟨ku % 10, by simp⟩
  have hk9 : kn ≤ 9 := by omega
  have HHK := Lib.hid hkn
  clear hkn
  gi_wp2_with fail
  try rw [HHK.out]
  refine enterW2 (subst_law t u _ _ (kn : Int) w2 (HSW.out _ HB2.out) (HTW.out _ HB2.out) HST.out (HUW.out _ HB2.out) HSU.out) ?_
  rintro e w3 ⟨a3, c3, rfl, hr3, hb3⟩
  have HB3 := chain HB2 hb3
  clear hb3
  obtain ⟨E, hE⟩ : ∃ E, subE (kn : Int) u t = E := ⟨_, rfl⟩
  obtain ⟨L, hL⟩ : ∃ L, subL (kn : Int) u t = L := ⟨_, rfl⟩
  rw [hL] at hr3
  rw [hE, hL]
  have HE := Lib.hid hE
  have HL := Lib.hid hL
  have HR3 := Lib.hid hr3
  clear hE hL hr3
  gi_wp2_with fail
  try rw [HHK.out]
  refine enterW2 (rsubst_law t u _ _ (kn : Int) w3 (HTW.out _ HB3.out) HST.out (HUW.out _ HB3.out) HSU.out (by omega)) ?_
  rintro e w4 ⟨a4, c4, rfl, hr4, hb4⟩
  have HR4 := Lib.hid (HR3.out.below hb4)
  have HB4 := chain HB3 hb4
  rw [HE.out, HL.out]
  clear hb4 hr4 HR3
  by_cases h0 : E = 0
  rotate_left
  · have hEb : (E != 0) = true := by simpa using h0
    have hEb2 : (E == 0) = false := by simpa using h0
    have hL0 : L = [] := by rw [← HL.out]; exact subL_bad (by rw [HE.out]; exact h0)
    subst hL0
    gi_wp2_with fail
    refine ⟨trivial, ?_⟩
    gi_wp2_with fail
    exact bodyPost_ret (results_tmp rfl _ _ _) rfl ⟨rfl, HB4.out⟩
  subst h0
  have HC : Hid (chk t = 0) := by
    obtain ⟨_, _, _, _, h, _⟩ := sub_fine HE.out
    exact h
  obtain ⟨hle, T, hw, _⟩ := chk_ok HC.out
  obtain ⟨nd, cs⟩ := T
  obtain ⟨hwf, hfl⟩ := whole_some hw
  have hlast : t.getLast? = some nd := by rw [← hfl]; exact flat_last _
  have hsz : nd.S.size ≤ maxLen := HST.out nd (List.mem_of_getLast? hlast)
  have HRT : Hid (∀ x, Below W.heap.size W x → Calls Tryd.prog 41 #[.slice at_ t.length ct] x fun e x' => e = .returned (.agg #[.int .i64 nd.K, .int .i64 nd.N, .int .i64 nd.M, .string nd.S]) ∧ Below x.heap.size x x') := fun x hb => root_any t nd _ x (HTW.out x hb) hlast
  have HFL := Lib.hid hfl
  have HWF := Lib.hid hwf
  have HHW := Lib.hid hw
  have HSZ := Lib.hid hsz
  clear hlast hfl hwf hw hsz
  gi_wp2_with fail
  refine enterW2 (HRT.out _ HB4.out) ?_
  rintro e w5 ⟨rfl, hb5⟩
  have HR5 := Lib.hid (HR4.out.below hb5)
  have HB5 := chain HB4 hb5
  clear hb5 HR4
  by_cases hK : nd.K = 0
  · have hkb : (nd.K == 0) = true := by simpa using hK
    gi_wp2_with fail
    exact bodyPost_ret (results_tmp rfl _ _ _) rfl ⟨rfl, HB5.out⟩
  have hkb : (nd.K == 0) = false := by simpa using hK
  have hb2 : ∀ i, (bnds nd).getD i 0 ≤ 2 := by
    intro i
    rw [List.getD_eq_getElem?_getD]
    cases h : (bnds nd)[i]? with
    | none => simp
    | some y => exact bnds_two (wf_iff.1 HWF.out).1 _ (List.mem_of_getElem? h)
  obtain ⟨ds, hdw, hdl, hcl, hpt⟩ := law_parts HE.out HHW.out hK (by omega) hb2
  rw [HL.out] at hdw hcl
  obtain ⟨hdwf, hdfl⟩ := whole_some hdw
  have hdlast : L.getLast? = some nd := by rw [← hdfl]; exact flat_last _
  have hLlen : L.length ≤ 4000 := (chk_ok hcl).1
  have HSL : Hid (SmallN L) := by
    show SmallN L
    rw [← HL.out]
    exact subL_small HST.out HSU.out
  have hr := (wf_iff.1 HWF.out).1
  have har := (wf_iff.1 HWF.out).2.1
  have hm4 : cs.length ≤ 4000 := by
    have h1 := flatL_ge cs
    have h2 : (Tm.mk nd cs).flat.length = (flatL cs).length + 1 := by (rw [flat_mk, List.length_append]; rfl)
    rw [HFL.out] at h2
    omega
  have HPA := Lib.hid (refparts_any nd cs (.slice at_ t.length ct) w5 HWF.out (by rw [HFL.out]; exact HTW.out _ HB5.out) (by rw [HFL.out]; exact HST.out) (by rw [HFL.out]; exact hle))
  have HPB : Hid (∀ x, ReadN x (.slice a3 L.length c3) L → Calls Tryd.prog 42 #[.slice a3 L.length c3] x (PartsPost ds x)) := by
    show ∀ x, _
    intro x hx
    exact refparts_any nd ds (.slice a3 L.length c3) x hdwf (by rw [hdfl]; exact hx) (by rw [hdfl]; exact HSL.out) (by rw [hdfl]; exact hLlen)
  have HRU : Hid (∀ x, ReadN x (.slice a3 L.length c3) L → Calls Tryd.prog 41 #[.slice a3 L.length c3] x fun e x' => e = .returned (.agg #[.int .i64 nd.K, .int .i64 nd.N, .int .i64 nd.M, .string nd.S]) ∧ Below x.heap.size x x') := fun x hx => root_any L nd _ x hx hdlast
  have HRR := Lib.hid hr
  have HAR := Lib.hid har
  have HDL := Lib.hid hdl
  have HPT := Lib.hid hpt
  clear hdw hdwf hdfl hdlast hLlen hr har hdl hpt hK hb2 hcl
  gi_wp2_with fail
  refine enterW2 HPA.out ?_
  rintro e w6 ⟨pa, pc, rfl, hnn, hb6⟩
  have HR6 := Lib.hid (HR5.out.below hb6)
  have HB6 := chain HB5 hb6
  have HNN := Lib.hid hnn
  clear hb6 hnn HPA HR5
  gi_wp2_with fail
  refine enterW2 (HPB.out _ HR6.out) ?_
  rintro e w7 ⟨qa, qc, rfl, hnq, hb7⟩
  rw [HDL.out] at hnq ⊢
  have HR7 := Lib.hid (HR6.out.below hb7)
  have HB7 := chain HB6 hb7
  have HNN := Lib.hid (HNN.out.below hb7)
  have HNQ := Lib.hid hnq
  clear hb7 hnq HPB HR6
  gi_wp2_with fail
  refine enterW2 (HRT.out _ HB7.out) ?_
  rintro e w8 ⟨rfl, hb8⟩
  have HR8 := Lib.hid (HR7.out.below hb8)
  have HB8 := chain HB7 hb8
  have HNN := Lib.hid (HNN.out.below hb8)
  have HNQ := Lib.hid (HNQ.out.below hb8)
  clear hb8 HR7
  gi_wp2_with fail
  refine enterW2 (refbinds_any nd w8 HSZ.out) ?_
  rintro e w9 ⟨vb, lb, rfl, hvb, hlb, hb9⟩
  have hlb := hlb HRR.out
  rw [HRR.out]
  subst hlb
  obtain ⟨ba, bc, rfl, hrow, hbl⟩ := binds_row hvb HAR.out
  have HR9 := Lib.hid (HR8.out.below hb9)
  have HB9 := chain HB8 hb9
  have HNN := Lib.hid (HNN.out.below hb9)
  have HNQ := Lib.hid (HNQ.out.below hb9)
  have HROW := Lib.hid hrow
  have HBL := Lib.hid hbl
  clear hb9 hvb hrow hbl HR8
  gi_wp2_with fail
  refine enterW2 (HRT.out _ HB9.out) ?_
  rintro e w10 ⟨rfl, hb10⟩
  have HR10 := Lib.hid (HR9.out.below hb10)
  have HB10 := chain HB9 hb10
  have HNN := Lib.hid (HNN.out.below hb10)
  have HNQ := Lib.hid (HNQ.out.below hb10)
  have HROW := Lib.hid (HROW.out.below hb10)
  clear hb10 HR9
  gi_wp2_with fail
  refine enterW2 (HRU.out _ HR10.out) ?_
  rintro e w11 ⟨rfl, hb11⟩
  have HR11 := Lib.hid (HR10.out.below hb11)
  have HB11 := chain HB10 hb11
  have HNN := Lib.hid (HNN.out.below hb11)
  have HNQ := Lib.hid (HNQ.out.below hb11)
  have HROW := Lib.hid (HROW.out.below hb11)
  clear hb11 HR10
  gi_wp2_with fail
  gi_loopw [16] (fun i wr => PartsRel3 W w11 cs i wr) (fun i _ => cs.length - (intOf i).toNat)
  case atStart => exact ⟨0, Nat.zero_le _, rfl, HB11.out, Below.refl _ _⟩
  case round =>
    rename World => wa
    obtain ⟨j, hj, rfl, hb, hbb⟩ := hrel
    have HB := Lib.hid hb; clear hb
    have HBB := Lib.hid hbb; clear hbb
    by_cases hlt : j < cs.length
    · obtain ⟨pb, po, a1, c1, rfl, hpb, g1, r1⟩ := kid_at (HNN.out.below HBB.out) hlt
      have hnq := HNQ.out.below HBB.out
      obtain ⟨gb, ob, rfl, hgb, g2⟩ := bind_at (HROW.out.below HBB.out) hlt HBL.out
      have hdj : j < ds.length := by rw [HDL.out]; exact hlt
      rw [← HDL.out] at hnq
      obtain ⟨qb, qo, a2, c2, rfl, hqb, g3, r3⟩ := kid_at hnq hdj
      obtain ⟨hp1, hp2⟩ := HPT.out j hlt hdj
      obtain ⟨hpk, hpw, hpm⟩ := part_ok HC.out HHW.out hlt
      obtain ⟨y, hy⟩ : ∃ y, (bnds nd).getD j 0 = y := ⟨_, rfl⟩
      have hy2 : y ≤ 2 := by
        rw [← hy, List.getD_eq_getElem?_getD, List.getElem?_eq_getElem (by rw [HBL.out]; exact hlt)]
        exact bnds_two HRR.out _ (List.getElem_mem _)
      rw [hy] at g2 hp1 hp2
      have HCX : Hid (∀ m, Calls Tryd.prog 52 #[.slice a1 (cs[j]).flat.length c1, .int .i64 ((kn : Int) + (y : Int)), .slice au u.length cu] (wa.drewN m) fun e w' => ∃ a c, e = .returned (.tuple #[.slice a (ds[j]).flat.length c, .int .i64 0]) ∧ ReadN w' (.slice a (ds[j]).flat.length c) (ds[j]).flat ∧ Below wa.heap.size wa w') := by
        show ∀ m, _
        intro m
        have h := subst_law (cs[j]).flat u (.slice a1 (cs[j]).flat.length c1) (.slice au u.length cu) ((kn : Int) + (y : Int)) (wa.drewN m) (HSW.out _ (below_drewN HB.out m)) (RowAt.drewN r1 m) (fun n hn => HST.out n (hpm n hn)) (HUW.out _ (below_drewN HB.out m)) HSU.out
        unfold GotPost at h
        rw [hp1, hp2] at h
        exact h.mono fun e w' ⟨a, c, h1, h2, h3⟩ => ⟨a, c, h1, h2, (below_drewN (Below.refl _ wa) m).trans h3⟩
      obtain ⟨q, hq⟩ : ∃ q, (cs[j]).flat.length = q := ⟨_, rfl⟩
      obtain ⟨l2, hl2⟩ : ∃ l, (ds[j]).flat = l := ⟨_, rfl⟩
      rw [hq] at g1 HCX
      rw [hl2] at g3 HCX r3
      have HR3' := Lib.hid r3
      clear hp1 hp2 hpk hpw hpm hy hq hl2 r1 r3 hnq
      gi_wp2_with fail
      refine wpIn_region_mid 11 (by kernel_rfl) (by kernel_rfl) (by kernel_rfl) ?_
      simp only [List.take_succ_cons, List.take_zero, List.drop_succ_cons, List.drop_zero]
      repeat (first | gi_big_quiet_skip | (gi_big_quiet_want; gi_big_quiet_op; go_big_quiet_on))
      refine wpQuietIn_nil ?_
      intro mq
      gi_wp2_with fail
      refine enterW2 (HCX.out mq) ?_
      rintro e w12 ⟨a12, c12, rfl, hr12, hb12⟩
      have HR12 := Lib.hid hr12
      have HB12 := Lib.hid hb12
      clear hr12 hb12
      gi_wp2_with fail
      repeat (first | gi_big_quiet_skip | (gi_big_quiet_want; gi_big_quiet_op; go_big_quiet_on))
      refine wpQuietIn_nil ?_
      rintro w13' ⟨rq, rfl⟩
      obtain ⟨w13, hw13⟩ : ∃ w13, w12.drewN rq = w13 := ⟨_, rfl⟩
      have hb13 : Below wa.heap.size wa w13 := by rw [← hw13]; exact below_drewN HB12.out rq
      have hr13 : ReadN w13 (.slice a12 l2.length c12) l2 := by rw [← hw13]; exact RowAt.drewN HR12.out rq
      rw [hw13]
      have g3' := (hb13.cell (p := ⟨qb, qo + j, none⟩) hqb).trans g3
      have HR13 := Lib.hid hr13
      have HR3b := Lib.hid (HR3'.out.below hb13)
      have HB13 := chainB HB hb13
      have HBB13 := chainB HBB hb13
      rw [HDL.out] at *
      clear hw13 hb13 hr13 HCX g1 g2 g3
      gi_wp2_with fail
      refine enterW2 (same_law l2 _ _ _ HR13.out HR3b.out) ?_
      rintro e w14 ⟨rfl, hb14⟩
      have HB14 := chainB HB13 hb14
      have HBB14 := chainB HBB13 hb14
      clear hb14
      gi_wp2_with fail
      exact ⟨⟨j + 1, by omega, by go_num, HB14.out, HBB14.out⟩, by simp [intOf]; omega⟩
    · obtain rfl : j = cs.length := by omega
      gi_wp2_with fail
      exact bodyPost_ret (results_tmp rfl _ _ _) rfl ⟨rfl, HB.out⟩

end Go.Proofs.YtjhgpifccleknaaDoor
