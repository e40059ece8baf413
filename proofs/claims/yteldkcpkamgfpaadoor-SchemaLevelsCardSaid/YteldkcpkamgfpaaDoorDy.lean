/- corniceref17.Fits: the same answer; conditions: the strings' sizes, at most a million terms. -/
import Derived.Test.YteldkcpkamgfpaaDoorDx
namespace Go.Proofs.YteldkcpkamgfpaaDoor
set_option linter.unusedSimpArgs false
set_option linter.unusedVariables false
open Go.RowKit
attribute [local go_sem] Oper.semAt_some

theorem start_eq {T : List (List (List Nd))} {L : List (List Int)} {i : Nat} (h : (L.map List.length).take i = (T.map List.length).take i) : (L.take i).flatten.length = startT T i := by
  unfold startT
  rw [List.length_flatten, List.length_flatten, List.map_take, List.map_take, h]
theorem flat_at2 {T : List (List (List Nd))} {L : List (List Int)} {i k : Nat} (h : (L.map List.length).take i = (T.map List.length).take i) (hi : i < L.length) (hk : k < (L[i]).length) :
    L.flatten[startT T i + k]? = some (L[i])[k] := by
  rw [← start_eq h]
  have e : L.flatten = (L.take i).flatten ++ (L[i] ++ (L.drop (i + 1)).flatten) := by
    conv => lhs; rw [← List.take_append_drop i L, List.drop_eq_getElem_cons hi]
    rw [List.flatten_append, List.flatten_cons]
  rw [e, List.getElem?_append_right (by omega), Nat.add_sub_cancel_left, List.getElem?_append_left hk, List.getElem?_eq_getElem hk]

def RFitA (s : ByteArray) (e : Int) (T : List (List (List Nd))) (L : List (List Int)) (W : World) (i : Nat) (o : Value) (wr : World) : Prop :=
  o = .bool (ovK s e T L (startT T i)) ∧ (L.map List.length).take i = (T.map List.length).take i ∧ (∀ l ∈ L.take i, l.all lvl = true) ∧ Below W.heap.size W wr

set_option maxRecDepth 20000 in
set_option maxHeartbeats 8000000 in
theorem rfits_any (d : Dc) (L : List (List Int)) (vt vb vc vl : Value) (w : World) (h : DeclV w d vt vb vc) (hl : ReadII w vl L) (hs : SmallNN (termsD d)) (hn : d.Cons.flatten.length ≤ 1000000) (hnm : d.Name.size ≤ maxLen) :
    Calls Tryd.prog 24 #[declV d vt vb vc, vl] w (RetB (.int .i64 (fitE nmB freeN d L)) w) := by
  have HC0 : Hid (∀ w', Below w.heap.size w w' → Calls Tryd.prog 17 #[declV d vt vb vc] w' (RetB (.int .i64 (schE nmB freeN d)) w')) := Lib.hid (fun w' hb => rcheck17_any d vt vb vc w' (h.below hb) hs hn hnm)
  have HD := Lib.hid h
  have HM := Lib.hid hs
  have HLV := Lib.hid hl
  obtain ⟨a1, c1, rfl⟩ := ReadN.len_slice h.ty
  obtain ⟨a2, c2, rfl⟩ := ReadN.len_slice h.bd
  obtain ⟨a3, n3, rfl⟩ := h.cons.form
  obtain ⟨a4, n4, rfl⟩ := hl.form
  unfold declV at HC0 ⊢
  clear h hs hn hnm hl
  obtain ⟨R, hR⟩ : ∃ R, fitE nmB freeN d L = R := ⟨_, rfl⟩
  have HR : Hid (R = if schE nmB freeN d = 0 then (if decide (L.map List.length = d.Cons.map List.length) && L.flatten.all lvl then (if ((d.Cons.flatten.zip L.flatten).any fun x => !(kindN d.Name x.1 == 1) && decide (d.Level < x.2)) then 2 else 0) else 1) else schE nmB freeN d) := Lib.hid hR.symm
  rw [hR]
  have HL : Hid (schE nmB freeN d = 0 → ∀ t, t ∈ d.Cons.flatten → SmallN t) := Lib.hid (fun hz t ht => HM.out t (by
    have hk := ((sch_zero nmB freeN d).1 hz).1
    unfold termsD; rw [if_neg (by omega), if_neg (by omega), if_pos hk]; exact ht))
  obtain ⟨C, hC⟩ : ∃ C, schE nmB freeN d = C := ⟨_, rfl⟩
  rw [hC] at HR HC0 HL
  clear hR hC
  have HV : Hid (ReadNNN w (.slice a3 d.Cons.length n3) d.Cons) := Lib.hid HD.out.cons
  obtain ⟨kd, hkd⟩ : ∃ k, d.Kind = k := ⟨_, rfl⟩
  obtain ⟨lev, hlv⟩ : ∃ k, d.Level = k := ⟨_, rfl⟩
  obtain ⟨nm, hnm⟩ : ∃ k, d.Name = k := ⟨_, rfl⟩
  obtain ⟨p, hp⟩ : ∃ k, d.Ty.length = k := ⟨_, rfl⟩
  obtain ⟨q, hq⟩ : ∃ k, d.Bd.length = k := ⟨_, rfl⟩
  obtain ⟨T, hT⟩ : ∃ k, d.Cons = k := ⟨_, rfl⟩
  rw [hkd, hlv, hnm, hp, hq, hT] at HC0 ⊢
  rw [hlv, hnm, hT] at HR
  rw [hT] at HL HV
  clear hkd hlv hnm hp hq hT HD HM
  have hmL : L.length ≤ 9223372036854775807 := by have := HLV.out.shape.1; unfold maxLen at this; omega
  have hmT : T.length ≤ 9223372036854775807 := by have := HV.out.shape.1; unfold maxLen at this; omega
  obtain ⟨y0, hy0⟩ : ∃ y, w.heap.size = y := ⟨_, rfl⟩
  obtain ⟨W1, hW1⟩ : ∃ m, w.alloc (.cells #[.int .i64 kd, .int .i64 lev, .string nm, .slice a1 p c1, .slice a2 q c2, .slice a3 T.length n3] 40) = m := ⟨_, rfl⟩
  have b0 : Blk W1 y0 40 #[.int .i64 kd, .int .i64 lev, .string nm, .slice a1 p c1, .slice a2 q c2, .slice a3 T.length n3] := by rw [← hW1, ← hy0]; exact Blk.new _ _ _
  have hb1 : Below w.heap.size w W1 := by rw [← hW1]; exact (Below.refl _ _).alloc (Nat.le_refl _) _
  have c0 := b0.cell 0
  have c1' := b0.cell 1
  have c2' := b0.cell 2
  have c3 := b0.cell 3
  have c4 := b0.cell 4
  have c5 := b0.cell 5
  simp only [List.getElem?_toArray, List.getElem?_cons_zero, List.getElem?_cons_succ] at c0 c1' c2' c3 c4 c5
  have B0 := Lib.hid b0
  have HB1 := Lib.hid hb1
  have HCW := Lib.hid (HC0.out W1 hb1)
  clear b0 hb1 HC0
  refine callsIn_wide.1 (callsIn_of_wp (F := Fence.wide) (n := 3) Tryd.func24 rfl trivial ?_ rfl)
  simp only [Tryd.ntmps24, List.size_toArray, List.length_cons, List.length_nil, Nat.reduceAdd, Nat.reduceSub, Array.replicate_succ, Array.replicate_zero, List.push_toArray, List.append_toArray, List.nil_append, List.cons_append]
  gi_wp2_with fail
  refine enterW2 HCW.out ?_
  rintro e w2 ⟨rfl, hb2⟩
  have g1 := (hb2.cell (p := ⟨y0, 1, none⟩) B0.out.lt).trans c1'
  have g2 := (hb2.cell (p := ⟨y0, 2, none⟩) B0.out.lt).trans c2'
  have g5 := (hb2.cell (p := ⟨y0, 5, none⟩) B0.out.lt).trans c5
  have q0 : Hid (Blk w2 y0 40 #[.int .i64 kd, .int .i64 lev, .string nm, .slice a1 p c1, .slice a2 q c2, .slice a3 T.length n3]) := B0.out.below hb2 B0.out.lt
  have HB2 : Hid (Below w.heap.size w w2) := HB1.out.trans (hb2.mono HB1.out.size)
  clear hb2 HCW c0 c1' c2' c3 c4 c5 hW1 B0 hy0
  by_cases hC : C = 0
  rotate_left
  · have hb : (C != 0) = true := by simpa using hC
    have hr : R = C := by rw [HR.out, if_neg hC]
    subst hr
    gi_wp2_with fail
    exact bodyPost_ret (results_tmp rfl _ _ _) rfl ⟨rfl, HB2.out⟩
  subst hC
  have hr := HR.out
  rw [if_pos rfl] at hr
  have HRR := Lib.hid hr
  have HL3 := Lib.hid (HL.out rfl)
  clear hr HR HL
  by_cases hLT : L.length = T.length
  rotate_left
  · have hb : ((L.length : Int) != T.length) = true := by rw [bne_iff_ne]; omega
    have hr : R = 1 := by
      rw [HRR.out, decide_eq_false (fun h => hLT (by have := congrArg List.length h; simpa using this))]
      rfl
    subst hr
    gi_wp2_with fail
    exact bodyPost_ret (results_tmp rfl _ _ _) rfl ⟨rfl, HB2.out⟩
  have hb : ((L.length : Int) != T.length) = false := by rw [bne_eq_false_iff_eq]; omega
  have HLT := Lib.hid hLT
  have HV2 : Hid (ReadNNN w2 (.slice a3 T.length n3) T) := HV.out.below HB2.out
  have HLV2 : Hid (ReadII w2 (.slice a4 L.length n4) L) := HLV.out.below HB2.out
  clear hLT
  gi_wp2_with fail
  gi_loopw [6, 7] (fun o x wr => ∃ i : Nat, i ≤ L.length ∧ x = .int .i64 (i : Int) ∧ RFitA nm lev T L w2 i o wr) (fun _ x _ => L.length - (intOf x).toNat)
  case atStart => exact ⟨0, Nat.zero_le _, rfl, rfl, by simp, by simp, Below.refl _ _⟩
  case round =>
    rename World => wr
    obtain ⟨i, hi, rfl, rfl, hsh, hal, hpr⟩ := hrel
    have x5 := (hpr.cell (p := ⟨y0, 5, none⟩) q0.out.lt).trans g5
    have HSH := Lib.hid hsh
    have HAL := Lib.hid hal
    have HPR := Lib.hid hpr
    clear hsh hal hpr
    by_cases hlt : i < L.length
    · have hltT : i < T.length := by have := HLT.out; omega
      have hst := startT_succ hltT
      have HST := Lib.hid hst
      have hlv := HLV2.out.below HPR.out
      have hcv := HV2.out.below HPR.out
      obtain ⟨_, ⟨h0, _⟩ | ⟨b, off, cap, he, hbw⟩⟩ := hlv.shape
      · subst h0; simp at hlt
      obtain ⟨rfl, rfl⟩ : a4 = some ⟨b, off, none⟩ ∧ n4 = cap := by simpa using he
      obtain ⟨_, ⟨h0, _⟩ | ⟨b2, off2, cap2, he2, hbw2⟩⟩ := hcv.shape
      · subst h0; simp at hltT
      obtain ⟨rfl, rfl⟩ : a3 = some ⟨b2, off2, none⟩ ∧ n3 = cap2 := by simpa using he2
      obtain ⟨a6, n6, f3, r3⟩ := hlv.at hlt
      obtain ⟨a7, n7, f4, r4⟩ := hcv.at hltT
      have m3 : (L[i]).length ≤ 9223372036854775807 := by have := (ReadI.cases r3).1; unfold maxLen at this; omega
      have m4 : (T[i]).length ≤ 9223372036854775807 := by have := r4.shape.1; unfold maxLen at this; omega
      have hdiff : (L[i]).length ≠ (T[i]).length → R = 1 := fun hne => by
        rw [HRR.out, decide_eq_false (fun h => hne (by obtain ⟨_, h2⟩ := shape_at h hltT; exact h2))]
        rfl
      have HDIFF := Lib.hid hdiff
      obtain ⟨pl, hpl⟩ : ∃ p, (L[i]).length = p := ⟨_, rfl⟩
      obtain ⟨ql, hql⟩ : ∃ p, (T[i]).length = p := ⟨_, rfl⟩
      have HPL := Lib.hid hpl
      have HQL := Lib.hid hql
      rw [hpl] at f3 m3 HDIFF
      rw [hql] at f4 m4 HDIFF HST
      obtain ⟨o0, ho0⟩ : ∃ o, ovK nm lev T L (startT T i) = o := ⟨_, rfl⟩
      have HO0 := Lib.hid ho0
      rw [ho0]
      clear hst hlv hcv he he2 r3 r4 hpl hql hdiff ho0
      by_cases hpq : pl = ql
      rotate_left
      · have e1 : ((pl : Int) != ql) = true := by rw [bne_iff_ne]; omega
        have hr := HDIFF.out hpq
        subst hr
        gi_wp2_with fail
        refine wpIn_region_draws (by kernel_rfl) (by kernel_rfl) (by kernel_rfl) ?_
        repeat (first | gi_big_quiet_skip | (gi_big_quiet_want; gi_big_quiet_op; go_big_quiet_on))
        refine wpQuietIn_nil ?_
        rintro w6' ⟨rq, rfl⟩
        gi_wp2_with fail
        exact bodyPost_ret (results_tmp rfl _ _ _) rfl ⟨rfl, HB2.out.trans ((below_drewN HPR.out rq).mono HB2.out.size)⟩
      · subst hpq
        have e1 : ((pl : Int) != pl) = false := by simp
        clear HDIFF m4
        gi_wp2_with fail
        refine wpIn_region_draws (by kernel_rfl) (by kernel_rfl) (by kernel_rfl) ?_
        repeat (first | gi_big_quiet_skip | (gi_big_quiet_want; gi_big_quiet_op; go_big_quiet_on))
        refine wpQuietIn_nil ?_
        rintro w6' ⟨rq, rfl⟩
        obtain ⟨wa, hwa⟩ : ∃ w6, wr.drewN rq = w6 := ⟨_, rfl⟩
        have hba : Below w2.heap.size w2 wa := by rw [← hwa]; exact below_drewN HPR.out rq
        rw [hwa]
        have HBA := Lib.hid hba
        clear hwa hba x5 f3 f4 e1
        gi_wp2_with fail
        gi_loopw [6, 8] (fun o x wq => ∃ k : Nat, k ≤ pl ∧ x = .int .i64 (k : Int) ∧ o = .bool (ovK nm lev T L (startT T i + k)) ∧ (∀ y ∈ (L[i]).take k, lvl y = true) ∧ Below w2.heap.size w2 wq) (fun _ x _ => pl - (intOf x).toNat)
        case atStart => exact ⟨0, Nat.zero_le _, rfl, by rw [← HO0.out]; rfl, by simp, HBA.out⟩
        case round =>
          rename World => wq
          obtain ⟨k, hk, rfl, rfl, hz, hpq⟩ := hrel
          have z1 := (hpq.cell (p := ⟨y0, 1, none⟩) q0.out.lt).trans g1
          have z2 := (hpq.cell (p := ⟨y0, 2, none⟩) q0.out.lt).trans g2
          have z5 := (hpq.cell (p := ⟨y0, 5, none⟩) q0.out.lt).trans g5
          have hlv := HLV2.out.below hpq
          have hcv := HV2.out.below hpq
          have HZ := Lib.hid hz
          have HPQ := Lib.hid hpq
          clear hz hpq
          obtain ⟨a6', n6', f3, r3⟩ := hlv.at hlt
          by_cases hkl : k < pl
          · have hkL : k < (L[i]).length := by rw [HPL.out]; exact hkl
            have hkT : k < (T[i]).length := by rw [HQL.out]; exact hkl
            obtain ⟨bl, ol, nl, bm, om, nm', hve, _, x1, _, x2⟩ := level_at hlv hlt hkL
            obtain ⟨⟨rfl, rfl⟩, rfl⟩ : (b = bl ∧ off = ol) ∧ n4 = nl := by simpa using hve
            obtain ⟨b', off', cap', c1x, co1, m1x, a2x, n2x, hvt, _, f4, _, f5, e4, r4⟩ := arg_at hcv hltT hkT
            obtain ⟨⟨rfl, rfl⟩, rfl⟩ : (b2 = b' ∧ off2 = off') ∧ n3 = cap' := by simpa using hvt
            have hfa := flat_at2 HSH.out hlt hkL
            have hjl : startT T i + k < T.flatten.length := by
              have := startT_le T (i + 1)
              have := HST.out
              omega
            have hjt : T.flatten[startT T i + k] = (T[i])[k] := by
              obtain ⟨i', k', hi', hk', e1, e2⟩ := locT_some T _ hjl
              have e3 := locT_at T i k hltT hkT
              rw [e1, locT_at T i' k' hi' hk'] at e3
              obtain ⟨rfl, rfl⟩ : i' = i ∧ k' = k := by simpa using e3
              exact e2
            have hov := ovK_succ (s := nm) (e := lev) (L := L) hjl hjt hfa
            have hmem : (T[i])[k] ∈ T.flatten := List.mem_flatten.2 ⟨T[i], List.getElem_mem hltT, List.getElem_mem hkT⟩
            have hsm := HL3.out _ hmem
            have hbadl : lvl (L[i])[k] = false → R = 1 := fun h => by
              have : L.flatten.all lvl = false := by
                rw [List.all_eq_false]
                exact ⟨(L[i])[k], List.mem_flatten.2 ⟨L[i], List.getElem_mem hlt, List.getElem_mem hkL⟩, by rw [h]; decide⟩
              rw [HRR.out, this, Bool.and_false]
              rfl
            have hzk : lvl (L[i])[k] = true → ∀ y ∈ (L[i]).take (k + 1), lvl y = true := fun h y hy => by
              rw [List.take_succ_eq_append_getElem hkL] at hy
              rcases List.mem_append.1 hy with h' | h'
              · exact HZ.out y h'
              · simp at h'; rw [h']; exact h
            rw [e4] at f5
            rw [HPL.out] at x1
            clear f3
            rw [HQL.out] at f4
            obtain ⟨n, hn⟩ : ∃ n, (L[i])[k] = n := ⟨_, rfl⟩
            obtain ⟨t, ht⟩ : ∃ t, (T[i])[k] = t := ⟨_, rfl⟩
            rw [hn] at x2 hov hbadl hzk
            rw [ht] at f5 r4 hov hsm
            obtain ⟨kn, hkn⟩ : ∃ v, kindN nm t = v := ⟨_, rfl⟩
            rw [hkn] at hov
            have HC : Hid (∀ m, Calls Tryd.prog 40 #[.string nm, .slice a2x t.length n2x] (wq.drewN m) (RetB (.int .i64 kn) wq)) := by
              show ∀ m, _
              intro m
              rw [← hkn]
              exact (rkind_any nm t _ (wq.drewN m) (RowAt.drewN r4 m) hsm).mono fun e w' ⟨h1, h2⟩ => ⟨h1, below_ofdrewN h2⟩
            obtain ⟨tl, htl⟩ : ∃ x, t.length = x := ⟨_, rfl⟩
            rw [htl] at f5 HC
            obtain ⟨o, ho⟩ : ∃ o, ovK nm lev T L (startT T i + k) = o := ⟨_, rfl⟩
            rw [ho] at hov ⊢
            have HOV := Lib.hid hov
            have HBL := Lib.hid hbadl
            have HZK := Lib.hid hzk
            have HCK := Lib.hid (refcheck_any n wq)
            clear hve hvt hlv hcv r3 r4 e4 hfa hjl hjt hov hmem hsm hbadl hzk hn ht hkn htl ho
            gi_wp2_with fail
            refine enterW2 HCK.out ?_
            rintro e w7 ⟨rfl, rfl⟩
            cases hlv : lvl n
            · have hlv2 : lv n = false := hlv
              rw [hlv2]
              have hr := HBL.out hlv
              subst hr
              clear HBL HZK hlv hlv2
              gi_wp2_with fail
              exact bodyPost_ret (results_tmp rfl _ _ _) rfl ⟨rfl, HB2.out.trans (HPQ.out.mono HB2.out.size)⟩
            have hlv2 : lv n = true := hlv
            rw [hlv2]
            have HZ2 := Lib.hid (HZK.out hlv)
            clear HBL HZK hlv hlv2 HCK
            cases o
            · obtain ⟨yk, hyk⟩ : ∃ y, (kn != 1) = y := ⟨_, rfl⟩
              have HYK := Lib.hid hyk
              have hk1 : (!(kn == 1)) = yk := by rw [← hyk]; rfl
              obtain ⟨yl, hyl⟩ : ∃ y, decide (n > lev) = y := ⟨_, rfl⟩
              have hyl2 : decide (lev < n) = yl := hyl
              have hov2 : ovK nm lev T L (startT T i + k + 1) = (yk && yl) := by rw [HOV.out, hk1, hyl2]; rfl
              have HOV2 := Lib.hid hov2
              clear hk1 hyl2 hov2
              gi_wp2_with fail
              refine wpIn_region_mid 12 (by kernel_rfl) (by kernel_rfl) (by kernel_rfl) ?_
              simp only [List.take_succ_cons, List.take_zero, List.drop_succ_cons, List.drop_zero]
              repeat (first | gi_big_quiet_skip | (gi_big_quiet_want; gi_big_quiet_op; go_big_quiet_on))
              refine wpQuietIn_nil ?_
              intro mq
              gi_wp2_with fail
              refine enterW2 (HC.out mq) ?_
              rintro e w5 ⟨rfl, hb5⟩
              have hx1 := (hb5.cell (p := ⟨y0, 1, none⟩) (by show y0 < _; exact cell_lt z1)).trans z1
              have hx2 := (hb5.cell (p := ⟨b, off + i, none⟩) (cell_lt x1)).trans x1
              have hx3 := (hb5.cell (p := ⟨bm, om + k, none⟩) (cell_lt x2)).trans x2
              have HB5 := Lib.hid hb5
              clear hb5 z1 z2 z5 f4 f5 x1 x2
              cases yk
              · gi_wp2_with fail
                repeat (first | gi_big_quiet_skip | (gi_big_quiet_want; gi_big_quiet_op; go_big_quiet_on))
                refine wpQuietIn_nil ?_
                rintro w6' ⟨rq2, rfl⟩
                gi_wp2_with fail
                exact ⟨⟨k + 1, by omega, by go_num, by rw [← Nat.add_assoc, HOV2.out]; rfl, HZ2.out, HPQ.out.trans ((below_drewN HB5.out rq2).mono HPQ.out.size)⟩, by simp [intOf]; omega⟩
              · gi_wp2_with fail
                repeat (first | gi_big_quiet_skip | (gi_big_quiet_want; gi_big_quiet_op; go_big_quiet_on))
                refine wpQuietIn_nil ?_
                rintro w6' ⟨rq2, rfl⟩
                gi_wp2_with fail
                exact ⟨⟨k + 1, by omega, by go_num, by rw [← Nat.add_assoc, HOV2.out]; cases yl <;> rfl, HZ2.out, HPQ.out.trans ((below_drewN HB5.out rq2).mono HPQ.out.size)⟩, by simp [intOf]; omega⟩
            · have hov2 : ovK nm lev T L (startT T i + k + 1) = true := by rw [HOV.out]; rfl
              have HOV2 := Lib.hid hov2
              clear hov2
              gi_wp2_with fail
              refine wpIn_region_mid 12 (by kernel_rfl) (by kernel_rfl) (by kernel_rfl) ?_
              simp only [List.take_succ_cons, List.take_zero, List.drop_succ_cons, List.drop_zero]
              repeat (first | gi_big_quiet_skip | (gi_big_quiet_want; gi_big_quiet_op; go_big_quiet_on))
              refine wpQuietIn_nil ?_
              intro mq
              gi_wp2_with fail
              refine ⟨trivial, ?_⟩
              gi_wp2_with fail
              repeat (first | gi_big_quiet_skip | (gi_big_quiet_want; gi_big_quiet_op; go_big_quiet_on))
              refine wpQuietIn_nil ?_
              rintro w6' ⟨rq2, rfl⟩
              gi_wp2_with fail
              exact ⟨⟨k + 1, by omega, by go_num, by rw [← Nat.add_assoc, HOV2.out], HZ2.out, below_drewN HPQ.out _⟩, by simp [intOf]; omega⟩
          · obtain rfl : k = pl := by omega
            rw [HPL.out] at f3
            have hal2 : ∀ l ∈ L.take (i + 1), l.all lvl = true := fun l hl => by
              rw [List.take_succ_eq_append_getElem hlt] at hl
              rcases List.mem_append.1 hl with h | h
              · exact HAL.out l h
              · simp at h
                rw [h, List.all_eq_true]
                intro y hy
                exact HZ.out y (by rw [List.take_of_length_le (by rw [HPL.out]; exact Nat.le_refl _)]; exact hy)
            have hsh2 : (L.map List.length).take (i + 1) = (T.map List.length).take (i + 1) := by
              rw [List.take_succ_eq_append_getElem (by simpa using hlt), List.take_succ_eq_append_getElem (by simpa using hltT), HSH.out]
              simp [HPL.out, HQL.out]
            have HAL2 := Lib.hid hal2
            have HSH2 := Lib.hid hsh2
            obtain ⟨o, ho⟩ : ∃ o, ovK nm lev T L (startT T i + k) = o := ⟨_, rfl⟩
            have HO := Lib.hid ho
            rw [ho]
            clear r3 hlv hcv hal2 hsh2 ho
            gi_wp2_with fail
            exact ⟨⟨i + 1, by omega, by go_num, by rw [HST.out, HO.out], HSH2.out, HAL2.out, HPQ.out⟩, by simp [intOf]; omega⟩
    · obtain rfl : i = L.length := by omega
      have hshape : L.map List.length = T.map List.length := by
        have h := HSH.out
        rw [List.take_of_length_le (by simp), List.take_of_length_le (by simp; have := HLT.out; omega)] at h
        exact h
      have hall : L.flatten.all lvl = true := by
        rw [List.all_eq_true]
        intro y hy
        obtain ⟨l, hl, hy⟩ := List.mem_flatten.1 hy
        have := HAL.out l (by rw [List.take_length]; exact hl)
        exact List.all_eq_true.1 this y hy
      obtain ⟨o, ho⟩ : ∃ o, ovK nm lev T L (startT T L.length) = o := ⟨_, rfl⟩
      have hr : R = if o then 2 else 0 := by
        rw [HRR.out, decide_eq_true hshape, hall, ← ho, HLT.out, startT_all, ovK_all _ _ _ _ (flat_len hshape)]
        rfl
      have HRO := Lib.hid hr
      rw [ho]
      clear hshape hall ho hr
      cases o
      · have hr : R = 0 := HRO.out
        subst hr
        gi_wp2_with fail
        exact bodyPost_ret (results_tmp rfl _ _ _) rfl ⟨rfl, HB2.out.trans (HPR.out.mono HB2.out.size)⟩
      · have hr : R = 2 := HRO.out
        subst hr
        gi_wp2_with fail
        exact bodyPost_ret (results_tmp rfl _ _ _) rfl ⟨rfl, HB2.out.trans (HPR.out.mono HB2.out.size)⟩

end Go.Proofs.YteldkcpkamgfpaaDoor
