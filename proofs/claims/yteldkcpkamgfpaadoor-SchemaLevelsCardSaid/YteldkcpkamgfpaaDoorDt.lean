/- corniceref17.Check: the same answer; conditions: the strings' sizes, at most a million terms. -/
import Derived.Test.YteldkcpkamgfpaaDoorDs
import Derived.Test.YteldkcpkamgfpaaDoorQuietM
namespace Go.Proofs.YteldkcpkamgfpaaDoor
set_option linter.unusedSimpArgs false
set_option linter.unusedVariables false
open Go.RowKit
attribute [local go_sem] Oper.semAt_some

theorem below_ofdrewN {w w' : World} {m : Nat} (h : Below (w.drewN m).heap.size (w.drewN m) w') : Below w.heap.size w w' := (below_drewN (Below.refl _ w) m).trans h
def RPos (s : ByteArray) (T : List (List (List Nd))) (W : World) (j : Nat) (wr : World) : Prop := (∀ t ∈ T.flatten.take j, posE s t = 0) ∧ Below W.heap.size W wr

set_option maxRecDepth 20000 in
set_option maxHeartbeats 8000000 in
theorem rcheck17_any (d : Dc) (vt vb vc : Value) (w : World) (h : DeclV w d vt vb vc) (hs : SmallNN (termsD d)) (hn : d.Cons.flatten.length ≤ 1000000) (hnm : d.Name.size ≤ maxLen) :
    Calls Tryd.prog 17 #[declV d vt vb vc] w (RetB (.int .i64 (schE nmB freeN d)) w) := by
  have HC0 : Hid (∀ w', Below w.heap.size w w' → Calls Tryd.prog 36 #[declV d vt vb vc] w' (RetB (.int .i64 (chkD nmB freeN d)) w')) := Lib.hid (fun w' hb => rcheck10_any d vt vb vc w' (h.below hb) hs hnm hn)
  have HD := Lib.hid h
  have HM := Lib.hid hs
  obtain ⟨a1, c1, rfl⟩ := ReadN.len_slice h.ty
  obtain ⟨a2, c2, rfl⟩ := ReadN.len_slice h.bd
  obtain ⟨a3, n3, rfl⟩ := h.cons.form
  unfold declV at HC0 ⊢
  clear h hs hn hnm
  obtain ⟨R, hR⟩ : ∃ R, schE nmB freeN d = R := ⟨_, rfl⟩
  have HR : Hid (R = if chkD nmB freeN d = 0 then (if d.Kind = 3 then fstE (d.Cons.flatten.map (posE d.Name)) else 1) else chkD nmB freeN d) := Lib.hid hR.symm
  rw [hR]
  obtain ⟨C, hC⟩ : ∃ C, chkD nmB freeN d = C := ⟨_, rfl⟩
  rw [hC] at HR HC0
  clear hR hC
  have HL : Hid (d.Kind = 3 → ∀ t, t ∈ d.Cons.flatten → SmallN t) := Lib.hid (fun hk t ht => HM.out t (by unfold termsD; rw [if_neg (by omega), if_neg (by omega), if_pos hk]; exact ht))
  have HV : Hid (ReadNNN w (.slice a3 d.Cons.length n3) d.Cons) := Lib.hid HD.out.cons
  obtain ⟨kd, hkd⟩ : ∃ k, d.Kind = k := ⟨_, rfl⟩
  obtain ⟨lv, hlv⟩ : ∃ k, d.Level = k := ⟨_, rfl⟩
  obtain ⟨nm, hnm⟩ : ∃ k, d.Name = k := ⟨_, rfl⟩
  obtain ⟨p, hp⟩ : ∃ k, d.Ty.length = k := ⟨_, rfl⟩
  obtain ⟨q, hq⟩ : ∃ k, d.Bd.length = k := ⟨_, rfl⟩
  obtain ⟨T, hT⟩ : ∃ k, d.Cons = k := ⟨_, rfl⟩
  rw [hkd, hlv, hnm, hp, hq, hT] at HC0 ⊢
  rw [hkd, hnm, hT] at HR
  rw [hkd, hT] at HL
  rw [hT] at HV
  clear hkd hlv hnm hp hq hT HD HM
  obtain ⟨W1, hW1⟩ : ∃ m, w.alloc (.cells #[.int .i64 kd, .int .i64 lv, .string nm, .slice a1 p c1, .slice a2 q c2, .slice a3 T.length n3] 40) = m := ⟨_, rfl⟩
  obtain ⟨y0, hy0⟩ : ∃ y, w.heap.size = y := ⟨_, rfl⟩
  have b0 : Blk W1 y0 40 #[.int .i64 kd, .int .i64 lv, .string nm, .slice a1 p c1, .slice a2 q c2, .slice a3 T.length n3] := by rw [← hW1, ← hy0]; exact Blk.new _ _ _
  have hb1 : Below w.heap.size w W1 := by rw [← hW1]; exact (Below.refl _ _).alloc (Nat.le_refl _) _
  have c0 := b0.cell 0
  have c1' := b0.cell 1
  have c2' := b0.cell 2
  have c3 := b0.cell 3
  have c4 := b0.cell 4
  have c5 := b0.cell 5
  simp only [List.getElem?_toArray, List.getElem?_cons_zero, List.getElem?_cons_succ] at c0 c1' c2' c3 c4 c5
  have B0 := Lib.hid b0
  have HB1 := Lib.hid hb1
  have HCW := Lib.hid (HC0.out W1 hb1)
  have hm3 : T.length ≤ 9223372036854775807 := by have := HV.out.shape.1; unfold maxLen at this; omega
  clear b0 hb1 HC0
  refine callsIn_wide.1 (callsIn_of_wp (F := Fence.wide) (n := 3) Tryd.func17 rfl trivial ?_ rfl)
  simp only [Tryd.ntmps17, List.size_toArray, List.length_cons, List.length_nil, Nat.reduceAdd, Nat.reduceSub, Array.replicate_succ, Array.replicate_zero, List.push_toArray, List.append_toArray, List.nil_append, List.cons_append]
  gi_wp2_with fail
  refine enterW2 HCW.out ?_
  rintro e w2 ⟨rfl, hb2⟩
  have g0 := (hb2.cell (p := ⟨y0, 0, none⟩) B0.out.lt).trans c0
  have g1 := (hb2.cell (p := ⟨y0, 1, none⟩) B0.out.lt).trans c1'
  have g2 := (hb2.cell (p := ⟨y0, 2, none⟩) B0.out.lt).trans c2'
  have g3 := (hb2.cell (p := ⟨y0, 3, none⟩) B0.out.lt).trans c3
  have g4 := (hb2.cell (p := ⟨y0, 4, none⟩) B0.out.lt).trans c4
  have g5 := (hb2.cell (p := ⟨y0, 5, none⟩) B0.out.lt).trans c5
  have q0 : Hid (Blk w2 y0 40 #[.int .i64 kd, .int .i64 lv, .string nm, .slice a1 p c1, .slice a2 q c2, .slice a3 T.length n3]) := B0.out.below hb2 B0.out.lt
  have HB2 : Hid (Below w.heap.size w w2) := HB1.out.trans (hb2.mono HB1.out.size)
  have HY0 := Lib.hid hy0
  clear hb2 HCW c0 c1' c2' c3 c4 c5 hW1 B0 hy0
  by_cases hC : C = 0
  rotate_left
  · have hb : (C != 0) = true := by simpa using hC
    have hr : R = C := by rw [HR.out, if_neg hC]
    subst hr
    gi_wp2_with fail
    exact bodyPost_ret (results_tmp rfl _ _ _) rfl ⟨rfl, HB2.out⟩
  subst hC
  by_cases hk : kd = 3
  rotate_left
  · have hb : (kd != 3) = true := by simpa using hk
    have hr : R = 1 := by rw [HR.out, if_pos rfl, if_neg hk]
    subst hr
    gi_wp2_with fail
    exact bodyPost_ret (results_tmp rfl _ _ _) rfl ⟨rfl, HB2.out⟩
  subst hk
  have hr : R = fstE (T.flatten.map (posE nm)) := by rw [HR.out, if_pos rfl, if_pos rfl]
  have HRR := Lib.hid hr
  have HL3 := Lib.hid (HL.out rfl)
  have HV2 : Hid (ReadNNN w2 (.slice a3 T.length n3) T) := HV.out.below HB2.out
  clear hr HR HL
  gi_wp2_with fail
  gi_loopw [4] (fun x wr => ∃ i : Nat, i ≤ T.length ∧ x = .int .i64 (i : Int) ∧ RPos nm T w2 (startT T i) wr) (fun x _ => T.length - (intOf x).toNat)
  case atStart => exact ⟨0, Nat.zero_le _, rfl, by simp [startT], Below.refl _ _⟩
  case round =>
    rename World => wr
    obtain ⟨i, hi, rfl, hpr⟩ := hrel
    have x2 := (hpr.2.cell (p := ⟨y0, 2, none⟩) q0.out.lt).trans g2
    have x5 := (hpr.2.cell (p := ⟨y0, 5, none⟩) q0.out.lt).trans g5
    have HPR := Lib.hid hpr
    clear hpr g0 g1 g3 g4
    by_cases hlt : i < T.length
    · have hst := startT_succ hlt
      have HST := Lib.hid hst
      clear hst
      gi_wp2_with fail
      gi_loopw [5] (fun x wq => ∃ k : Nat, k ≤ (T[i]).length ∧ x = .int .i64 (k : Int) ∧ RPos nm T w2 (startT T i + k) wq) (fun x _ => (T[i]).length - (intOf x).toNat)
      case atStart => exact ⟨0, Nat.zero_le _, rfl, HPR.out⟩
      case round =>
        rename World => wq
        obtain ⟨k, hk, rfl, hpq⟩ := hrel
        have z2 := (hpq.2.cell (p := ⟨y0, 2, none⟩) q0.out.lt).trans g2
        have z5 := (hpq.2.cell (p := ⟨y0, 5, none⟩) q0.out.lt).trans g5
        have HVQ : Hid (ReadNNN wq (.slice a3 T.length n3) T) := HV2.out.below hpq.2
        have HPQ := Lib.hid hpq
        clear hpq x2 x5
        obtain ⟨_, ⟨h0, _⟩ | ⟨b, off, cap, he, hbw⟩⟩ := HVQ.out.shape
        · subst h0; simp at hlt
        obtain ⟨rfl, rfl⟩ : a3 = some ⟨b, off, none⟩ ∧ n3 = cap := by simpa using he
        obtain ⟨a4, n4, f1, r1⟩ := HVQ.out.at hlt
        have hqm : (T[i]).length ≤ 9223372036854775807 := by have := r1.shape.1; unfold maxLen at this; omega
        clear he
        by_cases hkl : k < (T[i]).length
        · obtain ⟨_, ⟨h0, _⟩ | ⟨b1, off1, cap1, he, hbw1⟩⟩ := r1.shape
          · rw [h0] at hkl; simp at hkl
          obtain ⟨rfl, rfl⟩ : a4 = some ⟨b1, off1, none⟩ ∧ n4 = cap1 := by simpa using he
          obtain ⟨a5, n5, f2, r2⟩ := r1.at hkl
          have hjl : startT T i + k < T.flatten.length := by
            have := startT_le T (i + 1)
            have := HST.out
            omega
          have hjt : T.flatten[startT T i + k] = (T[i])[k] := by
            obtain ⟨i', k', hi', hk', e1, e2⟩ := locT_some T _ hjl
            have e3 := locT_at T i k hlt hkl
            rw [e1, locT_at T i' k' hi' hk'] at e3
            obtain ⟨rfl, rfl⟩ : i' = i ∧ k' = k := by simpa using e3
            exact e2
          have hmem : (T[i])[k] ∈ T.flatten := by rw [← hjt]; exact List.getElem_mem hjl
          have hsm := HL3.out _ hmem
          obtain ⟨t, ht⟩ : ∃ t, (T[i])[k] = t := ⟨_, rfl⟩
          rw [ht] at f2 r2 hjt hsm
          obtain ⟨ql, hql⟩ : ∃ x, (T[i]).length = x := ⟨_, rfl⟩
          have HQL := Lib.hid hql
          rw [hql] at f1 hk hkl hqm ⊢
          obtain ⟨pv, hpv⟩ : ∃ v, posE nm t = v := ⟨_, rfl⟩
          have HC : Hid (∀ m, Calls Tryd.prog 22 #[.string nm, .slice a5 t.length n5] (wq.drewN m) (RetB (.int .i64 pv) wq)) := by
            show ∀ m, _
            intro m
            rw [← hpv]
            exact (rpositive_any nm t _ (wq.drewN m) (RowAt.drewN r2 m) hsm).mono fun e w' ⟨h1, h2⟩ => ⟨h1, below_ofdrewN h2⟩
          have hfs : fstE (T.flatten.map (posE nm)) = (if pv = 0 then fstE ((T.flatten.drop (startT T i + k + 1)).map (posE nm)) else pv) := by
            rw [pos_skip nm T.flatten (startT T i + k) HPQ.out.1, List.drop_eq_getElem_cons hjl, List.map_cons, hjt, hpv]
            rfl
          have hzk : pv = 0 → ∀ x ∈ T.flatten.take (startT T i + k + 1), posE nm x = 0 := fun h0 x hx => by
            rw [List.take_succ_eq_append_getElem hjl] at hx
            rcases List.mem_append.1 hx with h | h
            · exact HPQ.out.1 x h
            · simp at h; rw [h, hjt, hpv, h0]
          obtain ⟨tl, htl⟩ : ∃ x, t.length = x := ⟨_, rfl⟩
          rw [htl] at f2 HC
          have HF := Lib.hid hfs
          have HZK := Lib.hid hzk
          clear he r1 r2 hjl hjt hmem hsm ht hql hpv hfs hzk htl
          gi_wp2_with fail
          refine wpIn_region_mid 10 (by kernel_rfl) (by kernel_rfl) (by kernel_rfl) ?_
          simp only [List.take_succ_cons, List.take_zero, List.drop_succ_cons, List.drop_zero]
          repeat (first | gi_big_quiet_skip | (gi_big_quiet_want; gi_big_quiet_op; go_big_quiet_on))
          refine wpQuietIn_nil ?_
          intro mq
          gi_wp2_with fail
          refine enterW2 (HC.out mq) ?_
          rintro e w5 ⟨rfl, hb5⟩
          have HB5 := Lib.hid hb5
          clear hb5
          gi_wp2_with fail
          repeat (first | gi_big_quiet_skip | (gi_big_quiet_want; gi_big_quiet_op; go_big_quiet_on))
          refine wpQuietIn_nil ?_
          rintro w6' ⟨rq, rfl⟩
          obtain ⟨w6, hw6⟩ : ∃ w6, w5.drewN rq = w6 := ⟨_, rfl⟩
          have hb6 : Below w2.heap.size w2 w6 := by rw [← hw6]; exact HPQ.out.2.trans ((below_drewN HB5.out rq).mono HPQ.out.2.size)
          rw [hw6]
          have HB6 := Lib.hid hb6
          clear hw6 hb6 f1 f2 z2 z5
          by_cases h0 : pv = 0
          · subst h0
            have HZ := Lib.hid (HZK.out rfl)
            clear HZK
            gi_wp2_with fail
            exact ⟨⟨k + 1, by omega, by go_num, HZ.out, HB6.out⟩, by simp [intOf]; omega⟩
          · have hb : (pv != 0) = true := by simpa using h0
            have hr : R = pv := by rw [HRR.out, HF.out, if_neg h0]
            subst hr
            gi_wp2_with fail
            exact bodyPost_ret (results_tmp rfl _ _ _) rfl ⟨rfl, HB2.out.trans (HB6.out.mono HB2.out.size)⟩
        · obtain rfl : k = (T[i]).length := by omega
          obtain ⟨ql, hql⟩ : ∃ x, (T[i]).length = x := ⟨_, rfl⟩
          have HQL := Lib.hid hql
          rw [hql] at f1 hkl hqm ⊢
          clear r1 hk hql
          gi_wp2_with fail
          refine ⟨⟨i + 1, by omega, by go_num, ?_⟩, by simp [intOf]; omega⟩
          rw [HST.out]
          exact HPQ.out
    · obtain rfl : i = T.length := by omega
      have hr : R = 0 := by
        have hz := HPR.out.1
        rw [startT_all] at hz
        rw [HRR.out, pos_skip nm T.flatten T.flatten.length hz, List.drop_length]
        rfl
      subst hr
      gi_wp2_with fail
      exact bodyPost_ret (results_tmp rfl _ _ _) rfl ⟨rfl, HB2.out.trans (HPR.out.2.mono HB2.out.size)⟩

end Go.Proofs.YteldkcpkamgfpaaDoor
