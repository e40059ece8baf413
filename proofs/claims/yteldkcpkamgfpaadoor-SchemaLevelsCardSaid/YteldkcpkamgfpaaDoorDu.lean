/- slices.Contains of truths; corniceref17.Based; conditions: the strings' sizes, at most a million terms. -/
import Derived.Test.YteldkcpkamgfpaaDoorDt
import Derived.Test.YteldkcpkamgfpaaDoorMixI
namespace Go.Proofs.YteldkcpkamgfpaaDoor
set_option linter.unusedSimpArgs false
set_option linter.unusedVariables false
open Go.RowKit

def RNoF (bs : List Bool) (i : Value) : Prop := ∃ k : Nat, k ≤ bs.length ∧ i = .int .i64 k ∧ ∀ x ∈ bs.take k, x = true

set_option maxHeartbeats 2000000 in
theorem bools_idx (bs : List Bool) (v : Value) (w : World) (h : RowAt w 1 v bs.length (bs.map .bool)) :
    Calls Tryd.prog 65 #[v, .bool false] w (idxPost (bs.any (!·)) w) := by
  have hm9 : bs.length ≤ 9223372036854775807 := by have := h.small; unfold maxLen at this; omega
  obtain ⟨a, cap, rfl, h1, h2, h3⟩ := h.form
  have H3 := Lib.hid h3
  clear h h1 h2 h3
  go_enter Tryd.func65, Tryd.ntmps65
  go_wp2_with fail
  go_loopw [8] (fun i wr => RNoF bs i ∧ wr = w) (fun i _ => bs.length - (intOf i).toNat)
  case atStart => exact ⟨⟨0, Nat.zero_le _, rfl, by simp⟩, rfl⟩
  case round =>
    obtain ⟨⟨k, hk, rfl, hz⟩, rfl⟩ := hrel
    have HZ := Lib.hid hz
    clear hz
    by_cases hlt : k < bs.length
    rotate_left
    · obtain rfl : k = bs.length := by omega
      have hf : bs.any (!·) = false := by
        rw [List.any_eq_false]
        intro x hx
        have := HZ.out x (by rw [List.take_length]; exact hx)
        simp [this]
      go_wp2_with fail
      go_ret
      exact ⟨-1, rfl, by rw [hf]; rfl, rfl⟩
    obtain ⟨b, off, rfl, hb, hc⟩ := H3.out (by omega)
    have g1 := hc k (.bool bs[k]) (by simp [hlt])
    obtain ⟨x, hx⟩ : ∃ x, bs[k] = x := ⟨_, rfl⟩
    have HX := Lib.hid hx
    rw [hx] at g1
    clear hc hx
    cases x
    · have hf : bs.any (!·) = true := by
        rw [List.any_eq_true]
        exact ⟨bs[k], List.getElem_mem hlt, by rw [HX.out]; rfl⟩
      go_wp2_with fail
      go_ret
      exact ⟨k, rfl, by rw [hf]; simp, rfl⟩
    · go_wp2_with fail
      go_roundw
      case rel =>
        refine ⟨⟨k + 1, by omega, by go_num, fun c hc => ?_⟩, trivial⟩
        rw [List.take_succ_eq_append_getElem hlt] at hc
        rcases List.mem_append.1 hc with h | h
        · exact HZ.out c h
        · simp at h; rw [h]; exact HX.out
      case measure => simp [intOf]; omega

set_option maxHeartbeats 1000000 in
theorem bools_has (bs : List Bool) (v : Value) (w : World) (h : RowAt w 1 v bs.length (bs.map .bool)) :
    Calls Tryd.prog 37 #[v, .bool false] w fun e w' => e = .returned (.bool (bs.any (!·))) ∧ w = w' := by
  have H := Lib.hid (bools_idx bs v w h)
  obtain ⟨a, c, rfl, _⟩ := h.form
  clear h
  obtain ⟨x, hx⟩ : ∃ x, bs.any (!·) = x := ⟨_, rfl⟩
  rw [hx] at H ⊢
  clear hx
  go_enter Tryd.func37, Tryd.ntmps37
  go_wp2_with (go_at_call 65; refine H.out.mono ?_)
  rintro e w2 ⟨n, rfl, hn, rfl⟩
  have hn2 : decide (n ≥ 0) = x := hn
  go_wp2_with fail
  go_ret
  first | exact ⟨rfl, rfl⟩ | exact ⟨by simp [hn], rfl⟩

attribute [local go_sem] Oper.semAt_some

def ownK (s : ByteArray) (c : List (List Nd)) (k : Nat) : Bool := (c.take k).any fun t => kindN s t == 1
theorem ownK_succ {s : ByteArray} {c : List (List Nd)} {k : Nat} (h : k < c.length) : ownK s c (k + 1) = (ownK s c k || kindN s c[k] == 1) := by
  unfold ownK
  rw [List.take_succ_eq_append_getElem h, List.any_append]
  simp
theorem ownK_all (s : ByteArray) (c : List (List Nd)) : ownK s c c.length = !freeC s c := by
  unfold ownK freeC
  rw [List.take_length, List.not_all_eq_any_not]
  congr 1
  funext t
  simp

def RBas (s : ByteArray) (T : List (List (List Nd))) (W : World) (i : Nat) (wr : World) : Prop := (∀ c ∈ T.take i, freeC s c = false) ∧ Below W.heap.size W wr

set_option maxRecDepth 20000 in
set_option maxHeartbeats 8000000 in
theorem rbased_any (d : Dc) (vt vb vc : Value) (w : World) (h : DeclV w d vt vb vc) (hs : SmallNN (termsD d)) (hn : d.Cons.flatten.length ≤ 1000000) (hnm : d.Name.size ≤ maxLen) :
    Calls Tryd.prog 25 #[declV d vt vb vc] w (RetB (.bool (basedB nmB freeN d)) w) := by
  have HC0 : Hid (∀ w', Below w.heap.size w w' → Calls Tryd.prog 17 #[declV d vt vb vc] w' (RetB (.int .i64 (schE nmB freeN d)) w')) := Lib.hid (fun w' hb => rcheck17_any d vt vb vc w' (h.below hb) hs hn hnm)
  have HD := Lib.hid h
  have HM := Lib.hid hs
  obtain ⟨a1, c1, rfl⟩ := ReadN.len_slice h.ty
  obtain ⟨a2, c2, rfl⟩ := ReadN.len_slice h.bd
  obtain ⟨a3, n3, rfl⟩ := h.cons.form
  unfold declV at HC0 ⊢
  clear h hs hn hnm
  obtain ⟨R, hR⟩ : ∃ R, basedB nmB freeN d = R := ⟨_, rfl⟩
  have HR : Hid (R = (schE nmB freeN d == 0 && d.Cons.any (freeC d.Name))) := Lib.hid hR.symm
  rw [hR]
  have HL : Hid (schE nmB freeN d = 0 → ∀ t, t ∈ d.Cons.flatten → SmallN t) := Lib.hid (fun hz t ht => HM.out t (by
    have hk := ((sch_zero nmB freeN d).1 hz).1
    unfold termsD; rw [if_neg (by omega), if_neg (by omega), if_pos hk]; exact ht))
  obtain ⟨C, hC⟩ : ∃ C, schE nmB freeN d = C := ⟨_, rfl⟩
  rw [hC] at HR HC0 HL
  clear hR hC
  have HV : Hid (ReadNNN w (.slice a3 d.Cons.length n3) d.Cons) := Lib.hid HD.out.cons
  obtain ⟨kd, hkd⟩ : ∃ k, d.Kind = k := ⟨_, rfl⟩
  obtain ⟨lv, hlv⟩ : ∃ k, d.Level = k := ⟨_, rfl⟩
  obtain ⟨nm, hnm⟩ : ∃ k, d.Name = k := ⟨_, rfl⟩
  obtain ⟨p, hp⟩ : ∃ k, d.Ty.length = k := ⟨_, rfl⟩
  obtain ⟨q, hq⟩ : ∃ k, d.Bd.length = k := ⟨_, rfl⟩
  obtain ⟨T, hT⟩ : ∃ k, d.Cons = k := ⟨_, rfl⟩
  rw [hkd, hlv, hnm, hp, hq, hT] at HC0 ⊢
  rw [hnm, hT] at HR
  rw [hT] at HL HV
  clear hkd hlv hnm hp hq hT HD HM
  obtain ⟨W1, hW1⟩ : ∃ m, w.alloc (.cells #[.int .i64 kd, .int .i64 lv, .string nm, .slice a1 p c1, .slice a2 q c2, .slice a3 T.length n3] 40) = m := ⟨_, rfl⟩
  obtain ⟨y0, hy0⟩ : ∃ y, w.heap.size = y := ⟨_, rfl⟩
  have b0 : Blk W1 y0 40 #[.int .i64 kd, .int .i64 lv, .string nm, .slice a1 p c1, .slice a2 q c2, .slice a3 T.length n3] := by rw [← hW1, ← hy0]; exact Blk.new _ _ _
  have hb1 : Below w.heap.size w W1 := by rw [← hW1]; exact (Below.refl _ _).alloc (Nat.le_refl _) _
  have c0 := b0.cell 0
  have c1' := b0.cell 1
  have c2' := b0.cell 2
  have c3 := b0.cell 3
  have c4 := b0.cell 4
  have c5 := b0.cell 5
  simp only [List.getElem?_toArray, List.getElem?_cons_zero, List.getElem?_cons_succ] at c0 c1' c2' c3 c4 c5
  have B0 := Lib.hid b0
  have HB1 := Lib.hid hb1
  have HCW := Lib.hid (HC0.out W1 hb1)
  have hm3 : T.length ≤ 9223372036854775807 := by have := HV.out.shape.1; unfold maxLen at this; omega
  clear b0 hb1 HC0
  refine callsIn_wide.1 (callsIn_of_wp (F := Fence.wide) (n := 3) Tryd.func25 rfl trivial ?_ rfl)
  simp only [Tryd.ntmps25, List.size_toArray, List.length_cons, List.length_nil, Nat.reduceAdd, Nat.reduceSub, Array.replicate_succ, Array.replicate_zero, List.push_toArray, List.append_toArray, List.nil_append, List.cons_append]
  gi_wp2_with fail
  refine enterW2 HCW.out ?_
  rintro e w2 ⟨rfl, hb2⟩
  have g2 := (hb2.cell (p := ⟨y0, 2, none⟩) B0.out.lt).trans c2'
  have g5 := (hb2.cell (p := ⟨y0, 5, none⟩) B0.out.lt).trans c5
  have q0 : Hid (Blk w2 y0 40 #[.int .i64 kd, .int .i64 lv, .string nm, .slice a1 p c1, .slice a2 q c2, .slice a3 T.length n3]) := B0.out.below hb2 B0.out.lt
  have HB2 : Hid (Below w.heap.size w w2) := HB1.out.trans (hb2.mono HB1.out.size)
  clear hb2 HCW c0 c1' c2' c3 c4 c5 hW1 B0 hy0
  by_cases hC : C = 0
  rotate_left
  · have hb : (C != 0) = true := by simpa using hC
    have hr : R = false := by rw [HR.out]; simp [hC]
    subst hr
    gi_wp2_with fail
    exact bodyPost_ret (results_tmp rfl _ _ _) rfl ⟨rfl, HB2.out⟩
  subst hC
  have hr : R = T.any (freeC nm) := by rw [HR.out]; simp
  have HRR := Lib.hid hr
  have HL3 := Lib.hid (HL.out rfl)
  have HV2 : Hid (ReadNNN w2 (.slice a3 T.length n3) T) := HV.out.below HB2.out
  clear hr HR HL
  gi_wp2_with fail
  gi_loopw [3] (fun x wr => ∃ i : Nat, i ≤ T.length ∧ x = .int .i64 (i : Int) ∧ RBas nm T w2 i wr) (fun x _ => T.length - (intOf x).toNat)
  case atStart => exact ⟨0, Nat.zero_le _, rfl, by simp, Below.refl _ _⟩
  case round =>
    rename World => wr
    obtain ⟨i, hi, rfl, hpr⟩ := hrel
    have x2 := (hpr.2.cell (p := ⟨y0, 2, none⟩) q0.out.lt).trans g2
    have x5 := (hpr.2.cell (p := ⟨y0, 5, none⟩) q0.out.lt).trans g5
    have HPR := Lib.hid hpr
    clear hpr
    by_cases hlt : i < T.length
    · have hone : freeC nm T[i] = true → R = true := fun h => by
        rw [HRR.out, List.any_eq_true]
        exact ⟨T[i], List.getElem_mem hlt, h⟩
      have HONE := Lib.hid hone
      have hnx : freeC nm T[i] = false → ∀ c ∈ T.take (i + 1), freeC nm c = false := fun h c hc => by
        rw [List.take_succ_eq_append_getElem hlt] at hc
        rcases List.mem_append.1 hc with h' | h'
        · exact HPR.out.1 c h'
        · simp at h'; rw [h']; exact h
      have HNX := Lib.hid hnx
      clear hone hnx
      gi_wp2_with fail
      gi_loopw [4, 5] (fun o x wq => ∃ k : Nat, k ≤ (T[i]).length ∧ x = .int .i64 (k : Int) ∧ o = .bool (ownK nm T[i] k) ∧ Below w2.heap.size w2 wq) (fun _ x _ => (T[i]).length - (intOf x).toNat)
      case atStart => exact ⟨0, Nat.zero_le _, rfl, rfl, HPR.out.2⟩
      case round =>
        rename World => wq
        obtain ⟨k, hk, rfl, rfl, hpq⟩ := hrel
        have z2 := (hpq.cell (p := ⟨y0, 2, none⟩) q0.out.lt).trans g2
        have z5 := (hpq.cell (p := ⟨y0, 5, none⟩) q0.out.lt).trans g5
        have HVQ : Hid (ReadNNN wq (.slice a3 T.length n3) T) := HV2.out.below hpq
        have HPQ := Lib.hid hpq
        clear hpq x2 x5
        obtain ⟨_, ⟨h0, _⟩ | ⟨b, off, cap, he, hbw⟩⟩ := HVQ.out.shape
        · subst h0; simp at hlt
        obtain ⟨rfl, rfl⟩ : a3 = some ⟨b, off, none⟩ ∧ n3 = cap := by simpa using he
        obtain ⟨a4, n4, f1, r1⟩ := HVQ.out.at hlt
        have hqm : (T[i]).length ≤ 9223372036854775807 := by have := r1.shape.1; unfold maxLen at this; omega
        clear he
        by_cases hkl : k < (T[i]).length
        · obtain ⟨_, ⟨h0, _⟩ | ⟨b1, off1, cap1, he, hbw1⟩⟩ := r1.shape
          · rw [h0] at hkl; simp at hkl
          obtain ⟨rfl, rfl⟩ : a4 = some ⟨b1, off1, none⟩ ∧ n4 = cap1 := by simpa using he
          obtain ⟨a5, n5, f2, r2⟩ := r1.at hkl
          have hmem : (T[i])[k] ∈ T.flatten := List.mem_flatten.2 ⟨T[i], List.getElem_mem hlt, List.getElem_mem hkl⟩
          have hsm := HL3.out _ hmem
          have hos := ownK_succ (s := nm) hkl
          obtain ⟨t, ht⟩ : ∃ t, (T[i])[k] = t := ⟨_, rfl⟩
          rw [ht] at f2 r2 hsm hos
          obtain ⟨ql, hql⟩ : ∃ x, (T[i]).length = x := ⟨_, rfl⟩
          have HQL := Lib.hid hql
          rw [hql] at f1 hk hkl hqm ⊢
          obtain ⟨kn, hkn⟩ : ∃ v, kindN nm t = v := ⟨_, rfl⟩
          rw [hkn] at hos
          have HC : Hid (∀ m, Calls Tryd.prog 40 #[.string nm, .slice a5 t.length n5] (wq.drewN m) (RetB (.int .i64 kn) wq)) := by
            show ∀ m, _
            intro m
            rw [← hkn]
            exact (rkind_any nm t _ (wq.drewN m) (RowAt.drewN r2 m) hsm).mono fun e w' ⟨h1, h2⟩ => ⟨h1, below_ofdrewN h2⟩
          obtain ⟨tl, htl⟩ : ∃ x, t.length = x := ⟨_, rfl⟩
          rw [htl] at f2 HC
          have HOS := Lib.hid hos
          obtain ⟨o, ho⟩ : ∃ o, ownK nm T[i] k = o := ⟨_, rfl⟩
          rw [ho] at HOS ⊢
          clear he r1 r2 hmem hsm ht hql hkn htl hos ho
          cases o
          · gi_wp2_with fail
            refine wpIn_region_mid 12 (by kernel_rfl) (by kernel_rfl) (by kernel_rfl) ?_
            simp only [List.take_succ_cons, List.take_zero, List.drop_succ_cons, List.drop_zero]
            repeat (first | gi_big_quiet_skip | (gi_big_quiet_want; gi_big_quiet_op; go_big_quiet_on))
            refine wpQuietIn_nil ?_
            intro mq
            gi_wp2_with fail
            refine enterW2 (HC.out mq) ?_
            rintro e w5 ⟨rfl, hb5⟩
            have HB5 := Lib.hid hb5
            clear hb5
            obtain ⟨y, hy⟩ : ∃ y, (kn == 1) = y := ⟨_, rfl⟩
            have HY := Lib.hid hy
            gi_wp2_with fail
            repeat (first | gi_big_quiet_skip | (gi_big_quiet_want; gi_big_quiet_op; go_big_quiet_on))
            refine wpQuietIn_nil ?_
            rintro w6' ⟨rq, rfl⟩
            obtain ⟨w6, hw6⟩ : ∃ w6, w5.drewN rq = w6 := ⟨_, rfl⟩
            have hb6 : Below w2.heap.size w2 w6 := by rw [← hw6]; exact HPQ.out.trans ((below_drewN HB5.out rq).mono HPQ.out.size)
            rw [hw6]
            have HB6 := Lib.hid hb6
            clear hw6 hb6 f1 f2 z2 z5 hy
            gi_wp2_with fail
            exact ⟨⟨k + 1, by omega, by go_num, by rw [HOS.out, HY.out]; cases y <;> rfl, HB6.out⟩, by simp [intOf]; omega⟩
          · gi_wp2_with fail
            refine wpIn_region_mid 12 (by kernel_rfl) (by kernel_rfl) (by kernel_rfl) ?_
            simp only [List.take_succ_cons, List.take_zero, List.drop_succ_cons, List.drop_zero]
            repeat (first | gi_big_quiet_skip | (gi_big_quiet_want; gi_big_quiet_op; go_big_quiet_on))
            refine wpQuietIn_nil ?_
            intro mq
            gi_wp2_with fail
            refine ⟨trivial, ?_⟩
            gi_wp2_with fail
            repeat (first | gi_big_quiet_skip | (gi_big_quiet_want; gi_big_quiet_op; go_big_quiet_on))
            refine wpQuietIn_nil ?_
            rintro w6' ⟨rq, rfl⟩
            obtain ⟨w6, hw6⟩ : ∃ w6, (wq.drewN mq).drewN rq = w6 := ⟨_, rfl⟩
            have hb6 : Below w2.heap.size w2 w6 := by rw [← hw6]; exact below_drewN (below_drewN HPQ.out mq) rq
            rw [hw6]
            have HB6 := Lib.hid hb6
            clear hw6 hb6 f1 f2 z2 z5
            gi_wp2_with fail
            exact ⟨⟨k + 1, by omega, by go_num, by rw [HOS.out]; rfl, HB6.out⟩, by simp [intOf]; omega⟩
        · obtain rfl : k = (T[i]).length := by omega
          rw [ownK_all]
          obtain ⟨ql, hql⟩ : ∃ x, (T[i]).length = x := ⟨_, rfl⟩
          rw [hql] at f1 hkl hqm ⊢
          obtain ⟨o, ho⟩ : ∃ o, freeC nm T[i] = o := ⟨_, rfl⟩
          rw [ho] at HONE HNX ⊢
          clear r1 hk hql ho
          cases o
          · have HX := Lib.hid (HNX.out rfl)
            clear HNX HONE
            gi_wp2_with fail
            exact ⟨⟨i + 1, by omega, by go_num, HX.out, HPQ.out⟩, by simp [intOf]; omega⟩
          · have hr := HONE.out rfl
            subst hr
            clear HNX HONE
            gi_wp2_with fail
            exact bodyPost_ret (results_tmp rfl _ _ _) rfl ⟨rfl, HB2.out.trans (HPQ.out.mono HB2.out.size)⟩
    · obtain rfl : i = T.length := by omega
      have hr : R = false := by
        rw [HRR.out, List.any_eq_false]
        intro c hc
        rw [HPR.out.1 c (by rw [List.take_length]; exact hc)]
        decide
      subst hr
      gi_wp2_with fail
      exact bodyPost_ret (results_tmp rfl _ _ _) rfl ⟨rfl, HB2.out.trans (HPR.out.2.mono HB2.out.size)⟩

end Go.Proofs.YteldkcpkamgfpaaDoor
