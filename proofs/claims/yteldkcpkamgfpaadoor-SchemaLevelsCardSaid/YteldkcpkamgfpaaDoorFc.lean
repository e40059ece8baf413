/- SchemaTells' walk: for every declaration, levels, term and name the law's function returns true; where the table of shapes lies as it is laid. -/
import Derived.Test.YteldkcpkamgfpaaDoorFa
namespace Go.Proofs.YteldkcpkamgfpaaDoor
set_option linter.unusedSimpArgs false
set_option linter.unusedVariables false
open Go.RowKit

theorem flat_small {d : Dc} (h : d.Cons.length ≤ 10 ∧ ∀ c, c ∈ d.Cons → c.length ≤ 10) : d.Cons.flatten.length ≤ 100 := by
  obtain ⟨h1, h2⟩ := h
  generalize d.Cons = T at h1 h2
  have : ∀ (T : List (List (List Nd))), (∀ c, c ∈ T → c.length ≤ 10) → T.flatten.length ≤ 10 * T.length := by
    intro T
    induction T with
    | nil => intro _; simp
    | cons c r ih =>
      intro h
      have h3 := ih (fun x hx => h x (List.mem_cons_of_mem _ hx))
      have h4 := h c (List.mem_cons_self)
      rw [List.flatten_cons, List.length_append, List.length_cons]
      omega
  have := this T h2
  omega

/-- everything that a law asks of a declaration, at whatever later world -/
structure Asks (W : World) (d : Dc) (dv : Value) : Prop where
  chk : ∀ w', Below W.heap.size W w' → Calls Tryd.prog 16 #[dv] w' (RetB (.int .i64 (schE nmB freeN d)) w')
  rchk : ∀ w', Below W.heap.size W w' → Calls Tryd.prog 17 #[dv] w' (RetB (.int .i64 (schE nmB freeN d)) w')
  bas : ∀ w', Below W.heap.size W w' → Calls Tryd.prog 19 #[dv] w' (RetB (.bool (basedB nmB freeN d)) w')
  rbas : ∀ w', Below W.heap.size W w' → Calls Tryd.prog 25 #[dv] w' (RetB (.bool (basedB nmB freeN d)) w')
  fit : ∀ L vl, ReadII W vl L → ∀ w', Below W.heap.size W w' → Calls Tryd.prog 23 #[dv, vl] w' (RetB (.int .i64 (fitE nmB freeN d L)) w')
  rfit : ∀ L vl, ReadII W vl L → ∀ w', Below W.heap.size W w' → Calls Tryd.prog 24 #[dv, vl] w' (RetB (.int .i64 (fitE nmB freeN d L)) w')
  their : ∀ w', Calls Tryd.prog 18 #[dv] w' (RetB dv w')
theorem asks (W : World) (d : Dc) (vt vb vc : Value) (hS : ShapesAt W) (h : DeclV W d vt vb vc) (hs : SmallD d) (hg : d.Cons.length ≤ 20 ∧ d.Cons.flatten.length ≤ 1000) : Asks W d (declV d vt vb vc) where
  chk := fun w' hb => scheck_any d vt vb vc w' (h.below hb) (hS.below hb) hs.terms (by omega) hs.2.2.1
  rchk := fun w' hb => rcheck17_any d vt vb vc w' (h.below hb) hs.terms (by omega) hs.2.2.1
  bas := fun w' hb => based_any d vt vb vc w' (h.below hb) (hS.below hb) hs.terms (by omega) hs.2.2.1 (by omega)
  rbas := fun w' hb => rbased_any d vt vb vc w' (h.below hb) hs.terms (by omega) hs.2.2.1
  fit := fun L vl hl w' hb => fits_any d L vt vb vc vl w' (h.below hb) (hl.below hb) (hS.below hb) hs.terms (by omega) hs.2.2.1
  rfit := fun L vl hl w' hb => rfits_any d L vt vb vc vl w' (h.below hb) (hl.below hb) hs.terms (by omega) hs.2.2.1
  their := fun w' => by
    obtain ⟨a1, c1, rfl⟩ := ReadN.len_slice h.ty
    obtain ⟨a2, c2, rfl⟩ := ReadN.len_slice h.bd
    obtain ⟨a3, n3, rfl⟩ := h.cons.form
    exact theirs_any _ _ _ _ _ _ _ _ _ _ _ _ w'

set_option maxRecDepth 100000 in
set_option maxHeartbeats 40000000 in
theorem stells_walk (W : World) (d : Dc) (vt vb vc : Value) (hd : DeclV W d vt vb vc) (hsd : SmallD d) (L : List (List Int)) (vl : Value) (hl : ReadII W vl L) (t : List Nd) (vx : Value) (ht : ReadN W vx t) (hst : SmallN t) (s : ByteArray) (hz : s.size ≤ maxLen) (hS : ShapesAt W) :
    Calls Tryd.prog 6 #[declV d vt vb vc, vl, vx, .string s] W fun e W' => e = .returned (.bool true) ∧ Below W.heap.size W W' := by
  have HSH : Hid (∀ w', Below W.heap.size W w' → Calls Tryd.prog 9 #[] w' (RetB (.bool true) w')) := Lib.hid (fun w' hb => shown17_any w' (hS.below hb))
  have HGR : Hid (∀ w', Below W.heap.size W w' → Calls Tryd.prog 15 #[declV d vt vb vc] w' (GreatPost d w')) := Lib.hid (fun w' hb => great_any d vt vb vc w' (hd.below hb) hsd)
  have HHV : Hid (∀ w', Below W.heap.size W w' → Calls Tryd.prog 8 #[vx] w' (HeavyPost t.length 100 w')) := Lib.hid (fun w' hb => heavy17_any t vx w' (ht.below hb) hst)
  have HMT : Hid (∀ w', Below W.heap.size W w' → Calls Tryd.prog 14 #[vx, .string s] w' (RetB (.bool (mentB t s)) w')) := Lib.hid (fun w' hb => mentions_any t s vx w' (ht.below hb))
  have HRM : Hid (∀ w', Below W.heap.size W w' → Calls Tryd.prog 21 #[vx, .string s] w' (RetB (.bool (mentB t s)) w')) := Lib.hid (fun w' hb => (rmentions_any t s vx w' (ht.below hb)).mono fun e w2 ⟨h1, h2⟩ => ⟨h1, by rw [← h2]; exact Below.refl _ _⟩)
  have HPS : Hid (∀ w', Below W.heap.size W w' → Calls Tryd.prog 13 #[.string s, vx] w' (RetB (.int .i64 (posE s t)) w')) := Lib.hid (fun w' hb => positive_any s t vx w' (hS.below hb) (ht.below hb) hst)
  have HRP : Hid (∀ w', Below W.heap.size W w' → Calls Tryd.prog 22 #[.string s, vx] w' (RetB (.int .i64 (posE s t)) w')) := Lib.hid (fun w' hb => rpositive_any s t vx w' (ht.below hb) hst)
  have HAS : Hid ((d.Cons.length ≤ 10 ∧ ∀ c, c ∈ d.Cons → c.length ≤ 10) → Asks W d (declV d vt vb vc)) := Lib.hid (fun h => asks W d vt vb vc hS hd hsd ⟨by omega, by have := flat_small h; omega⟩)
  obtain ⟨a1, c1, rfl⟩ := ReadN.len_slice hd.ty
  obtain ⟨a2, c2, rfl⟩ := ReadN.len_slice hd.bd
  obtain ⟨a3, n3, rfl⟩ := hd.cons.form
  obtain ⟨a4, n4, rfl⟩ := hl.form
  obtain ⟨a5, n5, rfl⟩ := ReadN.len_slice ht
  have HLV := Lib.hid hl
  have hz9 : s.size ≤ 9223372036854775807 := by unfold maxLen at hz; omega
  have hm3 : L.length ≤ 9223372036854775807 := by have := hl.shape.1; unfold maxLen at this; omega
  clear hd hsd hl ht hst hz hS
  obtain ⟨dv, hdv⟩ : ∃ dv, declV d (.slice a1 d.Ty.length c1) (.slice a2 d.Bd.length c2) (.slice a3 d.Cons.length n3) = dv := ⟨_, rfl⟩
  have HDV := Lib.hid hdv
  obtain ⟨tl, htl⟩ : ∃ x, t.length = x := ⟨_, rfl⟩
  rw [htl] at HHV HMT HRM HPS HRP ⊢
  unfold declV at HGR HAS hdv HDV ⊢
  clear htl hdv
  obtain ⟨y0, hy0⟩ : ∃ y, W.heap.size = y := ⟨_, rfl⟩
  obtain ⟨W1, hW1⟩ : ∃ m, W.alloc (.cells #[.int .i64 d.Kind, .int .i64 d.Level, .string d.Name, .slice a1 d.Ty.length c1, .slice a2 d.Bd.length c2, .slice a3 d.Cons.length n3] 36) = m := ⟨_, rfl⟩
  have b0 : Blk W1 y0 36 #[.int .i64 d.Kind, .int .i64 d.Level, .string d.Name, .slice a1 d.Ty.length c1, .slice a2 d.Bd.length c2, .slice a3 d.Cons.length n3] := by rw [← hW1, ← hy0]; exact Blk.new _ _ _
  have hb1 : Below W.heap.size W W1 := by rw [← hW1]; exact (Below.refl _ _).alloc (Nat.le_refl _) _
  have k0 := b0.cell 0
  have k1 := b0.cell 1
  have k2 := b0.cell 2
  have k3 := b0.cell 3
  have k4 := b0.cell 4
  have k5 := b0.cell 5
  simp only [List.getElem?_toArray, List.getElem?_cons_zero, List.getElem?_cons_succ] at k0 k1 k2 k3 k4 k5
  have HB1 := Lib.hid hb1
  have B0 := Lib.hid b0
  have C0 := Lib.hid (HGR.out W1 hb1)
  clear b0 hb1 HGR
  go_enter Tryd.func6, Tryd.ntmps6
  go_wp2_with (go_at_call 15; refine C0.out.mono ?_)
  rintro e w1 ⟨⟨g1, rfl, hg1⟩, hb1⟩
  have HB2 := Lib.hid hb1
  have HBX := Lib.hid (HB1.out.trans (hb1.mono HB1.out.size))
  clear hb1 C0
  cases g1
  rotate_left
  · go_wp2_with fail
    refine (HSH.out _ HBX.out).mono ?_
    rintro e w2 ⟨rfl, hb2⟩
    have HB3 := Lib.hid (HBX.out.trans (hb2.mono HBX.out.size))
    clear hb2
    go_wp2_with fail
    go_ret
    exact ⟨rfl, HB3.out⟩
  have HA := Lib.hid (HAS.out (hg1 rfl))
  clear HAS hg1
  go_wp2_with fail
  refine (HHV.out _ HBX.out).mono ?_
  rintro e w2 ⟨⟨g2, rfl, _⟩, rfl⟩
  cases g2
  rotate_left
  · go_wp2_with fail
    refine (HSH.out _ HBX.out).mono ?_
    rintro e w2 ⟨rfl, hb2⟩
    have HB3 := Lib.hid (HBX.out.trans (hb2.mono HBX.out.size))
    clear hb2
    go_wp2_with fail
    go_ret
    exact ⟨rfl, HB3.out⟩
  clear HHV
  by_cases hs1 : s.size > 100
  · have e1 : decide ((s.size : Int) > 100) = true := by rw [decide_eq_true_eq]; omega
    go_wp2_with fail
    refine (HSH.out _ HBX.out).mono ?_
    rintro e w2 ⟨rfl, hb2⟩
    have HB3 := Lib.hid (HBX.out.trans (hb2.mono HBX.out.size))
    clear hb2
    go_wp2_with fail
    go_ret
    exact ⟨rfl, HB3.out⟩
  have e1 : decide ((s.size : Int) > 100) = false := by rw [decide_eq_false_iff_not]; omega
  by_cases hL : L.length > 10
  · have e2 : decide ((L.length : Int) > 10) = true := by rw [decide_eq_true_eq]; omega
    go_wp2_with fail
    refine (HSH.out _ HBX.out).mono ?_
    rintro e w2 ⟨rfl, hb2⟩
    have HB3 := Lib.hid (HBX.out.trans (hb2.mono HBX.out.size))
    clear hb2
    go_wp2_with fail
    go_ret
    exact ⟨rfl, HB3.out⟩
  have e2 : decide ((L.length : Int) > 10) = false := by rw [decide_eq_false_iff_not]; omega
  go_wp2_with fail
  refine (HSH.out _ HBX.out).mono ?_
  rintro e w2 ⟨rfl, hb2⟩
  have HB3 := Lib.hid (HB2.out.trans (hb2.mono HB2.out.size))
  have HBY := Lib.hid (HBX.out.trans (hb2.mono HBX.out.size))
  clear hb2 HB2 HBX
  go_wp2_with fail
  go_loopw [9] (fun x wr => (∃ i : Nat, i ≤ L.length ∧ x = .int .i64 (i : Int)) ∧ wr = w2) (fun x _ => L.length - (intOf x).toNat)
  case atStart => exact ⟨⟨0, Nat.zero_le _, rfl⟩, rfl⟩
  case round =>
    obtain ⟨⟨i, hi, rfl⟩, rfl⟩ := hrel
    by_cases hlt : i < L.length
    · have hlv := HLV.out.below HBY.out
      obtain ⟨_, ⟨h0, _⟩ | ⟨b, off, cap, he, hbw⟩⟩ := hlv.shape
      · subst h0; simp at hlt
      obtain ⟨rfl, rfl⟩ : a4 = some ⟨b, off, none⟩ ∧ n4 = cap := by simpa using he
      obtain ⟨a6, n6, f1, r1⟩ := hlv.at hlt
      have hqm : (L[i]).length ≤ 9223372036854775807 := by have := (ReadI.cases r1).1; unfold maxLen at this; omega
      obtain ⟨ql, hql⟩ : ∃ x, (L[i]).length = x := ⟨_, rfl⟩
      rw [hql] at f1 hqm
      clear r1 he hql hlv
      by_cases hq : ql > 10
      · have e3 : decide ((ql : Int) > 10) = true := by rw [decide_eq_true_eq]; omega
        go_wp2_with fail
        refine (HSH.out _ HBY.out).mono ?_
        rintro e w3 ⟨rfl, hb2⟩
        have HB4 := Lib.hid (HBY.out.trans (hb2.mono HBY.out.size))
        clear hb2
        go_wp2_with fail
        go_ret
        exact ⟨rfl, HB4.out⟩
      have e3 : decide ((ql : Int) > 10) = false := by rw [decide_eq_false_iff_not]; omega
      go_wp2_with fail
      go_roundw
      case rel => exact ⟨⟨i + 1, by omega, by go_num⟩, trivial⟩
      case measure => simp [intOf]; omega
    obtain rfl : i = L.length := by omega
    rename World => wr
    obtain ⟨wc, hwc⟩ : ∃ wc, wr = wc := ⟨_, rfl⟩
    have hx0 : ∀ x : BW wr.heap.size wr, x.w.cell? ⟨y0, 0, none⟩ = _ := fun x => (x.h.cell (by have := HB3.out.size; have := B0.out.lt; show y0 < _; omega)).trans ((HB3.out.cell (p := ⟨y0, 0, none⟩) B0.out.lt).trans k0)
    have hx1 : ∀ x : BW wr.heap.size wr, x.w.cell? ⟨y0, 1, none⟩ = _ := fun x => (x.h.cell (by have := HB3.out.size; have := B0.out.lt; show y0 < _; omega)).trans ((HB3.out.cell (p := ⟨y0, 1, none⟩) B0.out.lt).trans k1)
    have hx2 : ∀ x : BW wr.heap.size wr, x.w.cell? ⟨y0, 2, none⟩ = _ := fun x => (x.h.cell (by have := HB3.out.size; have := B0.out.lt; show y0 < _; omega)).trans ((HB3.out.cell (p := ⟨y0, 2, none⟩) B0.out.lt).trans k2)
    have hx3 : ∀ x : BW wr.heap.size wr, x.w.cell? ⟨y0, 3, none⟩ = _ := fun x => (x.h.cell (by have := HB3.out.size; have := B0.out.lt; show y0 < _; omega)).trans ((HB3.out.cell (p := ⟨y0, 3, none⟩) B0.out.lt).trans k3)
    have hx4 : ∀ x : BW wr.heap.size wr, x.w.cell? ⟨y0, 4, none⟩ = _ := fun x => (x.h.cell (by have := HB3.out.size; have := B0.out.lt; show y0 < _; omega)).trans ((HB3.out.cell (p := ⟨y0, 4, none⟩) B0.out.lt).trans k4)
    have hx5 : ∀ x : BW wr.heap.size wr, x.w.cell? ⟨y0, 5, none⟩ = _ := fun x => (x.h.cell (by have := HB3.out.size; have := B0.out.lt; show y0 < _; omega)).trans ((HB3.out.cell (p := ⟨y0, 5, none⟩) B0.out.lt).trans k5)
    have HFIT := Lib.hid (HA.out.fit L _ HLV.out)
    have HRFIT := Lib.hid (HA.out.rfit L _ HLV.out)
    clear hlt hi hwc k0 k1 k2 k3 k4 k5 hW1 e1 e2 hs1 hL
    obtain ⟨mt, hmt⟩ : ∃ x, mentB t s = x := ⟨_, rfl⟩
    obtain ⟨pv, hpv⟩ : ∃ x, posE s t = x := ⟨_, rfl⟩
    obtain ⟨sv, hsv⟩ : ∃ x, schE nmB freeN d = x := ⟨_, rfl⟩
    obtain ⟨bv, hbv⟩ : ∃ x, basedB nmB freeN d = x := ⟨_, rfl⟩
    obtain ⟨fv, hfv⟩ : ∃ x, fitE nmB freeN d L = x := ⟨_, rfl⟩
    have HCHK := Lib.hid HA.out.chk
    have HRCHK := Lib.hid HA.out.rchk
    have HBAS := Lib.hid HA.out.bas
    have HRBAS := Lib.hid HA.out.rbas
    have HTH := Lib.hid HA.out.their
    rw [hmt] at HMT HRM
    rw [hpv] at HPS HRP
    rw [hsv] at HCHK HRCHK
    rw [hbv] at HBAS HRBAS
    rw [hfv] at HFIT HRFIT
    clear hmt hpv hsv hbv hfv HA
    have q1 : (pv == pv) = true := by simp
    have q2 : (sv == sv) = true := by simp
    have q3 : (fv == fv) = true := by simp
    go_wp2_with fail
    cases mt <;> cases bv
    all_goals
      refine wp_region_mix (fun w' => ∃ x : BW wr.heap.size wr, w' = x.w) [(true, 0), (true, 1), (true, 3), (true, 4), (false, 2), (false, 5), (true, 6), (true, 7), (true, 8), (true, 9), (true, 11), (true, 12), (false, 10), (false, 13), (true, 14), (true, 15), (true, 16), (true, 17), (true, 19), (false, 18), (false, 20), (false, 21), (true, 22), (true, 23), (true, 24), (true, 25), (true, 26), (true, 28), (true, 30), (false, 27), (false, 29), (false, 31), (true, 32), (true, 33), (true, 34), (true, 35), (true, 37), (false, 36), (false, 38), (false, 39), (true, 40), (true, 41), (true, 42)] (by kernel_rfl) (by kernel_rfl) ⟨⟨_, (Below.refl _ _).drew⟩, rfl⟩ ?_
      have hb0 : Below wr.heap.size wr wr.drew := (Below.refl _ _).drew
      obtain ⟨x0, hx⟩ : ∃ m, wr.drew = m := ⟨_, rfl⟩
      rw [hx] at hb0 ⊢
      clear hx
      have HX0 := Lib.hid hb0
      clear hb0
      refine mix_calm ⟨_, ⟨⟨_, Below.refl _ _⟩, rfl⟩⟩ _ [0, 1, 3, 4] [_, _, _, _] _ rfl rfl ?_
      simp only [List.getElem_toArray, List.getElem_cons_zero, List.getElem_cons_succ]
      repeat (first | go_big_quiet_skip | (go_big_quiet_want; go_big_quiet_op; go_big_quiet_on))
      refine wpQuiet_nil ?_
      refine mix_one rfl ?_
      simp only [List.getElem_toArray, List.getElem_cons_zero, List.getElem_cons_succ]
      go_wp2_with (go_at_call 14; refine (HMT.out _ (HBY.out.trans (HX0.out.mono HBY.out.size))).mono ?_)
      rintro e x1 ⟨rfl, hb⟩
      have HX1 := Lib.hid (HX0.out.trans (hb.mono HX0.out.size))
      clear hb
      go_wp2_with fail
      refine ⟨⟨⟨_, HX1.out⟩, rfl⟩, ?_⟩
      refine mix_one rfl ?_
      simp only [List.getElem_toArray, List.getElem_cons_zero, List.getElem_cons_succ]
      go_wp2_with (go_at_call 21; refine (HRM.out _ (HBY.out.trans (HX1.out.mono HBY.out.size))).mono ?_)
      rintro e x2 ⟨rfl, hb⟩
      have HX2 := Lib.hid (HX1.out.trans (hb.mono HX1.out.size))
      clear hb
      go_wp2_with fail
      refine ⟨⟨⟨_, HX2.out⟩, rfl⟩, ?_⟩
      refine mix_calm ⟨_, ⟨⟨_, Below.refl _ _⟩, rfl⟩⟩ _ [6, 7, 8, 9, 11, 12] [_, _, _, _, _, _] _ rfl rfl ?_
      simp only [List.getElem_toArray, List.getElem_cons_zero, List.getElem_cons_succ]
      repeat (first | go_big_quiet_skip | (go_big_quiet_want; go_big_quiet_op; go_big_quiet_on))
      refine wpQuiet_nil ?_
      refine mix_one rfl ?_
      simp only [List.getElem_toArray, List.getElem_cons_zero, List.getElem_cons_succ]
      go_wp2_with (go_at_call 13; refine (HPS.out _ (HBY.out.trans (HX2.out.mono HBY.out.size))).mono ?_)
      rintro e x3 ⟨rfl, hb⟩
      have HX3 := Lib.hid (HX2.out.trans (hb.mono HX2.out.size))
      clear hb
      go_wp2_with fail
      refine ⟨⟨⟨_, HX3.out⟩, rfl⟩, ?_⟩
      refine mix_one rfl ?_
      simp only [List.getElem_toArray, List.getElem_cons_zero, List.getElem_cons_succ]
      go_wp2_with (go_at_call 22; refine (HRP.out _ (HBY.out.trans (HX3.out.mono HBY.out.size))).mono ?_)
      rintro e x4 ⟨rfl, hb⟩
      have HX4 := Lib.hid (HX3.out.trans (hb.mono HX3.out.size))
      clear hb
      go_wp2_with fail
      refine ⟨⟨⟨_, HX4.out⟩, rfl⟩, ?_⟩
      refine mix_calm ⟨_, ⟨⟨_, Below.refl _ _⟩, rfl⟩⟩ _ [14, 15, 16, 17, 19] [_, _, _, _, _] _ rfl rfl ?_
      simp only [List.getElem_toArray, List.getElem_cons_zero, List.getElem_cons_succ]
      repeat (first | go_big_quiet_skip | (go_big_quiet_want; go_big_quiet_op; go_big_quiet_on))
      refine wpQuiet_nil ?_
      refine mix_one rfl ?_
      simp only [List.getElem_toArray, List.getElem_cons_zero, List.getElem_cons_succ]
      go_wp2_with (go_at_call 16; refine (HCHK.out _ (HBY.out.trans (HX4.out.mono HBY.out.size))).mono ?_)
      rintro e x5 ⟨rfl, hb⟩
      have HX5 := Lib.hid (HX4.out.trans (hb.mono HX4.out.size))
      clear hb
      go_wp2_with fail
      refine ⟨⟨⟨_, HX5.out⟩, rfl⟩, ?_⟩
      refine mix_one rfl ?_
      simp only [List.getElem_toArray, List.getElem_cons_zero, List.getElem_cons_succ]
      go_wp2_with (go_at_call 18; refine (HTH.out _).mono ?_)
      rintro e x6 ⟨rfl, hb⟩
      have HX6 := Lib.hid (HX5.out.trans (hb.mono HX5.out.size))
      clear hb
      go_wp2_with fail
      refine ⟨⟨⟨_, HX6.out⟩, rfl⟩, ?_⟩
      refine mix_one rfl ?_
      simp only [List.getElem_toArray, List.getElem_cons_zero, List.getElem_cons_succ]
      go_wp2_with (go_at_call 17; refine (HRCHK.out _ (HBY.out.trans (HX6.out.mono HBY.out.size))).mono ?_)
      rintro e x7 ⟨rfl, hb⟩
      have HX7 := Lib.hid (HX6.out.trans (hb.mono HX6.out.size))
      clear hb
      go_wp2_with fail
      refine ⟨⟨⟨_, HX7.out⟩, rfl⟩, ?_⟩
      refine mix_calm ⟨_, ⟨⟨_, Below.refl _ _⟩, rfl⟩⟩ _ [22, 23, 24, 25, 26, 28, 30] [_, _, _, _, _, _, _] _ rfl rfl ?_
      simp only [List.getElem_toArray, List.getElem_cons_zero, List.getElem_cons_succ]
      repeat (first | go_big_quiet_skip | (go_big_quiet_want; go_big_quiet_op; go_big_quiet_on))
      refine wpQuiet_nil ?_
      refine mix_one rfl ?_
      simp only [List.getElem_toArray, List.getElem_cons_zero, List.getElem_cons_succ]
      go_wp2_with (go_at_call 23; refine (HFIT.out _ (HBY.out.trans (HX7.out.mono HBY.out.size))).mono ?_)
      rintro e x8 ⟨rfl, hb⟩
      have HX8 := Lib.hid (HX7.out.trans (hb.mono HX7.out.size))
      clear hb
      go_wp2_with fail
      refine ⟨⟨⟨_, HX8.out⟩, rfl⟩, ?_⟩
      refine mix_one rfl ?_
      simp only [List.getElem_toArray, List.getElem_cons_zero, List.getElem_cons_succ]
      go_wp2_with (go_at_call 18; refine (HTH.out _).mono ?_)
      rintro e x9 ⟨rfl, hb⟩
      have HX9 := Lib.hid (HX8.out.trans (hb.mono HX8.out.size))
      clear hb
      go_wp2_with fail
      refine ⟨⟨⟨_, HX9.out⟩, rfl⟩, ?_⟩
      refine mix_one rfl ?_
      simp only [List.getElem_toArray, List.getElem_cons_zero, List.getElem_cons_succ]
      go_wp2_with (go_at_call 24; refine (HRFIT.out _ (HBY.out.trans (HX9.out.mono HBY.out.size))).mono ?_)
      rintro e x10 ⟨rfl, hb⟩
      have HX10 := Lib.hid (HX9.out.trans (hb.mono HX9.out.size))
      clear hb
      go_wp2_with fail
      refine ⟨⟨⟨_, HX10.out⟩, rfl⟩, ?_⟩
      refine mix_calm ⟨_, ⟨⟨_, Below.refl _ _⟩, rfl⟩⟩ _ [32, 33, 34, 35, 37] [_, _, _, _, _] _ rfl rfl ?_
      simp only [List.getElem_toArray, List.getElem_cons_zero, List.getElem_cons_succ]
      repeat (first | go_big_quiet_skip | (go_big_quiet_want; go_big_quiet_op; go_big_quiet_on))
      refine wpQuiet_nil ?_
      refine mix_one rfl ?_
      simp only [List.getElem_toArray, List.getElem_cons_zero, List.getElem_cons_succ]
      go_wp2_with (go_at_call 19; refine (HBAS.out _ (HBY.out.trans (HX10.out.mono HBY.out.size))).mono ?_)
      rintro e x11 ⟨rfl, hb⟩
      have HX11 := Lib.hid (HX10.out.trans (hb.mono HX10.out.size))
      clear hb
      go_wp2_with fail
      refine ⟨⟨⟨_, HX11.out⟩, rfl⟩, ?_⟩
      refine mix_one rfl ?_
      simp only [List.getElem_toArray, List.getElem_cons_zero, List.getElem_cons_succ]
      go_wp2_with (go_at_call 18; refine (HTH.out _).mono ?_)
      rintro e x12 ⟨rfl, hb⟩
      have HX12 := Lib.hid (HX11.out.trans (hb.mono HX11.out.size))
      clear hb
      go_wp2_with fail
      refine ⟨⟨⟨_, HX12.out⟩, rfl⟩, ?_⟩
      refine mix_one rfl ?_
      simp only [List.getElem_toArray, List.getElem_cons_zero, List.getElem_cons_succ]
      go_wp2_with (go_at_call 25; refine (HRBAS.out _ (HBY.out.trans (HX12.out.mono HBY.out.size))).mono ?_)
      rintro e x13 ⟨rfl, hb⟩
      have HX13 := Lib.hid (HX12.out.trans (hb.mono HX12.out.size))
      clear hb
      go_wp2_with fail
      refine ⟨⟨⟨_, HX13.out⟩, rfl⟩, ?_⟩
      refine mix_calm ⟨_, ⟨⟨_, Below.refl _ _⟩, rfl⟩⟩ _ [40, 41, 42] [_, _, _] _ rfl rfl ?_
      simp only [List.getElem_toArray, List.getElem_cons_zero, List.getElem_cons_succ]
      repeat (first | go_big_quiet_skip | (go_big_quiet_want; go_big_quiet_op; go_big_quiet_on))
      refine wpQuiet_nil ?_
      refine mix_nil ?_
      go_wp2_with fail
      go_ret
      exact ⟨rfl, HBY.out.trans (HX13.out.mono HBY.out.size)⟩

end Go.Proofs.YteldkcpkamgfpaaDoor
