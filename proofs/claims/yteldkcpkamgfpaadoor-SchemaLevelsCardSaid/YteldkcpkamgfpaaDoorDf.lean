/- decls.Check: the first error of eight steps; conditions: at most a million terms, the strings' sizes; where the table of shapes lies as it is laid. -/
import Derived.Test.YteldkcpkamgfpaaDoorDe
import Derived.Test.YteldkcpkamgfpaaDoorMix
import Derived.Test.YteldkcpkamgfpaaDoorBw
import Derived.Deep.CutRange
namespace Go.Proofs.YteldkcpkamgfpaaDoor
set_option linter.unusedSimpArgs false
set_option linter.unusedVariables false
open Go.RowKit

set_option maxHeartbeats 60000000 in
set_option maxRecDepth 100000 in
theorem dcheck_any (d : Dc) (vt vb vc : Value) (w : World) (h : DeclV w d vt vb vc) (hS : ShapesAt w) (hs : SmallNN (termsD d)) (hn : d.Cons.flatten.length ≤ 1000000) (hnm : d.Name.size ≤ maxLen) :
    Calls Tryd.prog 34 #[declV d vt vb vc] w fun e w' => e = .returned (.int .i64 (chkD nmB freeN d)) ∧ Below w.heap.size w w' := by
  have HD := Lib.hid h
  have HS := Lib.hid hS
  have HM := Lib.hid hs
  have HN := Lib.hid hn
  have HNM := Lib.hid hnm
  obtain ⟨a1, n1, rfl⟩ := ReadN.len_slice h.ty
  obtain ⟨a2, n2, rfl⟩ := ReadN.len_slice h.bd
  obtain ⟨a3, n3, rfl⟩ := h.cons.form
  have hmc : d.Cons.length ≤ 9223372036854775807 := by have := h.cons.shape.1; unfold maxLen at this; omega
  have hmt : d.Ty.length ≤ 9223372036854775807 := by have := h.ty.cases.1; unfold maxLen at this; omega
  have hmb : d.Bd.length ≤ 9223372036854775807 := by have := h.bd.cases.1; unfold maxLen at this; omega
  clear h hS hs hn hnm
  unfold declV at *
  have hcl := fun wk (hb : Below w.heap.size w wk) => closed_any d _ _ _ wk (HD.out.below hb) (HS.out.below hb) HM.out HN.out
  have HCL := Lib.hid hcl
  have hma := fun wk (hb : Below w.heap.size w wk) => many_has d.Cons _ wk (HD.out.below hb).cons
  have HMA := Lib.hid hma
  have HNA := Lib.hid (fun wk => dname_any d.Name HNM.out wk)
  clear hcl hma HD HM HN HNM
  unfold declV at HCL
  obtain ⟨kd, hkd⟩ : ∃ k, d.Kind = k := ⟨_, rfl⟩
  obtain ⟨lv, hlv⟩ : ∃ k, d.Level = k := ⟨_, rfl⟩
  obtain ⟨nm, hnm⟩ : ∃ k, d.Name = k := ⟨_, rfl⟩
  obtain ⟨nC, hnC⟩ : ∃ k, d.Cons.length = k := ⟨_, rfl⟩
  obtain ⟨nT, hnT⟩ : ∃ k, d.Ty.length = k := ⟨_, rfl⟩
  obtain ⟨nB, hnB⟩ : ∃ k, d.Bd.length = k := ⟨_, rfl⟩
  obtain ⟨bg, hbg⟩ : ∃ k, bigC d.Cons = k := ⟨_, rfl⟩
  obtain ⟨nb, hnb⟩ : ∃ k, nmB nm = k := ⟨_, rfl⟩
  obtain ⟨ce, hce⟩ : ∃ k, fstE ((termsD d).map (closE freeN)) = k := ⟨_, rfl⟩
  obtain ⟨LV, hLV⟩ : ∃ k, lvD d = k := ⟨_, rfl⟩
  obtain ⟨MN, hMN⟩ : ∃ k, manyD d = k := ⟨_, rfl⟩
  obtain ⟨KI, hKI⟩ : ∃ k, (kd == 3) = k := ⟨_, rfl⟩
  rw [hkd, hlv, hnm, hnC, hnT, hnB, hce] at HCL
  rw [hnm, hnb] at HNA
  rw [hnC, hbg] at HMA
  have HLV : Hid ((decide (1 ≤ lv) && decide (lv ≤ 9)) = LV) := Lib.hid (by rw [← hLV, ← hlv]; rfl)
  have HMN : Hid ((decide (6 < nC) || bg) = MN) := Lib.hid (by rw [← hMN, ← hnC, ← hbg]; rfl)
  have HST : Hid (chkD nmB freeN d = fstE [unl (decide (1 ≤ kd) && decide (kd ≤ 3)) 1, unl nb 20, ce, unl ((kd == 3 && LV) || (!(kd == 3) && lv == 0)) 1, unl (kd == 3 || nC == 0) 1, unl (!(kd == 3) || nT == 0) 1, unl (kd == 1 || nB == 0) 1, unl (!MN) 21]) := Lib.hid (by
    rw [← hMN, ← hLV, ← hce, ← hnb, ← hnB, ← hnT, ← hnC, ← hnm, ← hlv, ← hkd]
    rfl)
  rw [hkd, hlv, hnm, hnC, hnT, hnB, HST.out]
  rw [hnC] at hmc
  rw [hnT] at hmt
  rw [hnB] at hmb
  clear hkd hlv hnm hnC hnT hnB hbg hnb hce hLV hMN HST
  obtain ⟨W, hW⟩ : ∃ m, w.alloc (.cells #[.int .i64 kd, .int .i64 lv, .string nm, .slice a1 nT n1, .slice a2 nB n2, .slice a3 nC n3] 36) = m := ⟨_, rfl⟩
  have hb : Below w.heap.size w W := by rw [← hW]; exact (Below.refl _ _).alloc (Nat.le_refl _) _
  have hsz : w.heap.size < W.heap.size := by rw [← hW]; simp
  have hcs := (MapKept.heap_alloc w (.cells #[.int .i64 kd, .int .i64 lv, .string nm, .slice a1 nT n1, .slice a2 nB n2, .slice a3 nC n3] 36)).1
  rw [hW] at hcs
  have c0 : W.cell? ⟨w.heap.size, 0, none⟩ = some (.int .i64 kd) := by rw [Lib.cell_of_heap hcs]; rfl
  have c1 : W.cell? ⟨w.heap.size, 1, none⟩ = some (.int .i64 lv) := by rw [Lib.cell_of_heap hcs]; rfl
  have c2 : W.cell? ⟨w.heap.size, 2, none⟩ = some (.string nm) := by rw [Lib.cell_of_heap hcs]; rfl
  have c3 : W.cell? ⟨w.heap.size, 3, none⟩ = some (.slice a1 nT n1) := by rw [Lib.cell_of_heap hcs]; rfl
  have c4 : W.cell? ⟨w.heap.size, 4, none⟩ = some (.slice a2 nB n2) := by rw [Lib.cell_of_heap hcs]; rfl
  have c5 : W.cell? ⟨w.heap.size, 5, none⟩ = some (.slice a3 nC n3) := by rw [Lib.cell_of_heap hcs]; rfl
  have HB := Lib.hid hb
  have HZ := Lib.hid hsz
  clear hcs hb hsz
  go_enter Tryd.func34, Tryd.ntmps34
  go_upto_region 2 with fail
  go_cut [4] from 9 (fun s4 wx => s4 = .bool LV ∧ wx = W)
  case first =>
    by_cases h1 : 1 ≤ lv
    · have d1 : decide (lv ≥ 1) = true := by simpa using h1
      have d1' : decide (1 ≤ lv) = true := by simpa using h1
      by_cases h2 : lv ≤ 9
      · have d2 : decide (lv ≤ 9) = true := by simpa using h2
        have hl : LV = true := by rw [← HLV.out, d1', d2]; rfl
        subst hl
        go_wp2_with fail
        go_meet
        exact ⟨rfl, rfl⟩
      · have d2 : decide (lv ≤ 9) = false := by simpa using h2
        have hl : LV = false := by rw [← HLV.out, d1', d2]; rfl
        subst hl
        go_wp2_with fail
        go_meet
        exact ⟨rfl, rfl⟩
    · have d1 : decide (lv ≥ 1) = false := by simp; omega
      have d1' : decide (1 ≤ lv) = false := by simp; omega
      have hl : LV = false := by rw [← HLV.out, d1']; rfl
      subst hl
      go_wp2_with fail
      go_meet
      exact ⟨rfl, rfl⟩
  case rest =>
  obtain ⟨h4, h5⟩ := hcut
  subst h4
  subst h5
  go_upto_region 3 with fail
  go_cut [5] from 17 (fun s5 wx => s5 = .bool MN ∧ wx = wc)
  case first =>
    by_cases h1 : 6 < nC
    · have d1 : decide ((nC : Int) > 6) = true := by simp; omega
      have d2 : decide ((6 : Int) < nC) = true := by simp; omega
      have d1' : decide (6 < nC) = true := by simpa using h1
      have hl : MN = true := by rw [← HMN.out, d1']; rfl
      subst hl
      go_wp2_with fail
      go_meet
      exact ⟨rfl, rfl⟩
    · have d1 : decide ((nC : Int) > 6) = false := by simp; omega
      have d2 : decide ((6 : Int) < nC) = false := by simp; omega
      have d1' : decide (6 < nC) = false := by simpa using h1
      have hl : MN = bg := by rw [← HMN.out, d1']; rfl
      subst hl
      go_wp2_with (go_at_call 55; refine (HMA.out wc HB.out).mono ?_)
      rintro e w1 ⟨rfl, rfl⟩
      go_wp2_with fail
      go_meet
      exact ⟨rfl, rfl⟩
  case rest =>
  obtain ⟨h4, h5⟩ := hcut
  subst h4
  subst h5
  go_upto_region 4 with fail
  -- printed by gendf.py
  have hx0 : ∀ x : BW wc.heap.size wc, x.w.cell? ⟨w.heap.size, 0, none⟩ = some (.int .i64 kd) := fun x => (x.h.cell HZ.out).trans c0
  have hx1 : ∀ x : BW wc.heap.size wc, x.w.cell? ⟨w.heap.size, 1, none⟩ = some (.int .i64 lv) := fun x => (x.h.cell HZ.out).trans c1
  have hx2 : ∀ x : BW wc.heap.size wc, x.w.cell? ⟨w.heap.size, 2, none⟩ = some (.string nm) := fun x => (x.h.cell HZ.out).trans c2
  have hx3 : ∀ x : BW wc.heap.size wc, x.w.cell? ⟨w.heap.size, 3, none⟩ = some (.slice a1 nT n1) := fun x => (x.h.cell HZ.out).trans c3
  have hx4 : ∀ x : BW wc.heap.size wc, x.w.cell? ⟨w.heap.size, 4, none⟩ = some (.slice a2 nB n2) := fun x => (x.h.cell HZ.out).trans c4
  have hx5 : ∀ x : BW wc.heap.size wc, x.w.cell? ⟨w.heap.size, 5, none⟩ = some (.slice a3 nC n3) := fun x => (x.h.cell HZ.out).trans c5
  clear c0 c1 c2 c3 c4 c5 HLV HMN HMA
  obtain ⟨z, hz⟩ : ∃ z, (lv == 0) = z := ⟨_, rfl⟩
  obtain ⟨zc, hzc⟩ : ∃ z, ((nC : Int) == 0) = z := ⟨_, rfl⟩
  obtain ⟨zt, hzt⟩ : ∃ z, ((nT : Int) == 0) = z := ⟨_, rfl⟩
  obtain ⟨zb, hzb⟩ : ∃ z, ((nB : Int) == 0) = z := ⟨_, rfl⟩
  have yc : (nC == 0) = zc := by rw [← hzc, Bool.eq_iff_iff]; simp
  have yt : (nT == 0) = zt := by rw [← hzt, Bool.eq_iff_iff]; simp
  have yb : (nB == 0) = zb := by rw [← hzb, Bool.eq_iff_iff]; simp
  rcases (show kd < 1 ∨ kd = 1 ∨ kd = 2 ∨ (kd = 3 ∧ LV = true) ∨ (kd = 3 ∧ LV = false) ∨ 3 < kd from by cases LV <;> simp <;> omega) with hk | hk | hk | hk | hk | hk
  · have g1 : decide (1 ≤ kd) = false := by simp; omega
    have g1' : decide (kd ≥ 1) = false := g1
    have g3 : (kd == 1) = false := by simp; omega
    have g4 : (kd == 3) = false := by simp; omega
    have hKIf : KI = false := hKI.symm.trans g4
    subst hKIf
    clear hKI
    have hfin : [unl (decide (1 ≤ kd) && decide (kd ≤ 3)) 1, unl nb 20, ce, unl ((kd == 3 && LV) || (!(kd == 3) && lv == 0)) 1, unl (kd == 3 || nC == 0) 1, unl (!(kd == 3) || nT == 0) 1, unl (kd == 1 || nB == 0) 1, unl (!MN) 21] = [unl false 1, unl nb 20, ce, unl z 1, unl zc 1, unl true 1, unl zb 1, unl (!MN) 21] := by rw [g1, g3, g4, hz, yc, yt, yb]; cases z <;> cases zc <;> rfl
    clear yc yt yb
    refine wp_region_mix (fun w' => ∃ x : BW wc.heap.size wc, w' = x.w) [(true, 0), (true, 1), (true, 2), (true, 3), (true, 4), (true, 5), (true, 6), (true, 7), (true, 9), (true, 10), (true, 13), (true, 15), (true, 29), (true, 37), (true, 38), (true, 46), (true, 47), (true, 48), (true, 56), (true, 57), (false, 8), (false, 11), (false, 12), (false, 14), (true, 16), (true, 17), (true, 18), (true, 19), (true, 20), (true, 21), (true, 22), (true, 23), (true, 24), (true, 25), (true, 26), (true, 27), (false, 28), (true, 30), (true, 31), (true, 32), (true, 33), (true, 34), (true, 35), (false, 36), (true, 39), (true, 40), (true, 41), (true, 42), (true, 43), (true, 44), (false, 45), (true, 49), (true, 50), (true, 51), (true, 52), (true, 53), (true, 54), (false, 55), (false, 58), (false, 59), (false, 60), (true, 61)] (by kernel_rfl) (by kernel_rfl) ⟨⟨_, (Below.refl _ _).drew⟩, rfl⟩ ?_
    have hb0 : Below wc.heap.size wc wc.drew := (Below.refl _ _).drew
    obtain ⟨w0, hw0⟩ : ∃ m, wc.drew = m := ⟨_, rfl⟩
    rw [hw0] at hb0 ⊢
    clear hw0
    have HB0 := Lib.hid hb0
    clear hb0
    refine mix_calm ⟨_, ⟨⟨_, Below.refl _ _⟩, rfl⟩⟩ _ [0, 1, 2, 3, 4, 5, 6, 7, 9, 10, 13, 15, 29, 37, 38, 46, 47, 48, 56, 57] [_, _, _, _, _, _, _, _, _, _, _, _, _, _, _, _, _, _, _, _] _ rfl rfl ?_
    simp only [List.getElem_toArray, List.getElem_cons_zero, List.getElem_cons_succ]
    repeat (first
      | go_big_quiet_skip
      | (go_big_quiet_want; go_big_quiet_op; go_big_quiet_on))
    refine wpQuiet_nil ?_
    refine mix_one rfl ?_
    simp only [List.getElem_toArray, List.getElem_cons_zero, List.getElem_cons_succ]
    go_wp2_with (go_at_call 58; refine (unless_any _ _ _).mono ?_)
    rintro e w1 ⟨v, rfl, hs, hb⟩
    obtain ⟨f1, k1, rfl, hs2⟩ := id hs
    clear hs2
    have HS1 := Lib.hid hs
    have HB1 := Lib.hid (HB0.out.trans (hb.mono HB0.out.size))
    clear hs hb
    go_wp2_with fail
    refine ⟨⟨⟨_, HB1.out⟩, rfl⟩, ?_⟩
    refine mix_one rfl ?_
    simp only [List.getElem_toArray, List.getElem_cons_zero, List.getElem_cons_succ]
    go_wp2_with (go_at_call 59; refine (HNA.out _).mono ?_)
    rintro e w2 ⟨rfl, hb⟩
    have HS1 := Lib.hid (HS1.out.later hb)
    have HB2 := Lib.hid (HB1.out.trans (hb.mono HB1.out.size))
    clear hb
    go_wp2_with fail
    refine ⟨⟨⟨_, HB2.out⟩, rfl⟩, ?_⟩
    refine mix_one rfl ?_
    simp only [List.getElem_toArray, List.getElem_cons_zero, List.getElem_cons_succ]
    go_wp2_with (go_at_call 58; refine (unless_any _ _ _).mono ?_)
    rintro e w3 ⟨v, rfl, hs, hb⟩
    obtain ⟨f3, k3, rfl, hs2⟩ := id hs
    clear hs2
    have HS1 := Lib.hid (HS1.out.later hb)
    have HS3 := Lib.hid hs
    have HB3 := Lib.hid (HB2.out.trans (hb.mono HB2.out.size))
    clear hs hb
    go_wp2_with fail
    refine ⟨⟨⟨_, HB3.out⟩, rfl⟩, ?_⟩
    refine mix_one rfl ?_
    simp only [List.getElem_toArray, List.getElem_cons_zero, List.getElem_cons_succ]
    go_wp2_with (go_at_call 60; refine (HCL.out _ (HB.out.trans (HB3.out.mono HB.out.size))).mono ?_)
    rintro e w4 ⟨v, rfl, hs, hb⟩
    obtain ⟨f4, k4, rfl, hs2⟩ := id hs
    clear hs2
    have HS1 := Lib.hid (HS1.out.later hb)
    have HS3 := Lib.hid (HS3.out.later hb)
    have HS4 := Lib.hid hs
    have HB4 := Lib.hid (HB3.out.trans (hb.mono HB3.out.size))
    clear hs hb
    go_wp2_with fail
    refine ⟨⟨⟨_, HB4.out⟩, rfl⟩, ?_⟩
    refine mix_calm ⟨_, ⟨⟨_, Below.refl _ _⟩, rfl⟩⟩ _ [16, 17, 18, 19, 20, 21, 22, 23, 24, 25, 26, 27] [_, _, _, _, _, _, _, _, _, _, _, _] _ rfl rfl ?_
    simp only [List.getElem_toArray, List.getElem_cons_zero, List.getElem_cons_succ]
    repeat (first
      | go_big_quiet_skip
      | (go_big_quiet_want; go_big_quiet_op; go_big_quiet_on))
    refine wpQuiet_nil ?_
    refine mix_one rfl ?_
    simp only [List.getElem_toArray, List.getElem_cons_zero, List.getElem_cons_succ]
    go_wp2_with (go_at_call 58; refine (unless_any _ _ _).mono ?_)
    rintro e w5 ⟨v, rfl, hs, hb⟩
    obtain ⟨f5, k5, rfl, hs2⟩ := id hs
    clear hs2
    have HS1 := Lib.hid (HS1.out.later hb)
    have HS3 := Lib.hid (HS3.out.later hb)
    have HS4 := Lib.hid (HS4.out.later hb)
    have HS5 := Lib.hid hs
    have HB5 := Lib.hid (HB4.out.trans (hb.mono HB4.out.size))
    clear hs hb
    go_wp2_with fail
    refine ⟨⟨⟨_, HB5.out⟩, rfl⟩, ?_⟩
    refine mix_calm ⟨_, ⟨⟨_, Below.refl _ _⟩, rfl⟩⟩ _ [30, 31, 32, 33, 34, 35] [_, _, _, _, _, _] _ rfl rfl ?_
    simp only [List.getElem_toArray, List.getElem_cons_zero, List.getElem_cons_succ]
    repeat (first
      | go_big_quiet_skip
      | (go_big_quiet_want; go_big_quiet_op; go_big_quiet_on))
    refine wpQuiet_nil ?_
    refine mix_one rfl ?_
    simp only [List.getElem_toArray, List.getElem_cons_zero, List.getElem_cons_succ]
    go_wp2_with (go_at_call 58; refine (unless_any _ _ _).mono ?_)
    rintro e w6 ⟨v, rfl, hs, hb⟩
    obtain ⟨f6, k6, rfl, hs2⟩ := id hs
    clear hs2
    have HS1 := Lib.hid (HS1.out.later hb)
    have HS3 := Lib.hid (HS3.out.later hb)
    have HS4 := Lib.hid (HS4.out.later hb)
    have HS5 := Lib.hid (HS5.out.later hb)
    have HS6 := Lib.hid hs
    have HB6 := Lib.hid (HB5.out.trans (hb.mono HB5.out.size))
    clear hs hb
    go_wp2_with fail
    refine ⟨⟨⟨_, HB6.out⟩, rfl⟩, ?_⟩
    refine mix_calm ⟨_, ⟨⟨_, Below.refl _ _⟩, rfl⟩⟩ _ [39, 40, 41, 42, 43, 44] [_, _, _, _, _, _] _ rfl rfl ?_
    simp only [List.getElem_toArray, List.getElem_cons_zero, List.getElem_cons_succ]
    repeat (first
      | go_big_quiet_skip
      | (go_big_quiet_want; go_big_quiet_op; go_big_quiet_on))
    refine wpQuiet_nil ?_
    refine mix_one rfl ?_
    simp only [List.getElem_toArray, List.getElem_cons_zero, List.getElem_cons_succ]
    go_wp2_with (go_at_call 58; refine (unless_any _ _ _).mono ?_)
    rintro e w7 ⟨v, rfl, hs, hb⟩
    obtain ⟨f7, k7, rfl, hs2⟩ := id hs
    clear hs2
    have HS1 := Lib.hid (HS1.out.later hb)
    have HS3 := Lib.hid (HS3.out.later hb)
    have HS4 := Lib.hid (HS4.out.later hb)
    have HS5 := Lib.hid (HS5.out.later hb)
    have HS6 := Lib.hid (HS6.out.later hb)
    have HS7 := Lib.hid hs
    have HB7 := Lib.hid (HB6.out.trans (hb.mono HB6.out.size))
    clear hs hb
    go_wp2_with fail
    refine ⟨⟨⟨_, HB7.out⟩, rfl⟩, ?_⟩
    refine mix_calm ⟨_, ⟨⟨_, Below.refl _ _⟩, rfl⟩⟩ _ [49, 50, 51, 52, 53, 54] [_, _, _, _, _, _] _ rfl rfl ?_
    simp only [List.getElem_toArray, List.getElem_cons_zero, List.getElem_cons_succ]
    repeat (first
      | go_big_quiet_skip
      | (go_big_quiet_want; go_big_quiet_op; go_big_quiet_on))
    refine wpQuiet_nil ?_
    refine mix_one rfl ?_
    simp only [List.getElem_toArray, List.getElem_cons_zero, List.getElem_cons_succ]
    go_wp2_with (go_at_call 58; refine (unless_any _ _ _).mono ?_)
    rintro e w8 ⟨v, rfl, hs, hb⟩
    obtain ⟨f8, k8, rfl, hs2⟩ := id hs
    clear hs2
    have HS1 := Lib.hid (HS1.out.later hb)
    have HS3 := Lib.hid (HS3.out.later hb)
    have HS4 := Lib.hid (HS4.out.later hb)
    have HS5 := Lib.hid (HS5.out.later hb)
    have HS6 := Lib.hid (HS6.out.later hb)
    have HS7 := Lib.hid (HS7.out.later hb)
    have HS8 := Lib.hid hs
    have HB8 := Lib.hid (HB7.out.trans (hb.mono HB7.out.size))
    clear hs hb
    go_wp2_with fail
    refine ⟨⟨⟨_, HB8.out⟩, rfl⟩, ?_⟩
    refine mix_one rfl ?_
    simp only [List.getElem_toArray, List.getElem_cons_zero, List.getElem_cons_succ]
    go_wp2_with (go_at_call 58; refine (unless_any _ _ _).mono ?_)
    rintro e w9 ⟨v, rfl, hs, hb⟩
    obtain ⟨f9, k9, rfl, hs2⟩ := id hs
    clear hs2
    have HS1 := Lib.hid (HS1.out.later hb)
    have HS3 := Lib.hid (HS3.out.later hb)
    have HS4 := Lib.hid (HS4.out.later hb)
    have HS5 := Lib.hid (HS5.out.later hb)
    have HS6 := Lib.hid (HS6.out.later hb)
    have HS7 := Lib.hid (HS7.out.later hb)
    have HS8 := Lib.hid (HS8.out.later hb)
    have HS9 := Lib.hid hs
    have HB9 := Lib.hid (HB8.out.trans (hb.mono HB8.out.size))
    clear hs hb
    go_wp2_with fail
    refine ⟨⟨⟨_, HB9.out⟩, rfl⟩, ?_⟩
    refine mix_one rfl ?_
    simp only [List.getElem_toArray, List.getElem_cons_zero, List.getElem_cons_succ]
    have hal : Below w9.heap.size w9 (w9.alloc (.cells #[.func (.func f1) #[] k1, .func (.func f3) #[] k3, .func (.func f4) #[] k4, .func (.func f5) #[] k5, .func (.func f6) #[] k6, .func (.func f7) #[] k7, .func (.func f8) #[] k8, .func (.func f9) #[] k9] 90)) := (Below.refl _ _).alloc (Nat.le_refl _) _
    have hcs := (MapKept.heap_alloc w9 (.cells #[.func (.func f1) #[] k1, .func (.func f3) #[] k3, .func (.func f4) #[] k4, .func (.func f5) #[] k5, .func (.func f6) #[] k6, .func (.func f7) #[] k7, .func (.func f8) #[] k8, .func (.func f9) #[] k9] 90)).1
    have hsz : w9.heap.size < (w9.alloc (.cells #[.func (.func f1) #[] k1, .func (.func f3) #[] k3, .func (.func f4) #[] k4, .func (.func f5) #[] k5, .func (.func f6) #[] k6, .func (.func f7) #[] k7, .func (.func f8) #[] k8, .func (.func f9) #[] k9] 90)).heap.size := by simp
    obtain ⟨w10, hw10⟩ : ∃ m, w9.alloc (.cells #[.func (.func f1) #[] k1, .func (.func f3) #[] k3, .func (.func f4) #[] k4, .func (.func f5) #[] k5, .func (.func f6) #[] k6, .func (.func f7) #[] k7, .func (.func f8) #[] k8, .func (.func f9) #[] k9] 90) = m := ⟨_, rfl⟩
    rw [hw10] at hal hcs hsz
    have HS1 := Lib.hid (HS1.out.later hal)
    have HS3 := Lib.hid (HS3.out.later hal)
    have HS4 := Lib.hid (HS4.out.later hal)
    have HS5 := Lib.hid (HS5.out.later hal)
    have HS6 := Lib.hid (HS6.out.later hal)
    have HS7 := Lib.hid (HS7.out.later hal)
    have HS8 := Lib.hid (HS8.out.later hal)
    have HS9 := Lib.hid (HS9.out.later hal)
    have HB10 := Lib.hid (HB9.out.trans (hal.mono HB9.out.size))
    have HCS := Lib.hid hcs
    have HSZ := Lib.hid hsz
    clear hal hcs hsz
    go_wp2_with fail
    first | rw [hw10] | skip
    clear hw10
    refine ⟨⟨⟨_, HB10.out⟩, rfl⟩, ?_⟩
    refine mix_one rfl ?_
    simp only [List.getElem_toArray, List.getElem_cons_zero, List.getElem_cons_succ]
    have hfa := first_any [unl false 1, unl nb 20, ce, unl z 1, unl zc 1, unl true 1, unl zb 1, unl (!MN) 21] w9.heap.size 0 8 [.func (.func f1) #[] k1, .func (.func f3) #[] k3, .func (.func f4) #[] k4, .func (.func f5) #[] k5, .func (.func f6) #[] k6, .func (.func f7) #[] k7, .func (.func f8) #[] k8, .func (.func f9) #[] k9] w10 rfl (by simp)
      (fun i v hv => by rw [Lib.cell_of_heap HCS.out, Nat.zero_add]; simpa using hv) HSZ.out
      (fun i v e hv he => by
        match i, hv, he with
        | 0, hv, he => simp at hv he; subst hv; subst he; exact HS1.out
        | 1, hv, he => simp at hv he; subst hv; subst he; exact HS3.out
        | 2, hv, he => simp at hv he; subst hv; subst he; exact HS4.out
        | 3, hv, he => simp at hv he; subst hv; subst he; exact HS5.out
        | 4, hv, he => simp at hv he; subst hv; subst he; exact HS6.out
        | 5, hv, he => simp at hv he; subst hv; subst he; exact HS7.out
        | 6, hv, he => simp at hv he; subst hv; subst he; exact HS8.out
        | 7, hv, he => simp at hv he; subst hv; subst he; exact HS9.out
        | j + 8, hv, he => simp at hv)
    have HFA := Lib.hid hfa
    clear hfa
    go_wp2_with (go_at_call 57; refine HFA.out.mono ?_)
    rintro e w11 ⟨rfl, hb⟩
    have HB11 := Lib.hid (HB10.out.trans (hb.mono HB10.out.size))
    clear hb HFA
    go_wp2_with fail
    refine ⟨⟨⟨_, HB11.out⟩, rfl⟩, ?_⟩
    refine mix_calm ⟨_, ⟨⟨_, Below.refl _ _⟩, rfl⟩⟩ _ [61] [_] _ rfl rfl ?_
    simp only [List.getElem_toArray, List.getElem_cons_zero, List.getElem_cons_succ]
    repeat (first
      | go_big_quiet_skip
      | (go_big_quiet_want; go_big_quiet_op; go_big_quiet_on))
    refine wpQuiet_nil ?_
    refine mix_nil ?_
    go_wp2_with fail
    go_ret
    exact ⟨by rw [hfin]; rfl, HB.out.trans (HB11.out.mono HB.out.size)⟩
  · subst hk
    have hKIf : KI = false := by rw [← hKI]; rfl
    subst hKIf
    clear hKI
    have hfin : [unl (decide (1 ≤ (1 : Int)) && decide ((1 : Int) ≤ 3)) 1, unl nb 20, ce, unl (((1 : Int) == 3 && LV) || (!((1 : Int) == 3) && lv == 0)) 1, unl ((1 : Int) == 3 || nC == 0) 1, unl (!((1 : Int) == 3) || nT == 0) 1, unl ((1 : Int) == 1 || nB == 0) 1, unl (!MN) 21] = [unl true 1, unl nb 20, ce, unl z 1, unl zc 1, unl true 1, unl true 1, unl (!MN) 21] := by rw [hz, yc, yt, yb]; cases z <;> cases zc <;> cases zt <;> cases zb <;> rfl
    clear yc yt yb
    refine wp_region_mix (fun w' => ∃ x : BW wc.heap.size wc, w' = x.w) [(true, 0), (true, 1), (true, 2), (true, 3), (true, 4), (true, 5), (true, 6), (true, 7), (true, 9), (true, 10), (true, 13), (true, 15), (true, 29), (true, 37), (true, 38), (true, 46), (true, 47), (true, 48), (true, 56), (true, 57), (false, 8), (false, 11), (false, 12), (false, 14), (true, 16), (true, 17), (true, 18), (true, 19), (true, 20), (true, 21), (true, 22), (true, 23), (true, 24), (true, 25), (true, 26), (true, 27), (false, 28), (true, 30), (true, 31), (true, 32), (true, 33), (true, 34), (true, 35), (false, 36), (true, 39), (true, 40), (true, 41), (true, 42), (true, 43), (true, 44), (false, 45), (true, 49), (true, 50), (true, 51), (true, 52), (true, 53), (true, 54), (false, 55), (false, 58), (false, 59), (false, 60), (true, 61)] (by kernel_rfl) (by kernel_rfl) ⟨⟨_, (Below.refl _ _).drew⟩, rfl⟩ ?_
    have hb0 : Below wc.heap.size wc wc.drew := (Below.refl _ _).drew
    obtain ⟨w0, hw0⟩ : ∃ m, wc.drew = m := ⟨_, rfl⟩
    rw [hw0] at hb0 ⊢
    clear hw0
    have HB0 := Lib.hid hb0
    clear hb0
    refine mix_calm ⟨_, ⟨⟨_, Below.refl _ _⟩, rfl⟩⟩ _ [0, 1, 2, 3, 4, 5, 6, 7, 9, 10, 13, 15, 29, 37, 38, 46, 47, 48, 56, 57] [_, _, _, _, _, _, _, _, _, _, _, _, _, _, _, _, _, _, _, _] _ rfl rfl ?_
    simp only [List.getElem_toArray, List.getElem_cons_zero, List.getElem_cons_succ]
    repeat (first
      | go_big_quiet_skip
      | (go_big_quiet_want; go_big_quiet_op; go_big_quiet_on))
    refine wpQuiet_nil ?_
    refine mix_one rfl ?_
    simp only [List.getElem_toArray, List.getElem_cons_zero, List.getElem_cons_succ]
    go_wp2_with (go_at_call 58; refine (unless_any _ _ _).mono ?_)
    rintro e w1 ⟨v, rfl, hs, hb⟩
    obtain ⟨f1, k1, rfl, hs2⟩ := id hs
    clear hs2
    have HS1 := Lib.hid hs
    have HB1 := Lib.hid (HB0.out.trans (hb.mono HB0.out.size))
    clear hs hb
    go_wp2_with fail
    refine ⟨⟨⟨_, HB1.out⟩, rfl⟩, ?_⟩
    refine mix_one rfl ?_
    simp only [List.getElem_toArray, List.getElem_cons_zero, List.getElem_cons_succ]
    go_wp2_with (go_at_call 59; refine (HNA.out _).mono ?_)
    rintro e w2 ⟨rfl, hb⟩
    have HS1 := Lib.hid (HS1.out.later hb)
    have HB2 := Lib.hid (HB1.out.trans (hb.mono HB1.out.size))
    clear hb
    go_wp2_with fail
    refine ⟨⟨⟨_, HB2.out⟩, rfl⟩, ?_⟩
    refine mix_one rfl ?_
    simp only [List.getElem_toArray, List.getElem_cons_zero, List.getElem_cons_succ]
    go_wp2_with (go_at_call 58; refine (unless_any _ _ _).mono ?_)
    rintro e w3 ⟨v, rfl, hs, hb⟩
    obtain ⟨f3, k3, rfl, hs2⟩ := id hs
    clear hs2
    have HS1 := Lib.hid (HS1.out.later hb)
    have HS3 := Lib.hid hs
    have HB3 := Lib.hid (HB2.out.trans (hb.mono HB2.out.size))
    clear hs hb
    go_wp2_with fail
    refine ⟨⟨⟨_, HB3.out⟩, rfl⟩, ?_⟩
    refine mix_one rfl ?_
    simp only [List.getElem_toArray, List.getElem_cons_zero, List.getElem_cons_succ]
    go_wp2_with (go_at_call 60; refine (HCL.out _ (HB.out.trans (HB3.out.mono HB.out.size))).mono ?_)
    rintro e w4 ⟨v, rfl, hs, hb⟩
    obtain ⟨f4, k4, rfl, hs2⟩ := id hs
    clear hs2
    have HS1 := Lib.hid (HS1.out.later hb)
    have HS3 := Lib.hid (HS3.out.later hb)
    have HS4 := Lib.hid hs
    have HB4 := Lib.hid (HB3.out.trans (hb.mono HB3.out.size))
    clear hs hb
    go_wp2_with fail
    refine ⟨⟨⟨_, HB4.out⟩, rfl⟩, ?_⟩
    refine mix_calm ⟨_, ⟨⟨_, Below.refl _ _⟩, rfl⟩⟩ _ [16, 17, 18, 19, 20, 21, 22, 23, 24, 25, 26, 27] [_, _, _, _, _, _, _, _, _, _, _, _] _ rfl rfl ?_
    simp only [List.getElem_toArray, List.getElem_cons_zero, List.getElem_cons_succ]
    repeat (first
      | go_big_quiet_skip
      | (go_big_quiet_want; go_big_quiet_op; go_big_quiet_on))
    refine wpQuiet_nil ?_
    refine mix_one rfl ?_
    simp only [List.getElem_toArray, List.getElem_cons_zero, List.getElem_cons_succ]
    go_wp2_with (go_at_call 58; refine (unless_any _ _ _).mono ?_)
    rintro e w5 ⟨v, rfl, hs, hb⟩
    obtain ⟨f5, k5, rfl, hs2⟩ := id hs
    clear hs2
    have HS1 := Lib.hid (HS1.out.later hb)
    have HS3 := Lib.hid (HS3.out.later hb)
    have HS4 := Lib.hid (HS4.out.later hb)
    have HS5 := Lib.hid hs
    have HB5 := Lib.hid (HB4.out.trans (hb.mono HB4.out.size))
    clear hs hb
    go_wp2_with fail
    refine ⟨⟨⟨_, HB5.out⟩, rfl⟩, ?_⟩
    refine mix_calm ⟨_, ⟨⟨_, Below.refl _ _⟩, rfl⟩⟩ _ [30, 31, 32, 33, 34, 35] [_, _, _, _, _, _] _ rfl rfl ?_
    simp only [List.getElem_toArray, List.getElem_cons_zero, List.getElem_cons_succ]
    repeat (first
      | go_big_quiet_skip
      | (go_big_quiet_want; go_big_quiet_op; go_big_quiet_on))
    refine wpQuiet_nil ?_
    refine mix_one rfl ?_
    simp only [List.getElem_toArray, List.getElem_cons_zero, List.getElem_cons_succ]
    go_wp2_with (go_at_call 58; refine (unless_any _ _ _).mono ?_)
    rintro e w6 ⟨v, rfl, hs, hb⟩
    obtain ⟨f6, k6, rfl, hs2⟩ := id hs
    clear hs2
    have HS1 := Lib.hid (HS1.out.later hb)
    have HS3 := Lib.hid (HS3.out.later hb)
    have HS4 := Lib.hid (HS4.out.later hb)
    have HS5 := Lib.hid (HS5.out.later hb)
    have HS6 := Lib.hid hs
    have HB6 := Lib.hid (HB5.out.trans (hb.mono HB5.out.size))
    clear hs hb
    go_wp2_with fail
    refine ⟨⟨⟨_, HB6.out⟩, rfl⟩, ?_⟩
    refine mix_calm ⟨_, ⟨⟨_, Below.refl _ _⟩, rfl⟩⟩ _ [39, 40, 41, 42, 43, 44] [_, _, _, _, _, _] _ rfl rfl ?_
    simp only [List.getElem_toArray, List.getElem_cons_zero, List.getElem_cons_succ]
    repeat (first
      | go_big_quiet_skip
      | (go_big_quiet_want; go_big_quiet_op; go_big_quiet_on))
    refine wpQuiet_nil ?_
    refine mix_one rfl ?_
    simp only [List.getElem_toArray, List.getElem_cons_zero, List.getElem_cons_succ]
    go_wp2_with (go_at_call 58; refine (unless_any _ _ _).mono ?_)
    rintro e w7 ⟨v, rfl, hs, hb⟩
    obtain ⟨f7, k7, rfl, hs2⟩ := id hs
    clear hs2
    have HS1 := Lib.hid (HS1.out.later hb)
    have HS3 := Lib.hid (HS3.out.later hb)
    have HS4 := Lib.hid (HS4.out.later hb)
    have HS5 := Lib.hid (HS5.out.later hb)
    have HS6 := Lib.hid (HS6.out.later hb)
    have HS7 := Lib.hid hs
    have HB7 := Lib.hid (HB6.out.trans (hb.mono HB6.out.size))
    clear hs hb
    go_wp2_with fail
    refine ⟨⟨⟨_, HB7.out⟩, rfl⟩, ?_⟩
    refine mix_calm ⟨_, ⟨⟨_, Below.refl _ _⟩, rfl⟩⟩ _ [49, 50, 51, 52, 53, 54] [_, _, _, _, _, _] _ rfl rfl ?_
    simp only [List.getElem_toArray, List.getElem_cons_zero, List.getElem_cons_succ]
    repeat (first
      | go_big_quiet_skip
      | (go_big_quiet_want; go_big_quiet_op; go_big_quiet_on))
    refine wpQuiet_nil ?_
    refine mix_one rfl ?_
    simp only [List.getElem_toArray, List.getElem_cons_zero, List.getElem_cons_succ]
    go_wp2_with (go_at_call 58; refine (unless_any _ _ _).mono ?_)
    rintro e w8 ⟨v, rfl, hs, hb⟩
    obtain ⟨f8, k8, rfl, hs2⟩ := id hs
    clear hs2
    have HS1 := Lib.hid (HS1.out.later hb)
    have HS3 := Lib.hid (HS3.out.later hb)
    have HS4 := Lib.hid (HS4.out.later hb)
    have HS5 := Lib.hid (HS5.out.later hb)
    have HS6 := Lib.hid (HS6.out.later hb)
    have HS7 := Lib.hid (HS7.out.later hb)
    have HS8 := Lib.hid hs
    have HB8 := Lib.hid (HB7.out.trans (hb.mono HB7.out.size))
    clear hs hb
    go_wp2_with fail
    refine ⟨⟨⟨_, HB8.out⟩, rfl⟩, ?_⟩
    refine mix_one rfl ?_
    simp only [List.getElem_toArray, List.getElem_cons_zero, List.getElem_cons_succ]
    go_wp2_with (go_at_call 58; refine (unless_any _ _ _).mono ?_)
    rintro e w9 ⟨v, rfl, hs, hb⟩
    obtain ⟨f9, k9, rfl, hs2⟩ := id hs
    clear hs2
    have HS1 := Lib.hid (HS1.out.later hb)
    have HS3 := Lib.hid (HS3.out.later hb)
    have HS4 := Lib.hid (HS4.out.later hb)
    have HS5 := Lib.hid (HS5.out.later hb)
    have HS6 := Lib.hid (HS6.out.later hb)
    have HS7 := Lib.hid (HS7.out.later hb)
    have HS8 := Lib.hid (HS8.out.later hb)
    have HS9 := Lib.hid hs
    have HB9 := Lib.hid (HB8.out.trans (hb.mono HB8.out.size))
    clear hs hb
    go_wp2_with fail
    refine ⟨⟨⟨_, HB9.out⟩, rfl⟩, ?_⟩
    refine mix_one rfl ?_
    simp only [List.getElem_toArray, List.getElem_cons_zero, List.getElem_cons_succ]
    have hal : Below w9.heap.size w9 (w9.alloc (.cells #[.func (.func f1) #[] k1, .func (.func f3) #[] k3, .func (.func f4) #[] k4, .func (.func f5) #[] k5, .func (.func f6) #[] k6, .func (.func f7) #[] k7, .func (.func f8) #[] k8, .func (.func f9) #[] k9] 90)) := (Below.refl _ _).alloc (Nat.le_refl _) _
    have hcs := (MapKept.heap_alloc w9 (.cells #[.func (.func f1) #[] k1, .func (.func f3) #[] k3, .func (.func f4) #[] k4, .func (.func f5) #[] k5, .func (.func f6) #[] k6, .func (.func f7) #[] k7, .func (.func f8) #[] k8, .func (.func f9) #[] k9] 90)).1
    have hsz : w9.heap.size < (w9.alloc (.cells #[.func (.func f1) #[] k1, .func (.func f3) #[] k3, .func (.func f4) #[] k4, .func (.func f5) #[] k5, .func (.func f6) #[] k6, .func (.func f7) #[] k7, .func (.func f8) #[] k8, .func (.func f9) #[] k9] 90)).heap.size := by simp
    obtain ⟨w10, hw10⟩ : ∃ m, w9.alloc (.cells #[.func (.func f1) #[] k1, .func (.func f3) #[] k3, .func (.func f4) #[] k4, .func (.func f5) #[] k5, .func (.func f6) #[] k6, .func (.func f7) #[] k7, .func (.func f8) #[] k8, .func (.func f9) #[] k9] 90) = m := ⟨_, rfl⟩
    rw [hw10] at hal hcs hsz
    have HS1 := Lib.hid (HS1.out.later hal)
    have HS3 := Lib.hid (HS3.out.later hal)
    have HS4 := Lib.hid (HS4.out.later hal)
    have HS5 := Lib.hid (HS5.out.later hal)
    have HS6 := Lib.hid (HS6.out.later hal)
    have HS7 := Lib.hid (HS7.out.later hal)
    have HS8 := Lib.hid (HS8.out.later hal)
    have HS9 := Lib.hid (HS9.out.later hal)
    have HB10 := Lib.hid (HB9.out.trans (hal.mono HB9.out.size))
    have HCS := Lib.hid hcs
    have HSZ := Lib.hid hsz
    clear hal hcs hsz
    go_wp2_with fail
    first | rw [hw10] | skip
    clear hw10
    refine ⟨⟨⟨_, HB10.out⟩, rfl⟩, ?_⟩
    refine mix_one rfl ?_
    simp only [List.getElem_toArray, List.getElem_cons_zero, List.getElem_cons_succ]
    have hfa := first_any [unl true 1, unl nb 20, ce, unl z 1, unl zc 1, unl true 1, unl true 1, unl (!MN) 21] w9.heap.size 0 8 [.func (.func f1) #[] k1, .func (.func f3) #[] k3, .func (.func f4) #[] k4, .func (.func f5) #[] k5, .func (.func f6) #[] k6, .func (.func f7) #[] k7, .func (.func f8) #[] k8, .func (.func f9) #[] k9] w10 rfl (by simp)
      (fun i v hv => by rw [Lib.cell_of_heap HCS.out, Nat.zero_add]; simpa using hv) HSZ.out
      (fun i v e hv he => by
        match i, hv, he with
        | 0, hv, he => simp at hv he; subst hv; subst he; exact HS1.out
        | 1, hv, he => simp at hv he; subst hv; subst he; exact HS3.out
        | 2, hv, he => simp at hv he; subst hv; subst he; exact HS4.out
        | 3, hv, he => simp at hv he; subst hv; subst he; exact HS5.out
        | 4, hv, he => simp at hv he; subst hv; subst he; exact HS6.out
        | 5, hv, he => simp at hv he; subst hv; subst he; exact HS7.out
        | 6, hv, he => simp at hv he; subst hv; subst he; exact HS8.out
        | 7, hv, he => simp at hv he; subst hv; subst he; exact HS9.out
        | j + 8, hv, he => simp at hv)
    have HFA := Lib.hid hfa
    clear hfa
    go_wp2_with (go_at_call 57; refine HFA.out.mono ?_)
    rintro e w11 ⟨rfl, hb⟩
    have HB11 := Lib.hid (HB10.out.trans (hb.mono HB10.out.size))
    clear hb HFA
    go_wp2_with fail
    refine ⟨⟨⟨_, HB11.out⟩, rfl⟩, ?_⟩
    refine mix_calm ⟨_, ⟨⟨_, Below.refl _ _⟩, rfl⟩⟩ _ [61] [_] _ rfl rfl ?_
    simp only [List.getElem_toArray, List.getElem_cons_zero, List.getElem_cons_succ]
    repeat (first
      | go_big_quiet_skip
      | (go_big_quiet_want; go_big_quiet_op; go_big_quiet_on))
    refine wpQuiet_nil ?_
    refine mix_nil ?_
    go_wp2_with fail
    go_ret
    exact ⟨by rw [hfin]; rfl, HB.out.trans (HB11.out.mono HB.out.size)⟩
  · subst hk
    have hKIf : KI = false := by rw [← hKI]; rfl
    subst hKIf
    clear hKI
    have hfin : [unl (decide (1 ≤ (2 : Int)) && decide ((2 : Int) ≤ 3)) 1, unl nb 20, ce, unl (((2 : Int) == 3 && LV) || (!((2 : Int) == 3) && lv == 0)) 1, unl ((2 : Int) == 3 || nC == 0) 1, unl (!((2 : Int) == 3) || nT == 0) 1, unl ((2 : Int) == 1 || nB == 0) 1, unl (!MN) 21] = [unl true 1, unl nb 20, ce, unl z 1, unl zc 1, unl true 1, unl zb 1, unl (!MN) 21] := by rw [hz, yc, yt, yb]; cases z <;> cases zc <;> cases zt <;> cases zb <;> rfl
    clear yc yt yb
    refine wp_region_mix (fun w' => ∃ x : BW wc.heap.size wc, w' = x.w) [(true, 0), (true, 1), (true, 2), (true, 3), (true, 4), (true, 5), (true, 6), (true, 7), (true, 9), (true, 10), (true, 13), (true, 15), (true, 29), (true, 37), (true, 38), (true, 46), (true, 47), (true, 48), (true, 56), (true, 57), (false, 8), (false, 11), (false, 12), (false, 14), (true, 16), (true, 17), (true, 18), (true, 19), (true, 20), (true, 21), (true, 22), (true, 23), (true, 24), (true, 25), (true, 26), (true, 27), (false, 28), (true, 30), (true, 31), (true, 32), (true, 33), (true, 34), (true, 35), (false, 36), (true, 39), (true, 40), (true, 41), (true, 42), (true, 43), (true, 44), (false, 45), (true, 49), (true, 50), (true, 51), (true, 52), (true, 53), (true, 54), (false, 55), (false, 58), (false, 59), (false, 60), (true, 61)] (by kernel_rfl) (by kernel_rfl) ⟨⟨_, (Below.refl _ _).drew⟩, rfl⟩ ?_
    have hb0 : Below wc.heap.size wc wc.drew := (Below.refl _ _).drew
    obtain ⟨w0, hw0⟩ : ∃ m, wc.drew = m := ⟨_, rfl⟩
    rw [hw0] at hb0 ⊢
    clear hw0
    have HB0 := Lib.hid hb0
    clear hb0
    refine mix_calm ⟨_, ⟨⟨_, Below.refl _ _⟩, rfl⟩⟩ _ [0, 1, 2, 3, 4, 5, 6, 7, 9, 10, 13, 15, 29, 37, 38, 46, 47, 48, 56, 57] [_, _, _, _, _, _, _, _, _, _, _, _, _, _, _, _, _, _, _, _] _ rfl rfl ?_
    simp only [List.getElem_toArray, List.getElem_cons_zero, List.getElem_cons_succ]
    repeat (first
      | go_big_quiet_skip
      | (go_big_quiet_want; go_big_quiet_op; go_big_quiet_on))
    refine wpQuiet_nil ?_
    refine mix_one rfl ?_
    simp only [List.getElem_toArray, List.getElem_cons_zero, List.getElem_cons_succ]
    go_wp2_with (go_at_call 58; refine (unless_any _ _ _).mono ?_)
    rintro e w1 ⟨v, rfl, hs, hb⟩
    obtain ⟨f1, k1, rfl, hs2⟩ := id hs
    clear hs2
    have HS1 := Lib.hid hs
    have HB1 := Lib.hid (HB0.out.trans (hb.mono HB0.out.size))
    clear hs hb
    go_wp2_with fail
    refine ⟨⟨⟨_, HB1.out⟩, rfl⟩, ?_⟩
    refine mix_one rfl ?_
    simp only [List.getElem_toArray, List.getElem_cons_zero, List.getElem_cons_succ]
    go_wp2_with (go_at_call 59; refine (HNA.out _).mono ?_)
    rintro e w2 ⟨rfl, hb⟩
    have HS1 := Lib.hid (HS1.out.later hb)
    have HB2 := Lib.hid (HB1.out.trans (hb.mono HB1.out.size))
    clear hb
    go_wp2_with fail
    refine ⟨⟨⟨_, HB2.out⟩, rfl⟩, ?_⟩
    refine mix_one rfl ?_
    simp only [List.getElem_toArray, List.getElem_cons_zero, List.getElem_cons_succ]
    go_wp2_with (go_at_call 58; refine (unless_any _ _ _).mono ?_)
    rintro e w3 ⟨v, rfl, hs, hb⟩
    obtain ⟨f3, k3, rfl, hs2⟩ := id hs
    clear hs2
    have HS1 := Lib.hid (HS1.out.later hb)
    have HS3 := Lib.hid hs
    have HB3 := Lib.hid (HB2.out.trans (hb.mono HB2.out.size))
    clear hs hb
    go_wp2_with fail
    refine ⟨⟨⟨_, HB3.out⟩, rfl⟩, ?_⟩
    refine mix_one rfl ?_
    simp only [List.getElem_toArray, List.getElem_cons_zero, List.getElem_cons_succ]
    go_wp2_with (go_at_call 60; refine (HCL.out _ (HB.out.trans (HB3.out.mono HB.out.size))).mono ?_)
    rintro e w4 ⟨v, rfl, hs, hb⟩
    obtain ⟨f4, k4, rfl, hs2⟩ := id hs
    clear hs2
    have HS1 := Lib.hid (HS1.out.later hb)
    have HS3 := Lib.hid (HS3.out.later hb)
    have HS4 := Lib.hid hs
    have HB4 := Lib.hid (HB3.out.trans (hb.mono HB3.out.size))
    clear hs hb
    go_wp2_with fail
    refine ⟨⟨⟨_, HB4.out⟩, rfl⟩, ?_⟩
    refine mix_calm ⟨_, ⟨⟨_, Below.refl _ _⟩, rfl⟩⟩ _ [16, 17, 18, 19, 20, 21, 22, 23, 24, 25, 26, 27] [_, _, _, _, _, _, _, _, _, _, _, _] _ rfl rfl ?_
    simp only [List.getElem_toArray, List.getElem_cons_zero, List.getElem_cons_succ]
    repeat (first
      | go_big_quiet_skip
      | (go_big_quiet_want; go_big_quiet_op; go_big_quiet_on))
    refine wpQuiet_nil ?_
    refine mix_one rfl ?_
    simp only [List.getElem_toArray, List.getElem_cons_zero, List.getElem_cons_succ]
    go_wp2_with (go_at_call 58; refine (unless_any _ _ _).mono ?_)
    rintro e w5 ⟨v, rfl, hs, hb⟩
    obtain ⟨f5, k5, rfl, hs2⟩ := id hs
    clear hs2
    have HS1 := Lib.hid (HS1.out.later hb)
    have HS3 := Lib.hid (HS3.out.later hb)
    have HS4 := Lib.hid (HS4.out.later hb)
    have HS5 := Lib.hid hs
    have HB5 := Lib.hid (HB4.out.trans (hb.mono HB4.out.size))
    clear hs hb
    go_wp2_with fail
    refine ⟨⟨⟨_, HB5.out⟩, rfl⟩, ?_⟩
    refine mix_calm ⟨_, ⟨⟨_, Below.refl _ _⟩, rfl⟩⟩ _ [30, 31, 32, 33, 34, 35] [_, _, _, _, _, _] _ rfl rfl ?_
    simp only [List.getElem_toArray, List.getElem_cons_zero, List.getElem_cons_succ]
    repeat (first
      | go_big_quiet_skip
      | (go_big_quiet_want; go_big_quiet_op; go_big_quiet_on))
    refine wpQuiet_nil ?_
    refine mix_one rfl ?_
    simp only [List.getElem_toArray, List.getElem_cons_zero, List.getElem_cons_succ]
    go_wp2_with (go_at_call 58; refine (unless_any _ _ _).mono ?_)
    rintro e w6 ⟨v, rfl, hs, hb⟩
    obtain ⟨f6, k6, rfl, hs2⟩ := id hs
    clear hs2
    have HS1 := Lib.hid (HS1.out.later hb)
    have HS3 := Lib.hid (HS3.out.later hb)
    have HS4 := Lib.hid (HS4.out.later hb)
    have HS5 := Lib.hid (HS5.out.later hb)
    have HS6 := Lib.hid hs
    have HB6 := Lib.hid (HB5.out.trans (hb.mono HB5.out.size))
    clear hs hb
    go_wp2_with fail
    refine ⟨⟨⟨_, HB6.out⟩, rfl⟩, ?_⟩
    refine mix_calm ⟨_, ⟨⟨_, Below.refl _ _⟩, rfl⟩⟩ _ [39, 40, 41, 42, 43, 44] [_, _, _, _, _, _] _ rfl rfl ?_
    simp only [List.getElem_toArray, List.getElem_cons_zero, List.getElem_cons_succ]
    repeat (first
      | go_big_quiet_skip
      | (go_big_quiet_want; go_big_quiet_op; go_big_quiet_on))
    refine wpQuiet_nil ?_
    refine mix_one rfl ?_
    simp only [List.getElem_toArray, List.getElem_cons_zero, List.getElem_cons_succ]
    go_wp2_with (go_at_call 58; refine (unless_any _ _ _).mono ?_)
    rintro e w7 ⟨v, rfl, hs, hb⟩
    obtain ⟨f7, k7, rfl, hs2⟩ := id hs
    clear hs2
    have HS1 := Lib.hid (HS1.out.later hb)
    have HS3 := Lib.hid (HS3.out.later hb)
    have HS4 := Lib.hid (HS4.out.later hb)
    have HS5 := Lib.hid (HS5.out.later hb)
    have HS6 := Lib.hid (HS6.out.later hb)
    have HS7 := Lib.hid hs
    have HB7 := Lib.hid (HB6.out.trans (hb.mono HB6.out.size))
    clear hs hb
    go_wp2_with fail
    refine ⟨⟨⟨_, HB7.out⟩, rfl⟩, ?_⟩
    refine mix_calm ⟨_, ⟨⟨_, Below.refl _ _⟩, rfl⟩⟩ _ [49, 50, 51, 52, 53, 54] [_, _, _, _, _, _] _ rfl rfl ?_
    simp only [List.getElem_toArray, List.getElem_cons_zero, List.getElem_cons_succ]
    repeat (first
      | go_big_quiet_skip
      | (go_big_quiet_want; go_big_quiet_op; go_big_quiet_on))
    refine wpQuiet_nil ?_
    refine mix_one rfl ?_
    simp only [List.getElem_toArray, List.getElem_cons_zero, List.getElem_cons_succ]
    go_wp2_with (go_at_call 58; refine (unless_any _ _ _).mono ?_)
    rintro e w8 ⟨v, rfl, hs, hb⟩
    obtain ⟨f8, k8, rfl, hs2⟩ := id hs
    clear hs2
    have HS1 := Lib.hid (HS1.out.later hb)
    have HS3 := Lib.hid (HS3.out.later hb)
    have HS4 := Lib.hid (HS4.out.later hb)
    have HS5 := Lib.hid (HS5.out.later hb)
    have HS6 := Lib.hid (HS6.out.later hb)
    have HS7 := Lib.hid (HS7.out.later hb)
    have HS8 := Lib.hid hs
    have HB8 := Lib.hid (HB7.out.trans (hb.mono HB7.out.size))
    clear hs hb
    go_wp2_with fail
    refine ⟨⟨⟨_, HB8.out⟩, rfl⟩, ?_⟩
    refine mix_one rfl ?_
    simp only [List.getElem_toArray, List.getElem_cons_zero, List.getElem_cons_succ]
    go_wp2_with (go_at_call 58; refine (unless_any _ _ _).mono ?_)
    rintro e w9 ⟨v, rfl, hs, hb⟩
    obtain ⟨f9, k9, rfl, hs2⟩ := id hs
    clear hs2
    have HS1 := Lib.hid (HS1.out.later hb)
    have HS3 := Lib.hid (HS3.out.later hb)
    have HS4 := Lib.hid (HS4.out.later hb)
    have HS5 := Lib.hid (HS5.out.later hb)
    have HS6 := Lib.hid (HS6.out.later hb)
    have HS7 := Lib.hid (HS7.out.later hb)
    have HS8 := Lib.hid (HS8.out.later hb)
    have HS9 := Lib.hid hs
    have HB9 := Lib.hid (HB8.out.trans (hb.mono HB8.out.size))
    clear hs hb
    go_wp2_with fail
    refine ⟨⟨⟨_, HB9.out⟩, rfl⟩, ?_⟩
    refine mix_one rfl ?_
    simp only [List.getElem_toArray, List.getElem_cons_zero, List.getElem_cons_succ]
    have hal : Below w9.heap.size w9 (w9.alloc (.cells #[.func (.func f1) #[] k1, .func (.func f3) #[] k3, .func (.func f4) #[] k4, .func (.func f5) #[] k5, .func (.func f6) #[] k6, .func (.func f7) #[] k7, .func (.func f8) #[] k8, .func (.func f9) #[] k9] 90)) := (Below.refl _ _).alloc (Nat.le_refl _) _
    have hcs := (MapKept.heap_alloc w9 (.cells #[.func (.func f1) #[] k1, .func (.func f3) #[] k3, .func (.func f4) #[] k4, .func (.func f5) #[] k5, .func (.func f6) #[] k6, .func (.func f7) #[] k7, .func (.func f8) #[] k8, .func (.func f9) #[] k9] 90)).1
    have hsz : w9.heap.size < (w9.alloc (.cells #[.func (.func f1) #[] k1, .func (.func f3) #[] k3, .func (.func f4) #[] k4, .func (.func f5) #[] k5, .func (.func f6) #[] k6, .func (.func f7) #[] k7, .func (.func f8) #[] k8, .func (.func f9) #[] k9] 90)).heap.size := by simp
    obtain ⟨w10, hw10⟩ : ∃ m, w9.alloc (.cells #[.func (.func f1) #[] k1, .func (.func f3) #[] k3, .func (.func f4) #[] k4, .func (.func f5) #[] k5, .func (.func f6) #[] k6, .func (.func f7) #[] k7, .func (.func f8) #[] k8, .func (.func f9) #[] k9] 90) = m := ⟨_, rfl⟩
    rw [hw10] at hal hcs hsz
    have HS1 := Lib.hid (HS1.out.later hal)
    have HS3 := Lib.hid (HS3.out.later hal)
    have HS4 := Lib.hid (HS4.out.later hal)
    have HS5 := Lib.hid (HS5.out.later hal)
    have HS6 := Lib.hid (HS6.out.later hal)
    have HS7 := Lib.hid (HS7.out.later hal)
    have HS8 := Lib.hid (HS8.out.later hal)
    have HS9 := Lib.hid (HS9.out.later hal)
    have HB10 := Lib.hid (HB9.out.trans (hal.mono HB9.out.size))
    have HCS := Lib.hid hcs
    have HSZ := Lib.hid hsz
    clear hal hcs hsz
    go_wp2_with fail
    first | rw [hw10] | skip
    clear hw10
    refine ⟨⟨⟨_, HB10.out⟩, rfl⟩, ?_⟩
    refine mix_one rfl ?_
    simp only [List.getElem_toArray, List.getElem_cons_zero, List.getElem_cons_succ]
    have hfa := first_any [unl true 1, unl nb 20, ce, unl z 1, unl zc 1, unl true 1, unl zb 1, unl (!MN) 21] w9.heap.size 0 8 [.func (.func f1) #[] k1, .func (.func f3) #[] k3, .func (.func f4) #[] k4, .func (.func f5) #[] k5, .func (.func f6) #[] k6, .func (.func f7) #[] k7, .func (.func f8) #[] k8, .func (.func f9) #[] k9] w10 rfl (by simp)
      (fun i v hv => by rw [Lib.cell_of_heap HCS.out, Nat.zero_add]; simpa using hv) HSZ.out
      (fun i v e hv he => by
        match i, hv, he with
        | 0, hv, he => simp at hv he; subst hv; subst he; exact HS1.out
        | 1, hv, he => simp at hv he; subst hv; subst he; exact HS3.out
        | 2, hv, he => simp at hv he; subst hv; subst he; exact HS4.out
        | 3, hv, he => simp at hv he; subst hv; subst he; exact HS5.out
        | 4, hv, he => simp at hv he; subst hv; subst he; exact HS6.out
        | 5, hv, he => simp at hv he; subst hv; subst he; exact HS7.out
        | 6, hv, he => simp at hv he; subst hv; subst he; exact HS8.out
        | 7, hv, he => simp at hv he; subst hv; subst he; exact HS9.out
        | j + 8, hv, he => simp at hv)
    have HFA := Lib.hid hfa
    clear hfa
    go_wp2_with (go_at_call 57; refine HFA.out.mono ?_)
    rintro e w11 ⟨rfl, hb⟩
    have HB11 := Lib.hid (HB10.out.trans (hb.mono HB10.out.size))
    clear hb HFA
    go_wp2_with fail
    refine ⟨⟨⟨_, HB11.out⟩, rfl⟩, ?_⟩
    refine mix_calm ⟨_, ⟨⟨_, Below.refl _ _⟩, rfl⟩⟩ _ [61] [_] _ rfl rfl ?_
    simp only [List.getElem_toArray, List.getElem_cons_zero, List.getElem_cons_succ]
    repeat (first
      | go_big_quiet_skip
      | (go_big_quiet_want; go_big_quiet_op; go_big_quiet_on))
    refine wpQuiet_nil ?_
    refine mix_nil ?_
    go_wp2_with fail
    go_ret
    exact ⟨by rw [hfin]; rfl, HB.out.trans (HB11.out.mono HB.out.size)⟩
  · obtain ⟨hk, hl⟩ := hk
    subst hk
    subst hl
    have hKIf : KI = true := by rw [← hKI]; rfl
    subst hKIf
    clear hKI
    have hfin : [unl (decide (1 ≤ (3 : Int)) && decide ((3 : Int) ≤ 3)) 1, unl nb 20, ce, unl (((3 : Int) == 3 && true) || (!((3 : Int) == 3) && lv == 0)) 1, unl ((3 : Int) == 3 || nC == 0) 1, unl (!((3 : Int) == 3) || nT == 0) 1, unl ((3 : Int) == 1 || nB == 0) 1, unl (!MN) 21] = [unl true 1, unl nb 20, ce, unl true 1, unl true 1, unl zt 1, unl zb 1, unl (!MN) 21] := by rw [hz, yc, yt, yb]; cases z <;> cases zc <;> cases zt <;> cases zb <;> rfl
    clear yc yt yb
    refine wp_region_mix (fun w' => ∃ x : BW wc.heap.size wc, w' = x.w) [(true, 0), (true, 1), (true, 2), (true, 3), (true, 4), (true, 5), (true, 6), (true, 7), (true, 9), (true, 10), (true, 13), (true, 15), (true, 29), (true, 37), (true, 38), (true, 46), (true, 47), (true, 48), (true, 56), (true, 57), (false, 8), (false, 11), (false, 12), (false, 14), (true, 16), (true, 17), (true, 18), (true, 19), (true, 20), (true, 21), (true, 22), (true, 23), (true, 24), (true, 25), (true, 26), (true, 27), (false, 28), (true, 30), (true, 31), (true, 32), (true, 33), (true, 34), (true, 35), (false, 36), (true, 39), (true, 40), (true, 41), (true, 42), (true, 43), (true, 44), (false, 45), (true, 49), (true, 50), (true, 51), (true, 52), (true, 53), (true, 54), (false, 55), (false, 58), (false, 59), (false, 60), (true, 61)] (by kernel_rfl) (by kernel_rfl) ⟨⟨_, (Below.refl _ _).drew⟩, rfl⟩ ?_
    have hb0 : Below wc.heap.size wc wc.drew := (Below.refl _ _).drew
    obtain ⟨w0, hw0⟩ : ∃ m, wc.drew = m := ⟨_, rfl⟩
    rw [hw0] at hb0 ⊢
    clear hw0
    have HB0 := Lib.hid hb0
    clear hb0
    refine mix_calm ⟨_, ⟨⟨_, Below.refl _ _⟩, rfl⟩⟩ _ [0, 1, 2, 3, 4, 5, 6, 7, 9, 10, 13, 15, 29, 37, 38, 46, 47, 48, 56, 57] [_, _, _, _, _, _, _, _, _, _, _, _, _, _, _, _, _, _, _, _] _ rfl rfl ?_
    simp only [List.getElem_toArray, List.getElem_cons_zero, List.getElem_cons_succ]
    repeat (first
      | go_big_quiet_skip
      | (go_big_quiet_want; go_big_quiet_op; go_big_quiet_on))
    refine wpQuiet_nil ?_
    refine mix_one rfl ?_
    simp only [List.getElem_toArray, List.getElem_cons_zero, List.getElem_cons_succ]
    go_wp2_with (go_at_call 58; refine (unless_any _ _ _).mono ?_)
    rintro e w1 ⟨v, rfl, hs, hb⟩
    obtain ⟨f1, k1, rfl, hs2⟩ := id hs
    clear hs2
    have HS1 := Lib.hid hs
    have HB1 := Lib.hid (HB0.out.trans (hb.mono HB0.out.size))
    clear hs hb
    go_wp2_with fail
    refine ⟨⟨⟨_, HB1.out⟩, rfl⟩, ?_⟩
    refine mix_one rfl ?_
    simp only [List.getElem_toArray, List.getElem_cons_zero, List.getElem_cons_succ]
    go_wp2_with (go_at_call 59; refine (HNA.out _).mono ?_)
    rintro e w2 ⟨rfl, hb⟩
    have HS1 := Lib.hid (HS1.out.later hb)
    have HB2 := Lib.hid (HB1.out.trans (hb.mono HB1.out.size))
    clear hb
    go_wp2_with fail
    refine ⟨⟨⟨_, HB2.out⟩, rfl⟩, ?_⟩
    refine mix_one rfl ?_
    simp only [List.getElem_toArray, List.getElem_cons_zero, List.getElem_cons_succ]
    go_wp2_with (go_at_call 58; refine (unless_any _ _ _).mono ?_)
    rintro e w3 ⟨v, rfl, hs, hb⟩
    obtain ⟨f3, k3, rfl, hs2⟩ := id hs
    clear hs2
    have HS1 := Lib.hid (HS1.out.later hb)
    have HS3 := Lib.hid hs
    have HB3 := Lib.hid (HB2.out.trans (hb.mono HB2.out.size))
    clear hs hb
    go_wp2_with fail
    refine ⟨⟨⟨_, HB3.out⟩, rfl⟩, ?_⟩
    refine mix_one rfl ?_
    simp only [List.getElem_toArray, List.getElem_cons_zero, List.getElem_cons_succ]
    go_wp2_with (go_at_call 60; refine (HCL.out _ (HB.out.trans (HB3.out.mono HB.out.size))).mono ?_)
    rintro e w4 ⟨v, rfl, hs, hb⟩
    obtain ⟨f4, k4, rfl, hs2⟩ := id hs
    clear hs2
    have HS1 := Lib.hid (HS1.out.later hb)
    have HS3 := Lib.hid (HS3.out.later hb)
    have HS4 := Lib.hid hs
    have HB4 := Lib.hid (HB3.out.trans (hb.mono HB3.out.size))
    clear hs hb
    go_wp2_with fail
    refine ⟨⟨⟨_, HB4.out⟩, rfl⟩, ?_⟩
    refine mix_calm ⟨_, ⟨⟨_, Below.refl _ _⟩, rfl⟩⟩ _ [16, 17, 18, 19, 20, 21, 22, 23, 24, 25, 26, 27] [_, _, _, _, _, _, _, _, _, _, _, _] _ rfl rfl ?_
    simp only [List.getElem_toArray, List.getElem_cons_zero, List.getElem_cons_succ]
    repeat (first
      | go_big_quiet_skip
      | (go_big_quiet_want; go_big_quiet_op; go_big_quiet_on))
    refine wpQuiet_nil ?_
    refine mix_one rfl ?_
    simp only [List.getElem_toArray, List.getElem_cons_zero, List.getElem_cons_succ]
    go_wp2_with (go_at_call 58; refine (unless_any _ _ _).mono ?_)
    rintro e w5 ⟨v, rfl, hs, hb⟩
    obtain ⟨f5, k5, rfl, hs2⟩ := id hs
    clear hs2
    have HS1 := Lib.hid (HS1.out.later hb)
    have HS3 := Lib.hid (HS3.out.later hb)
    have HS4 := Lib.hid (HS4.out.later hb)
    have HS5 := Lib.hid hs
    have HB5 := Lib.hid (HB4.out.trans (hb.mono HB4.out.size))
    clear hs hb
    go_wp2_with fail
    refine ⟨⟨⟨_, HB5.out⟩, rfl⟩, ?_⟩
    refine mix_calm ⟨_, ⟨⟨_, Below.refl _ _⟩, rfl⟩⟩ _ [30, 31, 32, 33, 34, 35] [_, _, _, _, _, _] _ rfl rfl ?_
    simp only [List.getElem_toArray, List.getElem_cons_zero, List.getElem_cons_succ]
    repeat (first
      | go_big_quiet_skip
      | (go_big_quiet_want; go_big_quiet_op; go_big_quiet_on))
    refine wpQuiet_nil ?_
    refine mix_one rfl ?_
    simp only [List.getElem_toArray, List.getElem_cons_zero, List.getElem_cons_succ]
    go_wp2_with (go_at_call 58; refine (unless_any _ _ _).mono ?_)
    rintro e w6 ⟨v, rfl, hs, hb⟩
    obtain ⟨f6, k6, rfl, hs2⟩ := id hs
    clear hs2
    have HS1 := Lib.hid (HS1.out.later hb)
    have HS3 := Lib.hid (HS3.out.later hb)
    have HS4 := Lib.hid (HS4.out.later hb)
    have HS5 := Lib.hid (HS5.out.later hb)
    have HS6 := Lib.hid hs
    have HB6 := Lib.hid (HB5.out.trans (hb.mono HB5.out.size))
    clear hs hb
    go_wp2_with fail
    refine ⟨⟨⟨_, HB6.out⟩, rfl⟩, ?_⟩
    refine mix_calm ⟨_, ⟨⟨_, Below.refl _ _⟩, rfl⟩⟩ _ [39, 40, 41, 42, 43, 44] [_, _, _, _, _, _] _ rfl rfl ?_
    simp only [List.getElem_toArray, List.getElem_cons_zero, List.getElem_cons_succ]
    repeat (first
      | go_big_quiet_skip
      | (go_big_quiet_want; go_big_quiet_op; go_big_quiet_on))
    refine wpQuiet_nil ?_
    refine mix_one rfl ?_
    simp only [List.getElem_toArray, List.getElem_cons_zero, List.getElem_cons_succ]
    go_wp2_with (go_at_call 58; refine (unless_any _ _ _).mono ?_)
    rintro e w7 ⟨v, rfl, hs, hb⟩
    obtain ⟨f7, k7, rfl, hs2⟩ := id hs
    clear hs2
    have HS1 := Lib.hid (HS1.out.later hb)
    have HS3 := Lib.hid (HS3.out.later hb)
    have HS4 := Lib.hid (HS4.out.later hb)
    have HS5 := Lib.hid (HS5.out.later hb)
    have HS6 := Lib.hid (HS6.out.later hb)
    have HS7 := Lib.hid hs
    have HB7 := Lib.hid (HB6.out.trans (hb.mono HB6.out.size))
    clear hs hb
    go_wp2_with fail
    refine ⟨⟨⟨_, HB7.out⟩, rfl⟩, ?_⟩
    refine mix_calm ⟨_, ⟨⟨_, Below.refl _ _⟩, rfl⟩⟩ _ [49, 50, 51, 52, 53, 54] [_, _, _, _, _, _] _ rfl rfl ?_
    simp only [List.getElem_toArray, List.getElem_cons_zero, List.getElem_cons_succ]
    repeat (first
      | go_big_quiet_skip
      | (go_big_quiet_want; go_big_quiet_op; go_big_quiet_on))
    refine wpQuiet_nil ?_
    refine mix_one rfl ?_
    simp only [List.getElem_toArray, List.getElem_cons_zero, List.getElem_cons_succ]
    go_wp2_with (go_at_call 58; refine (unless_any _ _ _).mono ?_)
    rintro e w8 ⟨v, rfl, hs, hb⟩
    obtain ⟨f8, k8, rfl, hs2⟩ := id hs
    clear hs2
    have HS1 := Lib.hid (HS1.out.later hb)
    have HS3 := Lib.hid (HS3.out.later hb)
    have HS4 := Lib.hid (HS4.out.later hb)
    have HS5 := Lib.hid (HS5.out.later hb)
    have HS6 := Lib.hid (HS6.out.later hb)
    have HS7 := Lib.hid (HS7.out.later hb)
    have HS8 := Lib.hid hs
    have HB8 := Lib.hid (HB7.out.trans (hb.mono HB7.out.size))
    clear hs hb
    go_wp2_with fail
    refine ⟨⟨⟨_, HB8.out⟩, rfl⟩, ?_⟩
    refine mix_one rfl ?_
    simp only [List.getElem_toArray, List.getElem_cons_zero, List.getElem_cons_succ]
    go_wp2_with (go_at_call 58; refine (unless_any _ _ _).mono ?_)
    rintro e w9 ⟨v, rfl, hs, hb⟩
    obtain ⟨f9, k9, rfl, hs2⟩ := id hs
    clear hs2
    have HS1 := Lib.hid (HS1.out.later hb)
    have HS3 := Lib.hid (HS3.out.later hb)
    have HS4 := Lib.hid (HS4.out.later hb)
    have HS5 := Lib.hid (HS5.out.later hb)
    have HS6 := Lib.hid (HS6.out.later hb)
    have HS7 := Lib.hid (HS7.out.later hb)
    have HS8 := Lib.hid (HS8.out.later hb)
    have HS9 := Lib.hid hs
    have HB9 := Lib.hid (HB8.out.trans (hb.mono HB8.out.size))
    clear hs hb
    go_wp2_with fail
    refine ⟨⟨⟨_, HB9.out⟩, rfl⟩, ?_⟩
    refine mix_one rfl ?_
    simp only [List.getElem_toArray, List.getElem_cons_zero, List.getElem_cons_succ]
    have hal : Below w9.heap.size w9 (w9.alloc (.cells #[.func (.func f1) #[] k1, .func (.func f3) #[] k3, .func (.func f4) #[] k4, .func (.func f5) #[] k5, .func (.func f6) #[] k6, .func (.func f7) #[] k7, .func (.func f8) #[] k8, .func (.func f9) #[] k9] 90)) := (Below.refl _ _).alloc (Nat.le_refl _) _
    have hcs := (MapKept.heap_alloc w9 (.cells #[.func (.func f1) #[] k1, .func (.func f3) #[] k3, .func (.func f4) #[] k4, .func (.func f5) #[] k5, .func (.func f6) #[] k6, .func (.func f7) #[] k7, .func (.func f8) #[] k8, .func (.func f9) #[] k9] 90)).1
    have hsz : w9.heap.size < (w9.alloc (.cells #[.func (.func f1) #[] k1, .func (.func f3) #[] k3, .func (.func f4) #[] k4, .func (.func f5) #[] k5, .func (.func f6) #[] k6, .func (.func f7) #[] k7, .func (.func f8) #[] k8, .func (.func f9) #[] k9] 90)).heap.size := by simp
    obtain ⟨w10, hw10⟩ : ∃ m, w9.alloc (.cells #[.func (.func f1) #[] k1, .func (.func f3) #[] k3, .func (.func f4) #[] k4, .func (.func f5) #[] k5, .func (.func f6) #[] k6, .func (.func f7) #[] k7, .func (.func f8) #[] k8, .func (.func f9) #[] k9] 90) = m := ⟨_, rfl⟩
    rw [hw10] at hal hcs hsz
    have HS1 := Lib.hid (HS1.out.later hal)
    have HS3 := Lib.hid (HS3.out.later hal)
    have HS4 := Lib.hid (HS4.out.later hal)
    have HS5 := Lib.hid (HS5.out.later hal)
    have HS6 := Lib.hid (HS6.out.later hal)
    have HS7 := Lib.hid (HS7.out.later hal)
    have HS8 := Lib.hid (HS8.out.later hal)
    have HS9 := Lib.hid (HS9.out.later hal)
    have HB10 := Lib.hid (HB9.out.trans (hal.mono HB9.out.size))
    have HCS := Lib.hid hcs
    have HSZ := Lib.hid hsz
    clear hal hcs hsz
    go_wp2_with fail
    first | rw [hw10] | skip
    clear hw10
    refine ⟨⟨⟨_, HB10.out⟩, rfl⟩, ?_⟩
    refine mix_one rfl ?_
    simp only [List.getElem_toArray, List.getElem_cons_zero, List.getElem_cons_succ]
    have hfa := first_any [unl true 1, unl nb 20, ce, unl true 1, unl true 1, unl zt 1, unl zb 1, unl (!MN) 21] w9.heap.size 0 8 [.func (.func f1) #[] k1, .func (.func f3) #[] k3, .func (.func f4) #[] k4, .func (.func f5) #[] k5, .func (.func f6) #[] k6, .func (.func f7) #[] k7, .func (.func f8) #[] k8, .func (.func f9) #[] k9] w10 rfl (by simp)
      (fun i v hv => by rw [Lib.cell_of_heap HCS.out, Nat.zero_add]; simpa using hv) HSZ.out
      (fun i v e hv he => by
        match i, hv, he with
        | 0, hv, he => simp at hv he; subst hv; subst he; exact HS1.out
        | 1, hv, he => simp at hv he; subst hv; subst he; exact HS3.out
        | 2, hv, he => simp at hv he; subst hv; subst he; exact HS4.out
        | 3, hv, he => simp at hv he; subst hv; subst he; exact HS5.out
        | 4, hv, he => simp at hv he; subst hv; subst he; exact HS6.out
        | 5, hv, he => simp at hv he; subst hv; subst he; exact HS7.out
        | 6, hv, he => simp at hv he; subst hv; subst he; exact HS8.out
        | 7, hv, he => simp at hv he; subst hv; subst he; exact HS9.out
        | j + 8, hv, he => simp at hv)
    have HFA := Lib.hid hfa
    clear hfa
    go_wp2_with (go_at_call 57; refine HFA.out.mono ?_)
    rintro e w11 ⟨rfl, hb⟩
    have HB11 := Lib.hid (HB10.out.trans (hb.mono HB10.out.size))
    clear hb HFA
    go_wp2_with fail
    refine ⟨⟨⟨_, HB11.out⟩, rfl⟩, ?_⟩
    refine mix_calm ⟨_, ⟨⟨_, Below.refl _ _⟩, rfl⟩⟩ _ [61] [_] _ rfl rfl ?_
    simp only [List.getElem_toArray, List.getElem_cons_zero, List.getElem_cons_succ]
    repeat (first
      | go_big_quiet_skip
      | (go_big_quiet_want; go_big_quiet_op; go_big_quiet_on))
    refine wpQuiet_nil ?_
    refine mix_nil ?_
    go_wp2_with fail
    go_ret
    exact ⟨by rw [hfin]; rfl, HB.out.trans (HB11.out.mono HB.out.size)⟩
  · obtain ⟨hk, hl⟩ := hk
    subst hk
    subst hl
    have hKIf : KI = true := by rw [← hKI]; rfl
    subst hKIf
    clear hKI
    have hfin : [unl (decide (1 ≤ (3 : Int)) && decide ((3 : Int) ≤ 3)) 1, unl nb 20, ce, unl (((3 : Int) == 3 && false) || (!((3 : Int) == 3) && lv == 0)) 1, unl ((3 : Int) == 3 || nC == 0) 1, unl (!((3 : Int) == 3) || nT == 0) 1, unl ((3 : Int) == 1 || nB == 0) 1, unl (!MN) 21] = [unl true 1, unl nb 20, ce, unl false 1, unl true 1, unl zt 1, unl zb 1, unl (!MN) 21] := by rw [hz, yc, yt, yb]; cases z <;> cases zc <;> cases zt <;> cases zb <;> rfl
    clear yc yt yb
    refine wp_region_mix (fun w' => ∃ x : BW wc.heap.size wc, w' = x.w) [(true, 0), (true, 1), (true, 2), (true, 3), (true, 4), (true, 5), (true, 6), (true, 7), (true, 9), (true, 10), (true, 13), (true, 15), (true, 29), (true, 37), (true, 38), (true, 46), (true, 47), (true, 48), (true, 56), (true, 57), (false, 8), (false, 11), (false, 12), (false, 14), (true, 16), (true, 17), (true, 18), (true, 19), (true, 20), (true, 21), (true, 22), (true, 23), (true, 24), (true, 25), (true, 26), (true, 27), (false, 28), (true, 30), (true, 31), (true, 32), (true, 33), (true, 34), (true, 35), (false, 36), (true, 39), (true, 40), (true, 41), (true, 42), (true, 43), (true, 44), (false, 45), (true, 49), (true, 50), (true, 51), (true, 52), (true, 53), (true, 54), (false, 55), (false, 58), (false, 59), (false, 60), (true, 61)] (by kernel_rfl) (by kernel_rfl) ⟨⟨_, (Below.refl _ _).drew⟩, rfl⟩ ?_
    have hb0 : Below wc.heap.size wc wc.drew := (Below.refl _ _).drew
    obtain ⟨w0, hw0⟩ : ∃ m, wc.drew = m := ⟨_, rfl⟩
    rw [hw0] at hb0 ⊢
    clear hw0
    have HB0 := Lib.hid hb0
    clear hb0
    refine mix_calm ⟨_, ⟨⟨_, Below.refl _ _⟩, rfl⟩⟩ _ [0, 1, 2, 3, 4, 5, 6, 7, 9, 10, 13, 15, 29, 37, 38, 46, 47, 48, 56, 57] [_, _, _, _, _, _, _, _, _, _, _, _, _, _, _, _, _, _, _, _] _ rfl rfl ?_
    simp only [List.getElem_toArray, List.getElem_cons_zero, List.getElem_cons_succ]
    repeat (first
      | go_big_quiet_skip
      | (go_big_quiet_want; go_big_quiet_op; go_big_quiet_on))
    refine wpQuiet_nil ?_
    refine mix_one rfl ?_
    simp only [List.getElem_toArray, List.getElem_cons_zero, List.getElem_cons_succ]
    go_wp2_with (go_at_call 58; refine (unless_any _ _ _).mono ?_)
    rintro e w1 ⟨v, rfl, hs, hb⟩
    obtain ⟨f1, k1, rfl, hs2⟩ := id hs
    clear hs2
    have HS1 := Lib.hid hs
    have HB1 := Lib.hid (HB0.out.trans (hb.mono HB0.out.size))
    clear hs hb
    go_wp2_with fail
    refine ⟨⟨⟨_, HB1.out⟩, rfl⟩, ?_⟩
    refine mix_one rfl ?_
    simp only [List.getElem_toArray, List.getElem_cons_zero, List.getElem_cons_succ]
    go_wp2_with (go_at_call 59; refine (HNA.out _).mono ?_)
    rintro e w2 ⟨rfl, hb⟩
    have HS1 := Lib.hid (HS1.out.later hb)
    have HB2 := Lib.hid (HB1.out.trans (hb.mono HB1.out.size))
    clear hb
    go_wp2_with fail
    refine ⟨⟨⟨_, HB2.out⟩, rfl⟩, ?_⟩
    refine mix_one rfl ?_
    simp only [List.getElem_toArray, List.getElem_cons_zero, List.getElem_cons_succ]
    go_wp2_with (go_at_call 58; refine (unless_any _ _ _).mono ?_)
    rintro e w3 ⟨v, rfl, hs, hb⟩
    obtain ⟨f3, k3, rfl, hs2⟩ := id hs
    clear hs2
    have HS1 := Lib.hid (HS1.out.later hb)
    have HS3 := Lib.hid hs
    have HB3 := Lib.hid (HB2.out.trans (hb.mono HB2.out.size))
    clear hs hb
    go_wp2_with fail
    refine ⟨⟨⟨_, HB3.out⟩, rfl⟩, ?_⟩
    refine mix_one rfl ?_
    simp only [List.getElem_toArray, List.getElem_cons_zero, List.getElem_cons_succ]
    go_wp2_with (go_at_call 60; refine (HCL.out _ (HB.out.trans (HB3.out.mono HB.out.size))).mono ?_)
    rintro e w4 ⟨v, rfl, hs, hb⟩
    obtain ⟨f4, k4, rfl, hs2⟩ := id hs
    clear hs2
    have HS1 := Lib.hid (HS1.out.later hb)
    have HS3 := Lib.hid (HS3.out.later hb)
    have HS4 := Lib.hid hs
    have HB4 := Lib.hid (HB3.out.trans (hb.mono HB3.out.size))
    clear hs hb
    go_wp2_with fail
    refine ⟨⟨⟨_, HB4.out⟩, rfl⟩, ?_⟩
    refine mix_calm ⟨_, ⟨⟨_, Below.refl _ _⟩, rfl⟩⟩ _ [16, 17, 18, 19, 20, 21, 22, 23, 24, 25, 26, 27] [_, _, _, _, _, _, _, _, _, _, _, _] _ rfl rfl ?_
    simp only [List.getElem_toArray, List.getElem_cons_zero, List.getElem_cons_succ]
    repeat (first
      | go_big_quiet_skip
      | (go_big_quiet_want; go_big_quiet_op; go_big_quiet_on))
    refine wpQuiet_nil ?_
    refine mix_one rfl ?_
    simp only [List.getElem_toArray, List.getElem_cons_zero, List.getElem_cons_succ]
    go_wp2_with (go_at_call 58; refine (unless_any _ _ _).mono ?_)
    rintro e w5 ⟨v, rfl, hs, hb⟩
    obtain ⟨f5, k5, rfl, hs2⟩ := id hs
    clear hs2
    have HS1 := Lib.hid (HS1.out.later hb)
    have HS3 := Lib.hid (HS3.out.later hb)
    have HS4 := Lib.hid (HS4.out.later hb)
    have HS5 := Lib.hid hs
    have HB5 := Lib.hid (HB4.out.trans (hb.mono HB4.out.size))
    clear hs hb
    go_wp2_with fail
    refine ⟨⟨⟨_, HB5.out⟩, rfl⟩, ?_⟩
    refine mix_calm ⟨_, ⟨⟨_, Below.refl _ _⟩, rfl⟩⟩ _ [30, 31, 32, 33, 34, 35] [_, _, _, _, _, _] _ rfl rfl ?_
    simp only [List.getElem_toArray, List.getElem_cons_zero, List.getElem_cons_succ]
    repeat (first
      | go_big_quiet_skip
      | (go_big_quiet_want; go_big_quiet_op; go_big_quiet_on))
    refine wpQuiet_nil ?_
    refine mix_one rfl ?_
    simp only [List.getElem_toArray, List.getElem_cons_zero, List.getElem_cons_succ]
    go_wp2_with (go_at_call 58; refine (unless_any _ _ _).mono ?_)
    rintro e w6 ⟨v, rfl, hs, hb⟩
    obtain ⟨f6, k6, rfl, hs2⟩ := id hs
    clear hs2
    have HS1 := Lib.hid (HS1.out.later hb)
    have HS3 := Lib.hid (HS3.out.later hb)
    have HS4 := Lib.hid (HS4.out.later hb)
    have HS5 := Lib.hid (HS5.out.later hb)
    have HS6 := Lib.hid hs
    have HB6 := Lib.hid (HB5.out.trans (hb.mono HB5.out.size))
    clear hs hb
    go_wp2_with fail
    refine ⟨⟨⟨_, HB6.out⟩, rfl⟩, ?_⟩
    refine mix_calm ⟨_, ⟨⟨_, Below.refl _ _⟩, rfl⟩⟩ _ [39, 40, 41, 42, 43, 44] [_, _, _, _, _, _] _ rfl rfl ?_
    simp only [List.getElem_toArray, List.getElem_cons_zero, List.getElem_cons_succ]
    repeat (first
      | go_big_quiet_skip
      | (go_big_quiet_want; go_big_quiet_op; go_big_quiet_on))
    refine wpQuiet_nil ?_
    refine mix_one rfl ?_
    simp only [List.getElem_toArray, List.getElem_cons_zero, List.getElem_cons_succ]
    go_wp2_with (go_at_call 58; refine (unless_any _ _ _).mono ?_)
    rintro e w7 ⟨v, rfl, hs, hb⟩
    obtain ⟨f7, k7, rfl, hs2⟩ := id hs
    clear hs2
    have HS1 := Lib.hid (HS1.out.later hb)
    have HS3 := Lib.hid (HS3.out.later hb)
    have HS4 := Lib.hid (HS4.out.later hb)
    have HS5 := Lib.hid (HS5.out.later hb)
    have HS6 := Lib.hid (HS6.out.later hb)
    have HS7 := Lib.hid hs
    have HB7 := Lib.hid (HB6.out.trans (hb.mono HB6.out.size))
    clear hs hb
    go_wp2_with fail
    refine ⟨⟨⟨_, HB7.out⟩, rfl⟩, ?_⟩
    refine mix_calm ⟨_, ⟨⟨_, Below.refl _ _⟩, rfl⟩⟩ _ [49, 50, 51, 52, 53, 54] [_, _, _, _, _, _] _ rfl rfl ?_
    simp only [List.getElem_toArray, List.getElem_cons_zero, List.getElem_cons_succ]
    repeat (first
      | go_big_quiet_skip
      | (go_big_quiet_want; go_big_quiet_op; go_big_quiet_on))
    refine wpQuiet_nil ?_
    refine mix_one rfl ?_
    simp only [List.getElem_toArray, List.getElem_cons_zero, List.getElem_cons_succ]
    go_wp2_with (go_at_call 58; refine (unless_any _ _ _).mono ?_)
    rintro e w8 ⟨v, rfl, hs, hb⟩
    obtain ⟨f8, k8, rfl, hs2⟩ := id hs
    clear hs2
    have HS1 := Lib.hid (HS1.out.later hb)
    have HS3 := Lib.hid (HS3.out.later hb)
    have HS4 := Lib.hid (HS4.out.later hb)
    have HS5 := Lib.hid (HS5.out.later hb)
    have HS6 := Lib.hid (HS6.out.later hb)
    have HS7 := Lib.hid (HS7.out.later hb)
    have HS8 := Lib.hid hs
    have HB8 := Lib.hid (HB7.out.trans (hb.mono HB7.out.size))
    clear hs hb
    go_wp2_with fail
    refine ⟨⟨⟨_, HB8.out⟩, rfl⟩, ?_⟩
    refine mix_one rfl ?_
    simp only [List.getElem_toArray, List.getElem_cons_zero, List.getElem_cons_succ]
    go_wp2_with (go_at_call 58; refine (unless_any _ _ _).mono ?_)
    rintro e w9 ⟨v, rfl, hs, hb⟩
    obtain ⟨f9, k9, rfl, hs2⟩ := id hs
    clear hs2
    have HS1 := Lib.hid (HS1.out.later hb)
    have HS3 := Lib.hid (HS3.out.later hb)
    have HS4 := Lib.hid (HS4.out.later hb)
    have HS5 := Lib.hid (HS5.out.later hb)
    have HS6 := Lib.hid (HS6.out.later hb)
    have HS7 := Lib.hid (HS7.out.later hb)
    have HS8 := Lib.hid (HS8.out.later hb)
    have HS9 := Lib.hid hs
    have HB9 := Lib.hid (HB8.out.trans (hb.mono HB8.out.size))
    clear hs hb
    go_wp2_with fail
    refine ⟨⟨⟨_, HB9.out⟩, rfl⟩, ?_⟩
    refine mix_one rfl ?_
    simp only [List.getElem_toArray, List.getElem_cons_zero, List.getElem_cons_succ]
    have hal : Below w9.heap.size w9 (w9.alloc (.cells #[.func (.func f1) #[] k1, .func (.func f3) #[] k3, .func (.func f4) #[] k4, .func (.func f5) #[] k5, .func (.func f6) #[] k6, .func (.func f7) #[] k7, .func (.func f8) #[] k8, .func (.func f9) #[] k9] 90)) := (Below.refl _ _).alloc (Nat.le_refl _) _
    have hcs := (MapKept.heap_alloc w9 (.cells #[.func (.func f1) #[] k1, .func (.func f3) #[] k3, .func (.func f4) #[] k4, .func (.func f5) #[] k5, .func (.func f6) #[] k6, .func (.func f7) #[] k7, .func (.func f8) #[] k8, .func (.func f9) #[] k9] 90)).1
    have hsz : w9.heap.size < (w9.alloc (.cells #[.func (.func f1) #[] k1, .func (.func f3) #[] k3, .func (.func f4) #[] k4, .func (.func f5) #[] k5, .func (.func f6) #[] k6, .func (.func f7) #[] k7, .func (.func f8) #[] k8, .func (.func f9) #[] k9] 90)).heap.size := by simp
    obtain ⟨w10, hw10⟩ : ∃ m, w9.alloc (.cells #[.func (.func f1) #[] k1, .func (.func f3) #[] k3, .func (.func f4) #[] k4, .func (.func f5) #[] k5, .func (.func f6) #[] k6, .func (.func f7) #[] k7, .func (.func f8) #[] k8, .func (.func f9) #[] k9] 90) = m := ⟨_, rfl⟩
    rw [hw10] at hal hcs hsz
    have HS1 := Lib.hid (HS1.out.later hal)
    have HS3 := Lib.hid (HS3.out.later hal)
    have HS4 := Lib.hid (HS4.out.later hal)
    have HS5 := Lib.hid (HS5.out.later hal)
    have HS6 := Lib.hid (HS6.out.later hal)
    have HS7 := Lib.hid (HS7.out.later hal)
    have HS8 := Lib.hid (HS8.out.later hal)
    have HS9 := Lib.hid (HS9.out.later hal)
    have HB10 := Lib.hid (HB9.out.trans (hal.mono HB9.out.size))
    have HCS := Lib.hid hcs
    have HSZ := Lib.hid hsz
    clear hal hcs hsz
    go_wp2_with fail
    first | rw [hw10] | skip
    clear hw10
    refine ⟨⟨⟨_, HB10.out⟩, rfl⟩, ?_⟩
    refine mix_one rfl ?_
    simp only [List.getElem_toArray, List.getElem_cons_zero, List.getElem_cons_succ]
    have hfa := first_any [unl true 1, unl nb 20, ce, unl false 1, unl true 1, unl zt 1, unl zb 1, unl (!MN) 21] w9.heap.size 0 8 [.func (.func f1) #[] k1, .func (.func f3) #[] k3, .func (.func f4) #[] k4, .func (.func f5) #[] k5, .func (.func f6) #[] k6, .func (.func f7) #[] k7, .func (.func f8) #[] k8, .func (.func f9) #[] k9] w10 rfl (by simp)
      (fun i v hv => by rw [Lib.cell_of_heap HCS.out, Nat.zero_add]; simpa using hv) HSZ.out
      (fun i v e hv he => by
        match i, hv, he with
        | 0, hv, he => simp at hv he; subst hv; subst he; exact HS1.out
        | 1, hv, he => simp at hv he; subst hv; subst he; exact HS3.out
        | 2, hv, he => simp at hv he; subst hv; subst he; exact HS4.out
        | 3, hv, he => simp at hv he; subst hv; subst he; exact HS5.out
        | 4, hv, he => simp at hv he; subst hv; subst he; exact HS6.out
        | 5, hv, he => simp at hv he; subst hv; subst he; exact HS7.out
        | 6, hv, he => simp at hv he; subst hv; subst he; exact HS8.out
        | 7, hv, he => simp at hv he; subst hv; subst he; exact HS9.out
        | j + 8, hv, he => simp at hv)
    have HFA := Lib.hid hfa
    clear hfa
    go_wp2_with (go_at_call 57; refine HFA.out.mono ?_)
    rintro e w11 ⟨rfl, hb⟩
    have HB11 := Lib.hid (HB10.out.trans (hb.mono HB10.out.size))
    clear hb HFA
    go_wp2_with fail
    refine ⟨⟨⟨_, HB11.out⟩, rfl⟩, ?_⟩
    refine mix_calm ⟨_, ⟨⟨_, Below.refl _ _⟩, rfl⟩⟩ _ [61] [_] _ rfl rfl ?_
    simp only [List.getElem_toArray, List.getElem_cons_zero, List.getElem_cons_succ]
    repeat (first
      | go_big_quiet_skip
      | (go_big_quiet_want; go_big_quiet_op; go_big_quiet_on))
    refine wpQuiet_nil ?_
    refine mix_nil ?_
    go_wp2_with fail
    go_ret
    exact ⟨by rw [hfin]; rfl, HB.out.trans (HB11.out.mono HB.out.size)⟩
  · have g1 : decide (1 ≤ kd) = true := by simp; omega
    have g1' : decide (kd ≥ 1) = true := g1
    have g2 : decide (kd ≤ 3) = false := by simp; omega
    have g3 : (kd == 1) = false := by simp; omega
    have g4 : (kd == 3) = false := by simp; omega
    have hKIf : KI = false := hKI.symm.trans g4
    subst hKIf
    clear hKI
    have hfin : [unl (decide (1 ≤ kd) && decide (kd ≤ 3)) 1, unl nb 20, ce, unl ((kd == 3 && LV) || (!(kd == 3) && lv == 0)) 1, unl (kd == 3 || nC == 0) 1, unl (!(kd == 3) || nT == 0) 1, unl (kd == 1 || nB == 0) 1, unl (!MN) 21] = [unl false 1, unl nb 20, ce, unl z 1, unl zc 1, unl true 1, unl zb 1, unl (!MN) 21] := by rw [g1, g2, g3, g4, hz, yc, yt, yb]; cases z <;> cases zc <;> rfl
    clear yc yt yb
    refine wp_region_mix (fun w' => ∃ x : BW wc.heap.size wc, w' = x.w) [(true, 0), (true, 1), (true, 2), (true, 3), (true, 4), (true, 5), (true, 6), (true, 7), (true, 9), (true, 10), (true, 13), (true, 15), (true, 29), (true, 37), (true, 38), (true, 46), (true, 47), (true, 48), (true, 56), (true, 57), (false, 8), (false, 11), (false, 12), (false, 14), (true, 16), (true, 17), (true, 18), (true, 19), (true, 20), (true, 21), (true, 22), (true, 23), (true, 24), (true, 25), (true, 26), (true, 27), (false, 28), (true, 30), (true, 31), (true, 32), (true, 33), (true, 34), (true, 35), (false, 36), (true, 39), (true, 40), (true, 41), (true, 42), (true, 43), (true, 44), (false, 45), (true, 49), (true, 50), (true, 51), (true, 52), (true, 53), (true, 54), (false, 55), (false, 58), (false, 59), (false, 60), (true, 61)] (by kernel_rfl) (by kernel_rfl) ⟨⟨_, (Below.refl _ _).drew⟩, rfl⟩ ?_
    have hb0 : Below wc.heap.size wc wc.drew := (Below.refl _ _).drew
    obtain ⟨w0, hw0⟩ : ∃ m, wc.drew = m := ⟨_, rfl⟩
    rw [hw0] at hb0 ⊢
    clear hw0
    have HB0 := Lib.hid hb0
    clear hb0
    refine mix_calm ⟨_, ⟨⟨_, Below.refl _ _⟩, rfl⟩⟩ _ [0, 1, 2, 3, 4, 5, 6, 7, 9, 10, 13, 15, 29, 37, 38, 46, 47, 48, 56, 57] [_, _, _, _, _, _, _, _, _, _, _, _, _, _, _, _, _, _, _, _] _ rfl rfl ?_
    simp only [List.getElem_toArray, List.getElem_cons_zero, List.getElem_cons_succ]
    repeat (first
      | go_big_quiet_skip
      | (go_big_quiet_want; go_big_quiet_op; go_big_quiet_on))
    refine wpQuiet_nil ?_
    refine mix_one rfl ?_
    simp only [List.getElem_toArray, List.getElem_cons_zero, List.getElem_cons_succ]
    go_wp2_with (go_at_call 58; refine (unless_any _ _ _).mono ?_)
    rintro e w1 ⟨v, rfl, hs, hb⟩
    obtain ⟨f1, k1, rfl, hs2⟩ := id hs
    clear hs2
    have HS1 := Lib.hid hs
    have HB1 := Lib.hid (HB0.out.trans (hb.mono HB0.out.size))
    clear hs hb
    go_wp2_with fail
    refine ⟨⟨⟨_, HB1.out⟩, rfl⟩, ?_⟩
    refine mix_one rfl ?_
    simp only [List.getElem_toArray, List.getElem_cons_zero, List.getElem_cons_succ]
    go_wp2_with (go_at_call 59; refine (HNA.out _).mono ?_)
    rintro e w2 ⟨rfl, hb⟩
    have HS1 := Lib.hid (HS1.out.later hb)
    have HB2 := Lib.hid (HB1.out.trans (hb.mono HB1.out.size))
    clear hb
    go_wp2_with fail
    refine ⟨⟨⟨_, HB2.out⟩, rfl⟩, ?_⟩
    refine mix_one rfl ?_
    simp only [List.getElem_toArray, List.getElem_cons_zero, List.getElem_cons_succ]
    go_wp2_with (go_at_call 58; refine (unless_any _ _ _).mono ?_)
    rintro e w3 ⟨v, rfl, hs, hb⟩
    obtain ⟨f3, k3, rfl, hs2⟩ := id hs
    clear hs2
    have HS1 := Lib.hid (HS1.out.later hb)
    have HS3 := Lib.hid hs
    have HB3 := Lib.hid (HB2.out.trans (hb.mono HB2.out.size))
    clear hs hb
    go_wp2_with fail
    refine ⟨⟨⟨_, HB3.out⟩, rfl⟩, ?_⟩
    refine mix_one rfl ?_
    simp only [List.getElem_toArray, List.getElem_cons_zero, List.getElem_cons_succ]
    go_wp2_with (go_at_call 60; refine (HCL.out _ (HB.out.trans (HB3.out.mono HB.out.size))).mono ?_)
    rintro e w4 ⟨v, rfl, hs, hb⟩
    obtain ⟨f4, k4, rfl, hs2⟩ := id hs
    clear hs2
    have HS1 := Lib.hid (HS1.out.later hb)
    have HS3 := Lib.hid (HS3.out.later hb)
    have HS4 := Lib.hid hs
    have HB4 := Lib.hid (HB3.out.trans (hb.mono HB3.out.size))
    clear hs hb
    go_wp2_with fail
    refine ⟨⟨⟨_, HB4.out⟩, rfl⟩, ?_⟩
    refine mix_calm ⟨_, ⟨⟨_, Below.refl _ _⟩, rfl⟩⟩ _ [16, 17, 18, 19, 20, 21, 22, 23, 24, 25, 26, 27] [_, _, _, _, _, _, _, _, _, _, _, _] _ rfl rfl ?_
    simp only [List.getElem_toArray, List.getElem_cons_zero, List.getElem_cons_succ]
    repeat (first
      | go_big_quiet_skip
      | (go_big_quiet_want; go_big_quiet_op; go_big_quiet_on))
    refine wpQuiet_nil ?_
    refine mix_one rfl ?_
    simp only [List.getElem_toArray, List.getElem_cons_zero, List.getElem_cons_succ]
    go_wp2_with (go_at_call 58; refine (unless_any _ _ _).mono ?_)
    rintro e w5 ⟨v, rfl, hs, hb⟩
    obtain ⟨f5, k5, rfl, hs2⟩ := id hs
    clear hs2
    have HS1 := Lib.hid (HS1.out.later hb)
    have HS3 := Lib.hid (HS3.out.later hb)
    have HS4 := Lib.hid (HS4.out.later hb)
    have HS5 := Lib.hid hs
    have HB5 := Lib.hid (HB4.out.trans (hb.mono HB4.out.size))
    clear hs hb
    go_wp2_with fail
    refine ⟨⟨⟨_, HB5.out⟩, rfl⟩, ?_⟩
    refine mix_calm ⟨_, ⟨⟨_, Below.refl _ _⟩, rfl⟩⟩ _ [30, 31, 32, 33, 34, 35] [_, _, _, _, _, _] _ rfl rfl ?_
    simp only [List.getElem_toArray, List.getElem_cons_zero, List.getElem_cons_succ]
    repeat (first
      | go_big_quiet_skip
      | (go_big_quiet_want; go_big_quiet_op; go_big_quiet_on))
    refine wpQuiet_nil ?_
    refine mix_one rfl ?_
    simp only [List.getElem_toArray, List.getElem_cons_zero, List.getElem_cons_succ]
    go_wp2_with (go_at_call 58; refine (unless_any _ _ _).mono ?_)
    rintro e w6 ⟨v, rfl, hs, hb⟩
    obtain ⟨f6, k6, rfl, hs2⟩ := id hs
    clear hs2
    have HS1 := Lib.hid (HS1.out.later hb)
    have HS3 := Lib.hid (HS3.out.later hb)
    have HS4 := Lib.hid (HS4.out.later hb)
    have HS5 := Lib.hid (HS5.out.later hb)
    have HS6 := Lib.hid hs
    have HB6 := Lib.hid (HB5.out.trans (hb.mono HB5.out.size))
    clear hs hb
    go_wp2_with fail
    refine ⟨⟨⟨_, HB6.out⟩, rfl⟩, ?_⟩
    refine mix_calm ⟨_, ⟨⟨_, Below.refl _ _⟩, rfl⟩⟩ _ [39, 40, 41, 42, 43, 44] [_, _, _, _, _, _] _ rfl rfl ?_
    simp only [List.getElem_toArray, List.getElem_cons_zero, List.getElem_cons_succ]
    repeat (first
      | go_big_quiet_skip
      | (go_big_quiet_want; go_big_quiet_op; go_big_quiet_on))
    refine wpQuiet_nil ?_
    refine mix_one rfl ?_
    simp only [List.getElem_toArray, List.getElem_cons_zero, List.getElem_cons_succ]
    go_wp2_with (go_at_call 58; refine (unless_any _ _ _).mono ?_)
    rintro e w7 ⟨v, rfl, hs, hb⟩
    obtain ⟨f7, k7, rfl, hs2⟩ := id hs
    clear hs2
    have HS1 := Lib.hid (HS1.out.later hb)
    have HS3 := Lib.hid (HS3.out.later hb)
    have HS4 := Lib.hid (HS4.out.later hb)
    have HS5 := Lib.hid (HS5.out.later hb)
    have HS6 := Lib.hid (HS6.out.later hb)
    have HS7 := Lib.hid hs
    have HB7 := Lib.hid (HB6.out.trans (hb.mono HB6.out.size))
    clear hs hb
    go_wp2_with fail
    refine ⟨⟨⟨_, HB7.out⟩, rfl⟩, ?_⟩
    refine mix_calm ⟨_, ⟨⟨_, Below.refl _ _⟩, rfl⟩⟩ _ [49, 50, 51, 52, 53, 54] [_, _, _, _, _, _] _ rfl rfl ?_
    simp only [List.getElem_toArray, List.getElem_cons_zero, List.getElem_cons_succ]
    repeat (first
      | go_big_quiet_skip
      | (go_big_quiet_want; go_big_quiet_op; go_big_quiet_on))
    refine wpQuiet_nil ?_
    refine mix_one rfl ?_
    simp only [List.getElem_toArray, List.getElem_cons_zero, List.getElem_cons_succ]
    go_wp2_with (go_at_call 58; refine (unless_any _ _ _).mono ?_)
    rintro e w8 ⟨v, rfl, hs, hb⟩
    obtain ⟨f8, k8, rfl, hs2⟩ := id hs
    clear hs2
    have HS1 := Lib.hid (HS1.out.later hb)
    have HS3 := Lib.hid (HS3.out.later hb)
    have HS4 := Lib.hid (HS4.out.later hb)
    have HS5 := Lib.hid (HS5.out.later hb)
    have HS6 := Lib.hid (HS6.out.later hb)
    have HS7 := Lib.hid (HS7.out.later hb)
    have HS8 := Lib.hid hs
    have HB8 := Lib.hid (HB7.out.trans (hb.mono HB7.out.size))
    clear hs hb
    go_wp2_with fail
    refine ⟨⟨⟨_, HB8.out⟩, rfl⟩, ?_⟩
    refine mix_one rfl ?_
    simp only [List.getElem_toArray, List.getElem_cons_zero, List.getElem_cons_succ]
    go_wp2_with (go_at_call 58; refine (unless_any _ _ _).mono ?_)
    rintro e w9 ⟨v, rfl, hs, hb⟩
    obtain ⟨f9, k9, rfl, hs2⟩ := id hs
    clear hs2
    have HS1 := Lib.hid (HS1.out.later hb)
    have HS3 := Lib.hid (HS3.out.later hb)
    have HS4 := Lib.hid (HS4.out.later hb)
    have HS5 := Lib.hid (HS5.out.later hb)
    have HS6 := Lib.hid (HS6.out.later hb)
    have HS7 := Lib.hid (HS7.out.later hb)
    have HS8 := Lib.hid (HS8.out.later hb)
    have HS9 := Lib.hid hs
    have HB9 := Lib.hid (HB8.out.trans (hb.mono HB8.out.size))
    clear hs hb
    go_wp2_with fail
    refine ⟨⟨⟨_, HB9.out⟩, rfl⟩, ?_⟩
    refine mix_one rfl ?_
    simp only [List.getElem_toArray, List.getElem_cons_zero, List.getElem_cons_succ]
    have hal : Below w9.heap.size w9 (w9.alloc (.cells #[.func (.func f1) #[] k1, .func (.func f3) #[] k3, .func (.func f4) #[] k4, .func (.func f5) #[] k5, .func (.func f6) #[] k6, .func (.func f7) #[] k7, .func (.func f8) #[] k8, .func (.func f9) #[] k9] 90)) := (Below.refl _ _).alloc (Nat.le_refl _) _
    have hcs := (MapKept.heap_alloc w9 (.cells #[.func (.func f1) #[] k1, .func (.func f3) #[] k3, .func (.func f4) #[] k4, .func (.func f5) #[] k5, .func (.func f6) #[] k6, .func (.func f7) #[] k7, .func (.func f8) #[] k8, .func (.func f9) #[] k9] 90)).1
    have hsz : w9.heap.size < (w9.alloc (.cells #[.func (.func f1) #[] k1, .func (.func f3) #[] k3, .func (.func f4) #[] k4, .func (.func f5) #[] k5, .func (.func f6) #[] k6, .func (.func f7) #[] k7, .func (.func f8) #[] k8, .func (.func f9) #[] k9] 90)).heap.size := by simp
    obtain ⟨w10, hw10⟩ : ∃ m, w9.alloc (.cells #[.func (.func f1) #[] k1, .func (.func f3) #[] k3, .func (.func f4) #[] k4, .func (.func f5) #[] k5, .func (.func f6) #[] k6, .func (.func f7) #[] k7, .func (.func f8) #[] k8, .func (.func f9) #[] k9] 90) = m := ⟨_, rfl⟩
    rw [hw10] at hal hcs hsz
    have HS1 := Lib.hid (HS1.out.later hal)
    have HS3 := Lib.hid (HS3.out.later hal)
    have HS4 := Lib.hid (HS4.out.later hal)
    have HS5 := Lib.hid (HS5.out.later hal)
    have HS6 := Lib.hid (HS6.out.later hal)
    have HS7 := Lib.hid (HS7.out.later hal)
    have HS8 := Lib.hid (HS8.out.later hal)
    have HS9 := Lib.hid (HS9.out.later hal)
    have HB10 := Lib.hid (HB9.out.trans (hal.mono HB9.out.size))
    have HCS := Lib.hid hcs
    have HSZ := Lib.hid hsz
    clear hal hcs hsz
    go_wp2_with fail
    first | rw [hw10] | skip
    clear hw10
    refine ⟨⟨⟨_, HB10.out⟩, rfl⟩, ?_⟩
    refine mix_one rfl ?_
    simp only [List.getElem_toArray, List.getElem_cons_zero, List.getElem_cons_succ]
    have hfa := first_any [unl false 1, unl nb 20, ce, unl z 1, unl zc 1, unl true 1, unl zb 1, unl (!MN) 21] w9.heap.size 0 8 [.func (.func f1) #[] k1, .func (.func f3) #[] k3, .func (.func f4) #[] k4, .func (.func f5) #[] k5, .func (.func f6) #[] k6, .func (.func f7) #[] k7, .func (.func f8) #[] k8, .func (.func f9) #[] k9] w10 rfl (by simp)
      (fun i v hv => by rw [Lib.cell_of_heap HCS.out, Nat.zero_add]; simpa using hv) HSZ.out
      (fun i v e hv he => by
        match i, hv, he with
        | 0, hv, he => simp at hv he; subst hv; subst he; exact HS1.out
        | 1, hv, he => simp at hv he; subst hv; subst he; exact HS3.out
        | 2, hv, he => simp at hv he; subst hv; subst he; exact HS4.out
        | 3, hv, he => simp at hv he; subst hv; subst he; exact HS5.out
        | 4, hv, he => simp at hv he; subst hv; subst he; exact HS6.out
        | 5, hv, he => simp at hv he; subst hv; subst he; exact HS7.out
        | 6, hv, he => simp at hv he; subst hv; subst he; exact HS8.out
        | 7, hv, he => simp at hv he; subst hv; subst he; exact HS9.out
        | j + 8, hv, he => simp at hv)
    have HFA := Lib.hid hfa
    clear hfa
    go_wp2_with (go_at_call 57; refine HFA.out.mono ?_)
    rintro e w11 ⟨rfl, hb⟩
    have HB11 := Lib.hid (HB10.out.trans (hb.mono HB10.out.size))
    clear hb HFA
    go_wp2_with fail
    refine ⟨⟨⟨_, HB11.out⟩, rfl⟩, ?_⟩
    refine mix_calm ⟨_, ⟨⟨_, Below.refl _ _⟩, rfl⟩⟩ _ [61] [_] _ rfl rfl ?_
    simp only [List.getElem_toArray, List.getElem_cons_zero, List.getElem_cons_succ]
    repeat (first
      | go_big_quiet_skip
      | (go_big_quiet_want; go_big_quiet_op; go_big_quiet_on))
    refine wpQuiet_nil ?_
    refine mix_nil ?_
    go_wp2_with fail
    go_ret
    exact ⟨by rw [hfin]; rfl, HB.out.trans (HB11.out.mono HB.out.size)⟩

end Go.Proofs.YteldkcpkamgfpaaDoor
