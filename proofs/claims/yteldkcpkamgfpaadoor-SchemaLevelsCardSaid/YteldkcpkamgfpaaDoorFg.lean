/- SchemaLevels' walk: for every declaration, levels and number the law's function returns true; where the table of shapes lies as it is laid. -/
import Derived.Test.YteldkcpkamgfpaaDoorFc
namespace Go.Proofs.YteldkcpkamgfpaaDoor
set_option linter.unusedSimpArgs false
set_option linter.unusedVariables false
open Go.RowKit

theorem u8_natL {kk : Int} (hkk : (Lit.int .u8 kk).wf = true) : ∃ cu : Nat, kk = cu ∧ cu < 256 := by
  have h0 : IntKind.u8.min ≤ kk ∧ kk ≤ IntKind.u8.max := by simpa [Lit.wf] using hkk
  have h : 0 ≤ kk ∧ kk ≤ 255 := h0
  obtain ⟨n, hn⟩ := Int.eq_ofNat_of_zero_le h.1
  exact ⟨n, hn, by omega⟩
theorem Tryd.infoIntsL : (Tryd.prog.info? 45).map (fun i => (i.zero, i.size, i.bytes)) = some (some (.slice none 0 0), 1, 24) := by kernel_rfl
theorem Tryd.infoIntL : (Tryd.prog.info? 3).map (fun i => (i.zero, i.size, i.bytes)) = some (some (.int .i64 0), 1, 8) := by kernel_rfl
/-- the rows of noughts that were made so far -/
def LevI (L : List (List Int)) (yn : Nat) (Wu : World) (i : Nat) (x : Value) (wr : World) : Prop :=
  ∃ vs, wr.ownsRow yn 45 1 x i vs ∧ vs.length = i ∧ (∀ g, x.ownBlock = some g → g = yn ∨ Wu.heap.size ≤ g) ∧ Chg (fun z => z = yn ∨ Wu.heap.size ≤ z) Wu wr ∧
    ∀ k, k < i → ∃ g, vs[k]? = some (.slice (some ⟨g, 0, none⟩) (L.getD k []).length (L.getD k []).length) ∧ Blk wr g 3 (List.replicate (L.getD k []).length (Value.int .i64 0)).toArray ∧ x.ownBlock ≠ some g ∧ Wu.heap.size ≤ g
theorem lev_read {L : List (List Int)} {yn : Nat} {Wu wr : World} {x : Value} (h : LevI L yn Wu L.length x wr) (hs : ∀ l, l ∈ L → l.length ≤ 1000) : ReadII wr x (zeros L) := by
  obtain ⟨vs, h1, h2, _, _, h5⟩ := h
  have hl : (zeros L).length = L.length := by simp [zeros]
  refine ⟨vs, by rw [hl, h2], by rw [hl]; exact RowAt.of_own h1, fun i hi u hu => ?_⟩
  rw [hl] at hi
  obtain ⟨g, hg, hb, _⟩ := h5 i hi
  have e : L.getD i [] = L[i] := by rw [List.getD_eq_getElem?_getD, List.getElem?_eq_getElem hi]; rfl
  rw [e] at hg hb
  rw [hg] at hu
  obtain rfl : _ = u := Option.some.inj hu
  have hz : (zeros L)[i]'(by rw [hl]; exact hi) = List.replicate (L[i]).length 0 := by simp [zeros]
  rw [hz]
  have := hs _ (List.getElem_mem hi)
  have hr := RowAt.of_blk (size := 1) (n := (L[i]).length) hb (by simp) (by unfold maxLen; omega)
  unfold ReadI
  rw [List.length_replicate, List.map_replicate]
  exact hr

set_option maxRecDepth 100000 in
set_option maxHeartbeats 20000000 in
theorem slevels_walk (W : World) (d : Dc) (vt vb vc : Value) (hd : DeclV W d vt vb vc) (hsd : SmallD d) (L : List (List Int)) (vl : Value) (hl : ReadII W vl L) (n0 : Int) (hn0 : (Lit.int .u8 n0).wf = true) (hS : ShapesAt W) :
    Calls Tryd.prog 7 #[declV d vt vb vc, vl, .int .u8 n0] W fun e W' => e = .returned (.bool true) ∧ Below W.heap.size W W' := by
  obtain ⟨i0, hi, hz0, hz1, hz2⟩ := info_parts Tryd.infoIntsL
  obtain ⟨i1, hi', hz0', hz1', hz2'⟩ := info_parts Tryd.infoIntL
  obtain ⟨nn, rfl, hnn⟩ := u8_natL hn0
  have hm : ∃ m : Int, (nn : Int) % 9 = m ∧ 0 ≤ m ∧ m ≤ 8 := ⟨_, rfl, by omega, by omega⟩
  obtain ⟨m, hm, hm0, hm8⟩ := hm
  have HSH : Hid (∀ w', Below W.heap.size W w' → Calls Tryd.prog 9 #[] w' (RetB (.bool true) w')) := Lib.hid (fun w' hb => shown17_any w' (hS.below hb))
  have HGR : Hid (∀ w', Below W.heap.size W w' → Calls Tryd.prog 15 #[declV d vt vb vc] w' (GreatPost d w')) := Lib.hid (fun w' hb => great_any d vt vb vc w' (hd.below hb) hsd)
  have HD := Lib.hid hd
  have HSD := Lib.hid hsd
  have HS := Lib.hid hS
  have HLV := Lib.hid hl
  obtain ⟨a1, c1, rfl⟩ := ReadN.len_slice hd.ty
  obtain ⟨a2, c2, rfl⟩ := ReadN.len_slice hd.bd
  obtain ⟨a3, n3, rfl⟩ := hd.cons.form
  obtain ⟨a4, n4, rfl⟩ := hl.form
  have hm3 : d.Cons.length ≤ 9223372036854775807 := by have := hd.cons.shape.1; unfold maxLen at this; omega
  have hmL : L.length ≤ 9223372036854775807 := by have := hl.shape.1; unfold maxLen at this; omega
  unfold declV at HGR ⊢
  clear hd hsd hS hl hn0
  obtain ⟨y0, hy0⟩ : ∃ y, W.heap.size = y := ⟨_, rfl⟩
  obtain ⟨W1, hW1⟩ : ∃ m, W.alloc (.cells #[.int .i64 d.Kind, .int .i64 d.Level, .string d.Name, .slice a1 d.Ty.length c1, .slice a2 d.Bd.length c2, .slice a3 d.Cons.length n3] 36) = m := ⟨_, rfl⟩
  have b0 : Blk W1 y0 36 #[.int .i64 d.Kind, .int .i64 d.Level, .string d.Name, .slice a1 d.Ty.length c1, .slice a2 d.Bd.length c2, .slice a3 d.Cons.length n3] := by rw [← hW1, ← hy0]; exact Blk.new _ _ _
  have hb1 : Below W.heap.size W W1 := by rw [← hW1]; exact (Below.refl _ _).alloc (Nat.le_refl _) _
  have k0 := b0.cell 0
  have k1 := b0.cell 1
  have k2 := b0.cell 2
  have k3 := b0.cell 3
  have k4 := b0.cell 4
  have k5 := b0.cell 5
  simp only [List.getElem?_toArray, List.getElem?_cons_zero, List.getElem?_cons_succ] at k0 k1 k2 k3 k4 k5
  have HB1 := Lib.hid hb1
  have hlt0 := b0.lt
  have HK : Hid (∀ w', Below W1.heap.size W1 w' → ∀ j v, W1.cell? ⟨y0, j, none⟩ = some v → w'.cell? ⟨y0, j, none⟩ = some v) := Lib.hid (fun w' hb j v hv => (hb.cell (p := ⟨y0, j, none⟩) hlt0).trans hv)
  have C0 := Lib.hid (HGR.out W1 hb1)
  have HL0 := Lib.hid hlt0
  clear b0 hb1 HGR hlt0
  have K0 := Lib.hid k0; have K1 := Lib.hid k1; have K2 := Lib.hid k2; have K3 := Lib.hid k3; have K4 := Lib.hid k4; have K5 := Lib.hid k5
  go_enter Tryd.func7, Tryd.ntmps7
  go_wp2_with (go_at_call 15; refine C0.out.mono ?_)
  rintro e w1 ⟨⟨g1, rfl, hg1⟩, hb1⟩
  have X1 := Lib.hid hb1
  have HBX := Lib.hid (HB1.out.trans (hb1.mono HB1.out.size))
  clear C0 hW1 k0 k1 k2 k3 k4 k5
  cases g1
  rotate_left
  · go_wp2_with fail
    refine (HSH.out _ HBX.out).mono ?_
    rintro e w2 ⟨rfl, hb2⟩
    have HB3 := Lib.hid (HBX.out.trans (hb2.mono HBX.out.size))
    clear hb2
    go_wp2_with fail
    go_ret
    exact ⟨rfl, HB3.out⟩
  have hgg := hg1 rfl
  have HGG := Lib.hid hgg
  clear hg1 hgg hb1
  by_cases hL : L.length > 10
  · have e2 : decide ((L.length : Int) > 10) = true := by rw [decide_eq_true_eq]; omega
    go_wp2_with fail
    refine (HSH.out _ HBX.out).mono ?_
    rintro e w2 ⟨rfl, hb2⟩
    have HB3 := Lib.hid (HBX.out.trans (hb2.mono HBX.out.size))
    clear hb2
    go_wp2_with fail
    go_ret
    exact ⟨rfl, HB3.out⟩
  have e2 : decide ((L.length : Int) > 10) = false := by rw [decide_eq_false_iff_not]; omega
  go_wp2_with fail
  refine (HSH.out _ HBX.out).mono ?_
  rintro e w2 ⟨rfl, hb2⟩
  have hx2 := X1.out.trans (hb2.mono X1.out.size)
  have X2 := Lib.hid hx2
  have BX2 := Lib.hid (HB1.out.trans (hx2.mono HB1.out.size))
  have f0 := HK.out _ hx2 _ _ K0.out; have f1 := HK.out _ hx2 _ _ K1.out; have f2 := HK.out _ hx2 _ _ K2.out; have f3 := HK.out _ hx2 _ _ K3.out; have f4 := HK.out _ hx2 _ _ K4.out; have f5 := HK.out _ hx2 _ _ K5.out
  clear hb2 hx2 HBX X1
  obtain ⟨yn, hyn⟩ : ∃ y, w2.heap.size = y := ⟨_, rfl⟩
  obtain ⟨X3, hX3⟩ : ∃ x, w2.alloc (.cells #[] 45) = x := ⟨_, rfl⟩
  have h32 : Below w2.heap.size w2 X3 := by rw [← hX3]; exact (Below.refl _ _).alloc (Nat.le_refl _) _
  have hs3 : X3.heap.size = yn + 1 := by rw [← hX3, ← hyn]; simp
  have hy0n : y0 < yn := by have := X2.out.size; have := HL0.out; omega
  have g0 := (h32.cell (p := ⟨y0, 0, none⟩) (by show y0 < _; omega)).trans f0
  have g1 := (h32.cell (p := ⟨y0, 1, none⟩) (by show y0 < _; omega)).trans f1
  have g2 := (h32.cell (p := ⟨y0, 2, none⟩) (by show y0 < _; omega)).trans f2
  have g3 := (h32.cell (p := ⟨y0, 3, none⟩) (by show y0 < _; omega)).trans f3
  have g4 := (h32.cell (p := ⟨y0, 4, none⟩) (by show y0 < _; omega)).trans f4
  have g5 := (h32.cell (p := ⟨y0, 5, none⟩) (by show y0 < _; omega)).trans f5
  obtain ⟨X4, hX4⟩ : ∃ x, X3.alloc (.cells #[.int .i64 d.Kind, .int .i64 d.Level, .string d.Name, .slice a1 d.Ty.length c1, .slice a2 d.Bd.length c2, .slice a3 d.Cons.length n3] 36) = x := ⟨_, rfl⟩
  have h43 : Below X3.heap.size X3 X4 := by rw [← hX4]; exact (Below.refl _ _).alloc (Nat.le_refl _) _
  have b4 : Blk X4 (yn + 1) 36 #[.int .i64 d.Kind, .int .i64 d.Level, .string d.Name, .slice a1 d.Ty.length c1, .slice a2 d.Bd.length c2, .slice a3 d.Cons.length n3] := by rw [← hX4, ← hs3]; exact Blk.new _ _ _
  have l1 := (h43.cell (p := ⟨y0, 1, none⟩) (by show y0 < _; omega)).trans g1
  have l2 := b4.cell 1
  have l3 := b4.frozen 1
  go_wp2_with fail
  case inl h =>
    obtain ⟨U, hU⟩ : ∃ U, wrap64 (d.Level + m) = U := ⟨_, rfl⟩
    have HU : Hid (1 ≤ d.Level → d.Level ≤ 9 → U = min 9 (d.Level + m)) := Lib.hid (fun h1 h2 => by rw [← hU]; unfold wrap64 at h ⊢; omega)
    rw [hU]
    clear hU h
    obtain ⟨X5, hX5⟩ : ∃ x, X4.setCell ⟨yn + 1, 1, none⟩ (.int .i64 U) = x := ⟨_, rfl⟩
    have h54 : Chg (fun z => z = yn + 1) X4 X5 := by rw [← hX5]; exact Chg.setCell _ _ _ rfl
    have b5 : Blk X5 (yn + 1) 36 #[.int .i64 d.Kind, .int .i64 U, .string d.Name, .slice a1 d.Ty.length c1, .slice a2 d.Bd.length c2, .slice a3 d.Cons.length n3] := by
      rw [← hX5]
      exact b4.set_ 1 (.int .i64 U)
    have hs4 : X4.heap.size = yn + 2 := by rw [← hX4]; simp [hs3]
    have hs5 : X5.heap.size = yn + 2 := by rw [← hX5]; simp [hs4]
    have o3 : X3.ownsRow yn 45 1 (.slice (some ⟨yn, 0, none⟩) 0 0) 0 [] := by rw [← hX3, ← hyn]; exact World.ownsRow_lit (size := 1) w2 #[] 0 (Nat.le_refl _) (by unfold maxLen; omega) rfl
    have o4 : X4.ownsRow yn 45 1 (.slice (some ⟨yn, 0, none⟩) 0 0) 0 [] := by rw [← hX4]; exact o3.alloc _
    have o5 : X5.ownsRow yn 45 1 (.slice (some ⟨yn, 0, none⟩) 0 0) 0 [] := ownsRow_kept o4 (h54.kept (K := fun z => z ≠ yn + 1) (fun _ h => h)) (fun g hg => by simp [Value.ownBlock] at hg; omega)
    have h42 : Below w2.heap.size w2 X4 := h32.trans (h43.mono h32.size)
    have h52 : Below w2.heap.size w2 X5 := h42.trans (h54.to_below (fun z h => by omega) h42.size)
    have hW5 := BX2.out.trans (h52.mono BX2.out.size)
    have hWn : W.heap.size ≤ yn := by rw [← hyn]; exact BX2.out.size
    have lev0 : LevI L yn X5 0 (.slice (some ⟨yn, 0, none⟩) 0 0) X5 := ⟨[], o5, rfl, (fun g hg => by simp [Value.ownBlock] at hg; exact .inl hg.symm), Chg.refl _ _, (fun k hk => by omega)⟩
    have hky : ∀ j v, W1.cell? ⟨y0, j, none⟩ = some v → X5.cell? ⟨y0, j, none⟩ = some v := fun j v hv => (h52.cell (p := ⟨y0, j, none⟩) (by show y0 < _; omega)).trans (HK.out _ X2.out _ _ hv)
    have HKY := Lib.hid hky
    have B5 := Lib.hid b5
    have HW5 := Lib.hid hW5
    have HS5 := Lib.hid hs5
    have LEV0 := Lib.hid lev0
    rw [hX5]
    clear hX5 h54 b5 hs4 hs5 o3 o4 o5 h42 h52 hW5 lev0 hky h32 h43 b4 l1 l2 l3 f0 f1 f2 f3 f4 f5 g0 g1 g2 g3 g4 g5 hX3 hX4 hs3 hyn hy0 hm
    have hmk := fun q (hq : q ≤ 10) w => run_make_zeros (P := Tryd.prog) 45 3 i1 Tryd.underlying45 hi' hz0' hz1' hz2' q (by omega) w
    have HMK := Lib.hid hmk
    clear hmk
    go_loopw [7, 9] (fun x iv wr => ∃ i : Nat, i ≤ L.length ∧ iv = .int .i64 (i : Int) ∧ LevI L yn X5 i x wr ∧ ∀ l ∈ L.take i, l.length ≤ 10) (fun _ iv _ => L.length - (intOf iv).toNat)
    case atStart => exact ⟨0, Nat.zero_le _, rfl, LEV0.out, by simp⟩
    case round =>
      rename World => wr
      obtain ⟨i, hi9, rfl, hlev, hten⟩ := hrel
      have HLEV := Lib.hid hlev
      have HTEN := Lib.hid hten
      clear LEV0 hten
      obtain ⟨vs, hrow, hvl, hblk, hchg, hel⟩ := hlev
      have hWr : Below W.heap.size W wr := HW5.out.trans (hchg.to_below (fun z h => by have := HS5.out; omega) HW5.out.size)
      have HWR := Lib.hid hWr
      by_cases hlt : i < L.length
      · have hlv := HLV.out.below hWr
        obtain ⟨_, ⟨h0, _⟩ | ⟨b, off, cap, he, hbw⟩⟩ := hlv.shape
        · subst h0; simp at hlt
        obtain ⟨rfl, rfl⟩ : a4 = some ⟨b, off, none⟩ ∧ n4 = cap := by simpa using he
        obtain ⟨a6, n6, f1, r1⟩ := hlv.at hlt
        have hqm : (L[i]).length ≤ 9223372036854775807 := by have := (ReadI.cases r1).1; unfold maxLen at this; omega
        have hge : L.getD i [] = L[i] := by rw [List.getD_eq_getElem?_getD, List.getElem?_eq_getElem hlt]; rfl
        have hnx : (L[i]).length ≤ 10 → ∀ l ∈ L.take (i + 1), l.length ≤ 10 := fun h l hl => by
          rw [List.take_succ_eq_append_getElem hlt] at hl
          rcases List.mem_append.1 hl with h' | h'
          · exact HTEN.out l h'
          · simp at h'; rw [h']; exact h
        obtain ⟨ql, hql⟩ : ∃ x, (L[i]).length = x := ⟨_, rfl⟩
        rw [hql] at f1 hqm hnx
        have HGE : Hid ((L.getD i []).length = ql) := Lib.hid (by rw [hge, hql])
        clear r1 he hql hlv hge
        by_cases hq : ql > 10
        · have e3 : decide ((ql : Int) > 10) = true := by rw [decide_eq_true_eq]; omega
          clear hrow hvl hblk hchg hel hWr hnx
          go_wp2_with fail
          refine (HSH.out _ HWR.out).mono ?_
          rintro e w3 ⟨rfl, hb2⟩
          have HB4 := Lib.hid (HWR.out.trans (hb2.mono HWR.out.size))
          clear hb2
          go_wp2_with fail
          go_ret
          exact ⟨rfl, HB4.out⟩
        have e3 : decide ((ql : Int) > 10) = false := by rw [decide_eq_false_iff_not]; omega
        have HNX := Lib.hid (hnx (by omega))
        obtain ⟨ao, co, rfl, _⟩ := (RowAt.of_own hrow).form
        have HROW := Lib.hid hrow
        have HBLK := Lib.hid hblk
        have HCHG := Lib.hid hchg
        have HEL := Lib.hid hel
        have HVL := Lib.hid hvl
        have hmq := HMK.out ql (by omega)
        have hbase : yn ≤ wr.heap.size := by have := hchg.size; have := HS5.out; omega
        obtain ⟨wa, hwa⟩ : ∃ wa, wr.alloc (.cells (Array.replicate ql (Value.int .i64 0)) 3) = wa := ⟨_, rfl⟩
        have HWA := Lib.hid hwa
        have hsa : wa.heap.size = wr.heap.size + 1 := by rw [← hwa]; simp
        have HSA := Lib.hid hsa
        have HROWA : Hid (wa.ownsRow yn 45 1 (.slice ao i co) i vs) := Lib.hid (by rw [← hwa]; exact hrow.alloc _)
        clear hrow hblk hchg hel hWr hnx hsa hvl
        go_wp2_with (at_builtin; go_must (refine wpList_append_row rfl (.tmp 46) (.tmp 53) 44 rfl yn 45 i0 (.slice none 0 0) 1 24 Tryd.underlying44 hi hz0 hz1 hz2 rfl (by decide) (.slice ao i co) i vs rfl (HROWA.out.alloc _) (.slice (some ⟨wa.heap.size, 0, none⟩) 1 1) 1 [.slice (some ⟨wr.heap.size, 0, none⟩) ql ql] rfl (RowAt.lit wa _ #[.slice (some ⟨wr.heap.size, 0, none⟩) ql ql] 1 rfl (by unfold maxLen; omega)) (by intro u hu; simp at hu; subst hu; rfl) (by omega) (by unfold maxLen; omega) (by have := HSA.out; simp; omega) ?_); intro v5 w5 hown5 hg5 hat5)
        have hnew : LevI L yn X5 (i + 1) v5 w5 := by
          have hba : Blk wa wr.heap.size 3 (Array.replicate ql (Value.int .i64 0)) := by rw [← HWA.out]; exact Blk.new _ _ _
          have hob : ∀ g, (Value.slice ao i co).ownBlock = some g → g < wr.heap.size := fun g hg => (HROW.out.lt g hg).2
          have hsw := HSA.out
          have hXs := HCHG.out.size
          have hc2 : Chg (fun z => z = yn ∨ X5.heap.size ≤ z) wr w5 := by
            have h1 : Chg (fun z => z = yn ∨ X5.heap.size ≤ z) wr wa := by rw [← HWA.out]; exact Chg.alloc _ _
            exact (h1.trans (Chg.alloc _ _)).trans (Chg.grown hg5 (fun g hg => HBLK.out g hg))
          refine ⟨vs ++ [.slice (some ⟨wr.heap.size, 0, none⟩) ql ql], hown5, by simp [HVL.out], fun g hg => ?_, HCHG.out.trans hc2, fun k hk => ?_⟩
          · rcases hat5 with h | h
            · exact HBLK.out g (h ▸ hg)
            · rw [h] at hg
              simp at hg
              omega
          · by_cases hki : k < i
            · obtain ⟨g, e1, e2, e3, e4⟩ := HEL.out k hki
              have hgl := e2.lt
              have e2a : Blk wa g 3 (List.replicate (L.getD k []).length (Value.int .i64 0)).toArray := by rw [← HWA.out]; exact e2.alloc _
              refine ⟨g, by rw [List.getElem?_append_left (by rw [HVL.out]; exact hki)]; exact e1, (e2a.alloc _).grown hg5 (fun h => e3 h.symm), ?_, e4⟩
              rcases hat5 with h | h
              · rw [h]; exact e3
              · rw [h]
                simp
                omega
            · obtain rfl : k = i := by omega
              refine ⟨wr.heap.size, ?_, ?_, ?_, hXs⟩
              · rw [List.getElem?_append_right (by rw [HVL.out]; exact Nat.le_refl _), HVL.out, Nat.sub_self, HGE.out]
                rfl
              · rw [HGE.out]
                have := (hba.alloc (.cells #[.slice (some ⟨wr.heap.size, 0, none⟩) ql ql] 45)).grown hg5 (fun h => by have := hob _ h.symm; omega)
                simpa using this
              · rcases hat5 with h | h
                · rw [h]
                  exact fun h => by have := hob _ h; omega
                · rw [h]
                  simp
                  omega
        have HNEW := Lib.hid hnew
        clear hown5 hg5 hat5 hnew hmq hwa
        go_wp2_with fail
        go_roundw
        case rel => exact ⟨i + 1, by omega, by go_num, HNEW.out, HNX.out⟩
        case measure => simp [intOf]; omega
      · obtain rfl : i = L.length := by omega
        have hten2 : ∀ l, l ∈ L → l.length ≤ 1000 := fun l hl => by have := HTEN.out l (by rw [List.take_length]; exact hl); omega
        have hzr := lev_read HLEV.out hten2
        obtain ⟨ao, co, rfl, _⟩ := (RowAt.of_own hrow).form
        have hlx : y0 < X5.heap.size := by have := HS5.out; omega
        have hcy : ∀ j v, W1.cell? ⟨y0, j, none⟩ = some v → wr.cell? ⟨y0, j, none⟩ = some v := fun j v hv => hchg.cell (by have := HS5.out; show ¬ (y0 = yn ∨ X5.heap.size ≤ y0); omega) (HKY.out j v hv)
        have bu : Blk wr (yn + 1) 36 _ := B5.out.stab (by have := HS5.out; show ¬ (yn + 1 = yn ∨ X5.heap.size ≤ yn + 1); omega) hchg
        have hbo : d.Cons.length ≤ 20 ∧ d.Cons.flatten.length ≤ 1000 := ⟨by have := HGG.out.1; omega, by have := flat_small HGG.out; omega⟩
        have hA := asks wr d _ _ _ (HS.out.below hWr) (HD.out.below hWr) HSD.out hbo
        have hAU := asks wr (upD d m) (.slice a1 d.Ty.length c1) (.slice a2 d.Bd.length c2) (.slice a3 d.Cons.length n3) (HS.out.below hWr) ⟨(HD.out.below hWr).ty, (HD.out.below hWr).bd, (HD.out.below hWr).cons⟩ HSD.out hbo
        have hlw := HLV.out.below hWr
        have KF := Lib.hid (hA.fit L _ hlw)
        have KRF := Lib.hid (hA.rfit L _ hlw)
        have KZ := Lib.hid (hA.fit (zeros L) _ hzr)
        have KC := Lib.hid hA.chk
        have KT := Lib.hid hA.their
        have KU := Lib.hid (hAU.fit L _ hlw)
        have KUC := Lib.hid hAU.chk
        have n0 := hcy 0 _ K0.out; have n1 := hcy 1 _ K1.out; have n2 := hcy 2 _ K2.out; have n3' := hcy 3 _ K3.out; have n4' := hcy 4 _ K4.out; have n5 := hcy 5 _ K5.out
        have N0 := Lib.hid n0; have N1 := Lib.hid n1; have N2 := Lib.hid n2; have N3 := Lib.hid n3'; have N4 := Lib.hid n4'; have N5 := Lib.hid n5
        have u0 := bu.cell 0; have u1 := bu.cell 1; have u2 := bu.cell 2; have u3 := bu.cell 3; have u4 := bu.cell 4; have u5 := bu.cell 5
        simp only [List.getElem?_toArray, List.getElem?_cons_zero, List.getElem?_cons_succ] at u0 u1 u2 u3 u4 u5
        have U0 := Lib.hid u0; have U1 := Lib.hid u1; have U2 := Lib.hid u2; have U3 := Lib.hid u3; have U4 := Lib.hid u4; have U5 := Lib.hid u5
        have hlu := bu.lt
        have HRD : Hid (∀ w', Below wr.heap.size wr w' → ∀ q j v, q ≤ yn + 1 → wr.cell? ⟨q, j, none⟩ = some v → w'.cell? ⟨q, j, none⟩ = some v) := Lib.hid (fun w' hb q j v hq hv => (hb.cell (p := ⟨q, j, none⟩) (by show q < _; omega)).trans hv)
        obtain ⟨fv, hfv⟩ : ∃ x, fitE nmB freeN d L = x := ⟨_, rfl⟩
        obtain ⟨sv, hsv⟩ : ∃ x, schE nmB freeN d = x := ⟨_, rfl⟩
        have HFV := Lib.hid hfv
        have HSV := Lib.hid hsv
        rw [hfv] at KF KRF
        rw [hsv] at KC
        have q1 : (fv != fv) = false := by simp
        clear hrow hvl hblk hchg hel hWr hten2 hzr hlx hcy bu hbo hA hAU hlw n1 u0 u1 u2 u3 u4 u5 hlu hfv hsv hlt HLEV HTEN HSH
        have n1 := N1.out
        go_wp2_with fail
        refine (KF.out _ (Below.refl _ _)).mono ?_
        rintro e x1 ⟨rfl, hx1⟩
        have Z1 := Lib.hid hx1
        clear n0 n1 n2 n3' n4' n5
        have n0 := HRD.out _ hx1 _ _ _ (by omega) N0.out; have n1 := HRD.out _ hx1 _ _ _ (by omega) N1.out; have n2 := HRD.out _ hx1 _ _ _ (by omega) N2.out; have n3' := HRD.out _ hx1 _ _ _ (by omega) N3.out; have n4' := HRD.out _ hx1 _ _ _ (by omega) N4.out; have n5 := HRD.out _ hx1 _ _ _ (by omega) N5.out
        clear hx1
        go_wp2_with fail
        refine (KT.out _).mono ?_
        rintro e x2 ⟨rfl, hx2'⟩
        have Z2 := Lib.hid (Z1.out.trans (hx2'.mono Z1.out.size))
        clear hx2' n0 n1 n2 n3' n4' n5
        go_wp2_with fail
        refine (KRF.out _ Z2.out).mono ?_
        rintro e x3 ⟨rfl, hx3'⟩
        have hx3 := Z2.out.trans (hx3'.mono Z2.out.size)
        have Z3 := Lib.hid hx3
        have n0 := HRD.out _ hx3 _ _ _ (by omega) N0.out; have n1 := HRD.out _ hx3 _ _ _ (by omega) N1.out; have n2 := HRD.out _ hx3 _ _ _ (by omega) N2.out; have n3' := HRD.out _ hx3 _ _ _ (by omega) N3.out; have n4' := HRD.out _ hx3 _ _ _ (by omega) N4.out; have n5 := HRD.out _ hx3 _ _ _ (by omega) N5.out
        clear hx3 hx3'
        by_cases hf0 : fv = 0
        rotate_left
        · have hb : (fv != 0) = true := by simpa using hf0
          go_wp2_with fail
          refine (KC.out _ Z3.out).mono ?_
          rintro e x4 ⟨rfl, hx4'⟩
          have hx4 := Z3.out.trans (hx4'.mono Z3.out.size)
          have Z4 := Lib.hid hx4
          clear n0 n1 n2 n3' n4' n5
          have n0 := HRD.out _ hx4 _ _ _ (by omega) N0.out; have n1 := HRD.out _ hx4 _ _ _ (by omega) N1.out; have n2 := HRD.out _ hx4 _ _ _ (by omega) N2.out; have n3' := HRD.out _ hx4 _ _ _ (by omega) N3.out; have n4' := HRD.out _ hx4 _ _ _ (by omega) N4.out; have n5 := HRD.out _ hx4 _ _ _ (by omega) N5.out
          clear hx4 hx4'
          by_cases hs0 : sv = 0
          rotate_left
          · have hb2 : (sv != 0) = true := by simpa using hs0
            go_wp2_with fail
            go_ret
            exact ⟨rfl, HWR.out.trans (Z4.out.mono HWR.out.size)⟩
          subst hs0
          have hcs := fit_cases nmB freeN (lv := L) HSV.out
          rw [HFV.out] at hcs
          have HCS := Lib.hid hcs
          clear hcs
          by_cases hf1 : fv = 1
          · subst hf1
            go_wp2_with fail
            go_ret
            exact ⟨rfl, HWR.out.trans (Z4.out.mono HWR.out.size)⟩
          have hf2 : fv = 2 := by
            rcases HCS.out with h | ⟨_, h | h⟩
            · exact absurd h hf1
            · exact h
            · exact absurd h hf0
          subst hf2
          have hsh : shapeL d L = true := by
            rcases HCS.out with h | ⟨h, _⟩
            · omega
            · exact h
          have hfz := fit_zeros nmB freeN HSV.out hsh
          rw [hfz] at KZ
          clear hfz hsh
          go_wp2_with fail
          refine (KZ.out _ Z4.out).mono ?_
          rintro e x5 ⟨rfl, hx5'⟩
          have Z5 := Lib.hid (Z4.out.trans (hx5'.mono Z4.out.size))
          clear hx5'
          go_wp2_with fail
          go_ret
          exact ⟨rfl, HWR.out.trans (Z5.out.mono HWR.out.size)⟩
        subst hf0
        have hs0 : schE nmB freeN d = 0 := by
          have h := HFV.out
          unfold fitE at h
          by_cases hz : schE nmB freeN d = 0
          · exact hz
          · rw [if_neg hz] at h; exact h
        have hsh : shapeL d L = true := by
          have h := fit_cases nmB freeN (lv := L) hs0
          rw [HFV.out] at h
          rcases h with h | ⟨h, _⟩
          · omega
          · exact h
        have hfz := fit_zeros nmB freeN hs0 hsh
        have hfu := fit_up nmB freeN hm0 HFV.out hs0
        have hsu := sch_up nmB freeN hm0 hs0
        have hlv := ((sch_zero nmB freeN d).1 hs0).2.2.2.1
        unfold lvD at hlv
        simp only [Bool.and_eq_true, decide_eq_true_eq] at hlv
        have hUe : U = min 9 (d.Level + m) := HU.out hlv.1 hlv.2
        have hdv : declV (upD d m) (.slice a1 d.Ty.length c1) (.slice a2 d.Bd.length c2) (.slice a3 d.Cons.length n3) = .agg #[.int .i64 d.Kind, .int .i64 U, .string d.Name, .slice a1 d.Ty.length c1, .slice a2 d.Bd.length c2, .slice a3 d.Cons.length n3] := by rw [hUe]; rfl
        rw [hdv] at KU KUC
        rw [hfz] at KZ
        rw [hfu] at KU
        rw [hsu] at KUC
        clear hs0 hsh hfz hfu hsu hlv hUe hdv
        go_wp2_with fail
        refine (KZ.out _ Z3.out).mono ?_
        rintro e x4 ⟨rfl, hx4'⟩
        have hx4 := Z3.out.trans (hx4'.mono Z3.out.size)
        have Z4 := Lib.hid hx4
        clear n0 n1 n2 n3' n4' n5
        have u0 := HRD.out _ hx4 _ _ _ (by omega) U0.out; have u1 := HRD.out _ hx4 _ _ _ (by omega) U1.out; have u2 := HRD.out _ hx4 _ _ _ (by omega) U2.out; have u3 := HRD.out _ hx4 _ _ _ (by omega) U3.out; have u4 := HRD.out _ hx4 _ _ _ (by omega) U4.out; have u5 := HRD.out _ hx4 _ _ _ (by omega) U5.out
        clear hx4 hx4'
        go_wp2_with fail
        refine (KU.out _ Z4.out).mono ?_
        rintro e x5 ⟨rfl, hx5'⟩
        have hx5 := Z4.out.trans (hx5'.mono Z4.out.size)
        have Z5 := Lib.hid hx5
        clear u0 u1 u2 u3 u4 u5
        have u0 := HRD.out _ hx5 _ _ _ (by omega) U0.out; have u1 := HRD.out _ hx5 _ _ _ (by omega) U1.out; have u2 := HRD.out _ hx5 _ _ _ (by omega) U2.out; have u3 := HRD.out _ hx5 _ _ _ (by omega) U3.out; have u4 := HRD.out _ hx5 _ _ _ (by omega) U4.out; have u5 := HRD.out _ hx5 _ _ _ (by omega) U5.out
        clear hx5 hx5'
        go_wp2_with fail
        refine (KUC.out _ Z5.out).mono ?_
        rintro e x6 ⟨rfl, hx6'⟩
        have Z6 := Lib.hid (Z5.out.trans (hx6'.mono Z5.out.size))
        clear hx6' u0 u1 u2 u3 u4 u5
        go_wp2_with fail
        go_ret
        exact ⟨rfl, HWR.out.trans (Z6.out.mono HWR.out.size)⟩
  case inr h =>
    obtain ⟨U, hU⟩ : ∃ U : Int, 9 = U := ⟨_, rfl⟩
    have HU : Hid (1 ≤ d.Level → d.Level ≤ 9 → U = min 9 (d.Level + m)) := Lib.hid (fun h1 h2 => by rw [← hU]; unfold wrap64 at h; omega)
    rw [hU]
    clear hU h
    obtain ⟨X5, hX5⟩ : ∃ x, X4.setCell ⟨yn + 1, 1, none⟩ (.int .i64 U) = x := ⟨_, rfl⟩
    have h54 : Chg (fun z => z = yn + 1) X4 X5 := by rw [← hX5]; exact Chg.setCell _ _ _ rfl
    have b5 : Blk X5 (yn + 1) 36 #[.int .i64 d.Kind, .int .i64 U, .string d.Name, .slice a1 d.Ty.length c1, .slice a2 d.Bd.length c2, .slice a3 d.Cons.length n3] := by
      rw [← hX5]
      exact b4.set_ 1 (.int .i64 U)
    have hs4 : X4.heap.size = yn + 2 := by rw [← hX4]; simp [hs3]
    have hs5 : X5.heap.size = yn + 2 := by rw [← hX5]; simp [hs4]
    have o3 : X3.ownsRow yn 45 1 (.slice (some ⟨yn, 0, none⟩) 0 0) 0 [] := by rw [← hX3, ← hyn]; exact World.ownsRow_lit (size := 1) w2 #[] 0 (Nat.le_refl _) (by unfold maxLen; omega) rfl
    have o4 : X4.ownsRow yn 45 1 (.slice (some ⟨yn, 0, none⟩) 0 0) 0 [] := by rw [← hX4]; exact o3.alloc _
    have o5 : X5.ownsRow yn 45 1 (.slice (some ⟨yn, 0, none⟩) 0 0) 0 [] := ownsRow_kept o4 (h54.kept (K := fun z => z ≠ yn + 1) (fun _ h => h)) (fun g hg => by simp [Value.ownBlock] at hg; omega)
    have h42 : Below w2.heap.size w2 X4 := h32.trans (h43.mono h32.size)
    have h52 : Below w2.heap.size w2 X5 := h42.trans (h54.to_below (fun z h => by omega) h42.size)
    have hW5 := BX2.out.trans (h52.mono BX2.out.size)
    have hWn : W.heap.size ≤ yn := by rw [← hyn]; exact BX2.out.size
    have lev0 : LevI L yn X5 0 (.slice (some ⟨yn, 0, none⟩) 0 0) X5 := ⟨[], o5, rfl, (fun g hg => by simp [Value.ownBlock] at hg; exact .inl hg.symm), Chg.refl _ _, (fun k hk => by omega)⟩
    have hky : ∀ j v, W1.cell? ⟨y0, j, none⟩ = some v → X5.cell? ⟨y0, j, none⟩ = some v := fun j v hv => (h52.cell (p := ⟨y0, j, none⟩) (by show y0 < _; omega)).trans (HK.out _ X2.out _ _ hv)
    have HKY := Lib.hid hky
    have B5 := Lib.hid b5
    have HW5 := Lib.hid hW5
    have HS5 := Lib.hid hs5
    have LEV0 := Lib.hid lev0
    rw [hX5]
    clear hX5 h54 b5 hs4 hs5 o3 o4 o5 h42 h52 hW5 lev0 hky h32 h43 b4 l1 l2 l3 f0 f1 f2 f3 f4 f5 g0 g1 g2 g3 g4 g5 hX3 hX4 hs3 hyn hy0 hm
    have hmk := fun q (hq : q ≤ 10) w => run_make_zeros (P := Tryd.prog) 45 3 i1 Tryd.underlying45 hi' hz0' hz1' hz2' q (by omega) w
    have HMK := Lib.hid hmk
    clear hmk
    go_loopw [7, 9] (fun x iv wr => ∃ i : Nat, i ≤ L.length ∧ iv = .int .i64 (i : Int) ∧ LevI L yn X5 i x wr ∧ ∀ l ∈ L.take i, l.length ≤ 10) (fun _ iv _ => L.length - (intOf iv).toNat)
    case atStart => exact ⟨0, Nat.zero_le _, rfl, LEV0.out, by simp⟩
    case round =>
      rename World => wr
      obtain ⟨i, hi9, rfl, hlev, hten⟩ := hrel
      have HLEV := Lib.hid hlev
      have HTEN := Lib.hid hten
      clear LEV0 hten
      obtain ⟨vs, hrow, hvl, hblk, hchg, hel⟩ := hlev
      have hWr : Below W.heap.size W wr := HW5.out.trans (hchg.to_below (fun z h => by have := HS5.out; omega) HW5.out.size)
      have HWR := Lib.hid hWr
      by_cases hlt : i < L.length
      · have hlv := HLV.out.below hWr
        obtain ⟨_, ⟨h0, _⟩ | ⟨b, off, cap, he, hbw⟩⟩ := hlv.shape
        · subst h0; simp at hlt
        obtain ⟨rfl, rfl⟩ : a4 = some ⟨b, off, none⟩ ∧ n4 = cap := by simpa using he
        obtain ⟨a6, n6, f1, r1⟩ := hlv.at hlt
        have hqm : (L[i]).length ≤ 9223372036854775807 := by have := (ReadI.cases r1).1; unfold maxLen at this; omega
        have hge : L.getD i [] = L[i] := by rw [List.getD_eq_getElem?_getD, List.getElem?_eq_getElem hlt]; rfl
        have hnx : (L[i]).length ≤ 10 → ∀ l ∈ L.take (i + 1), l.length ≤ 10 := fun h l hl => by
          rw [List.take_succ_eq_append_getElem hlt] at hl
          rcases List.mem_append.1 hl with h' | h'
          · exact HTEN.out l h'
          · simp at h'; rw [h']; exact h
        obtain ⟨ql, hql⟩ : ∃ x, (L[i]).length = x := ⟨_, rfl⟩
        rw [hql] at f1 hqm hnx
        have HGE : Hid ((L.getD i []).length = ql) := Lib.hid (by rw [hge, hql])
        clear r1 he hql hlv hge
        by_cases hq : ql > 10
        · have e3 : decide ((ql : Int) > 10) = true := by rw [decide_eq_true_eq]; omega
          clear hrow hvl hblk hchg hel hWr hnx
          go_wp2_with fail
          refine (HSH.out _ HWR.out).mono ?_
          rintro e w3 ⟨rfl, hb2⟩
          have HB4 := Lib.hid (HWR.out.trans (hb2.mono HWR.out.size))
          clear hb2
          go_wp2_with fail
          go_ret
          exact ⟨rfl, HB4.out⟩
        have e3 : decide ((ql : Int) > 10) = false := by rw [decide_eq_false_iff_not]; omega
        have HNX := Lib.hid (hnx (by omega))
        obtain ⟨ao, co, rfl, _⟩ := (RowAt.of_own hrow).form
        have HROW := Lib.hid hrow
        have HBLK := Lib.hid hblk
        have HCHG := Lib.hid hchg
        have HEL := Lib.hid hel
        have HVL := Lib.hid hvl
        have hmq := HMK.out ql (by omega)
        have hbase : yn ≤ wr.heap.size := by have := hchg.size; have := HS5.out; omega
        obtain ⟨wa, hwa⟩ : ∃ wa, wr.alloc (.cells (Array.replicate ql (Value.int .i64 0)) 3) = wa := ⟨_, rfl⟩
        have HWA := Lib.hid hwa
        have hsa : wa.heap.size = wr.heap.size + 1 := by rw [← hwa]; simp
        have HSA := Lib.hid hsa
        have HROWA : Hid (wa.ownsRow yn 45 1 (.slice ao i co) i vs) := Lib.hid (by rw [← hwa]; exact hrow.alloc _)
        clear hrow hblk hchg hel hWr hnx hsa hvl
        go_wp2_with (at_builtin; go_must (refine wpList_append_row rfl (.tmp 46) (.tmp 53) 44 rfl yn 45 i0 (.slice none 0 0) 1 24 Tryd.underlying44 hi hz0 hz1 hz2 rfl (by decide) (.slice ao i co) i vs rfl (HROWA.out.alloc _) (.slice (some ⟨wa.heap.size, 0, none⟩) 1 1) 1 [.slice (some ⟨wr.heap.size, 0, none⟩) ql ql] rfl (RowAt.lit wa _ #[.slice (some ⟨wr.heap.size, 0, none⟩) ql ql] 1 rfl (by unfold maxLen; omega)) (by intro u hu; simp at hu; subst hu; rfl) (by omega) (by unfold maxLen; omega) (by have := HSA.out; simp; omega) ?_); intro v5 w5 hown5 hg5 hat5)
        have hnew : LevI L yn X5 (i + 1) v5 w5 := by
          have hba : Blk wa wr.heap.size 3 (Array.replicate ql (Value.int .i64 0)) := by rw [← HWA.out]; exact Blk.new _ _ _
          have hob : ∀ g, (Value.slice ao i co).ownBlock = some g → g < wr.heap.size := fun g hg => (HROW.out.lt g hg).2
          have hsw := HSA.out
          have hXs := HCHG.out.size
          have hc2 : Chg (fun z => z = yn ∨ X5.heap.size ≤ z) wr w5 := by
            have h1 : Chg (fun z => z = yn ∨ X5.heap.size ≤ z) wr wa := by rw [← HWA.out]; exact Chg.alloc _ _
            exact (h1.trans (Chg.alloc _ _)).trans (Chg.grown hg5 (fun g hg => HBLK.out g hg))
          refine ⟨vs ++ [.slice (some ⟨wr.heap.size, 0, none⟩) ql ql], hown5, by simp [HVL.out], fun g hg => ?_, HCHG.out.trans hc2, fun k hk => ?_⟩
          · rcases hat5 with h | h
            · exact HBLK.out g (h ▸ hg)
            · rw [h] at hg
              simp at hg
              omega
          · by_cases hki : k < i
            · obtain ⟨g, e1, e2, e3, e4⟩ := HEL.out k hki
              have hgl := e2.lt
              have e2a : Blk wa g 3 (List.replicate (L.getD k []).length (Value.int .i64 0)).toArray := by rw [← HWA.out]; exact e2.alloc _
              refine ⟨g, by rw [List.getElem?_append_left (by rw [HVL.out]; exact hki)]; exact e1, (e2a.alloc _).grown hg5 (fun h => e3 h.symm), ?_, e4⟩
              rcases hat5 with h | h
              · rw [h]; exact e3
              · rw [h]
                simp
                omega
            · obtain rfl : k = i := by omega
              refine ⟨wr.heap.size, ?_, ?_, ?_, hXs⟩
              · rw [List.getElem?_append_right (by rw [HVL.out]; exact Nat.le_refl _), HVL.out, Nat.sub_self, HGE.out]
                rfl
              · rw [HGE.out]
                have := (hba.alloc (.cells #[.slice (some ⟨wr.heap.size, 0, none⟩) ql ql] 45)).grown hg5 (fun h => by have := hob _ h.symm; omega)
                simpa using this
              · rcases hat5 with h | h
                · rw [h]
                  exact fun h => by have := hob _ h; omega
                · rw [h]
                  simp
                  omega
        have HNEW := Lib.hid hnew
        clear hown5 hg5 hat5 hnew hmq hwa
        go_wp2_with fail
        go_roundw
        case rel => exact ⟨i + 1, by omega, by go_num, HNEW.out, HNX.out⟩
        case measure => simp [intOf]; omega
      · obtain rfl : i = L.length := by omega
        have hten2 : ∀ l, l ∈ L → l.length ≤ 1000 := fun l hl => by have := HTEN.out l (by rw [List.take_length]; exact hl); omega
        have hzr := lev_read HLEV.out hten2
        obtain ⟨ao, co, rfl, _⟩ := (RowAt.of_own hrow).form
        have hlx : y0 < X5.heap.size := by have := HS5.out; omega
        have hcy : ∀ j v, W1.cell? ⟨y0, j, none⟩ = some v → wr.cell? ⟨y0, j, none⟩ = some v := fun j v hv => hchg.cell (by have := HS5.out; show ¬ (y0 = yn ∨ X5.heap.size ≤ y0); omega) (HKY.out j v hv)
        have bu : Blk wr (yn + 1) 36 _ := B5.out.stab (by have := HS5.out; show ¬ (yn + 1 = yn ∨ X5.heap.size ≤ yn + 1); omega) hchg
        have hbo : d.Cons.length ≤ 20 ∧ d.Cons.flatten.length ≤ 1000 := ⟨by have := HGG.out.1; omega, by have := flat_small HGG.out; omega⟩
        have hA := asks wr d _ _ _ (HS.out.below hWr) (HD.out.below hWr) HSD.out hbo
        have hAU := asks wr (upD d m) (.slice a1 d.Ty.length c1) (.slice a2 d.Bd.length c2) (.slice a3 d.Cons.length n3) (HS.out.below hWr) ⟨(HD.out.below hWr).ty, (HD.out.below hWr).bd, (HD.out.below hWr).cons⟩ HSD.out hbo
        have hlw := HLV.out.below hWr
        have KF := Lib.hid (hA.fit L _ hlw)
        have KRF := Lib.hid (hA.rfit L _ hlw)
        have KZ := Lib.hid (hA.fit (zeros L) _ hzr)
        have KC := Lib.hid hA.chk
        have KT := Lib.hid hA.their
        have KU := Lib.hid (hAU.fit L _ hlw)
        have KUC := Lib.hid hAU.chk
        have n0 := hcy 0 _ K0.out; have n1 := hcy 1 _ K1.out; have n2 := hcy 2 _ K2.out; have n3' := hcy 3 _ K3.out; have n4' := hcy 4 _ K4.out; have n5 := hcy 5 _ K5.out
        have N0 := Lib.hid n0; have N1 := Lib.hid n1; have N2 := Lib.hid n2; have N3 := Lib.hid n3'; have N4 := Lib.hid n4'; have N5 := Lib.hid n5
        have u0 := bu.cell 0; have u1 := bu.cell 1; have u2 := bu.cell 2; have u3 := bu.cell 3; have u4 := bu.cell 4; have u5 := bu.cell 5
        simp only [List.getElem?_toArray, List.getElem?_cons_zero, List.getElem?_cons_succ] at u0 u1 u2 u3 u4 u5
        have U0 := Lib.hid u0; have U1 := Lib.hid u1; have U2 := Lib.hid u2; have U3 := Lib.hid u3; have U4 := Lib.hid u4; have U5 := Lib.hid u5
        have hlu := bu.lt
        have HRD : Hid (∀ w', Below wr.heap.size wr w' → ∀ q j v, q ≤ yn + 1 → wr.cell? ⟨q, j, none⟩ = some v → w'.cell? ⟨q, j, none⟩ = some v) := Lib.hid (fun w' hb q j v hq hv => (hb.cell (p := ⟨q, j, none⟩) (by show q < _; omega)).trans hv)
        obtain ⟨fv, hfv⟩ : ∃ x, fitE nmB freeN d L = x := ⟨_, rfl⟩
        obtain ⟨sv, hsv⟩ : ∃ x, schE nmB freeN d = x := ⟨_, rfl⟩
        have HFV := Lib.hid hfv
        have HSV := Lib.hid hsv
        rw [hfv] at KF KRF
        rw [hsv] at KC
        have q1 : (fv != fv) = false := by simp
        clear hrow hvl hblk hchg hel hWr hten2 hzr hlx hcy bu hbo hA hAU hlw n1 u0 u1 u2 u3 u4 u5 hlu hfv hsv hlt HLEV HTEN HSH
        have n1 := N1.out
        go_wp2_with fail
        refine (KF.out _ (Below.refl _ _)).mono ?_
        rintro e x1 ⟨rfl, hx1⟩
        have Z1 := Lib.hid hx1
        clear n0 n1 n2 n3' n4' n5
        have n0 := HRD.out _ hx1 _ _ _ (by omega) N0.out; have n1 := HRD.out _ hx1 _ _ _ (by omega) N1.out; have n2 := HRD.out _ hx1 _ _ _ (by omega) N2.out; have n3' := HRD.out _ hx1 _ _ _ (by omega) N3.out; have n4' := HRD.out _ hx1 _ _ _ (by omega) N4.out; have n5 := HRD.out _ hx1 _ _ _ (by omega) N5.out
        clear hx1
        go_wp2_with fail
        refine (KT.out _).mono ?_
        rintro e x2 ⟨rfl, hx2'⟩
        have Z2 := Lib.hid (Z1.out.trans (hx2'.mono Z1.out.size))
        clear hx2' n0 n1 n2 n3' n4' n5
        go_wp2_with fail
        refine (KRF.out _ Z2.out).mono ?_
        rintro e x3 ⟨rfl, hx3'⟩
        have hx3 := Z2.out.trans (hx3'.mono Z2.out.size)
        have Z3 := Lib.hid hx3
        have n0 := HRD.out _ hx3 _ _ _ (by omega) N0.out; have n1 := HRD.out _ hx3 _ _ _ (by omega) N1.out; have n2 := HRD.out _ hx3 _ _ _ (by omega) N2.out; have n3' := HRD.out _ hx3 _ _ _ (by omega) N3.out; have n4' := HRD.out _ hx3 _ _ _ (by omega) N4.out; have n5 := HRD.out _ hx3 _ _ _ (by omega) N5.out
        clear hx3 hx3'
        by_cases hf0 : fv = 0
        rotate_left
        · have hb : (fv != 0) = true := by simpa using hf0
          go_wp2_with fail
          refine (KC.out _ Z3.out).mono ?_
          rintro e x4 ⟨rfl, hx4'⟩
          have hx4 := Z3.out.trans (hx4'.mono Z3.out.size)
          have Z4 := Lib.hid hx4
          clear n0 n1 n2 n3' n4' n5
          have n0 := HRD.out _ hx4 _ _ _ (by omega) N0.out; have n1 := HRD.out _ hx4 _ _ _ (by omega) N1.out; have n2 := HRD.out _ hx4 _ _ _ (by omega) N2.out; have n3' := HRD.out _ hx4 _ _ _ (by omega) N3.out; have n4' := HRD.out _ hx4 _ _ _ (by omega) N4.out; have n5 := HRD.out _ hx4 _ _ _ (by omega) N5.out
          clear hx4 hx4'
          by_cases hs0 : sv = 0
          rotate_left
          · have hb2 : (sv != 0) = true := by simpa using hs0
            go_wp2_with fail
            go_ret
            exact ⟨rfl, HWR.out.trans (Z4.out.mono HWR.out.size)⟩
          subst hs0
          have hcs := fit_cases nmB freeN (lv := L) HSV.out
          rw [HFV.out] at hcs
          have HCS := Lib.hid hcs
          clear hcs
          by_cases hf1 : fv = 1
          · subst hf1
            go_wp2_with fail
            go_ret
            exact ⟨rfl, HWR.out.trans (Z4.out.mono HWR.out.size)⟩
          have hf2 : fv = 2 := by
            rcases HCS.out with h | ⟨_, h | h⟩
            · exact absurd h hf1
            · exact h
            · exact absurd h hf0
          subst hf2
          have hsh : shapeL d L = true := by
            rcases HCS.out with h | ⟨h, _⟩
            · omega
            · exact h
          have hfz := fit_zeros nmB freeN HSV.out hsh
          rw [hfz] at KZ
          clear hfz hsh
          go_wp2_with fail
          refine (KZ.out _ Z4.out).mono ?_
          rintro e x5 ⟨rfl, hx5'⟩
          have Z5 := Lib.hid (Z4.out.trans (hx5'.mono Z4.out.size))
          clear hx5'
          go_wp2_with fail
          go_ret
          exact ⟨rfl, HWR.out.trans (Z5.out.mono HWR.out.size)⟩
        subst hf0
        have hs0 : schE nmB freeN d = 0 := by
          have h := HFV.out
          unfold fitE at h
          by_cases hz : schE nmB freeN d = 0
          · exact hz
          · rw [if_neg hz] at h; exact h
        have hsh : shapeL d L = true := by
          have h := fit_cases nmB freeN (lv := L) hs0
          rw [HFV.out] at h
          rcases h with h | ⟨h, _⟩
          · omega
          · exact h
        have hfz := fit_zeros nmB freeN hs0 hsh
        have hfu := fit_up nmB freeN hm0 HFV.out hs0
        have hsu := sch_up nmB freeN hm0 hs0
        have hlv := ((sch_zero nmB freeN d).1 hs0).2.2.2.1
        unfold lvD at hlv
        simp only [Bool.and_eq_true, decide_eq_true_eq] at hlv
        have hUe : U = min 9 (d.Level + m) := HU.out hlv.1 hlv.2
        have hdv : declV (upD d m) (.slice a1 d.Ty.length c1) (.slice a2 d.Bd.length c2) (.slice a3 d.Cons.length n3) = .agg #[.int .i64 d.Kind, .int .i64 U, .string d.Name, .slice a1 d.Ty.length c1, .slice a2 d.Bd.length c2, .slice a3 d.Cons.length n3] := by rw [hUe]; rfl
        rw [hdv] at KU KUC
        rw [hfz] at KZ
        rw [hfu] at KU
        rw [hsu] at KUC
        clear hs0 hsh hfz hfu hsu hlv hUe hdv
        go_wp2_with fail
        refine (KZ.out _ Z3.out).mono ?_
        rintro e x4 ⟨rfl, hx4'⟩
        have hx4 := Z3.out.trans (hx4'.mono Z3.out.size)
        have Z4 := Lib.hid hx4
        clear n0 n1 n2 n3' n4' n5
        have u0 := HRD.out _ hx4 _ _ _ (by omega) U0.out; have u1 := HRD.out _ hx4 _ _ _ (by omega) U1.out; have u2 := HRD.out _ hx4 _ _ _ (by omega) U2.out; have u3 := HRD.out _ hx4 _ _ _ (by omega) U3.out; have u4 := HRD.out _ hx4 _ _ _ (by omega) U4.out; have u5 := HRD.out _ hx4 _ _ _ (by omega) U5.out
        clear hx4 hx4'
        go_wp2_with fail
        refine (KU.out _ Z4.out).mono ?_
        rintro e x5 ⟨rfl, hx5'⟩
        have hx5 := Z4.out.trans (hx5'.mono Z4.out.size)
        have Z5 := Lib.hid hx5
        clear u0 u1 u2 u3 u4 u5
        have u0 := HRD.out _ hx5 _ _ _ (by omega) U0.out; have u1 := HRD.out _ hx5 _ _ _ (by omega) U1.out; have u2 := HRD.out _ hx5 _ _ _ (by omega) U2.out; have u3 := HRD.out _ hx5 _ _ _ (by omega) U3.out; have u4 := HRD.out _ hx5 _ _ _ (by omega) U4.out; have u5 := HRD.out _ hx5 _ _ _ (by omega) U5.out
        clear hx5 hx5'
        go_wp2_with fail
        refine (KUC.out _ Z5.out).mono ?_
        rintro e x6 ⟨rfl, hx6'⟩
        have Z6 := Lib.hid (Z5.out.trans (hx6'.mono Z5.out.size))
        clear hx6' u0 u1 u2 u3 u4 u5
        go_wp2_with fail
        go_ret
        exact ⟨rfl, HWR.out.trans (Z6.out.mono HWR.out.size)⟩

end Go.Proofs.YteldkcpkamgfpaaDoor
