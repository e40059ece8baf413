/- SchemaParts' walk: for every declaration the law's function returns true; where the table of shapes lies as it is laid. -/
import Derived.Test.YteldkcpkamgfpaaDoorFc
namespace Go.Proofs.YteldkcpkamgfpaaDoor
set_option linter.unusedSimpArgs false
set_option linter.unusedVariables false
open Go.RowKit

theorem Tryd.infoNodess : (Tryd.prog.info? 42).map (fun i => (i.zero, i.size, i.bytes)) = some (some (.slice none 0 0), 1, 24) := by kernel_rfl

theorem headD_get {α : Type} : ∀ (l : List α) (h : 0 < l.length) (x : α), l.headD x = l[0]
  | [], h, _ => by simp at h
  | a :: r, _, _ => rfl

theorem ReadNNN.cut {w : World} {b off cap : Nat} {T : List (List (List Nd))} {n : Nat} (h : ReadNNN w (.slice (some ⟨b, off, none⟩) T.length cap) T) (hn : n ≤ T.length) (h0 : 0 < T.length) : ReadNNN w (.slice (some ⟨b, off, none⟩) n cap) (T.take n) := by
  obtain ⟨vs, hl, hr, he⟩ := h
  obtain ⟨b', off', cap', h1, h2, h3, h4, hc⟩ := RowAt.pos hr h0
  obtain ⟨⟨rfl, rfl⟩, rfl⟩ : (b = b' ∧ off = off') ∧ cap = cap' := by simpa using h1
  have hlt : (T.take n).length = n := by rw [List.length_take]; omega
  refine ⟨vs.take n, by rw [hlt, List.length_take]; omega, ?_, fun i hi u hu => ?_⟩
  · rw [hlt]
    refine ⟨by rw [List.length_take]; omega, _, cap, rfl, by omega, h3, fun _ => ⟨b, off, rfl, h4, fun j u hu => hc j u ?_⟩⟩
    rw [List.getElem?_take] at hu
    split at hu
    · exact hu
    · cases hu
  · rw [hlt] at hi
    rw [List.getElem?_take, if_pos hi] at hu
    rw [List.getElem_take]
    exact he i (by omega) u hu
theorem ReadNNN.cons {w : World} {v : Value} {T : List (List (List Nd))} {c : List (List Nd)} {vs : List Value} {u : Value} (hr : RowAt w 1 v (1 + T.length) ([u] ++ vs)) (hl : vs.length = T.length) (hu : ReadNN w u c) (h : ∀ i (h : i < T.length) x, vs[i]? = some x → ReadNN w x (T[i])) : ReadNNN w v (c :: T) := by
  refine ⟨[u] ++ vs, by simp [hl], by rw [List.length_cons, Nat.add_comm]; exact hr, fun i hi x hx => ?_⟩
  cases i with
  | zero =>
    obtain rfl : u = x := by simpa using hx
    exact hu
  | succ i =>
    exact h i (by simpa using hi) x (by simpa using hx)

set_option maxRecDepth 100000 in
set_option maxHeartbeats 20000000 in
theorem sparts_walk (W : World) (d : Dc) (vt vb vc : Value) (hd : DeclV W d vt vb vc) (hsd : SmallD d) (hS : ShapesAt W) :
    Calls Tryd.prog 4 #[declV d vt vb vc] W fun e W' => e = .returned (.bool true) ∧ Below W.heap.size W W' := by
  obtain ⟨i0, hi, hz0, hz1, hz2⟩ := info_parts Tryd.infoNodess
  have HSH : Hid (∀ w', Below W.heap.size W w' → Calls Tryd.prog 9 #[] w' (RetB (.bool true) w')) := Lib.hid (fun w' hb => shown17_any w' (hS.below hb))
  have HGR : Hid (∀ w', Below W.heap.size W w' → Calls Tryd.prog 15 #[declV d vt vb vc] w' (GreatPost d w')) := Lib.hid (fun w' hb => great_any d vt vb vc w' (hd.below hb) hsd)
  have HAS : Hid ((d.Cons.length ≤ 10 ∧ ∀ c, c ∈ d.Cons → c.length ≤ 10) → Asks W d (declV d vt vb vc)) := Lib.hid (fun h => asks W d vt vb vc hS hd hsd ⟨by omega, by have := flat_small h; omega⟩)
  have HD := Lib.hid hd
  have HSD := Lib.hid hsd
  have HS := Lib.hid hS
  obtain ⟨a1, c1, rfl⟩ := ReadN.len_slice hd.ty
  obtain ⟨a2, c2, rfl⟩ := ReadN.len_slice hd.bd
  obtain ⟨a3, n3, rfl⟩ := hd.cons.form
  have hm3 : d.Cons.length ≤ 9223372036854775807 := by have := hd.cons.shape.1; unfold maxLen at this; omega
  unfold declV at HGR HAS ⊢
  clear hd hsd hS
  obtain ⟨y0, hy0⟩ : ∃ y, W.heap.size = y := ⟨_, rfl⟩
  obtain ⟨W1, hW1⟩ : ∃ m, W.alloc (.cells #[.int .i64 d.Kind, .int .i64 d.Level, .string d.Name, .slice a1 d.Ty.length c1, .slice a2 d.Bd.length c2, .slice a3 d.Cons.length n3] 36) = m := ⟨_, rfl⟩
  have b0 : Blk W1 y0 36 #[.int .i64 d.Kind, .int .i64 d.Level, .string d.Name, .slice a1 d.Ty.length c1, .slice a2 d.Bd.length c2, .slice a3 d.Cons.length n3] := by rw [← hW1, ← hy0]; exact Blk.new _ _ _
  have hb1 : Below W.heap.size W W1 := by rw [← hW1]; exact (Below.refl _ _).alloc (Nat.le_refl _) _
  have k0 := b0.cell 0
  have k1 := b0.cell 1
  have k2 := b0.cell 2
  have k3 := b0.cell 3
  have k4 := b0.cell 4
  have k5 := b0.cell 5
  simp only [List.getElem?_toArray, List.getElem?_cons_zero, List.getElem?_cons_succ] at k0 k1 k2 k3 k4 k5
  have HB1 := Lib.hid hb1
  have hlt0 := b0.lt
  have HK : Hid (∀ w', Below W1.heap.size W1 w' → ∀ j v, W1.cell? ⟨y0, j, none⟩ = some v → w'.cell? ⟨y0, j, none⟩ = some v) := Lib.hid (fun w' hb j v hv => (hb.cell (p := ⟨y0, j, none⟩) hlt0).trans hv)
  have C0 := Lib.hid (HGR.out W1 hb1)
  have HL0 := Lib.hid hlt0
  clear b0 hb1 HGR hlt0
  have K0 := Lib.hid k0; have K1 := Lib.hid k1; have K2 := Lib.hid k2; have K3 := Lib.hid k3; have K4 := Lib.hid k4; have K5 := Lib.hid k5
  go_enter Tryd.func4, Tryd.ntmps4
  go_wp2_with (go_at_call 15; refine C0.out.mono ?_)
  rintro e w1 ⟨⟨g1, rfl, hg1⟩, hb1⟩
  have X1 := Lib.hid hb1
  have HBX := Lib.hid (HB1.out.trans (hb1.mono HB1.out.size))
  clear C0 hW1 k0 k1 k2 k3 k4 k5
  cases g1
  rotate_left
  · go_wp2_with fail
    refine (HSH.out _ HBX.out).mono ?_
    rintro e w2 ⟨rfl, hb2⟩
    have HB3 := Lib.hid (HBX.out.trans (hb2.mono HBX.out.size))
    clear hb2
    go_wp2_with fail
    go_ret
    exact ⟨rfl, HB3.out⟩
  have hgg := hg1 rfl
  have HGG := Lib.hid hgg
  have hA := HAS.out hgg
  have HTH := Lib.hid hA.their
  have HCHK := hA.chk
  have HRCHK := hA.rchk
  have HBAS := hA.bas
  obtain ⟨sv, hsv⟩ : ∃ x, schE nmB freeN d = x := ⟨_, rfl⟩
  obtain ⟨bv, hbv⟩ : ∃ x, basedB nmB freeN d = x := ⟨_, rfl⟩
  have HSV := Lib.hid hsv
  have HBV := Lib.hid hbv
  rw [hsv] at HCHK HRCHK
  rw [hbv] at HBAS
  have KC := Lib.hid HCHK
  have KR := Lib.hid HRCHK
  have KB := Lib.hid HBAS
  clear HAS hg1 hgg hA HCHK HRCHK HBAS hsv hbv hb1
  go_wp2_with fail
  refine (HSH.out _ HBX.out).mono ?_
  rintro e w2 ⟨rfl, hb2⟩
  have hx2 := X1.out.trans (hb2.mono X1.out.size)
  have X2 := Lib.hid hx2
  have BX2 := Lib.hid (HB1.out.trans (hx2.mono HB1.out.size))
  have f0 := HK.out _ hx2 _ _ K0.out; have f1 := HK.out _ hx2 _ _ K1.out; have f2 := HK.out _ hx2 _ _ K2.out; have f3 := HK.out _ hx2 _ _ K3.out; have f4 := HK.out _ hx2 _ _ K4.out; have f5 := HK.out _ hx2 _ _ K5.out
  clear hb2 hx2 HSH HBX X1
  go_wp2_with fail
  refine (KC.out _ BX2.out).mono ?_
  rintro e w3 ⟨rfl, hb3⟩
  have hx3 := X2.out.trans (hb3.mono X2.out.size)
  have X3 := Lib.hid hx3
  have BX3 := Lib.hid (HB1.out.trans (hx3.mono HB1.out.size))
  clear f0 f1 f2 f3 f4 f5
  have f0 := HK.out _ hx3 _ _ K0.out; have f1 := HK.out _ hx3 _ _ K1.out; have f2 := HK.out _ hx3 _ _ K2.out; have f3 := HK.out _ hx3 _ _ K3.out; have f4 := HK.out _ hx3 _ _ K4.out; have f5 := HK.out _ hx3 _ _ K5.out
  clear hb3 hx3 X2 BX2
  go_wp2_with fail
  refine (HTH.out _).mono ?_
  rintro e w4 ⟨rfl, hb4⟩
  have hx4 := X3.out.trans (hb4.mono X3.out.size)
  have X4 := Lib.hid hx4
  have BX4 := Lib.hid (HB1.out.trans (hx4.mono HB1.out.size))
  clear f0 f1 f2 f3 f4 f5 hb4 hx4 X3 BX3
  go_wp2_with fail
  refine (KR.out _ BX4.out).mono ?_
  rintro e w5 ⟨rfl, hb5⟩
  have hx5 := X4.out.trans (hb5.mono X4.out.size)
  have X5 := Lib.hid hx5
  have BX5 := Lib.hid (HB1.out.trans (hx5.mono HB1.out.size))
  have f0 := HK.out _ hx5 _ _ K0.out; have f1 := HK.out _ hx5 _ _ K1.out; have f2 := HK.out _ hx5 _ _ K2.out; have f3 := HK.out _ hx5 _ _ K3.out; have f4 := HK.out _ hx5 _ _ K4.out; have f5 := HK.out _ hx5 _ _ K5.out
  clear hb5 hx5 X4 BX4 KR HTH
  have q1 : (sv != sv) = false := by simp
  by_cases h0 : sv = 0
  rotate_left
  · have hb : (sv != 0) = true := by simpa using h0
    go_wp2_with fail
    go_ret
    exact ⟨rfl, BX5.out⟩
  subst h0
  by_cases hT0 : d.Cons = []
  · have hl0 : d.Cons.length = 0 := by rw [hT0]; rfl
    have hbf : bv = false := by rw [← HBV.out]; exact based_empty nmB freeN hT0
    subst hbf
    rw [hl0] at f5 KB ⊢
    go_wp2_with fail
    refine (KB.out _ BX5.out).mono ?_
    rintro e w6 ⟨rfl, hb6⟩
    have B6 := Lib.hid (BX5.out.trans (hb6.mono BX5.out.size))
    clear hb6
    go_wp2_with fail
    go_ret
    exact ⟨rfl, B6.out⟩
  have HT0 := Lib.hid hT0
  have hpos : 0 < d.Cons.length := List.length_pos_iff.2 hT0
  obtain ⟨p, hp⟩ : ∃ p, d.Cons.length = p + 1 := ⟨d.Cons.length - 1, by omega⟩
  have HP := Lib.hid hp
  obtain ⟨_, ⟨h0, _⟩ | ⟨b, off, cap, he, hbw⟩⟩ := HD.out.cons.shape
  · exact absurd h0 hT0
  obtain ⟨rfl, rfl⟩ : a3 = some ⟨b, off, none⟩ ∧ n3 = cap := by simpa using he
  have hn3 : p + 1 ≤ n3 ∧ n3 ≤ 9223372036854775807 := by
    obtain ⟨vs, _, hr, _⟩ := HD.out.cons
    obtain ⟨b', off', cap', h1, h2, h3, _⟩ := RowAt.pos hr hpos
    obtain ⟨_, rfl⟩ : (b = b' ∧ off = off') ∧ n3 = cap' := by simpa using h1
    unfold maxLen at h3
    omega
  obtain ⟨hn1, hn2⟩ := hn3
  rw [hp] at f5 KB hm3 hpos ⊢
  clear hT0 hp he hpos
  have q0 : ((p : Int) + 1 == 0) = false := by rw [beq_eq_false_iff_ne]; omega
  obtain ⟨yl, hyl⟩ : ∃ y, w5.heap.size = y := ⟨_, rfl⟩
  have hy05 : y0 < yl := by have := X5.out.size; have := HL0.out; omega
  obtain ⟨X6, hX6⟩ : ∃ x, w5.alloc (.cells #[.int .i64 d.Kind, .int .i64 d.Level, .string d.Name, .slice a1 d.Ty.length c1, .slice a2 d.Bd.length c2, .slice (some ⟨b, off, none⟩) (p + 1) n3] 36) = x := ⟨_, rfl⟩
  obtain ⟨X7, hX7⟩ : ∃ x, X6.setCell ⟨yl, 5, none⟩ (.slice (some ⟨b, off, none⟩) p n3) = x := ⟨_, rfl⟩
  obtain ⟨X8, hX8⟩ : ∃ x, X7.alloc (.cells #[.int .i64 d.Kind, .int .i64 d.Level, .string d.Name, .slice a1 d.Ty.length c1, .slice a2 d.Bd.length c2, .slice (some ⟨b, off, none⟩) (p + 1) n3] 36) = x := ⟨_, rfl⟩
  have b6 : Blk X6 yl 36 #[.int .i64 d.Kind, .int .i64 d.Level, .string d.Name, .slice a1 d.Ty.length c1, .slice a2 d.Bd.length c2, .slice (some ⟨b, off, none⟩) (p + 1) n3] := by rw [← hX6, ← hyl]; exact Blk.new _ _ _
  have h65 : Below w5.heap.size w5 X6 := by rw [← hX6]; exact (Below.refl _ _).alloc (Nat.le_refl _) _
  have hs6 : X6.heap.size = yl + 1 := by rw [← hX6, ← hyl]; simp
  have b7 : Blk X7 yl 36 #[.int .i64 d.Kind, .int .i64 d.Level, .string d.Name, .slice a1 d.Ty.length c1, .slice a2 d.Bd.length c2, .slice (some ⟨b, off, none⟩) p n3] := by
    rw [← hX7]
    exact b6.set_ 5 (.slice (some ⟨b, off, none⟩) p n3)
  have h75 : Below w5.heap.size w5 X7 := by rw [← hX7]; exact h65.trans ((Chg.setCell (S := fun z => z = yl) X6 ⟨yl, 5, none⟩ _ rfl).to_below (fun z h => by omega) h65.size)
  have hs7 : X7.heap.size = yl + 1 := by rw [← hX7]; simp [hs6]
  have b8 : Blk X8 (yl + 1) 36 #[.int .i64 d.Kind, .int .i64 d.Level, .string d.Name, .slice a1 d.Ty.length c1, .slice a2 d.Bd.length c2, .slice (some ⟨b, off, none⟩) (p + 1) n3] := by rw [← hX8, ← hs7]; exact Blk.new _ _ _
  have b87 : Blk X8 yl 36 #[.int .i64 d.Kind, .int .i64 d.Level, .string d.Name, .slice a1 d.Ty.length c1, .slice a2 d.Bd.length c2, .slice (some ⟨b, off, none⟩) p n3] := by rw [← hX8]; exact b7.alloc _
  have h85 : Below w5.heap.size w5 X8 := by rw [← hX8]; exact h75.alloc h75.size _
  have hs8 : X8.heap.size = yl + 2 := by rw [← hX8]; simp [hs7]
  have e1 := (h65.cell (p := ⟨y0, 5, none⟩) (by show y0 < _; omega)).trans f5
  have e2 := b6.cell 5
  have e3 := b6.frozen 5
  have g0 := (h75.cell (p := ⟨y0, 0, none⟩) (by show y0 < _; omega)).trans f0
  have g1 := (h75.cell (p := ⟨y0, 1, none⟩) (by show y0 < _; omega)).trans f1
  have g2 := (h75.cell (p := ⟨y0, 2, none⟩) (by show y0 < _; omega)).trans f2
  have g3 := (h75.cell (p := ⟨y0, 3, none⟩) (by show y0 < _; omega)).trans f3
  have g4 := (h75.cell (p := ⟨y0, 4, none⟩) (by show y0 < _; omega)).trans f4
  have g5 := (h75.cell (p := ⟨y0, 5, none⟩) (by show y0 < _; omega)).trans f5
  have m5 := (h85.cell (p := ⟨y0, 5, none⟩) (by show y0 < _; omega)).trans f5
  have HB7 := Lib.hid b87
  have HB8 := Lib.hid b8
  have H85 := Lib.hid h85
  have HS8 := Lib.hid hs8
  clear b6 h65 hs6 b7 h75 b8 b87 h85 hs8
  go_wp2_with fail
  have hbX8 := BX5.out.trans (H85.out.mono BX5.out.size)
  obtain ⟨vs, hvl, hvr, hve⟩ := HD.out.cons
  rw [HP.out] at hvl hvr
  obtain ⟨b', off', cap', hb1, _, _, hbw', hvc⟩ := RowAt.pos hvr (by omega)
  obtain ⟨⟨rfl, rfl⟩, rfl⟩ : (b = b' ∧ off = off') ∧ n3 = cap' := by simpa using hb1
  have hv0 : vs[0]? = some vs[0] := List.getElem?_eq_getElem (by omega)
  have hr0 := hve 0 (by rw [HP.out]; omega) _ hv0
  have hc0 := hvc 0 _ hv0
  obtain ⟨u0, hu0⟩ : ∃ u, vs[0] = u := ⟨_, rfl⟩
  rw [hu0] at hr0 hc0
  obtain ⟨a6, n6, hu6⟩ := hr0.form
  obtain ⟨ql, hql⟩ : ∃ x, (d.Cons[0]'(by rw [HP.out]; omega)).length = x := ⟨_, rfl⟩
  rw [hql] at hu6
  rw [hu6] at hc0 hr0 hu0
  have hone : Hid (∀ u, u ∈ vs → u.oneCell' = true) := Lib.hid (by
    intro u hu
    obtain ⟨i, hi, rfl⟩ := List.mem_iff_getElem.1 hu
    obtain ⟨a, c, he⟩ := (hve i (by rw [HP.out]; omega) vs[i] (List.getElem?_eq_getElem hi)).form
    rw [he]
    rfl)
  obtain ⟨x0, hx0⟩ : ∃ x, X8.drew = x := ⟨_, rfl⟩
  have hx08 : Below X8.heap.size X8 x0 := by rw [← hx0]; exact (Below.refl _ _).drew
  have hsx : x0.heap.size = yl + 2 := by rw [← hx0]; exact HS8.out
  have hxW := hbX8.trans (hx08.mono hbX8.size)
  have z1 : ∀ x : BG (yl + 1) X8, x.w.cell? ⟨y0, 5, none⟩ = some (.slice (some ⟨b, off, none⟩) (p + 1) n3) := fun x => x.h.cell (by have := HS8.out; show ¬ (y0 = yl + 1 ∨ X8.heap.size ≤ y0); omega) m5
  have z2 : ∀ x : BG (yl + 1) X8, x.w.cell? ⟨b, off, none⟩ = some (.slice a6 ql n6) := fun x => x.h.cell (by have := HS8.out; have := BX5.out.size; show ¬ (b = yl + 1 ∨ X8.heap.size ≤ b); omega) (hbX8.cell (p := ⟨b, off, none⟩) hbw' |>.trans hc0)
  have w5' : x0.cell? ⟨yl + 1, 5, none⟩ = _ := (hx08.cell (p := ⟨yl + 1, 5, none⟩) HB8.out.lt).trans (HB8.out.cell 5)
  have wf' : x0.frozen? ⟨yl + 1, 5, none⟩ = false := (hx08.frozen (p := ⟨yl + 1, 5, none⟩) HB8.out.lt).trans (HB8.out.frozen 5)
  have HVR := Lib.hid (hvr.below hxW)
  have HVE := Lib.hid hve
  have HVL := Lib.hid hvl
  have HR0 := Lib.hid hr0
  have HXW := Lib.hid hxW
  have HX08 := Lib.hid hx08
  have HSX := Lib.hid hsx
  have HBX8 := Lib.hid hbX8
  have hnd : p ≤ 100 := by have := HGG.out.1; have := HP.out; omega
  have HQL := Lib.hid hql
  have hy9 : W.heap.size ≤ yl := by rw [← hyl]; exact BX5.out.size
  clear hvr hve hb1 hv0 hr0 hc0 hu0 hu6 hxW hx08 hsx hbX8 hvc hql hX6 hX7 hX8 e1 e2 e3 g0 g1 g2 g3 g4 g5 m5 f0 f1 f2 f3 f4 f5 hs7 hyl hy0
  refine wp_region_mix (fun w' => ∃ x : BG (yl + 1) X8, w' = x.w) [(true, 0), (true, 1), (true, 2), (true, 3), (true, 5), (true, 6), (false, 4), (false, 7), (false, 8), (false, 9)] (by kernel_rfl) (by kernel_rfl) ⟨⟨_, Chg.drew _⟩, rfl⟩ ?_
  refine mix_calm ⟨_, ⟨⟨_, Chg.refl _ _⟩, rfl⟩⟩ _ [0, 1, 2, 3, 5, 6] [_, _, _, _, _, _] _ rfl rfl ?_
  simp only [List.getElem_toArray, List.getElem_cons_zero, List.getElem_cons_succ]
  repeat (first | go_big_quiet_skip | (go_big_quiet_want; go_big_quiet_op; go_big_quiet_on))
  refine wpQuiet_nil ?_
  rw [hx0]
  clear hx0 z1 z2
  refine mix_one rfl ?_
  simp only [List.getElem_toArray, List.getElem_cons_zero, List.getElem_cons_succ]
  go_wp2_with fail
  refine ⟨⟨⟨_, (Chg.fresh HX08.out).trans (Chg.alloc _ _)⟩, rfl⟩, ?_⟩
  refine mix_one rfl ?_
  simp only [List.getElem_toArray, List.getElem_cons_zero, List.getElem_cons_succ]
  go_wp2_with (at_builtin; go_must (refine wpList_append_row rfl (.tmp 50) (.tmp 52) 34 rfl x0.heap.size 42 i0 (.slice none 0 0) 1 24 Tryd.underlying34 hi hz0 hz1 hz2 rfl (by decide) (.slice (some ⟨x0.heap.size, 0, none⟩) 1 1) 1 [.slice a6 ql n6] rfl (World.ownsRow_lit x0 #[.slice a6 ql n6] 1 (Nat.le_refl _) (by unfold maxLen; omega) rfl) (.slice (some ⟨b, off, none⟩) (p + 1) n3) (p + 1) vs rfl (RowAt.alloc HVR.out _) hone.out (by omega) (by unfold maxLen; omega) (by simp) ?_); intro v9 w9 hown9 hg9 hat9)
  have hb9 : Below x0.heap.size x0 w9 := ((Below.refl _ _).alloc (Nat.le_refl _) _).grown hg9 (by simp) (fun g hg => by simp [Value.ownBlock] at hg; omega)
  obtain ⟨N9, hN9⟩ : ∃ N, 1 + (p + 1) = N := ⟨_, rfl⟩
  rw [hN9] at hown9
  obtain ⟨a9, c9, rfl, _⟩ := (RowAt.of_own hown9).form
  have HO9 := Lib.hid hown9
  have HB9 := Lib.hid hb9
  have w5c := (hb9.cell (p := ⟨yl + 1, 5, none⟩) (by have := HSX.out; show yl + 1 < _; omega)).trans w5'
  have w5f := (hb9.frozen (p := ⟨yl + 1, 5, none⟩) (by have := HSX.out; show yl + 1 < _; omega)).trans wf'
  clear hown9 hg9 hat9 hb9 w5' wf'
  go_wp2_with fail
  have hc9 : Below X8.heap.size X8 w9 := HX08.out.trans (HB9.out.mono HX08.out.size)
  have HC9 := Lib.hid hc9
  clear hc9
  refine ⟨⟨⟨_, Chg.fresh HC9.out⟩, rfl⟩, ?_⟩
  refine mix_one rfl ?_
  simp only [List.getElem_toArray, List.getElem_cons_zero, List.getElem_cons_succ]
  go_wp2_with fail
  refine ⟨⟨⟨_, Chg.fresh HC9.out⟩, rfl⟩, ?_⟩
  refine mix_one rfl ?_
  simp only [List.getElem_toArray, List.getElem_cons_zero, List.getElem_cons_succ]
  go_wp2_with fail
  refine ⟨⟨⟨_, (Chg.fresh HC9.out).trans (Chg.setCell _ _ _ (.inl rfl))⟩, rfl⟩, ?_⟩
  refine mix_nil ?_
  obtain ⟨Y, hY⟩ : ∃ Y, w9.setCell ⟨yl + 1, 5, none⟩ (.slice a9 N9 c9) = Y := ⟨_, rfl⟩
  have hch : Chg (fun z => z = yl + 1) w9 Y := by rw [← hY]; exact Chg.setCell _ _ _ rfl
  have bm : Blk Y (yl + 1) 36 #[.int .i64 d.Kind, .int .i64 d.Level, .string d.Name, .slice a1 d.Ty.length c1, .slice a2 d.Bd.length c2, .slice a9 N9 c9] := by
    rw [← hY]
    exact (HB8.out.below HC9.out HB8.out.lt).set_ 5 (.slice a9 N9 c9)
  have bl : Blk Y yl 36 #[.int .i64 d.Kind, .int .i64 d.Level, .string d.Name, .slice a1 d.Ty.length c1, .slice a2 d.Bd.length c2, .slice (some ⟨b, off, none⟩) p n3] :=
    (HB7.out.below HC9.out HB7.out.lt).stab (by show ¬ (yl = yl + 1); omega) hch
  have hWY : Below W.heap.size W Y := (HBX8.out.trans (HC9.out.mono HBX8.out.size)).trans (hch.to_below (fun z h => by omega) (HBX8.out.trans (HC9.out.mono HBX8.out.size)).size)
  have hkc : ∀ j v, W1.cell? ⟨y0, j, none⟩ = some v → Y.cell? ⟨y0, j, none⟩ = some v := fun j v hv =>
    hch.cell (by show ¬ (y0 = yl + 1); omega) ((HC9.out.cell (p := ⟨y0, j, none⟩) (by have := HS8.out; show y0 < _; omega)).trans ((H85.out.cell (p := ⟨y0, j, none⟩) (by have := X5.out.size; have := HL0.out; show y0 < _; omega)).trans (HK.out _ X5.out _ _ hv)))
  have hrow9 : RowAt Y 1 (.slice a9 N9 c9) N9 ([Value.slice a6 ql n6] ++ vs) := RowAt.kept (RowAt.of_own HO9.out) (hch.kept (K := fun z => z ≠ yl + 1) (fun _ h => h)) (fun g hg => by have := (HO9.out.lt g hg).1; have := HSX.out; omega)
  have hcons : d.Cons = d.Cons.headD [] :: d.Cons.tail := by
    cases hc : d.Cons with
    | nil => exact absurd hc HT0.out
    | cons x r => rfl
  have hrm : ReadNNN Y (.slice a9 N9 c9) (moreD d).Cons := by
    refine ReadNNN.cons (vs := vs) (u := .slice a6 ql n6) (by rw [HP.out, hN9]; exact hrow9) (by rw [HP.out]; exact HVL.out) ?_ (fun i hi x hx => (HVE.out i hi x hx).below hWY)
    have h0 := HR0.out.below hWY
    have e : d.Cons.headD [] = d.Cons[0]'(by rw [HP.out]; omega) := headD_get _ _ _
    rw [e]
    exact h0
  have hrl : ReadNNN Y (.slice (some ⟨b, off, none⟩) p n3) (lessD d).Cons := by
    have h := HD.out.cons.below hWY
    have h2 : ReadNNN Y (.slice (some ⟨b, off, none⟩) d.Cons.length n3) d.Cons := by rw [HP.out]; rw [HP.out] at h; exact h
    have h3 := h2.cut (n := p) (by rw [HP.out]; omega) (by rw [HP.out]; omega)
    show ReadNNN Y _ (d.Cons.take (d.Cons.length - 1))
    rw [HP.out]
    exact h3
  have hfl := flat_small HGG.out
  have hal : Asks Y (lessD d) (declV (lessD d) (.slice a1 d.Ty.length c1) (.slice a2 d.Bd.length c2) (.slice (some ⟨b, off, none⟩) p n3)) :=
    asks Y _ _ _ _ (HS.out.below hWY) ⟨HD.out.ty.below hWY, HD.out.bd.below hWY, hrl⟩ ⟨HSD.out.1, HSD.out.2.1, HSD.out.2.2.1, fun c hc => HSD.out.2.2.2 c (List.mem_of_mem_take hc)⟩
      ⟨by show (d.Cons.take _).length ≤ 20; rw [List.length_take]; have := HGG.out.1; omega, by show (d.Cons.take _).flatten.length ≤ 1000; have := flat_leG d.Cons (d.Cons.length - 1); omega⟩
  have ham : Asks Y (moreD d) (declV (moreD d) (.slice a1 d.Ty.length c1) (.slice a2 d.Bd.length c2) (.slice a9 N9 c9)) :=
    asks Y _ _ _ _ (HS.out.below hWY) ⟨HD.out.ty.below hWY, HD.out.bd.below hWY, hrm⟩ ⟨HSD.out.1, HSD.out.2.1, HSD.out.2.2.1, fun c hc => by
        rcases List.mem_cons.1 hc with h | h
        · rw [h]
          refine HSD.out.2.2.2 _ ?_
          rw [hcons]
          exact List.mem_cons_self
        · exact HSD.out.2.2.2 c h⟩
      ⟨by show (_ :: d.Cons).length ≤ 20; rw [List.length_cons]; have := HGG.out.1; omega, by
        show (d.Cons.headD [] :: d.Cons).flatten.length ≤ 1000
        rw [List.flatten_cons, List.length_append]
        have h1 : d.Cons.headD [] ∈ d.Cons := by rw [hcons]; exact List.mem_cons_self
        have := HGG.out.2 _ h1
        omega⟩
  have sl := sch_less nmB freeN HSV.out
  have sm := sch_more nmB freeN HSV.out HT0.out
  have sb := based_less nmB freeN HSV.out
  have KM := ham.chk
  have KL := hal.chk
  have KQ := hal.bas
  rw [sl] at KL
  obtain ⟨fv, hfv⟩ : ∃ x, schE nmB freeN (moreD d) = x := ⟨_, rfl⟩
  obtain ⟨bl2, hbl2⟩ : ∃ x, basedB nmB freeN (lessD d) = x := ⟨_, rfl⟩
  rw [hfv] at KM sm
  rw [hbl2] at KQ sb
  rw [HBV.out] at sb
  obtain ⟨zf, hzf⟩ : ∃ z, (fv == 0) = z := ⟨_, rfl⟩
  have hN6 : decide ((N9 : Int) ≤ 6) = zf := by
    rw [← hzf, Bool.eq_iff_iff, decide_eq_true_eq, beq_iff_eq, sm, HP.out]
    omega
  have hN9m : N9 ≤ 9223372036854775807 := by omega
  have A1 := Lib.hid KM
  have A2 := Lib.hid KL
  have A3 := Lib.hid KQ
  have HWY := Lib.hid hWY
  have HSB := Lib.hid sb
  have HKC := Lib.hid hkc
  have m0 := bm.cell 0; have m1 := bm.cell 1; have m2 := bm.cell 2; have m3 := bm.cell 3; have m4 := bm.cell 4; have m5 := bm.cell 5
  have l0 := bl.cell 0; have l1 := bl.cell 1; have l2 := bl.cell 2; have l3 := bl.cell 3; have l4 := bl.cell 4; have l5 := bl.cell 5
  simp only [List.getElem?_toArray, List.getElem?_cons_zero, List.getElem?_cons_succ] at m0 m1 m2 m3 m4 m5 l0 l1 l2 l3 l4 l5
  have HBM := Lib.hid bm
  have HBLL := Lib.hid bl
  have n0 := hkc 0 _ K0.out; have n1 := hkc 1 _ K1.out; have n2 := hkc 2 _ K2.out; have n3' := hkc 3 _ K3.out; have n4 := hkc 4 _ K4.out; have n5 := hkc 5 _ K5.out
  rw [HP.out] at n5
  have M0 := Lib.hid m0; have M1 := Lib.hid m1; have M2 := Lib.hid m2; have M3 := Lib.hid m3; have M4 := Lib.hid m4; have M5 := Lib.hid m5
  have L0 := Lib.hid l0; have L1 := Lib.hid l1; have L2 := Lib.hid l2; have L3 := Lib.hid l3; have L4 := Lib.hid l4; have L5 := Lib.hid l5
  have N0 := Lib.hid n0; have N1 := Lib.hid n1; have N2 := Lib.hid n2; have N3 := Lib.hid n3'; have N4 := Lib.hid n4; have N5 := Lib.hid n5
  have hly : yl + 1 < Y.heap.size := bm.lt
  have HRD : Hid (∀ w', Below Y.heap.size Y w' → ∀ q j v, q ≤ yl + 1 → Y.cell? ⟨q, j, none⟩ = some v → w'.cell? ⟨q, j, none⟩ = some v) := Lib.hid (fun w' hb q j v hq hv => (hb.cell (p := ⟨q, j, none⟩) (by show q < _; omega)).trans hv)
  have HY0 := Lib.hid hy05
  rw [hY]
  clear hY hch bm bl hWY hkc hrow9 hcons hrm hrl hfl hal ham sl sm sb KM KL KQ hfv hbl2 w5c w5f hly l0 l1 l2 l3 l4 l5 n0 n1 n2 n3' n4 n5 HO9 HB9 HVR HVE HVL HR0
  go_wp2_with fail
  refine (A1.out _ (Below.refl _ _)).mono ?_
  rintro e x1 ⟨rfl, hx1⟩
  have Z1 := Lib.hid hx1
  clear m0 m1 m2 m3 m4 m5
  have l0 := HRD.out _ hx1 _ _ _ (by omega) L0.out; have l1 := HRD.out _ hx1 _ _ _ (by omega) L1.out; have l2 := HRD.out _ hx1 _ _ _ (by omega) L2.out; have l3 := HRD.out _ hx1 _ _ _ (by omega) L3.out; have l4 := HRD.out _ hx1 _ _ _ (by omega) L4.out; have l5 := HRD.out _ hx1 _ _ _ (by omega) L5.out
  clear hx1 A1
  go_wp2_with fail
  refine (A2.out _ Z1.out).mono ?_
  rintro e x2 ⟨rfl, hx2'⟩
  have hx2 := Z1.out.trans (hx2'.mono Z1.out.size)
  have Z2 := Lib.hid hx2
  clear l0 l1 l2 l3 l4 l5
  have m5 := HRD.out _ hx2 _ _ _ (by omega) M5.out
  have l0 := HRD.out _ hx2 _ _ _ (by omega) L0.out; have l1 := HRD.out _ hx2 _ _ _ (by omega) L1.out; have l2 := HRD.out _ hx2 _ _ _ (by omega) L2.out; have l3 := HRD.out _ hx2 _ _ _ (by omega) L3.out; have l4 := HRD.out _ hx2 _ _ _ (by omega) L4.out; have l5 := HRD.out _ hx2 _ _ _ (by omega) L5.out
  have q9 : (zf == zf) = true := by simp
  clear hx2 hx2' A2
  go_wp2_with fail
  refine (A3.out _ Z2.out).mono ?_
  rintro e x3 ⟨rfl, hx3'⟩
  have hx3 := Z2.out.trans (hx3'.mono Z2.out.size)
  have Z3 := Lib.hid hx3
  clear l0 l1 l2 l3 l4 l5 m5
  have n0 := HRD.out _ hx3 _ _ _ (by have := HY0.out; omega) N0.out; have n1 := HRD.out _ hx3 _ _ _ (by have := HY0.out; omega) N1.out; have n2 := HRD.out _ hx3 _ _ _ (by have := HY0.out; omega) N2.out; have n3 := HRD.out _ hx3 _ _ _ (by have := HY0.out; omega) N3.out; have n4 := HRD.out _ hx3 _ _ _ (by have := HY0.out; omega) N4.out; have n5 := HRD.out _ hx3 _ _ _ (by have := HY0.out; omega) N5.out
  clear hx3 hx3' A3
  cases bl2
  · go_wp2_with fail
    go_ret
    exact ⟨rfl, HWY.out.trans (Z3.out.mono HWY.out.size)⟩
  · have hbt : bv = true := HSB.out (by first | exact rfl | trivial)
    subst hbt
    go_wp2_with fail
    refine (KB.out _ (HWY.out.trans (Z3.out.mono HWY.out.size))).mono ?_
    rintro e x4 ⟨rfl, hx4⟩
    have Z4 := Lib.hid (Z3.out.trans (hx4.mono Z3.out.size))
    clear hx4
    go_wp2_with fail
    go_ret
    exact ⟨rfl, HWY.out.trans (Z4.out.mono HWY.out.size)⟩

end Go.Proofs.YteldkcpkamgfpaaDoor
