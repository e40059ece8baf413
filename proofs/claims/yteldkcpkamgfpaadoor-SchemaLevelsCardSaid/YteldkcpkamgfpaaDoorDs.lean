/- schema.Check: whether a declaration may be an inductive type; conditions: the strings' sizes, at most a million terms; where the table of shapes lies as it is laid. -/
import Derived.Test.YteldkcpkamgfpaaDoorDr
import Derived.Test.YteldkcpkamgfpaaDoorDf
namespace Go.Proofs.YteldkcpkamgfpaaDoor
set_option linter.unusedSimpArgs false
set_option linter.unusedVariables false
open Go.RowKit
attribute [local go_sem] Oper.semAt_some

theorem pos_skip (s : ByteArray) (L : List (List Nd)) (k : Nat) (h : ∀ t ∈ L.take k, posE s t = 0) : fstE (L.map (posE s)) = fstE ((L.drop k).map (posE s)) := by
  have := fstE_skip (L.map (posE s)) k (fun e he => by
    rw [← List.map_take] at he
    obtain ⟨t, ht, rfl⟩ := List.mem_map.1 he
    exact h t ht)
  rw [this, List.map_drop]

def SchI (s : ByteArray) (L : List (List Nd)) (y : Nat) (W : World) (j : Nat) (S : Bset) (A : World) : Prop :=
  (∀ t ∈ L.take j, posE s t = 0) ∧ Blk A y 26 #[.int .i64 0] ∧ Chg (fun x => W.heap.size ≤ x) W A ∧ (∀ x, S x → W.heap.size ≤ x)
def SchX (s : ByteArray) (L : List (List Nd)) (y : Nat) (W : World) (c : Code) (j : Nat) (S : Bset) (A : World) : Prop :=
  c = .ret ∧ Blk A y 26 #[.int .i64 (fstE (L.map (posE s)))] ∧ Chg (fun x => x = y ∨ W.heap.size ≤ x) W A ∧ (∀ x, S x → W.heap.size ≤ x)
theorem SchI.stab {s : ByteArray} {L : List (List Nd)} {y : Nat} {W : World} (hy : y < W.heap.size) : Stab (SchI s L y W) := by
  intro j S A B S' ⟨h1, h2, h3, h4⟩ hc hs
  refine ⟨h1, h2.stab (fun h => by have := h4 _ h; omega) hc, h3.trans (hc.mono fun x _ h => h4 x h), fun x hx => ?_⟩
  rcases hs x hx with h | h
  · exact h4 x h
  · have := h3.size; omega
theorem SchX.stab {s : ByteArray} {L : List (List Nd)} {y : Nat} {W : World} {c : Code} (hy : y < W.heap.size) : Stab (SchX s L y W c) := by
  intro j S A B S' ⟨h1, h2, h3, h4⟩ hc hs
  refine ⟨h1, h2.stab (fun h => by have := h4 _ h; omega) hc, h3.trans (hc.mono fun x _ h => .inr (h4 x h)), fun x hx => ?_⟩
  rcases hs x hx with h | h
  · exact h4 x h
  · have := h3.size; omega

set_option maxRecDepth 20000 in
set_option maxHeartbeats 4000000 in
theorem scheck_any (d : Dc) (vt vb vc : Value) (w : World) (h : DeclV w d vt vb vc) (hS : ShapesAt w) (hs : SmallNN (termsD d)) (hn : d.Cons.flatten.length ≤ 1000000) (hnm : d.Name.size ≤ maxLen) :
    Calls Tryd.prog 16 #[declV d vt vb vc] w (RetB (.int .i64 (schE nmB freeN d)) w) := by
  have HC0 : Hid (∀ w', Below w.heap.size w w' → Calls Tryd.prog 34 #[declV d vt vb vc] w' (RetB (.int .i64 (chkD nmB freeN d)) w')) := Lib.hid (fun w' hb => dcheck_any d vt vb vc w' (h.below hb) (hS.below hb) hs hn hnm)
  have HD := Lib.hid h
  have HS := Lib.hid hS
  have HM := Lib.hid hs
  obtain ⟨a1, c1, rfl⟩ := ReadN.len_slice h.ty
  obtain ⟨a2, c2, rfl⟩ := ReadN.len_slice h.bd
  obtain ⟨a3, n3, rfl⟩ := h.cons.form
  unfold declV at HC0 ⊢
  clear h hS hs hn hnm
  obtain ⟨R, hR⟩ : ∃ R, schE nmB freeN d = R := ⟨_, rfl⟩
  have HR : Hid (R = if chkD nmB freeN d = 0 then (if d.Kind = 3 then fstE (d.Cons.flatten.map (posE d.Name)) else 1) else chkD nmB freeN d) := Lib.hid hR.symm
  rw [hR]
  obtain ⟨C, hC⟩ : ∃ C, chkD nmB freeN d = C := ⟨_, rfl⟩
  rw [hC] at HR HC0
  clear hR hC
  have HL : Hid (d.Kind = 3 → ∀ t, t ∈ d.Cons.flatten → SmallN t) := Lib.hid (fun hk t ht => HM.out t (by unfold termsD; rw [if_neg (by omega), if_neg (by omega), if_pos hk]; exact ht))
  have HV : Hid (ReadNNN w (.slice a3 d.Cons.length n3) d.Cons) := Lib.hid HD.out.cons
  obtain ⟨kd, hkd⟩ : ∃ k, d.Kind = k := ⟨_, rfl⟩
  obtain ⟨lv, hlv⟩ : ∃ k, d.Level = k := ⟨_, rfl⟩
  obtain ⟨nm, hnm⟩ : ∃ k, d.Name = k := ⟨_, rfl⟩
  obtain ⟨p, hp⟩ : ∃ k, d.Ty.length = k := ⟨_, rfl⟩
  obtain ⟨q, hq⟩ : ∃ k, d.Bd.length = k := ⟨_, rfl⟩
  obtain ⟨T, hT⟩ : ∃ k, d.Cons = k := ⟨_, rfl⟩
  rw [hkd, hlv, hnm, hp, hq, hT] at HC0 ⊢
  rw [hkd, hnm, hT] at HR
  rw [hkd, hT] at HL
  rw [hT] at HV
  clear hkd hlv hnm hp hq hT HD HM
  obtain ⟨W1, hW1⟩ : ∃ m, (w.alloc (.cells #[.int .i64 kd, .int .i64 lv, .string nm, .slice a1 p c1, .slice a2 q c2, .slice a3 T.length n3] 36)).alloc (.cells #[.int .i64 0] 26) = m := ⟨_, rfl⟩
  obtain ⟨y0, hy0⟩ : ∃ y, w.heap.size = y := ⟨_, rfl⟩
  have b0 : Blk W1 y0 36 #[.int .i64 kd, .int .i64 lv, .string nm, .slice a1 p c1, .slice a2 q c2, .slice a3 T.length n3] := by rw [← hW1, ← hy0]; exact (Blk.new _ _ _).alloc _
  have b1 : Blk W1 (y0 + 1) 26 #[.int .i64 0] := by
    rw [← hW1, ← hy0]
    have := Blk.new (w.alloc (.cells #[.int .i64 kd, .int .i64 lv, .string nm, .slice a1 p c1, .slice a2 q c2, .slice a3 T.length n3] 36)) 26 #[.int .i64 0]
    rw [World.size_alloc] at this
    exact this
  have hs1 : W1.heap.size = w.heap.size + 2 := by rw [← hW1]; simp
  have hb1 : Below w.heap.size w W1 := by rw [← hW1]; exact ((Below.refl _ _).alloc (Nat.le_refl _) _).alloc (by simp) _
  have c0 := b0.cell 0
  have c1' := b0.cell 1
  have c2' := b0.cell 2
  have c3 := b0.cell 3
  have c4 := b0.cell 4
  have c5 := b0.cell 5
  simp only [List.getElem?_toArray, List.getElem?_cons_zero, List.getElem?_cons_succ] at c0 c1' c2' c3 c4 c5
  have B0 := Lib.hid b0
  have B1 := Lib.hid b1
  have HS1 := Lib.hid hs1
  have HB1 := Lib.hid hb1
  have HCW := Lib.hid (HC0.out W1 hb1)
  have HC0' := Lib.hid b1.lt
  clear b0 b1 hs1 hb1 HC0
  refine callsIn_wide.1 (callsIn_of_wp_marks (n := 3) Tryd.func16 rfl trivial ?_)
  simp only [Tryd.ntmps16, List.size_toArray, List.length_cons, List.length_nil, Nat.reduceAdd, Nat.reduceSub, Array.replicate_succ, Array.replicate_zero, List.push_toArray, List.append_toArray, List.nil_append, List.cons_append]
  gi_wp2_with fail
  refine enterW2 HCW.out ?_
  rintro e w2 ⟨rfl, hb2⟩
  have g0 := (hb2.cell (p := ⟨y0, 0, none⟩) B0.out.lt).trans c0
  have g1 := (hb2.cell (p := ⟨y0, 1, none⟩) B0.out.lt).trans c1'
  have g2 := (hb2.cell (p := ⟨y0, 2, none⟩) B0.out.lt).trans c2'
  have g3 := (hb2.cell (p := ⟨y0, 3, none⟩) B0.out.lt).trans c3
  have g4 := (hb2.cell (p := ⟨y0, 4, none⟩) B0.out.lt).trans c4
  have g5 := (hb2.cell (p := ⟨y0, 5, none⟩) B0.out.lt).trans c5
  have q0 : Hid (Blk w2 y0 36 #[.int .i64 kd, .int .i64 lv, .string nm, .slice a1 p c1, .slice a2 q c2, .slice a3 T.length n3]) := B0.out.below hb2 B0.out.lt
  have q1 : Hid (Blk w2 (y0 + 1) 26 #[.int .i64 0]) := B1.out.below hb2 B1.out.lt
  have r0 := q1.out.cell 0
  have r1 := q1.out.frozen 0
  have HB2 : Hid (Below w.heap.size w w2) := HB1.out.trans (hb2.mono HB1.out.size)
  have HSZ2 : Hid (y0 + 2 ≤ w2.heap.size) := Lib.hid (by have := hb2.size; have := HS1.out; rw [← hy0]; omega)
  clear hb2 HCW c0 c1' c2' c3 c4 c5 hW1 B0 B1
  have HY0 := Lib.hid hy0
  by_cases hC : C = 0
  rotate_left
  · have hb : (C != 0) = true := by simpa using hC
    have hr : R = C := by rw [HR.out, if_neg hC]
    subst hr
    gi_wp2_with fail
    have f1 := (q1.out.set_ 0 (.int .i64 R)).cell 0
    have f2 : Below w.heap.size w (w2.setCell ⟨y0 + 1, 0, none⟩ (.int .i64 R)) := HB2.out.trans ((Chg.setCell (S := fun z => z = y0 + 1) w2 ⟨y0 + 1, 0, none⟩ _ rfl).to_below (fun z h => by have := HY0.out; omega) HB2.out.size)
    exact postM0 (v := .int .i64 R) (by simp [results, Tryd.results16, go_sem, f1]) rfl ⟨rfl, f2⟩
  subst hC
  by_cases hk : kd = 3
  rotate_left
  · have hb : (kd != 3) = true := by simpa using hk
    have hr : R = 1 := by rw [HR.out, if_pos rfl, if_neg hk]
    subst hr
    gi_wp2_with fail
    have f1 := (q1.out.set_ 0 (.int .i64 1)).cell 0
    have f2 : Below w.heap.size w (w2.setCell ⟨y0 + 1, 0, none⟩ (.int .i64 1)) := HB2.out.trans ((Chg.setCell (S := fun z => z = y0 + 1) w2 ⟨y0 + 1, 0, none⟩ _ rfl).to_below (fun z h => by have := HY0.out; omega) HB2.out.size)
    exact postM0 (v := .int .i64 1) (by simp [results, Tryd.results16, go_sem, f1]) rfl ⟨rfl, f2⟩
  subst hk
  have hr : R = fstE (T.flatten.map (posE nm)) := by rw [HR.out, if_pos rfl, if_pos rfl]
  have HRR := Lib.hid hr
  have hag := args_any (.int .i64 3) (.int .i64 lv) (.string nm) (.slice a1 p c1) (.slice a2 q c2) (.slice a3 T.length n3) w2
  have HAG := Lib.hid hag
  have hl3 := HL.out rfl
  have HL3 := Lib.hid hl3
  clear hr hag hl3 HR HL
  gi_wp2_with fail
  refine enterW2 HAG.out ?_
  rintro e W6 ⟨rfl, rfl⟩
  gi_wp2_with fail
  obtain ⟨W0, hW0⟩ : ∃ m, w2.alloc (.cells #[.int .i64 3, .int .i64 lv, .string nm, .slice a1 p c1, .slice a2 q c2, .slice a3 T.length n3] 36) = m := ⟨_, rfl⟩
  obtain ⟨bx, hbx⟩ : ∃ y, w2.heap.size = y := ⟨_, rfl⟩
  have hs0 : W0.heap.size = bx + 1 := by rw [← hW0, ← hbx]; simp
  have hb0 : Below w2.heap.size w2 W0 := by rw [← hW0]; exact (Below.refl _ _).alloc (Nat.le_refl _) _
  have q2 : Blk W0 bx 36 #[.int .i64 3, .int .i64 lv, .string nm, .slice a1 p c1, .slice a2 q c2, .slice a3 T.length n3] := by rw [← hW0, ← hbx]; exact Blk.new _ _ _
  have p0 := q0.out.below hb0 q0.out.lt
  have p1 := q1.out.below hb0 q1.out.lt
  have HB3 : Hid (Below w.heap.size w W0) := HB2.out.trans (hb0.mono HB2.out.size)
  have hyy : y0 + 1 < bx ∧ bx + 1 = W0.heap.size ∧ w.heap.size = y0 := ⟨by have := HSZ2.out; omega, by omega, HY0.out⟩
  have hit := args_iter 2 T (.slice a3 T.length n3) bx (fun x => x < W0.heap.size ∧ x ≠ y0 + 1) w W0 HV.out HB3.out (q2.cell 5) ⟨by omega, by omega⟩ (fun g hg => ⟨by omega, by omega⟩)
  have h0 : SchI nm T.flatten (y0 + 1) W0 0 (fun _ => False) W0 := ⟨by simp, p1, Chg.refl _ _, (fun x h => h.elim)⟩
  have HIT := Lib.hid hit
  have H0 := Lib.hid h0
  have P0 := Lib.hid p0
  have HYY := Lib.hid hyy
  clear hit h0 q2 p0 p1 hb0 HB2 g0 g1 g2 g3 g4 g5 r0 r1 q0 q1 HAG
  rw [hW0, hbx]
  clear hW0 hbx hs0 HSZ2
  have HYL : Hid (y0 + 1 < W0.heap.size) := Lib.hid (by omega)
  clear hyy
  refine wpIn_rangeFunc_round (F := Fence.wide) (n := 3) (K := fun x => x < W0.heap.size ∧ x ≠ y0 + 1) (w0 := W0) (N := T.flatten.length) (enc := encA w (.slice a3 T.length n3) T)
    (lb := #[.pointer (some ⟨bx, 0, none⟩)]) (gf := 61) rfl (by omega) rfl trivial (enters_of Tryd.func61 (by kernel_rfl) rfl) HIT.out
    (Kept.refl _ _) (Nat.le_refl _) (fun x h => h.1) (fun j => rfl) (SchI nm T.flatten (y0 + 1) W0) (SchX nm T.flatten (y0 + 1) W0) (SchI.stab HYL.out)
    (fun c => SchX.stab HYL.out) H0.out ?round ?done ?stop
  case round =>
    intro l' j S A hj hi hS
    obtain ⟨i, k, hil, hkl, hjk, hjt⟩ := locT_some T j hj
    obtain ⟨b', off', cap', b1, off1, m1, a2, n2, _, _, _, _, _, e4, r4⟩ := arg_at HV.out hil hkl
    have hen : encA w (.slice a3 T.length n3) T j = #[.agg #[.int .i64 (i : Int), .int .i64 (k : Int)], .slice a2 ((T[i])[k]).length n2] := by
      unfold encA
      rw [hjk, locT_at T i k hil hkl, e4]
    rw [hen]
    obtain ⟨t, ht⟩ : ∃ t, (T[i])[k] = t := ⟨_, rfl⟩
    rw [ht] at r4 hjt ⊢
    obtain ⟨u, hu⟩ : ∃ u, Value.slice a2 t.length n2 = u := ⟨_, rfl⟩
    rw [hu] at r4 ⊢
    have HI := Lib.hid hi
    have HSS := Lib.hid hS
    have HR4 := Lib.hid r4
    have HJT := Lib.hid hjt
    have hmem : t ∈ T.flatten := by rw [← hjt]; exact List.getElem_mem hj
    have HSM := Lib.hid (HL3.out t hmem)
    clear hi hS r4 hjt ht hu hen e4 hjk hmem
    gi_wp2_with fail
    refine ⟨Kept.refl _ _, fun C hC => ?_⟩
    obtain ⟨hz, hbl, hcW, hge⟩ := SchI.stab HYL.out j S A C S HI.out hC (fun b h => .inl h)
    have hy := HYY.out
    have x2 : C.cell? ⟨y0, 2, none⟩ = some (.string nm) := hcW.cell (by show ¬ (W0.heap.size ≤ y0); omega) (P0.out.cell 2)
    have hBC : Below w.heap.size w C := HB3.out.trans (hcW.to_below (fun z h => by omega) HB3.out.size)
    have hpos := positive_any nm t u C (HS.out.below hBC) (HR4.out.below hBC) HSM.out
    obtain ⟨pv, hpv⟩ : ∃ v, posE nm t = v := ⟨_, rfl⟩
    have hfs : fstE (T.flatten.map (posE nm)) = (if pv = 0 then fstE ((T.flatten.drop (j + 1)).map (posE nm)) else pv) := by
      rw [pos_skip nm T.flatten j hz, List.drop_eq_getElem_cons hj, List.map_cons, HJT.out, hpv]
      rfl
    have hzk : pv = 0 → ∀ x ∈ T.flatten.take (j + 1), posE nm x = 0 := fun h0 x hx => by
      rw [List.take_succ_eq_append_getElem hj] at hx
      rcases List.mem_append.1 hx with h | h
      · exact hz x h
      · simp at h; rw [h, HJT.out, hpv, h0]
    rw [hpv] at hpos
    have hSC : ∀ b, S b → b < C.heap.size := fun b hb => by have h1 := HSS.out b hb; have h2 := hC.size; omega
    have s0 := hbl.cell 0
    have s1 := hbl.frozen 0
    have HP := Lib.hid hpos
    have HF := Lib.hid hfs
    have HZK := Lib.hid hzk
    have HBL := Lib.hid hbl
    have HCW := Lib.hid hcW
    have HGE := Lib.hid hge
    have HBC := Lib.hid hBC
    have HYC := Lib.hid hbl.lt
    clear hz hbl hcW hge hy hBC hpos hpv hfs hzk hSC hC
    gi_wp2_with fail
    refine enterR2 HP.out ?_
    rintro e w3 ⟨rfl, hb3⟩
    have hcc : Chg (fun x => W0.heap.size ≤ x) W0 w3 := HCW.out.trans (Chg.fresh hb3)
    have hkk : Kept (fun b => S b ∨ (b < W0.heap.size ∧ b ≠ y0 + 1)) C w3 := ⟨hb3.size, fun b hb _ => hb3.block b hb⟩
    have hbl3 := HBL.out.below hb3 HYC.out
    have t0 := hbl3.cell 0
    have t1 := hbl3.frozen 0
    have HKK := Lib.hid hkk
    have HCC := Lib.hid hcc
    have HBL3 := Lib.hid hbl3
    clear hcc hkk hbl3 hb3 HP s0 s1 x2
    by_cases h0 : pv = 0
    · subst h0
      have HZ := Lib.hid (HZK.out rfl)
      clear HZK
      gi_wp2_with fail
      exact ⟨HKK.out, HZ.out, HBL3.out, HCC.out, HGE.out⟩
    · have hb : (pv != 0) = true := by simpa using h0
      gi_wp2_with fail
      refine ⟨HKK.out.trans ((Chg.setCell (S := fun z => z = y0 + 1) w3 ⟨y0 + 1, 0, none⟩ _ rfl).kept (fun b h => ?_)), rfl, ?_, ?_, HGE.out⟩
      · have hy := HYY.out
        rcases h with h | h
        · have := HGE.out b h
          omega
        · exact h.2
      · rw [HF.out, if_neg h0]
        exact HBL3.out.set_ 0 (.int .i64 pv)
      · exact (HCC.out.mono fun b _ h => .inr h).trans (Chg.setCell _ _ _ (.inl rfl))
  case done =>
    intro D S A hi hSD hwD hK
    obtain ⟨hz, hbl, hcW, hge⟩ := hi
    have hy := HYY.out
    have s0 := hbl.cell 0
    have s1 := hbl.frozen 0
    have hr : R = 0 := by
      rw [HRR.out, pos_skip nm T.flatten T.flatten.length hz, List.drop_length]
      rfl
    subst hr
    have hK2 : (A.setCell ⟨y0 + 1, 0, none⟩ (.int .i64 0)).heap[D]? = some (.deferred (some [])) := (Below.heap_setCell A ⟨y0 + 1, 0, none⟩ _ D (by show D ≠ y0 + 1; omega)).trans hK
    have hbl2 := (hbl.set_ 0 (.int .i64 0)).stab (B := (A.setCell ⟨y0 + 1, 0, none⟩ (.int .i64 0)).putObj D (.deferred none)) (S := fun z => z = D) (by show ¬ (y0 + 1 = D); omega) (Chg.putObj _ _ _ rfl)
    have f1 := hbl2.cell 0
    have f2 : Below w.heap.size w ((A.setCell ⟨y0 + 1, 0, none⟩ (.int .i64 0)).putObj D (.deferred none)) :=
      HB3.out.trans (((hcW.mono (T := fun z => y0 ≤ z) fun b _ h => by omega).trans ((Chg.setCell (S := fun z => y0 ≤ z) A ⟨y0 + 1, 0, none⟩ _ (by show y0 ≤ y0 + 1; omega)).trans (Chg.putObj _ _ _ (by show y0 ≤ D; omega)))).to_below (fun z h => by omega) HB3.out.size)
    have F1 := Lib.hid f1
    have F2 := Lib.hid f2
    have HK2 := Lib.hid hK2
    clear hz hbl hcW hge hbl2 f1 f2 hK hK2 hy HRR
    gi_wp2_with fail
    have f1 := F1.out
    exact postM1 HK2.out rfl (v := .int .i64 0) (by simp [results, Tryd.results16, go_sem, f1]) ⟨rfl, F2.out⟩
  case stop =>
    intro D c j S A hj hx hSD hwD hKD
    obtain ⟨rfl, hbl, hcW, hge⟩ := hx
    have hy := HYY.out
    have hbl2 := hbl.stab (B := A.putObj D (.deferred none)) (S := fun z => z = D) (by show ¬ (y0 + 1 = D); omega) (Chg.putObj _ _ _ rfl)
    have f1 := hbl2.cell 0
    rw [← HRR.out] at f1
    have f2 : Below w.heap.size w (A.putObj D (.deferred none)) :=
      HB3.out.trans (((hcW.mono (T := fun z => y0 ≤ z) fun b _ h => by omega).trans (Chg.putObj _ _ _ (by show y0 ≤ D; omega))).to_below (fun z h => by omega) HB3.out.size)
    have F1 := Lib.hid f1
    have F2 := Lib.hid f2
    clear hbl hcW hge hbl2 f1 f2 hy HRR
    gi_wp2_with fail
    have f1 := F1.out
    exact postM1 hKD rfl (v := .int .i64 R) (by simp [results, Tryd.results16, go_sem, f1]) ⟨rfl, F2.out⟩

end Go.Proofs.YteldkcpkamgfpaaDoor
