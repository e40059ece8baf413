/- schema.Fits; conditions: the strings' sizes, at most a million terms; where the table of shapes lies as it is laid. -/
import Derived.Test.YteldkcpkamgfpaaDoorDw
namespace Go.Proofs.YteldkcpkamgfpaaDoor
set_option linter.unusedSimpArgs false
set_option linter.unusedVariables false
open Go.RowKit
attribute [local go_sem] Oper.semAt_some

def ovK (s : ByteArray) (e : Int) (T : List (List (List Nd))) (L : List (List Int)) (j : Nat) : Bool := ((T.flatten.zip L.flatten).take j).any fun x => !(kindN s x.1 == 1) && decide (e < x.2)
theorem ovK_succ {s : ByteArray} {e : Int} {T : List (List (List Nd))} {L : List (List Int)} {j : Nat} {t : List Nd} {n : Int} (hj : j < T.flatten.length) (ht : T.flatten[j] = t) (hn : L.flatten[j]? = some n) :
    ovK s e T L (j + 1) = (ovK s e T L j || (!(kindN s t == 1) && decide (e < n))) := by
  unfold ovK
  obtain ⟨hjl, hjn⟩ := List.getElem?_eq_some_iff.1 hn
  have hz : j < (T.flatten.zip L.flatten).length := by rw [List.length_zip]; omega
  rw [List.take_succ_eq_append_getElem hz, List.any_append]
  simp [ht, hjn]
theorem ovK_all (s : ByteArray) (e : Int) (T : List (List (List Nd))) (L : List (List Int)) (h : L.flatten.length = T.flatten.length) : ovK s e T L T.flatten.length = (T.flatten.zip L.flatten).any fun x => !(kindN s x.1 == 1) && decide (e < x.2) := by
  unfold ovK
  rw [List.take_of_length_le (by rw [List.length_zip]; omega)]

def FitI (s : ByteArray) (e : Int) (T : List (List (List Nd))) (L : List (List Int)) (y2 y3 : Nat) (W : World) (j : Nat) (S : Bset) (A : World) : Prop :=
  (∀ x ∈ L.flatten.take j, lvl x = true) ∧ Blk A y2 26 #[.int .i64 0] ∧ Blk A y3 26 #[.int .i64 (if ovK s e T L j then 2 else 0)] ∧ Chg (fun x => x = y3 ∨ W.heap.size ≤ x) W A ∧ (∀ x, S x → W.heap.size ≤ x)
def FitX (L : List (List Int)) (y2 y3 : Nat) (W : World) (c : Code) (j : Nat) (S : Bset) (A : World) : Prop :=
  c = .ret ∧ L.flatten.all lvl = false ∧ Blk A y2 26 #[.int .i64 1] ∧ Chg (fun x => (x = y2 ∨ x = y3) ∨ W.heap.size ≤ x) W A ∧ (∀ x, S x → W.heap.size ≤ x)
theorem FitI.stab {s : ByteArray} {e : Int} {T : List (List (List Nd))} {L : List (List Int)} {y2 y3 : Nat} {W : World} (h2 : y2 < W.heap.size) (h3 : y3 < W.heap.size) : Stab (FitI s e T L y2 y3 W) := by
  intro j S A B S' ⟨q1, q2, q3, q4, q5⟩ hc hs
  refine ⟨q1, q2.stab (fun h => by have := q5 _ h; omega) hc, q3.stab (fun h => by have := q5 _ h; omega) hc, q4.trans (hc.mono fun x _ h => .inr (q5 x h)), fun x hx => ?_⟩
  rcases hs x hx with h | h
  · exact q5 x h
  · have := q4.size; omega
theorem FitX.stab {L : List (List Int)} {y2 y3 : Nat} {W : World} {c : Code} (h2 : y2 < W.heap.size) : Stab (FitX L y2 y3 W c) := by
  intro j S A B S' ⟨q0, q1, q2, q4, q5⟩ hc hs
  refine ⟨q0, q1, q2.stab (fun h => by have := q5 _ h; omega) hc, q4.trans (hc.mono fun x _ h => .inr (q5 x h)), fun x hx => ?_⟩
  rcases hs x hx with h | h
  · exact q5 x h
  · have := q4.size; omega

set_option maxRecDepth 20000 in
set_option maxHeartbeats 8000000 in
theorem fits_any (d : Dc) (L : List (List Int)) (vt vb vc vl : Value) (w : World) (h : DeclV w d vt vb vc) (hl : ReadII w vl L) (hS : ShapesAt w) (hs : SmallNN (termsD d)) (hn : d.Cons.flatten.length ≤ 1000000) (hnm : d.Name.size ≤ maxLen) :
    Calls Tryd.prog 23 #[declV d vt vb vc, vl] w (RetB (.int .i64 (fitE nmB freeN d L)) w) := by
  have HC0 : Hid (∀ w', Below w.heap.size w w' → Calls Tryd.prog 16 #[declV d vt vb vc] w' (RetB (.int .i64 (schE nmB freeN d)) w')) := Lib.hid (fun w' hb => scheck_any d vt vb vc w' (h.below hb) (hS.below hb) hs hn hnm)
  have HE0 : Hid (∀ w', Below w.heap.size w w' → Calls Tryd.prog 41 #[vl, vc, .func (.func 42) #[] #[]] w' fun e w2 => e = .returned (.bool (decide (L.map List.length = d.Cons.map List.length))) ∧ w' = w2) :=
    Lib.hid (fun w' hb => eqshape_any L d.Cons vl vc w' (hl.below hb) (h.cons.below hb))
  have HD := Lib.hid h
  have HS := Lib.hid hS
  have HM := Lib.hid hs
  have HLV := Lib.hid hl
  obtain ⟨a1, c1, rfl⟩ := ReadN.len_slice h.ty
  obtain ⟨a2, c2, rfl⟩ := ReadN.len_slice h.bd
  obtain ⟨a3, n3, rfl⟩ := h.cons.form
  obtain ⟨a4, n4, rfl⟩ := hl.form
  unfold declV at HC0 ⊢
  clear h hS hs hn hnm hl
  obtain ⟨R, hR⟩ : ∃ R, fitE nmB freeN d L = R := ⟨_, rfl⟩
  have HR : Hid (R = if schE nmB freeN d = 0 then (if decide (L.map List.length = d.Cons.map List.length) && L.flatten.all lvl then (if ((d.Cons.flatten.zip L.flatten).any fun x => !(kindN d.Name x.1 == 1) && decide (d.Level < x.2)) then 2 else 0) else 1) else schE nmB freeN d) := Lib.hid hR.symm
  rw [hR]
  have HL : Hid (schE nmB freeN d = 0 → ∀ t, t ∈ d.Cons.flatten → SmallN t) := Lib.hid (fun hz t ht => HM.out t (by
    have hk := ((sch_zero nmB freeN d).1 hz).1
    unfold termsD; rw [if_neg (by omega), if_neg (by omega), if_pos hk]; exact ht))
  obtain ⟨C, hC⟩ : ∃ C, schE nmB freeN d = C := ⟨_, rfl⟩
  rw [hC] at HR HC0 HL
  clear hR hC
  have HV : Hid (ReadNNN w (.slice a3 d.Cons.length n3) d.Cons) := Lib.hid HD.out.cons
  obtain ⟨kd, hkd⟩ : ∃ k, d.Kind = k := ⟨_, rfl⟩
  obtain ⟨lev, hlv⟩ : ∃ k, d.Level = k := ⟨_, rfl⟩
  obtain ⟨nm, hnm⟩ : ∃ k, d.Name = k := ⟨_, rfl⟩
  obtain ⟨p, hp⟩ : ∃ k, d.Ty.length = k := ⟨_, rfl⟩
  obtain ⟨q, hq⟩ : ∃ k, d.Bd.length = k := ⟨_, rfl⟩
  obtain ⟨T, hT⟩ : ∃ k, d.Cons = k := ⟨_, rfl⟩
  rw [hkd, hlv, hnm, hp, hq, hT] at HC0 ⊢
  rw [hlv, hnm, hT] at HR
  rw [hT] at HL HV HE0
  clear hkd hlv hnm hp hq hT HD HM
  obtain ⟨sb, hsb⟩ : ∃ b, decide (L.map List.length = T.map List.length) = b := ⟨_, rfl⟩
  have HSB := Lib.hid hsb
  rw [hsb] at HR HE0
  clear hsb
  obtain ⟨y0, hy0⟩ : ∃ y, w.heap.size = y := ⟨_, rfl⟩
  obtain ⟨W1, hW1⟩ : ∃ m, ((w.alloc (.cells #[.int .i64 kd, .int .i64 lev, .string nm, .slice a1 p c1, .slice a2 q c2, .slice a3 T.length n3] 36)).alloc (.cells #[.slice a4 L.length n4] 44)).alloc (.cells #[.int .i64 0] 26) = m := ⟨_, rfl⟩
  have b0 : Blk W1 y0 36 #[.int .i64 kd, .int .i64 lev, .string nm, .slice a1 p c1, .slice a2 q c2, .slice a3 T.length n3] := by rw [← hW1, ← hy0]; exact ((Blk.new _ _ _).alloc _).alloc _
  have b1 : Blk W1 (y0 + 1) 44 #[.slice a4 L.length n4] := by
    rw [← hW1, ← hy0]
    have := Blk.new (w.alloc (.cells #[.int .i64 kd, .int .i64 lev, .string nm, .slice a1 p c1, .slice a2 q c2, .slice a3 T.length n3] 36)) 44 #[.slice a4 L.length n4]
    rw [World.size_alloc] at this
    exact this.alloc _
  have b2 : Blk W1 (y0 + 1 + 1) 26 #[.int .i64 0] := by
    rw [← hW1, ← hy0]
    have := Blk.new ((w.alloc (.cells #[.int .i64 kd, .int .i64 lev, .string nm, .slice a1 p c1, .slice a2 q c2, .slice a3 T.length n3] 36)).alloc (.cells #[.slice a4 L.length n4] 44)) 26 #[.int .i64 0]
    rw [World.size_alloc, World.size_alloc] at this
    exact this
  have hb1 : Below w.heap.size w W1 := by rw [← hW1]; exact (((Below.refl _ _).alloc (Nat.le_refl _) _).alloc (by simp) _).alloc (by simp; omega) _
  have c0 := b0.cell 0
  have c1' := b0.cell 1
  have c2' := b0.cell 2
  have c3 := b0.cell 3
  have c4 := b0.cell 4
  have c5 := b0.cell 5
  simp only [List.getElem?_toArray, List.getElem?_cons_zero, List.getElem?_cons_succ] at c0 c1' c2' c3 c4 c5
  have B0 := Lib.hid b0
  have B1 := Lib.hid b1
  have B2 := Lib.hid b2
  have HB1 := Lib.hid hb1
  have HCW := Lib.hid (HC0.out W1 hb1)
  clear b0 b1 b2 hb1 HC0
  refine callsIn_wide.1 (callsIn_of_wp_marks (n := 3) Tryd.func23 rfl trivial ?_)
  simp only [Tryd.ntmps23, List.size_toArray, List.length_cons, List.length_nil, Nat.reduceAdd, Nat.reduceSub, Array.replicate_succ, Array.replicate_zero, List.push_toArray, List.append_toArray, List.nil_append, List.cons_append]
  gi_wp2_with fail
  refine enterW2 HCW.out ?_
  rintro e w2 ⟨rfl, hb2⟩
  have g0 := (hb2.cell (p := ⟨y0, 0, none⟩) B0.out.lt).trans c0
  have g1 := (hb2.cell (p := ⟨y0, 1, none⟩) B0.out.lt).trans c1'
  have g2 := (hb2.cell (p := ⟨y0, 2, none⟩) B0.out.lt).trans c2'
  have g3 := (hb2.cell (p := ⟨y0, 3, none⟩) B0.out.lt).trans c3
  have g4 := (hb2.cell (p := ⟨y0, 4, none⟩) B0.out.lt).trans c4
  have g5 := (hb2.cell (p := ⟨y0, 5, none⟩) B0.out.lt).trans c5
  have q0 : Hid (Blk w2 y0 36 #[.int .i64 kd, .int .i64 lev, .string nm, .slice a1 p c1, .slice a2 q c2, .slice a3 T.length n3]) := B0.out.below hb2 B0.out.lt
  have q1 : Hid (Blk w2 (y0 + 1) 44 #[.slice a4 L.length n4]) := B1.out.below hb2 B1.out.lt
  have q2 : Hid (Blk w2 (y0 + 1 + 1) 26 #[.int .i64 0]) := B2.out.below hb2 B2.out.lt
  have s0 := q1.out.cell 0
  have r0 := q2.out.cell 0
  have r1 := q2.out.frozen 0
  have HB2 : Hid (Below w.heap.size w w2) := HB1.out.trans (hb2.mono HB1.out.size)
  have HYY : Hid (w.heap.size = y0 ∧ y0 + 3 ≤ w2.heap.size) := Lib.hid ⟨hy0, q2.out.lt⟩
  clear hb2 HCW c0 c1' c2' c3 c4 c5 hW1 B0 B1 B2 hy0
  by_cases hC : C = 0
  rotate_left
  · have hb : (C != 0) = true := by simpa using hC
    have hr : R = C := by rw [HR.out, if_neg hC]
    subst hr
    gi_wp2_with fail
    have f1 := (q2.out.set_ 0 (.int .i64 R)).cell 0
    have f2 : Below w.heap.size w (w2.setCell ⟨y0 + 1 + 1, 0, none⟩ (.int .i64 R)) := HB2.out.trans ((Chg.setCell (S := fun z => z = y0 + 1 + 1) w2 ⟨y0 + 1 + 1, 0, none⟩ _ rfl).to_below (fun z h => by have := HYY.out.1; omega) HB2.out.size)
    exact postM0 (v := .int .i64 R) (by simp [results, Tryd.results23, go_sem, f1]) rfl ⟨rfl, f2⟩
  subst hC
  have hr := HR.out
  rw [if_pos rfl] at hr
  have HRR := Lib.hid hr
  have HL3 := Lib.hid (HL.out rfl)
  have HE := Lib.hid (HE0.out w2 HB2.out)
  clear hr HR HL HE0
  gi_wp2_with fail
  refine enterW2 HE.out ?_
  rintro e w3 ⟨rfl, rfl⟩
  cases sb
  · have hr : R = 1 := by rw [HRR.out]; rfl
    subst hr
    gi_wp2_with fail
    have f1 := (q2.out.set_ 0 (.int .i64 1)).cell 0
    have f2 : Below w.heap.size w (w2.setCell ⟨y0 + 1 + 1, 0, none⟩ (.int .i64 1)) := HB2.out.trans ((Chg.setCell (S := fun z => z = y0 + 1 + 1) w2 ⟨y0 + 1 + 1, 0, none⟩ _ rfl).to_below (fun z h => by have := HYY.out.1; omega) HB2.out.size)
    exact postM0 (v := .int .i64 1) (by simp [results, Tryd.results23, go_sem, f1]) rfl ⟨rfl, f2⟩
  obtain ⟨g, hg⟩ : ∃ g, w2.heap.size = g := ⟨_, rfl⟩
  obtain ⟨W3, hW3⟩ : ∃ W3, w2.alloc (.cells #[.int .i64 0] 26) = W3 := ⟨_, rfl⟩
  have HW3 := Lib.hid hW3
  have hb3 : Below w2.heap.size w2 W3 := by rw [← hW3]; exact (Below.refl _ _).alloc (Nat.le_refl _) _
  have e0 := (hb3.cell (p := ⟨y0, 0, none⟩) q0.out.lt).trans g0
  rw [← hW3] at e0
  have e1 := (hb3.cell (p := ⟨y0, 1, none⟩) q0.out.lt).trans g1
  rw [← hW3] at e1
  have e2 := (hb3.cell (p := ⟨y0, 2, none⟩) q0.out.lt).trans g2
  rw [← hW3] at e2
  have e3 := (hb3.cell (p := ⟨y0, 3, none⟩) q0.out.lt).trans g3
  rw [← hW3] at e3
  have e4 := (hb3.cell (p := ⟨y0, 4, none⟩) q0.out.lt).trans g4
  rw [← hW3] at e4
  have e5 := (hb3.cell (p := ⟨y0, 5, none⟩) q0.out.lt).trans g5
  rw [← hW3] at e5
  have hs3 : W3.heap.size = g + 1 := by rw [← hW3, ← hg]; simp
  have z3 : Blk W3 g 26 #[.int .i64 0] := by rw [← hW3, ← hg]; exact Blk.new _ _ _
  have Q0 : Hid (Blk W3 y0 36 #[.int .i64 kd, .int .i64 lev, .string nm, .slice a1 p c1, .slice a2 q c2, .slice a3 T.length n3]) := q0.out.below hb3 q0.out.lt
  have Q1 : Hid (Blk W3 (y0 + 1) 44 #[.slice a4 L.length n4]) := q1.out.below hb3 q1.out.lt
  have Q2 : Hid (Blk W3 (y0 + 1 + 1) 26 #[.int .i64 0]) := q2.out.below hb3 q2.out.lt
  have Q3 := Lib.hid z3
  have HB3 : Hid (Below w.heap.size w W3) := HB2.out.trans (hb3.mono HB2.out.size)
  have HS3 := Lib.hid hs3
  have HAG := Lib.hid (args_any (.int .i64 kd) (.int .i64 lev) (.string nm) (.slice a1 p c1) (.slice a2 q c2) (.slice a3 T.length n3) (w2.alloc (.cells #[.int .i64 0] 26)))
  have HG : Hid (w2.heap.size = g) := Lib.hid hg
  clear z3 hb3 hs3 HE hW3
  gi_wp2_with fail
  refine enterW2 HAG.out ?_
  rintro e W6 ⟨rfl, rfl⟩
  have hgw := HW3.out
  rw [hgw]
  clear e0 e1 e2 e3 e4 e5 g0 g1 g2 g3 g4 g5 q0 q1 q2 s0 r0 r1 hg HAG hgw HW3
  gi_wp2_with fail
  obtain ⟨W0, hW0⟩ : ∃ m, W3.alloc (.cells #[.int .i64 kd, .int .i64 lev, .string nm, .slice a1 p c1, .slice a2 q c2, .slice a3 T.length n3] 36) = m := ⟨_, rfl⟩
  have hbx := HS3.out
  have hs0 : W0.heap.size = g + 2 := by rw [← hW0]; simp [hbx]
  have hb0 : Below W3.heap.size W3 W0 := by rw [← hW0]; exact (Below.refl _ _).alloc (Nat.le_refl _) _
  have q4 : Blk W0 (g + 1) 36 #[.int .i64 kd, .int .i64 lev, .string nm, .slice a1 p c1, .slice a2 q c2, .slice a3 T.length n3] := by rw [← hW0, ← hbx]; exact Blk.new _ _ _
  have p0 := Q0.out.below hb0 Q0.out.lt
  have p1 := Q1.out.below hb0 Q1.out.lt
  have p2 := Q2.out.below hb0 Q2.out.lt
  have p3 := Q3.out.below hb0 Q3.out.lt
  have HB4 : Hid (Below w.heap.size w W0) := HB3.out.trans (hb0.mono HB3.out.size)
  have hyy : w.heap.size = y0 ∧ y0 + 3 ≤ g ∧ W0.heap.size = g + 2 := ⟨HYY.out.1, by have := HYY.out.2; have := HG.out; omega, hs0⟩
  have hit := args_iter 2 T (.slice a3 T.length n3) (g + 1) (fun x => x < W0.heap.size ∧ x ≠ y0 + 1 + 1 ∧ x ≠ g) w W0 HV.out HB4.out (q4.cell 5) ⟨by omega, by omega, by omega⟩ (fun z hz => ⟨by omega, by omega, by omega⟩)
  have h0 : FitI nm lev T L (y0 + 1 + 1) g W0 0 (fun _ => False) W0 := ⟨by simp, p2, p3, Chg.refl _ _, (fun x h => h.elim)⟩
  have HIT := Lib.hid hit
  have H0 := Lib.hid h0
  have P0 := Lib.hid p0
  have P1 := Lib.hid p1
  have HZZ := Lib.hid hyy
  clear hit h0 q4 p0 p1 p2 p3 hb0 HB2 HB3 Q0 Q1 Q2 Q3 HYY HG
  rw [hW0, hbx]
  clear hW0 hbx hs0 HS3
  have HYL : Hid (y0 + 1 + 1 < W0.heap.size ∧ g < W0.heap.size) := Lib.hid ⟨by omega, by omega⟩
  clear hyy
  have HSH : Hid (L.map List.length = T.map List.length) := by have := HSB.out; exact Lib.hid (of_decide_eq_true this)
  refine wpIn_rangeFunc_round (F := Fence.wide) (n := 3) (K := fun x => x < W0.heap.size ∧ x ≠ y0 + 1 + 1 ∧ x ≠ g) (w0 := W0) (N := T.flatten.length) (enc := encA w (.slice a3 T.length n3) T)
    (lb := #[.pointer (some ⟨g + 1, 0, none⟩)]) (gf := 61) rfl (by omega) rfl trivial (enters_of Tryd.func61 (by kernel_rfl) rfl) HIT.out
    (Kept.refl _ _) (Nat.le_refl _) (fun x h => h.1) (fun j => rfl) (FitI nm lev T L (y0 + 1 + 1) g W0) (FitX L (y0 + 1 + 1) g W0) (FitI.stab HYL.out.1 HYL.out.2)
    (fun c => FitX.stab HYL.out.1) H0.out ?round ?done ?stop
  case round =>
    intro l' j S A hj hi hS
    obtain ⟨i, k, hil, hkl, hjk, hjt⟩ := locT_some T j hj
    obtain ⟨b', off', cap', b1, off1, m1, a2, n2, _, _, _, _, _, e4, r4⟩ := arg_at HV.out hil hkl
    have hen : encA w (.slice a3 T.length n3) T j = #[.agg #[.int .i64 (i : Int), .int .i64 (k : Int)], .slice a2 ((T[i])[k]).length n2] := by
      unfold encA
      rw [hjk, locT_at T i k hil hkl, e4]
    rw [hen]
    have hmem : (T[i])[k] ∈ T.flatten := List.mem_flatten.2 ⟨T[i], List.getElem_mem hil, List.getElem_mem hkl⟩
    have HSM := Lib.hid (HL3.out _ hmem)
    obtain ⟨hiL, hlk⟩ := shape_at HSH.out hil
    have hkL : k < (L[i]).length := by omega
    have hfa := flat_at T L HSH.out i k hiL hkL
    rw [← hjk] at hfa
    obtain ⟨bl, ol, nl, bm, om, nm', hve, hblw, x1, hbmw, x2⟩ := level_at HLV.out hiL hkL
    obtain ⟨rfl, rfl⟩ : a4 = some ⟨bl, ol, none⟩ ∧ n4 = nl := by simpa using hve
    have hov := ovK_succ (s := nm) (e := lev) (L := L) hj hjt hfa
    have hiL9 : i < L.length := hiL
    obtain ⟨lq, hlq⟩ : ∃ q, (L[i]).length = q := ⟨_, rfl⟩
    obtain ⟨n, hn⟩ : ∃ n, (L[i])[k] = n := ⟨_, rfl⟩
    rw [hlq] at x1 hkL
    rw [hn] at x2 hov hfa
    obtain ⟨t, ht⟩ : ∃ t, (T[i])[k] = t := ⟨_, rfl⟩
    rw [ht] at r4 HSM hov ⊢
    obtain ⟨u, hu⟩ : ∃ u, Value.slice a2 t.length n2 = u := ⟨_, rfl⟩
    rw [hu] at r4 ⊢
    have HI := Lib.hid hi
    have HSS := Lib.hid hS
    have HR4 := Lib.hid r4
    have HOV := Lib.hid hov
    have HFA := Lib.hid hfa
    have HX1 := Lib.hid x1
    have HX2 := Lib.hid x2
    clear hi hS r4 hov hfa x1 x2 ht hu hen e4 hjk hmem hn hlq hve hlk hjt
    gi_wp2_with fail
    refine ⟨⟨by simp, fun y hy _ => Below.heap_alloc _ _ _ hy⟩, fun C hC => ?_⟩
    have hy := HZZ.out
    obtain ⟨pb, hpb⟩ : ∃ p, A.heap.size = p := ⟨_, rfl⟩
    have hpS : ¬ S pb := fun h => by have := HSS.out _ h; omega
    have hpl : W0.heap.size ≤ pb := by have := HI.out.2.2.2.1.size; omega
    have hbp : Blk C pb 61 #[.int .i64 (i : Int), .int .i64 (k : Int)] := by
      rw [← hpb]
      rw [← hpb] at hpS
      exact (Blk.new _ _ _).stab hpS hC
    have hCA : Chg S A C := (Chg.alloc A _).trans hC
    obtain ⟨hz, hbl2, hbl3, hcW, hge⟩ := FitI.stab HYL.out.1 HYL.out.2 j S A C S HI.out hCA (fun b h => .inl h)
    have hBC : Below w.heap.size w C := HB4.out.trans (hcW.to_below (fun z h => by omega) HB4.out.size)
    have hsC := hcW.size
    have hcell : ∀ (a : Addr) v, a.block < w.heap.size → w.cell? a = some v → C.cell? a = some v := fun a v ha hv => (hBC.cell ha).trans hv
    obtain ⟨kn, hkn⟩ : ∃ v, kindN nm t = v := ⟨_, rfl⟩
    rw [hkn] at HOV
    have HCALL : Hid (∀ wx, Below C.heap.size C wx → Calls Tryd.prog 31 #[.string nm, u] wx (RetB (.int .i64 kn) wx)) := by
      show ∀ wx, _
      intro wx hx
      rw [← hkn]
      have hbx := hBC.trans (hx.mono hBC.size)
      exact kind_any nm t u wx (HS.out.below hbx) (HR4.out.below hbx) HSM.out
    have u1 : C.cell? ⟨y0, 1, none⟩ = some (.int .i64 lev) := hcW.cell (by show ¬ (y0 = g ∨ W0.heap.size ≤ y0); omega) (P0.out.cell 1)
    have u2 : C.cell? ⟨y0, 2, none⟩ = some (.string nm) := hcW.cell (by show ¬ (y0 = g ∨ W0.heap.size ≤ y0); omega) (P0.out.cell 2)
    have u3 : C.cell? ⟨y0 + 1, 0, none⟩ = some (.slice (some ⟨bl, ol, none⟩) L.length n4) := hcW.cell (by show ¬ (y0 + 1 = g ∨ W0.heap.size ≤ y0 + 1); omega) (P1.out.cell 0)
    have u4 : C.cell? ⟨pb, 0, none⟩ = some (.int .i64 (i : Int)) := hbp.cell 0
    have u5 : C.cell? ⟨pb, 1, none⟩ = some (.int .i64 (k : Int)) := hbp.cell 1
    have u6 : C.cell? ⟨bl, ol + i, none⟩ = some (.slice (some ⟨bm, om, none⟩) lq nm') := hcell ⟨bl, ol + i, none⟩ _ hblw HX1.out
    have u7 : C.cell? ⟨bm, om + k, none⟩ = some (.int .i64 n) := hcell ⟨bm, om + k, none⟩ _ hbmw HX2.out
    have HBL2 := Lib.hid hbl2
    have HBL3 := Lib.hid hbl3
    have HCW := Lib.hid hcW
    have HGE := Lib.hid hge
    have HZ := Lib.hid hz
    have HCS : Hid (W0.heap.size ≤ C.heap.size) := Lib.hid hsC
    rw [hpb]
    clear hbp hbl2 hbl3 hcW hge hBC hz hCA hC hkn hpS hpl hpb hy hsC hcell HI
    gi_wp2_with fail
    refine wpIn_region_draws (by kernel_rfl) (by kernel_rfl) (by kernel_rfl) ?_
    repeat (first | gi_big_quiet_skip | (gi_big_quiet_want; gi_big_quiet_op; go_big_quiet_on))
    refine wpQuietIn_nil ?_
    rintro w6' ⟨rq, rfl⟩
    obtain ⟨C1, hC1⟩ : ∃ w6, C.drewN rq = w6 := ⟨_, rfl⟩
    have hb1 : Below C.heap.size C C1 := by rw [← hC1]; exact below_drewN (Below.refl _ _) rq
    have HCK := Lib.hid (check_any n C1)
    have HLT : Hid (y0 + 1 + 1 < C.heap.size ∧ g < C.heap.size ∧ y0 < C.heap.size) := Lib.hid (by have := HCS.out; have := HZZ.out; omega)
    rw [hC1]
    have HB1 := Lib.hid hb1
    clear hC1 hb1 u3 u4 u5 u6 u7
    gi_wp2_with fail
    refine enterR2 HCK.out ?_
    rintro e w5 ⟨rfl, hb5⟩
    have hb5' := HB1.out.trans (hb5.mono HB1.out.size)
    have HB5 := Lib.hid hb5'
    have v1 := (hb5'.cell (p := ⟨y0, 1, none⟩) HLT.out.2.2).trans u1
    have v2 := (hb5'.cell (p := ⟨y0, 2, none⟩) HLT.out.2.2).trans u2
    have x2 := HBL2.out.below hb5' HLT.out.1
    have x3 := HBL3.out.below hb5' HLT.out.2.1
    have s0 := x2.cell 0
    have s1 := x2.frozen 0
    have X2 := Lib.hid x2
    have X3 := Lib.hid x3
    have HKP : Hid (Kept (fun b => S b ∨ (b < W0.heap.size ∧ b ≠ y0 + 1 + 1 ∧ b ≠ g)) C w5) := Lib.hid ⟨hb5'.size, fun b hb _ => hb5'.block b hb⟩
    have HCC : Hid (Chg (fun x => x = g ∨ W0.heap.size ≤ x) W0 w5) := Lib.hid (HCW.out.trans (Chg.fresh hb5'))
    clear hb5 hb5' x2 x3 HCK u1 u2
    cases hlv : lvl n
    · have hlv2 : lv n = false := hlv
      rw [hlv2]
      have hall : L.flatten.all lvl = false := by
        rw [List.all_eq_false]
        obtain ⟨h1, h2⟩ := List.getElem?_eq_some_iff.1 HFA.out
        exact ⟨n, by rw [← h2]; exact List.getElem_mem h1, by rw [hlv]; decide⟩
      have HALL := Lib.hid hall
      clear hall hlv hlv2 v1 v2
      gi_wp2_with fail
      refine ⟨HKP.out.trans ((Chg.setCell (S := fun z => z = y0 + 1 + 1) w5 ⟨y0 + 1 + 1, 0, none⟩ _ rfl).kept (fun b h => ?_)), rfl, HALL.out, X2.out.set_ 0 (.int .i64 1), (HCC.out.mono fun b _ h => ?_).trans (Chg.setCell _ _ _ (.inl (.inl rfl))), HGE.out⟩
      · have hy := HZZ.out
        rcases h with h | h
        · have := HGE.out b h
          omega
        · exact h.2.1
      · rcases h with h | h
        · exact .inl (.inr h)
        · exact .inr h
    · have hlv2 : lv n = true := hlv
      rw [hlv2]
      have hz2 : ∀ x ∈ L.flatten.take (j + 1), lvl x = true := fun x hx => by
        obtain ⟨h1, h2⟩ := List.getElem?_eq_some_iff.1 HFA.out
        rw [List.take_succ_eq_append_getElem h1] at hx
        rcases List.mem_append.1 hx with h | h
        · exact HZ.out x h
        · simp at h; rw [h, h2]; exact hlv
      have HZ2 := Lib.hid hz2
      clear hz2 hlv hlv2 s0 s1
      by_cases hgt : n > lev
      rotate_left
      · have d1 : decide (n > lev) = false := by rw [decide_eq_false_iff_not]; exact hgt
        have d2 : decide (lev < n) = false := by rw [decide_eq_false_iff_not]; exact hgt
        have hov : ovK nm lev T L (j + 1) = ovK nm lev T L j := by rw [HOV.out, d2]; simp
        have HOV2 := Lib.hid hov
        clear hov v2
        gi_wp2_with fail
        refine ⟨trivial, ?_⟩
        gi_wp2_with fail
        exact ⟨HKP.out, HZ2.out, X2.out, by rw [HOV2.out]; exact X3.out, HCC.out, HGE.out⟩
      · have d1 : decide (n > lev) = true := by rw [decide_eq_true_eq]; exact hgt
        have d2 : decide (lev < n) = true := by rw [decide_eq_true_eq]; exact hgt
        have HKC := Lib.hid (HCALL.out w5 HB5.out)
        have HD2 := Lib.hid d2
        clear HCALL d2
        gi_wp2_with fail
        refine enterR2 HKC.out ?_
        rintro e w7 ⟨rfl, hb7⟩
        have hlt5 : y0 + 1 + 1 < w5.heap.size ∧ g < w5.heap.size := ⟨X2.out.lt, X3.out.lt⟩
        have x2 := X2.out.below hb7 hlt5.1
        have x3 := X3.out.below hb7 hlt5.2
        have s0 := x3.cell 0
        have s1 := x3.frozen 0
        have Y2 := Lib.hid x2
        have Y3 := Lib.hid x3
        have HK7 : Hid (Kept (fun b => S b ∨ (b < W0.heap.size ∧ b ≠ y0 + 1 + 1 ∧ b ≠ g)) C w7) := Lib.hid (HKP.out.trans ⟨hb7.size, fun b hb _ => hb7.block b hb⟩)
        have HC7 : Hid (Chg (fun x => x = g ∨ W0.heap.size ≤ x) W0 w7) := Lib.hid (HCC.out.trans (Chg.fresh hb7))
        clear hb7 hlt5 x2 x3 HKC v1 v2
        by_cases hk : kn = 1
        · subst hk
          have hov : ovK nm lev T L (j + 1) = ovK nm lev T L j := by rw [HOV.out]; simp
          have HOV2 := Lib.hid hov
          clear hov
          gi_wp2_with fail
          exact ⟨HK7.out, HZ2.out, Y2.out, by rw [HOV2.out]; exact Y3.out, HC7.out, HGE.out⟩
        · have d3 : (kn != 1) = true := by simpa using hk
          have d4 : (kn == 1) = false := by simpa using hk
          have hov : ovK nm lev T L (j + 1) = true := by rw [HOV.out, HD2.out, d4]; simp
          have HOV2 := Lib.hid hov
          clear hov d4
          gi_wp2_with fail
          refine ⟨HK7.out.trans ((Chg.setCell (S := fun z => z = g) w7 ⟨g, 0, none⟩ _ rfl).kept (fun b h => ?_)), HZ2.out, Y2.out.far (by show y0 + 1 + 1 ≠ g; have := HZZ.out; omega) _, ?_, HC7.out.trans (Chg.setCell _ _ _ (.inl rfl)), HGE.out⟩
          · have hy := HZZ.out
            rcases h with h | h
            · have := HGE.out b h
              omega
            · exact h.2.2
          · rw [HOV2.out]
            exact Y3.out.set_ 0 (.int .i64 2)
  case done =>
    intro D S A hi hSD hwD hK
    obtain ⟨hz, hbl2, hbl3, hcW, hge⟩ := hi
    have hy := HZZ.out
    have s0 := hbl2.cell 0
    have s1 := hbl2.frozen 0
    have s2 := hbl3.cell 0
    obtain ⟨x, hx⟩ : ∃ x, (if ovK nm lev T L T.flatten.length then (2 : Int) else 0) = x := ⟨_, rfl⟩
    have hr : R = x := by
      have hall : L.flatten.all lvl = true := by
        rw [List.all_eq_true]
        intro y hy
        refine hz y ?_
        rw [List.take_of_length_le (by rw [flat_len HSH.out]; exact Nat.le_refl _)]
        exact hy
      rw [HRR.out, hall, ← hx, ovK_all _ _ _ _ (flat_len HSH.out)]
      rfl
    rw [hx] at s2
    subst hr
    have hK2 : (A.setCell ⟨y0 + 1 + 1, 0, none⟩ (.int .i64 R)).heap[D]? = some (.deferred (some [])) := (Below.heap_setCell A ⟨y0 + 1 + 1, 0, none⟩ _ D (by show D ≠ y0 + 1 + 1; omega)).trans hK
    have hbl4 := (hbl2.set_ 0 (.int .i64 R)).stab (B := (A.setCell ⟨y0 + 1 + 1, 0, none⟩ (.int .i64 R)).putObj D (.deferred none)) (S := fun z => z = D) (by show ¬ (y0 + 1 + 1 = D); omega) (Chg.putObj _ _ _ rfl)
    have f1 := hbl4.cell 0
    have f2 : Below w.heap.size w ((A.setCell ⟨y0 + 1 + 1, 0, none⟩ (.int .i64 R)).putObj D (.deferred none)) :=
      HB4.out.trans (((hcW.mono (T := fun z => y0 ≤ z) fun b _ h => by omega).trans ((Chg.setCell (S := fun z => y0 ≤ z) A ⟨y0 + 1 + 1, 0, none⟩ _ (by show y0 ≤ y0 + 1 + 1; omega)).trans (Chg.putObj _ _ _ (by show y0 ≤ D; omega)))).to_below (fun z h => by omega) HB4.out.size)
    have F1 := Lib.hid f1
    have F2 := Lib.hid f2
    have HK2 := Lib.hid hK2
    clear hz hbl2 hbl3 hcW hge hbl4 f1 f2 hK hK2 hy HRR hx
    gi_wp2_with fail
    have f1 := F1.out
    exact postM1 HK2.out rfl (v := .int .i64 R) (by simp [results, Tryd.results23, go_sem, f1]) ⟨rfl, F2.out⟩
  case stop =>
    intro D c j S A hj hx hSD hwD hKD
    obtain ⟨rfl, hall, hbl, hcW, hge⟩ := hx
    have hy := HZZ.out
    have hbl2 := hbl.stab (B := A.putObj D (.deferred none)) (S := fun z => z = D) (by show ¬ (y0 + 1 + 1 = D); omega) (Chg.putObj _ _ _ rfl)
    have f1 := hbl2.cell 0
    have hr : R = 1 := by rw [HRR.out, hall]; rfl
    subst hr
    have f2 : Below w.heap.size w (A.putObj D (.deferred none)) :=
      HB4.out.trans (((hcW.mono (T := fun z => y0 ≤ z) fun b _ h => by omega).trans (Chg.putObj _ _ _ (by show y0 ≤ D; omega))).to_below (fun z h => by omega) HB4.out.size)
    have F1 := Lib.hid f1
    have F2 := Lib.hid f2
    clear hbl hcW hge hbl2 f1 f2 hy HRR hall
    gi_wp2_with fail
    have f1 := F1.out
    exact postM1 hKD rfl (v := .int .i64 1) (by simp [results, Tryd.results23, go_sem, f1]) ⟨rfl, F2.out⟩

end Go.Proofs.YteldkcpkamgfpaaDoor
