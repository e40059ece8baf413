/- schema.Based; conditions: the strings' sizes, at most a million terms; where the table of shapes lies as it is laid. -/
import Derived.Test.YteldkcpkamgfpaaDoorDu
namespace Go.Proofs.YteldkcpkamgfpaaDoor
set_option linter.unusedSimpArgs false
set_option linter.unusedVariables false
open Go.RowKit
attribute [local go_sem] Oper.semAt_some

theorem Tryd.infoBool : (Tryd.prog.info? 4).map (fun i => (i.zero, i.size, i.bytes)) = some (some (.bool false), 1, 1) := by kernel_rfl

theorem run_make_bools {P : Program} (t e : TypeId) (i : TypeInfo) (ht : P.underlying t = some (.slice e)) (hi : P.info? e = some i) (hz : i.zero = some (.bool false)) (hsz : i.size = 1) (hby : i.bytes = 1) (n : Nat) (hn : n ≤ 100000) (w : World) :
    (Instr.makeSlice t (.int .i64 (n : Int)) (.int .i64 (n : Int))).run P w = .ok (.slice (some ⟨w.heap.size, 0, none⟩) n n) (w.alloc (.cells (List.replicate n (Value.bool false)).toArray e)) := by
  have hb : (i.bytes : Int) * (n : Int) ≤ 281474976710656 := by rw [hby]; omega
  have hr := run_make (P := P) w t e i _ ht hi hz .i64 .i64 n n (by omega) (by omega) hb (by omega)
  simp only [Int.toNat_natCast] at hr
  rw [hr]
  congr 3
  rw [hsz, Nat.mul_one]
  apply Array.ext'
  rw [show (Value.bool false).cells = #[Value.bool false] from rfl, toList_madeCells_one]

theorem ownK_ge {s : ByteArray} {c : List (List Nd)} {k : Nat} (h : c.length ≤ k) : ownK s c k = ownK s c c.length := by
  unfold ownK
  rw [List.take_of_length_le h, List.take_length]
theorem startT_mono (T : List (List (List Nd))) {i j : Nat} (h : i ≤ j) : startT T i ≤ startT T j := by
  unfold startT
  have : T.take i = (T.take j).take i := by rw [List.take_take]; congr 1; omega
  rw [this]
  exact flat_leG _ _
def ownArr (s : ByteArray) (T : List (List (List Nd))) (j : Nat) : List Value := (List.range T.length).map fun i => Value.bool (ownK s (T.getD i []) (j - startT T i))
theorem ownArr_len (s : ByteArray) (T : List (List (List Nd))) (j : Nat) : (ownArr s T j).length = T.length := by simp [ownArr]
theorem ownArr_zero (s : ByteArray) (T : List (List (List Nd))) : ownArr s T 0 = List.replicate T.length (Value.bool false) := by
  apply List.ext_getElem
  · simp [ownArr]
  · intro i h1 h2
    simp [ownArr, ownK]
theorem ownArr_at {s : ByteArray} {T : List (List (List Nd))} {j i : Nat} (h : i < T.length) : (ownArr s T j)[i]? = some (.bool (ownK s T[i] (j - startT T i))) := by
  unfold ownArr
  simp [h]
theorem ownArr_step {s : ByteArray} {T : List (List (List Nd))} {i k : Nat} (hi : i < T.length) (hk : k < (T[i]).length) :
    ownArr s T (startT T i + k + 1) = (ownArr s T (startT T i + k)).set i (.bool (ownK s T[i] k || kindN s (T[i])[k] == 1)) := by
  apply List.ext_getElem?
  intro x
  by_cases hx : x < T.length
  · rw [ownArr_at hx]
    by_cases e : i = x
    · subst e
      rw [List.getElem?_set_self (by rw [ownArr_len]; exact hx), show startT T i + k + 1 - startT T i = k + 1 from by omega, ownK_succ hk]
    · rw [List.getElem?_set_ne e, ownArr_at hx]
      congr 2
      rcases Nat.lt_or_gt_of_ne e with h | h
      · have h1 := startT_mono T (show i + 1 ≤ x from h)
        have h2 := startT_succ hi
        rw [show startT T i + k + 1 - startT T x = 0 from by omega, show startT T i + k - startT T x = 0 from by omega]
      · have h1 := startT_mono T (show x + 1 ≤ i from h)
        have h2 := startT_succ hx
        rw [ownK_ge (k := startT T i + k + 1 - startT T x) (by omega), ownK_ge (k := startT T i + k - startT T x) (by omega)]
  · rw [List.getElem?_eq_none (by rw [ownArr_len]; omega), List.getElem?_eq_none (by rw [List.length_set, ownArr_len]; omega)]
theorem ownArr_end (s : ByteArray) (T : List (List (List Nd))) : ownArr s T T.flatten.length = (T.map fun c => !freeC s c).map Value.bool := by
  apply List.ext_getElem?
  intro x
  by_cases hx : x < T.length
  · rw [ownArr_at hx]
    have h1 := startT_succ hx
    have h2 := startT_le T (x + 1)
    rw [ownK_ge (by omega), ownK_all]
    simp [hx]
  · rw [List.getElem?_eq_none (by rw [ownArr_len]; omega), List.getElem?_eq_none (by simp; omega)]

/-- a later world in which block g alone may have changed -/
structure BG (g : Nat) (C : World) where
  w : World
  h : Chg (fun z => z = g ∨ C.heap.size ≤ z) C w
instance (g : Nat) (C : World) : Nonempty (BG g C) := ⟨⟨C, Chg.refl _ _⟩⟩

def BasI (s : ByteArray) (T : List (List (List Nd))) (g : Nat) (W : World) (j : Nat) (S : Bset) (A : World) : Prop :=
  Blk A g 4 (ownArr s T j).toArray ∧ Chg (fun x => x = g ∨ W.heap.size ≤ x) W A ∧ (∀ x, S x → W.heap.size ≤ x)
theorem BasI.stab {s : ByteArray} {T : List (List (List Nd))} {g : Nat} {W : World} (hg : g < W.heap.size) : Stab (BasI s T g W) := by
  intro j S A B S' ⟨h2, h3, h4⟩ hc hs
  refine ⟨h2.stab (fun h => by have := h4 _ h; omega) hc, h3.trans (hc.mono fun x _ h => .inr (h4 x h)), fun x hx => ?_⟩
  rcases hs x hx with h | h
  · exact h4 x h
  · have := h3.size; omega

set_option maxRecDepth 20000 in
set_option maxHeartbeats 4000000 in
theorem based_any (d : Dc) (vt vb vc : Value) (w : World) (h : DeclV w d vt vb vc) (hS : ShapesAt w) (hs : SmallNN (termsD d)) (hn : d.Cons.flatten.length ≤ 1000000) (hnm : d.Name.size ≤ maxLen) (hcl : d.Cons.length ≤ 100000) :
    Calls Tryd.prog 19 #[declV d vt vb vc] w (RetB (.bool (basedB nmB freeN d)) w) := by
  obtain ⟨i0, hi, hz0, hz1, hz2⟩ := info_parts Tryd.infoBool
  have HC0 : Hid (∀ w', Below w.heap.size w w' → Calls Tryd.prog 16 #[declV d vt vb vc] w' (RetB (.int .i64 (schE nmB freeN d)) w')) := Lib.hid (fun w' hb => scheck_any d vt vb vc w' (h.below hb) (hS.below hb) hs hn hnm)
  have HD := Lib.hid h
  have HS := Lib.hid hS
  have HM := Lib.hid hs
  obtain ⟨a1, c1, rfl⟩ := ReadN.len_slice h.ty
  obtain ⟨a2, c2, rfl⟩ := ReadN.len_slice h.bd
  obtain ⟨a3, n3, rfl⟩ := h.cons.form
  unfold declV at HC0 ⊢
  clear h hS hs hn hnm
  obtain ⟨R, hR⟩ : ∃ R, basedB nmB freeN d = R := ⟨_, rfl⟩
  have HR : Hid (R = (schE nmB freeN d == 0 && d.Cons.any (freeC d.Name))) := Lib.hid hR.symm
  rw [hR]
  have HL : Hid (schE nmB freeN d = 0 → ∀ t, t ∈ d.Cons.flatten → SmallN t) := Lib.hid (fun hz t ht => HM.out t (by
    have hk := ((sch_zero nmB freeN d).1 hz).1
    unfold termsD; rw [if_neg (by omega), if_neg (by omega), if_pos hk]; exact ht))
  obtain ⟨C, hC⟩ : ∃ C, schE nmB freeN d = C := ⟨_, rfl⟩
  rw [hC] at HR HC0 HL
  clear hR hC
  have HV : Hid (ReadNNN w (.slice a3 d.Cons.length n3) d.Cons) := Lib.hid HD.out.cons
  obtain ⟨kd, hkd⟩ : ∃ k, d.Kind = k := ⟨_, rfl⟩
  obtain ⟨lv, hlv⟩ : ∃ k, d.Level = k := ⟨_, rfl⟩
  obtain ⟨nm, hnm⟩ : ∃ k, d.Name = k := ⟨_, rfl⟩
  obtain ⟨p, hp⟩ : ∃ k, d.Ty.length = k := ⟨_, rfl⟩
  obtain ⟨q, hq⟩ : ∃ k, d.Bd.length = k := ⟨_, rfl⟩
  obtain ⟨T, hT⟩ : ∃ k, d.Cons = k := ⟨_, rfl⟩
  rw [hkd, hlv, hnm, hp, hq, hT] at HC0 ⊢
  rw [hnm, hT] at HR
  rw [hT] at HL HV hcl
  clear hkd hlv hnm hp hq hT HD HM
  obtain ⟨W1, hW1⟩ : ∃ m, w.alloc (.cells #[.int .i64 kd, .int .i64 lv, .string nm, .slice a1 p c1, .slice a2 q c2, .slice a3 T.length n3] 36) = m := ⟨_, rfl⟩
  obtain ⟨y0, hy0⟩ : ∃ y, w.heap.size = y := ⟨_, rfl⟩
  have b0 : Blk W1 y0 36 #[.int .i64 kd, .int .i64 lv, .string nm, .slice a1 p c1, .slice a2 q c2, .slice a3 T.length n3] := by rw [← hW1, ← hy0]; exact Blk.new _ _ _
  have hb1 : Below w.heap.size w W1 := by rw [← hW1]; exact (Below.refl _ _).alloc (Nat.le_refl _) _
  have c0 := b0.cell 0
  have c1' := b0.cell 1
  have c2' := b0.cell 2
  have c3 := b0.cell 3
  have c4 := b0.cell 4
  have c5 := b0.cell 5
  simp only [List.getElem?_toArray, List.getElem?_cons_zero, List.getElem?_cons_succ] at c0 c1' c2' c3 c4 c5
  have B0 := Lib.hid b0
  have HB1 := Lib.hid hb1
  have HCW := Lib.hid (HC0.out W1 hb1)
  have hm3 : T.length ≤ 9223372036854775807 := by omega
  clear b0 hb1 HC0
  refine callsIn_wide.1 (callsIn_of_wp_marks (n := 3) Tryd.func19 rfl trivial ?_)
  simp only [Tryd.ntmps19, List.size_toArray, List.length_cons, List.length_nil, Nat.reduceAdd, Nat.reduceSub, Array.replicate_succ, Array.replicate_zero, List.push_toArray, List.append_toArray, List.nil_append, List.cons_append]
  gi_wp2_with fail
  refine enterW2 HCW.out ?_
  rintro e w2 ⟨rfl, hb2⟩
  have g0 := (hb2.cell (p := ⟨y0, 0, none⟩) B0.out.lt).trans c0
  have g1 := (hb2.cell (p := ⟨y0, 1, none⟩) B0.out.lt).trans c1'
  have g2 := (hb2.cell (p := ⟨y0, 2, none⟩) B0.out.lt).trans c2'
  have g3 := (hb2.cell (p := ⟨y0, 3, none⟩) B0.out.lt).trans c3
  have g4 := (hb2.cell (p := ⟨y0, 4, none⟩) B0.out.lt).trans c4
  have g5 := (hb2.cell (p := ⟨y0, 5, none⟩) B0.out.lt).trans c5
  have q0 : Hid (Blk w2 y0 36 #[.int .i64 kd, .int .i64 lv, .string nm, .slice a1 p c1, .slice a2 q c2, .slice a3 T.length n3]) := B0.out.below hb2 B0.out.lt
  have HB2 : Hid (Below w.heap.size w w2) := HB1.out.trans (hb2.mono HB1.out.size)
  have HYY : Hid (w.heap.size = y0 ∧ y0 + 1 ≤ w2.heap.size) := Lib.hid ⟨hy0, q0.out.lt⟩
  clear hb2 HCW c0 c1' c2' c3 c4 c5 hW1 B0 hy0
  by_cases hC : C = 0
  rotate_left
  · have hb : (C != 0) = true := by simpa using hC
    have hr : R = false := by rw [HR.out]; simp [hC]
    subst hr
    gi_wp2_with fail
    exact postM0 (results_tmp rfl _ _ _) rfl ⟨rfl, HB2.out⟩
  subst hC
  have hr : R = T.any (freeC nm) := by rw [HR.out]; simp
  have HRR := Lib.hid hr
  have HL3 := Lib.hid (HL.out rfl)
  have hmk := fun w => run_make_bools (P := Tryd.prog) 62 4 i0 Tryd.underlying62 hi hz0 hz1 hz2 T.length hcl w
  obtain ⟨g, hg⟩ : ∃ g, w2.heap.size = g := ⟨_, rfl⟩
  obtain ⟨W3, hW3⟩ : ∃ W3, ((w2.alloc (.cells (Array.replicate T.length (Value.bool false)) 4)).alloc (.cells #[.slice (some ⟨g, 0, none⟩) T.length T.length] 62)) = W3 := ⟨_, rfl⟩
  have hb3 : Below w2.heap.size w2 W3 := by rw [← hW3]; exact ((Below.refl _ _).alloc (Nat.le_refl _) _).alloc (by simp) _
  have hs3 : W3.heap.size = g + 2 := by rw [← hW3, ← hg]; simp
  have q1 : Blk W3 g 4 (ownArr nm T 0).toArray := by
    rw [← hW3, ← hg, ownArr_zero]
    have := (Blk.new w2 4 (Array.replicate T.length (Value.bool false))).alloc (.cells #[.slice (some ⟨w2.heap.size, 0, none⟩) T.length T.length] 62)
    simpa using this
  have q2 : Blk W3 (g + 1) 62 #[.slice (some ⟨g, 0, none⟩) T.length T.length] := by
    rw [← hW3, ← hg]
    have := Blk.new (w2.alloc (.cells (Array.replicate T.length (Value.bool false)) 4)) 62 #[.slice (some ⟨w2.heap.size, 0, none⟩) T.length T.length]
    rw [World.size_alloc] at this
    exact this
  have e0 := (hb3.cell (p := ⟨y0, 0, none⟩) q0.out.lt).trans g0
  have e1 := (hb3.cell (p := ⟨y0, 1, none⟩) q0.out.lt).trans g1
  have e2 := (hb3.cell (p := ⟨y0, 2, none⟩) q0.out.lt).trans g2
  have e3 := (hb3.cell (p := ⟨y0, 3, none⟩) q0.out.lt).trans g3
  have e4 := (hb3.cell (p := ⟨y0, 4, none⟩) q0.out.lt).trans g4
  have e5 := (hb3.cell (p := ⟨y0, 5, none⟩) q0.out.lt).trans g5
  have Q0 : Hid (Blk W3 y0 36 #[.int .i64 kd, .int .i64 lv, .string nm, .slice a1 p c1, .slice a2 q c2, .slice a3 T.length n3]) := q0.out.below hb3 q0.out.lt
  have HB3 : Hid (Below w.heap.size w W3) := HB2.out.trans (hb3.mono HB2.out.size)
  have Q1 := Lib.hid q1
  have Q2 := Lib.hid q2
  have HS3 := Lib.hid hs3
  have HAG := Lib.hid (args_any (.int .i64 kd) (.int .i64 lv) (.string nm) (.slice a1 p c1) (.slice a2 q c2) (.slice a3 T.length n3) W3)
  have HG : Hid (w2.heap.size = g) := Lib.hid hg
  clear hr HR HL q1 q2 hb3 hs3
  gi_wp2_with fail
  refine enterW2 HAG.out ?_
  rintro e W6 ⟨rfl, rfl⟩
  clear e0 e1 e2 e3 e4 e5 g0 g1 g2 g3 g4 g5 q0 hW3 hmk hg HAG
  gi_wp2_with fail
  obtain ⟨W0, hW0⟩ : ∃ m, W3.alloc (.cells #[.int .i64 kd, .int .i64 lv, .string nm, .slice a1 p c1, .slice a2 q c2, .slice a3 T.length n3] 36) = m := ⟨_, rfl⟩
  have hbx := HS3.out
  have hs0 : W0.heap.size = g + 3 := by rw [← hW0]; simp [hbx]
  have hb0 : Below W3.heap.size W3 W0 := by rw [← hW0]; exact (Below.refl _ _).alloc (Nat.le_refl _) _
  have q3 : Blk W0 (g + 2) 36 #[.int .i64 kd, .int .i64 lv, .string nm, .slice a1 p c1, .slice a2 q c2, .slice a3 T.length n3] := by rw [← hW0, ← hbx]; exact Blk.new _ _ _
  have p0 := Q0.out.below hb0 Q0.out.lt
  have p1 := Q1.out.below hb0 Q1.out.lt
  have p2 := Q2.out.below hb0 Q2.out.lt
  have HB4 : Hid (Below w.heap.size w W0) := HB3.out.trans (hb0.mono HB3.out.size)
  have hyy : w.heap.size = y0 ∧ y0 < g ∧ W0.heap.size = g + 3 := ⟨HYY.out.1, by have := HYY.out.2; have := HG.out; omega, hs0⟩
  have hit := args_iter 2 T (.slice a3 T.length n3) (g + 2) (fun x => x < W0.heap.size ∧ x ≠ g) w W0 HV.out HB4.out (q3.cell 5) ⟨by omega, by omega⟩ (fun z hz => ⟨by omega, by omega⟩)
  have h0 : BasI nm T g W0 0 (fun _ => False) W0 := ⟨p1, Chg.refl _ _, (fun x h => h.elim)⟩
  have HIT := Lib.hid hit
  have H0 := Lib.hid h0
  have P0 := Lib.hid p0
  have P2 := Lib.hid p2
  have HZZ := Lib.hid hyy
  clear hit h0 q3 p0 p1 p2 hb0 HB2 HB3 Q0 Q1 Q2 HYY HG
  rw [hW0, hbx]
  clear hW0 hbx hs0 HS3
  have HYL : Hid (g < W0.heap.size) := Lib.hid (by omega)
  clear hyy
  refine wpIn_rangeFunc_round (F := Fence.wide) (n := 3) (K := fun x => x < W0.heap.size ∧ x ≠ g) (w0 := W0) (N := T.flatten.length) (enc := encA w (.slice a3 T.length n3) T)
    (lb := #[.pointer (some ⟨g + 2, 0, none⟩)]) (gf := 61) rfl (by omega) rfl trivial (enters_of Tryd.func61 (by kernel_rfl) rfl) HIT.out
    (Kept.refl _ _) (Nat.le_refl _) (fun x h => h.1) (fun j => rfl) (BasI nm T g W0) (fun _ _ _ _ => False) (BasI.stab HYL.out)
    (fun _ _ _ _ _ _ h _ _ => h) H0.out ?round ?done (fun D cd j S A _ h => h.elim)
  case round =>
    intro l' j S A hj hi hS
    obtain ⟨i, k, hil, hkl, hjk, hjt⟩ := locT_some T j hj
    obtain ⟨b', off', cap', b1, off1, m1, a2, n2, _, _, _, _, _, e4, r4⟩ := arg_at HV.out hil hkl
    have hen : encA w (.slice a3 T.length n3) T j = #[.agg #[.int .i64 (i : Int), .int .i64 (k : Int)], .slice a2 ((T[i])[k]).length n2] := by
      unfold encA
      rw [hjk, locT_at T i k hil hkl, e4]
    rw [hen]
    have hmem : (T[i])[k] ∈ T.flatten := List.mem_flatten.2 ⟨T[i], List.getElem_mem hil, List.getElem_mem hkl⟩
    have HSM := Lib.hid (HL3.out _ hmem)
    have hst := ownArr_step (s := nm) hil hkl
    rw [← hjk] at hst
    have hat := ownArr_at (s := nm) (j := j) hil
    rw [show j - startT T i = k from by omega] at hat
    obtain ⟨t, ht⟩ : ∃ t, (T[i])[k] = t := ⟨_, rfl⟩
    rw [ht] at r4 hst HSM ⊢
    obtain ⟨u, hu⟩ : ∃ u, Value.slice a2 t.length n2 = u := ⟨_, rfl⟩
    rw [hu] at r4 ⊢
    obtain ⟨o, ho⟩ : ∃ o, ownK nm T[i] k = o := ⟨_, rfl⟩
    rw [ho] at hst hat
    have HI := Lib.hid hi
    have HSS := Lib.hid hS
    have HR4 := Lib.hid r4
    have HST := Lib.hid hst
    have HAT := Lib.hid hat
    clear hi hS r4 hst hat ht hu hen e4 hjk hmem ho
    gi_wp2_with fail
    refine ⟨⟨by simp, fun y hy _ => Below.heap_alloc _ _ _ hy⟩, fun C hC => ?_⟩
    have hy := HZZ.out
    obtain ⟨pb, hpb⟩ : ∃ p, A.heap.size = p := ⟨_, rfl⟩
    have hpS : ¬ S pb := fun h => by have := HSS.out _ h; omega
    have hpl : W0.heap.size ≤ pb := by have := HI.out.2.1.size; omega
    have hbp : Blk C pb 61 #[.int .i64 (i : Int), .int .i64 (k : Int)] := by
      rw [← hpb]
      rw [← hpb] at hpS
      exact (Blk.new _ _ _).stab hpS hC
    have hCA : Chg S A C := (Chg.alloc A _).trans hC
    obtain ⟨hbl, hcW, hge⟩ := BasI.stab HYL.out j S A C S HI.out hCA (fun b h => .inl h)
    have hpg : ¬ (pb = g ∨ C.heap.size ≤ pb) := fun h => by have := hbp.lt; omega
    have hBC : Below w.heap.size w C := HB4.out.trans (hcW.to_below (fun z h => by omega) HB4.out.size)
    have hsC := hcW.size
    have hSC : ∀ b, S b → b < C.heap.size := fun b hb => by have h1 := HSS.out b hb; have h2 := hCA.size; omega
    obtain ⟨kn, hkn⟩ : ∃ v, kindN nm t = v := ⟨_, rfl⟩
    have HCALL : Hid (∀ wx, Below C.heap.size C wx → Calls Tryd.prog 31 #[.string nm, u] wx (RetB (.int .i64 kn) wx)) := by
      show ∀ wx, _
      intro wx hx
      rw [← hkn]
      have hbx := hBC.trans (hx.mono hBC.size)
      exact kind_any nm t u wx (HS.out.below hbx) (HR4.out.below hbx) HSM.out
    have u2 : C.cell? ⟨y0, 2, none⟩ = some (.string nm) := hcW.cell (by show ¬ (y0 = g ∨ W0.heap.size ≤ y0); omega) (P0.out.cell 2)
    have u3 : C.cell? ⟨g + 1, 0, none⟩ = some (.slice (some ⟨g, 0, none⟩) T.length T.length) := hcW.cell (by show ¬ (g + 1 = g ∨ W0.heap.size ≤ g + 1); omega) (P2.out.cell 0)
    have u4 : C.cell? ⟨pb, 0, none⟩ = some (.int .i64 (i : Int)) := hbp.cell 0
    have u5 : C.cell? ⟨g, i, none⟩ = some (.bool o) := (hbl.cell i).trans (by rw [List.getElem?_toArray]; exact HAT.out)
    have x2 : ∀ x : BG g C, x.w.cell? ⟨y0, 2, none⟩ = some (.string nm) := fun x => x.h.cell (by show ¬ (y0 = g ∨ C.heap.size ≤ y0); omega) u2
    have x3 : ∀ x : BG g C, x.w.cell? ⟨g + 1, 0, none⟩ = some (.slice (some ⟨g, 0, none⟩) T.length T.length) := fun x => x.h.cell (by show ¬ (g + 1 = g ∨ C.heap.size ≤ g + 1); omega) u3
    have x4 : ∀ x : BG g C, x.w.cell? ⟨pb, 0, none⟩ = some (.int .i64 (i : Int)) := fun x => x.h.cell hpg u4
    have x5 : C.drew.cell? ⟨g, i, none⟩ = some (.bool o) := u5
    have hi9 : i < T.length := hil
    have HBL := Lib.hid hbl
    have HCW := Lib.hid hcW
    have HGE := Lib.hid hge
    have HBC := Lib.hid hBC
    have HSC := Lib.hid hSC
    have HHC := Lib.hid hC
    have HKN := Lib.hid hkn
    have HFZ : Hid (C.frozen? ⟨g, i, none⟩ = false) := Lib.hid (hbl.frozen i)
    have HCS : Hid (W0.heap.size ≤ C.heap.size) := Lib.hid hsC
    rw [hpb]
    clear hbp hbl hcW hge hBC hSC hCA hC u2 u3 u4 u5 hkn hpS hpl hpg hpb hy hsC
    gi_wp2_with fail
    refine wpIn_region_mix (fun w' => ∃ x : BG g C, w' = x.w) [(true, 0), (true, 1), (true, 2), (true, 3), (true, 4), (true, 5), (true, 6), (false, 7), (true, 8), (true, 9), (true, 10), (true, 11), (false, 12), (true, 13), (true, 14), (true, 15), (false, 16)] (by kernel_rfl) (by kernel_rfl) (by kernel_rfl) ⟨⟨_, (Chg.refl _ _).trans (Chg.drew _)⟩, rfl⟩ ?_
    refine mixI_calm ⟨_, ⟨⟨_, Chg.refl _ _⟩, rfl⟩⟩ _ [0, 1, 2, 3, 4, 5, 6] [_, _, _, _, _, _, _] _ rfl rfl ?_
    simp only [List.getElem_toArray, List.getElem_cons_zero, List.getElem_cons_succ]
    repeat (first | gi_big_quiet_skip | (gi_big_quiet_want; gi_big_quiet_op; go_big_quiet_on))
    refine wpQuietIn_nil ?_
    refine mixI_one rfl ?_
    simp only [List.getElem_toArray, List.getElem_cons_zero, List.getElem_cons_succ]
    gi_wp2_with fail
    refine ⟨⟨⟨_, Chg.drew _⟩, rfl⟩, ?_⟩
    refine mixI_calm ⟨_, ⟨⟨_, Chg.refl _ _⟩, rfl⟩⟩ _ [8, 9, 10, 11] [_, _, _, _] _ rfl rfl ?_
    simp only [List.getElem_toArray, List.getElem_cons_zero, List.getElem_cons_succ]
    have HFIN : Hid (∀ wx : World, Below C.heap.size C wx → ∀ v, v = Value.bool (o || kn == 1) → Kept (fun b => S b ∨ (b < W0.heap.size ∧ b ≠ g)) C (wx.setCell ⟨g, i, none⟩ v) ∧ BasI nm T g W0 (j + 1) S (wx.setCell ⟨g, i, none⟩ v)) := by
      show ∀ wx : World, _
      intro wx hx v hv
      subst hv
      have hy := HZZ.out
      have hch : Chg (fun z => z = g) C (wx.setCell ⟨g, i, none⟩ (.bool (o || kn == 1))) := (Chg.fresh hx).trans (Chg.setCell _ _ _ rfl)
      refine ⟨hch.kept (fun b h => ?_), ?_, ?_, HGE.out⟩
      · rcases h with h | h
        · have := HGE.out b h; omega
        · exact h.2
      · have hb := (HBL.out.below hx HBL.out.lt).set_ i (.bool (o || kn == 1))
        rw [HST.out, HKN.out]
        rw [List.setIfInBounds_toArray] at hb
        exact hb
      · exact HCW.out.trans (hch.mono fun b _ h => .inl h)
    clear HBL HCW HGE HST HAT HI HKN
    cases o
    · repeat (first | gi_big_quiet_skip | (gi_big_quiet_want; gi_big_quiet_op; go_big_quiet_on))
      refine wpQuietIn_nil ?_
      refine mixI_one rfl ?_
      simp only [List.getElem_toArray, List.getElem_cons_zero, List.getElem_cons_succ]
      gi_wp2_with fail
      refine enterR2 (HCALL.out _ (Below.refl _ _).drew) ?_
      rintro e w5 ⟨rfl, hb5⟩
      have hb5' : Below C.heap.size C w5 := below_of_drew hb5
      have HB5 := Lib.hid hb5'
      have x6 : w5.frozen? ⟨g, i, none⟩ = false := (hb5'.frozen (p := ⟨g, i, none⟩) (by show g < _; have := HYL.out; have := HCS.out; omega)).trans HFZ.out
      have x7 : w5.cell? ⟨g, i, none⟩ = some (.bool false) := (hb5'.cell (p := ⟨g, i, none⟩) (by show g < _; have := HYL.out; have := HCS.out; omega)).trans x5
      obtain ⟨y, hy⟩ : ∃ y, (kn == 1) = y := ⟨_, rfl⟩
      have HY := Lib.hid hy
      clear hb5 hb5' x5 HCALL
      gi_wp2_with fail
      refine ⟨⟨⟨_, (Chg.fresh HB5.out)⟩, rfl⟩, ?_⟩
      refine mixI_calm ⟨_, ⟨⟨_, Chg.refl _ _⟩, rfl⟩⟩ _ [13, 14, 15] [_, _, _] _ rfl rfl ?_
      simp only [List.getElem_toArray, List.getElem_cons_zero, List.getElem_cons_succ]
      repeat (first | gi_big_quiet_skip | (gi_big_quiet_want; gi_big_quiet_op; go_big_quiet_on))
      refine wpQuietIn_nil ?_
      refine mixI_one rfl ?_
      simp only [List.getElem_toArray, List.getElem_cons_zero, List.getElem_cons_succ]
      gi_wp2_with fail
      refine ⟨⟨⟨_, (Chg.fresh HB5.out).trans (Chg.setCell _ _ _ (.inl rfl))⟩, rfl⟩, ?_⟩
      refine mixI_nil ?_
      gi_wp2_with fail
      exact HFIN.out _ HB5.out _ (by rw [HY.out]; cases y <;> rfl)
    · repeat (first | gi_big_quiet_skip | (gi_big_quiet_want; gi_big_quiet_op; go_big_quiet_on))
      refine wpQuietIn_nil ?_
      refine mixI_one rfl ?_
      simp only [List.getElem_toArray, List.getElem_cons_zero, List.getElem_cons_succ]
      gi_wp2_with fail
      refine ⟨trivial, ?_⟩
      have x6 : C.drew.frozen? ⟨g, i, none⟩ = false := HFZ.out
      gi_wp2_with fail
      refine ⟨⟨⟨_, Chg.drew _⟩, rfl⟩, ?_⟩
      refine mixI_calm ⟨_, ⟨⟨_, Chg.refl _ _⟩, rfl⟩⟩ _ [13, 14, 15] [_, _, _] _ rfl rfl ?_
      simp only [List.getElem_toArray, List.getElem_cons_zero, List.getElem_cons_succ]
      repeat (first | gi_big_quiet_skip | (gi_big_quiet_want; gi_big_quiet_op; go_big_quiet_on))
      refine wpQuietIn_nil ?_
      refine mixI_one rfl ?_
      simp only [List.getElem_toArray, List.getElem_cons_zero, List.getElem_cons_succ]
      gi_wp2_with fail
      refine ⟨⟨⟨_, (Chg.drew _).trans (Chg.setCell _ _ _ (.inl rfl))⟩, rfl⟩, ?_⟩
      refine mixI_nil ?_
      gi_wp2_with fail
      exact HFIN.out _ (Below.refl _ _).drew _ rfl
  case done =>
    intro D S A hi hSD hwD hK
    obtain ⟨hbl, hcW, hge⟩ := hi
    have hy := HZZ.out
    rw [ownArr_end] at hbl
    have h2 : A.cell? ⟨g + 1, 0, none⟩ = some (.slice (some ⟨g, 0, none⟩) T.length T.length) := hcW.cell (by show ¬ (g + 1 = g ∨ W0.heap.size ≤ g + 1); omega) (P2.out.cell 0)
    have hrow : RowAt A 1 (.slice (some ⟨g, 0, none⟩) T.length T.length) (T.map fun c => !freeC nm c).length ((T.map fun c => !freeC nm c).map Value.bool) := by
      have := RowAt.of_blk (size := 1) (n := T.length) hbl (by simp) (by unfold maxLen; omega)
      rw [List.length_map]
      exact this
    have hcall := bools_has (T.map fun c => !freeC nm c) _ A hrow
    have hR : R = (T.map fun c => !freeC nm c).any (!·) := by
      rw [HRR.out, List.any_map]
      congr 1
      funext c
      simp
    rw [← hR] at hcall
    have HCALL := Lib.hid hcall
    have hbA : Below w.heap.size w A := HB4.out.trans (hcW.to_below (fun z h => by omega) HB4.out.size)
    have f2 : Below w.heap.size w (A.putObj D (.deferred none)) :=
      hbA.trans ((Chg.putObj (S := fun z => z = D) A D (.deferred none) rfl).to_below (fun z h => by omega) hbA.size)
    have F2 := Lib.hid f2
    clear hbl hcW hge hrow hcall hbA f2 hy hR
    gi_wp2_with fail
    refine enterW2 HCALL.out ?_
    rintro e w9 ⟨rfl, rfl⟩
    gi_wp2_with fail
    exact postM1 hK rfl (results_tmp rfl _ _ _) ⟨rfl, F2.out⟩

end Go.Proofs.YteldkcpkamgfpaaDoor
