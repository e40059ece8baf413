/- corniceref10.Check: the same answer; conditions: the strings' sizes, at most a million terms. -/
import Derived.Test.YteldkcpkamgfpaaDoorDp
namespace Go.Proofs.YteldkcpkamgfpaaDoor
set_option linter.unusedSimpArgs false
set_option linter.unusedVariables false
open Go.RowKit

def badD (d : Dc) : Bool :=
  if d.Kind = 3 then decide (0 < d.Ty.length) || (decide (0 < d.Bd.length) || (decide (d.Level < 1) || decide (9 < d.Level)))
  else decide (0 < d.Cons.length) || (decide (d.Level ≠ 0) || (decide (d.Kind = 2) && decide (0 < d.Bd.length)))

theorem fst8 (a b c e f g h i : Int) : fstE [a, b, c, e, f, g, h, i] = if a ≠ 0 then a else if b ≠ 0 then b else if c ≠ 0 then c else if e ≠ 0 then e else if f ≠ 0 then f else if g ≠ 0 then g else if h ≠ 0 then h else i := by
  simp only [fstE]
  repeat' split
  all_goals simp_all

theorem chkD_eq (nm : ByteArray → Bool) (fr : List Nd → Int) (d : Dc) : chkD nm fr d =
    if (decide (1 ≤ d.Kind) && decide (d.Kind ≤ 3)) = false then 1 else if nm d.Name = false then 20 else if fstE ((termsD d).map (closE fr)) ≠ 0 then fstE ((termsD d).map (closE fr)) else if badD d then 1 else if manyD d then 21 else 0 := by
  unfold chkD stepsD
  rw [fst8]
  obtain ⟨x, hx⟩ : ∃ x, fstE ((termsD d).map (closE fr)) = x := ⟨_, rfl⟩
  obtain ⟨m, hm⟩ : ∃ m, manyD d = m := ⟨_, rfl⟩
  obtain ⟨n, hn⟩ : ∃ n, nm d.Name = n := ⟨_, rfl⟩
  rw [hx, hm, hn]
  cases hk : (decide (1 ≤ d.Kind) && decide (d.Kind ≤ 3))
  · simp [unl]
  cases n
  · simp [unl]
  by_cases h0 : x = 0
  rotate_left
  · simp [unl, h0]
  subst h0
  simp only [Bool.and_eq_true, decide_eq_true_eq] at hk
  have e1 : unl true 1 = 0 := rfl
  have e2 : unl true 20 = 0 := rfl
  rw [e1, e2]
  simp only [ne_eq, not_true_eq_false, if_false, Bool.true_eq_false]
  unfold badD lvD
  by_cases h3 : d.Kind = 3
  · rw [if_pos h3]
    simp only [h3, beq_self_eq_true, Bool.true_and, Bool.not_true, Bool.false_and, Bool.or_false, Bool.true_or, Bool.false_or]
    by_cases l1 : 1 ≤ d.Level
    · by_cases l9 : d.Level ≤ 9
      · have g1 : decide (d.Level < 1) = false := by rw [decide_eq_false_iff_not]; omega
        have g9 : decide (9 < d.Level) = false := by rw [decide_eq_false_iff_not]; omega
        have f1 : decide (1 ≤ d.Level) = true := by simpa using l1
        have f9 : decide (d.Level ≤ 9) = true := by simpa using l9
        rw [g1, g9, f1, f9]
        cases ht : d.Ty <;> cases hb : d.Bd <;> cases m <;> simp [unl]
      · have g9 : decide (9 < d.Level) = true := by rw [decide_eq_true_eq]; omega
        have f9 : decide (d.Level ≤ 9) = false := by rw [decide_eq_false_iff_not]; omega
        rw [g9, f9]
        simp [unl]
    · have g1 : decide (d.Level < 1) = true := by rw [decide_eq_true_eq]; omega
      have f1 : decide (1 ≤ d.Level) = false := by rw [decide_eq_false_iff_not]; omega
      rw [g1, f1]
      simp [unl]
  · rw [if_neg h3]
    have b3 : (d.Kind == 3) = false := by simpa using h3
    rw [b3]
    by_cases hl : d.Level = 0
    · have bl : (d.Level == 0) = true := by simpa using hl
      rw [bl]
      by_cases h1 : d.Kind = 1
      · have b1 : (d.Kind == 1) = true := by simpa using h1
        rw [b1]
        cases hc : d.Cons <;> cases m <;> simp [unl, hl, h1]
      · have h2 : d.Kind = 2 := by omega
        have b1 : (d.Kind == 1) = false := by simpa using h1
        rw [b1]
        cases hc : d.Cons <;> cases hb : d.Bd <;> cases m <;> simp [unl, hl, h2]
    · have bl : (d.Level == 0) = false := by simpa using hl
      rw [bl]
      cases hc : d.Cons <;> simp [unl, hl]

def RetB (v : Value) (w : World) (e : Ending) (w' : World) : Prop := e = .returned v ∧ Below w.heap.size w w'
def RetNN (L : List (List Nd)) (w : World) (e : Ending) (w' : World) : Prop := ∃ u, e = .returned u ∧ ReadNN w' u L ∧ Below w.heap.size w w'
def RClosR (w : World) (L : List (List Nd)) (i : Value) (wr : World) : Prop :=
  ∃ k : Nat, k ≤ L.length ∧ i = .int .i64 k ∧ (∀ t ∈ L.take k, closE freeN t = 0) ∧ Below w.heap.size w wr
def RManyR (w : World) (T : List (List (List Nd))) (i : Value) (wr : World) : Prop :=
  (∃ k : Nat, k ≤ T.length ∧ i = .int .i64 k ∧ ∀ c ∈ T.take k, decide (6 < c.length) = false) ∧ wr = w

set_option maxRecDepth 20000 in
set_option maxHeartbeats 8000000 in
theorem rcheck10_any (d : Dc) (vt vb vc : Value) (w : World) (h : DeclV w d vt vb vc) (hs : SmallNN (termsD d)) (hz : d.Name.size ≤ maxLen) (hn : d.Cons.flatten.length ≤ 1000000) :
    Calls Tryd.prog 36 #[declV d vt vb vc] w fun e w' => e = .returned (.int .i64 (chkD nmB freeN d)) ∧ Below w.heap.size w w' := by
  obtain ⟨a1, c1, rfl⟩ := ReadN.len_slice h.ty
  obtain ⟨a2, c2, rfl⟩ := ReadN.len_slice h.bd
  obtain ⟨a3, n3, rfl⟩ := h.cons.form
  have hm1 : d.Ty.length ≤ 9223372036854775807 := by have := (ReadN.cases h.ty).1; unfold maxLen at this; omega
  have hm2 : d.Bd.length ≤ 9223372036854775807 := by have := (ReadN.cases h.bd).1; unfold maxLen at this; omega
  have hm3 : d.Cons.length ≤ 9223372036854775807 := by have := h.cons.shape.1; unfold maxLen at this; omega
  obtain ⟨R, hR⟩ : ∃ R, chkD nmB freeN d = R := ⟨_, rfl⟩
  rw [hR]
  have HR : Hid (R = _) := Lib.hid (hR.symm.trans (chkD_eq nmB freeN d))
  clear hR
  have HD := Lib.hid h
  have HM := Lib.hid hs
  have HN : Hid (∀ w', Below w.heap.size w w' → Calls Tryd.prog 62 #[.string d.Name] w' (RetB (.bool (nmB d.Name)) w')) := Lib.hid (fun w' _ => rname_any d.Name hz w')
  have HT : Hid (∀ w', Below w.heap.size w w' → Calls Tryd.prog 63 #[declV d (.slice a1 d.Ty.length c1) (.slice a2 d.Bd.length c2) (.slice a3 d.Cons.length n3)] w' (RetNN (termsD d) w')) :=
    Lib.hid (fun w' hb => rterms_any d _ _ _ w' (h.below hb) hn)
  unfold declV at HT ⊢
  clear h hs hz hn
  obtain ⟨W, hW⟩ : ∃ m, w.alloc (.cells #[.int .i64 d.Kind, .int .i64 d.Level, .string d.Name, .slice a1 d.Ty.length c1, .slice a2 d.Bd.length c2, .slice a3 d.Cons.length n3] 40) = m := ⟨_, rfl⟩
  have hb : Below w.heap.size w W := by rw [← hW]; exact (Below.refl _ _).alloc (Nat.le_refl _) _
  have hsz : w.heap.size < W.heap.size := by rw [← hW]; simp
  have HB := Lib.hid hb
  have HSZ := Lib.hid hsz
  clear hb hsz
  have hcs := (MapKept.heap_alloc w (.cells #[.int .i64 d.Kind, .int .i64 d.Level, .string d.Name, .slice a1 d.Ty.length c1, .slice a2 d.Bd.length c2, .slice a3 d.Cons.length n3] 40)).1
  rw [hW] at hcs
  have c0 : W.cell? ⟨w.heap.size, 0, none⟩ = some (.int .i64 d.Kind) := by rw [Lib.cell_of_heap hcs]; rfl
  have k1 : W.cell? ⟨w.heap.size, 1, none⟩ = some (.int .i64 d.Level) := by rw [Lib.cell_of_heap hcs]; rfl
  have k2 : W.cell? ⟨w.heap.size, 2, none⟩ = some (.string d.Name) := by rw [Lib.cell_of_heap hcs]; rfl
  have c3 : W.cell? ⟨w.heap.size, 3, none⟩ = some (.slice a1 d.Ty.length c1) := by rw [Lib.cell_of_heap hcs]; rfl
  have c4 : W.cell? ⟨w.heap.size, 4, none⟩ = some (.slice a2 d.Bd.length c2) := by rw [Lib.cell_of_heap hcs]; rfl
  have c5 : W.cell? ⟨w.heap.size, 5, none⟩ = some (.slice a3 d.Cons.length n3) := by rw [Lib.cell_of_heap hcs]; rfl
  clear hcs
  have HV : Hid (ReadNNN W (.slice a3 d.Cons.length n3) d.Cons) := Lib.hid (HD.out.cons.below HB.out)
  have hbad : ∃ x, badD d = x := ⟨_, rfl⟩
  obtain ⟨bd, hbd⟩ := hbad
  have HBD : Hid (bd = if d.Kind = 3 then decide (0 < d.Ty.length) || (decide (0 < d.Bd.length) || (decide (d.Level < 1) || decide (9 < d.Level)))
      else decide (0 < d.Cons.length) || (decide (d.Level ≠ 0) || (decide (d.Kind = 2) && decide (0 < d.Bd.length)))) := Lib.hid hbd.symm
  obtain ⟨mn, hmn⟩ : ∃ x, manyD d = x := ⟨_, rfl⟩
  have HMN : Hid (mn = (decide (6 < d.Cons.length) || d.Cons.any fun c => decide (6 < c.length))) := Lib.hid hmn.symm
  rw [hbd, hmn] at HR
  clear hbd hmn
  obtain ⟨kd, hkd⟩ : ∃ k, d.Kind = k := ⟨_, rfl⟩
  obtain ⟨lv, hlv⟩ : ∃ k, d.Level = k := ⟨_, rfl⟩
  obtain ⟨nm, hnm⟩ : ∃ k, d.Name = k := ⟨_, rfl⟩
  obtain ⟨p, hp⟩ : ∃ k, d.Ty.length = k := ⟨_, rfl⟩
  obtain ⟨q, hq⟩ : ∃ k, d.Bd.length = k := ⟨_, rfl⟩
  obtain ⟨T, hT⟩ : ∃ k, d.Cons = k := ⟨_, rfl⟩
  obtain ⟨L, hL⟩ : ∃ L, termsD d = L := ⟨_, rfl⟩
  rw [hL] at HR HT HM
  rw [hkd, hlv, hnm, hp, hq, hT] at HT
  rw [hkd, hnm] at HR
  rw [hnm] at HN
  rw [hkd, hlv, hp, hq, hT] at HBD
  rw [hT] at HMN HV
  rw [hkd] at c0; rw [hlv] at k1; rw [hnm] at k2; rw [hp] at c3 hm1; rw [hq] at c4 hm2; rw [hT] at c5 hm3
  rw [hkd, hlv, hnm, hp, hq, hT] at hW
  rw [hkd, hlv, hnm, hp, hq, hT]
  clear hkd hlv hnm hp hq hT hL HD
  by_cases hk1 : kd < 1
  · have d1 : decide (kd < 1) = true := by simpa using hk1
    have hr : R = 1 := by rw [HR.out, if_pos (by simp; omega)]
    subst hr
    go_enter Tryd.func36, Tryd.ntmps36
    go_wp2_with fail
    go_ret
    exact ⟨rfl, HB.out⟩
  have d1 : decide (kd < 1) = false := by simpa using hk1
  by_cases hk3 : kd > 3
  · have d3 : decide (kd > 3) = true := by simpa using hk3
    have d3' : decide (3 < kd) = true := by simpa using hk3
    have hr : R = 1 := by rw [HR.out, if_pos (by simp; omega)]
    subst hr
    go_enter Tryd.func36, Tryd.ntmps36
    go_wp2_with fail
    go_ret
    exact ⟨rfl, HB.out⟩
  have d3 : decide (kd > 3) = false := by simpa using hk3
  have d3' : decide (3 < kd) = false := by simpa using hk3
  have hr := HR.out
  rw [if_neg (by simp; omega)] at hr
  clear HR
  have HR := Lib.hid hr
  clear hr
  obtain ⟨nb, hnb⟩ : ∃ b, nmB nm = b := ⟨_, rfl⟩
  rw [hnb] at HN HR
  clear hnb
  have HN1 := Lib.hid (HN.out W HB.out)
  have HT1 : Hid (∀ w', Below W.heap.size W w' → Calls Tryd.prog 63 #[.agg #[.int .i64 kd, .int .i64 lv, .string nm, .slice a1 p c1, .slice a2 q c2, .slice a3 T.length n3]] w' (RetNN L w')) := Lib.hid (fun w' hb => HT.out w' (HB.out.trans (hb.mono HB.out.size)))
  clear HN HT
  go_enter Tryd.func36, Tryd.ntmps36
  go_wp2_with (go_at_call 62; refine HN1.out.mono ?_)
  rintro e w1 ⟨rfl, hb1⟩
  have hbW := hb1
  have g0 := (hb1.cell (p := ⟨w.heap.size, 0, none⟩) HSZ.out).trans c0
  have g1 := (hb1.cell (p := ⟨w.heap.size, 1, none⟩) HSZ.out).trans k1
  have g2 := (hb1.cell (p := ⟨w.heap.size, 2, none⟩) HSZ.out).trans k2
  have g3 := (hb1.cell (p := ⟨w.heap.size, 3, none⟩) HSZ.out).trans c3
  have g4 := (hb1.cell (p := ⟨w.heap.size, 4, none⟩) HSZ.out).trans c4
  have g5 := (hb1.cell (p := ⟨w.heap.size, 5, none⟩) HSZ.out).trans c5
  have HB1 := Lib.hid hb1
  clear hb1 hbW HN1
  cases nb
  · have hr : R = 20 := by rw [HR.out]; rfl
    subst hr
    go_wp2_with fail
    go_ret
    exact ⟨rfl, HB.out.trans (HB1.out.mono HB.out.size)⟩
  have hr := HR.out
  rw [if_neg (by decide)] at hr
  clear HR
  have HR := Lib.hid hr
  clear hr
  have HT2 := Lib.hid (HT1.out w1 HB1.out)
  clear HT1
  go_wp2_with (go_at_call 63; refine HT2.out.mono ?_)
  rintro e w2 ⟨u, rfl, hu, hb2⟩
  have HB2 := Lib.hid (HB1.out.trans (hb2.mono HB1.out.size))
  have HU := Lib.hid hu
  clear HT2 hb2 g0 g1 g2 g3 g4 g5
  obtain ⟨a4, n4, rfl⟩ := hu.form
  have hmL : L.length ≤ 9223372036854775807 := by have := hu.shape.1; unfold maxLen at this; omega
  clear hu
  have a0 : Hid (RClosR w2 L (.int .i64 0) w2) := Lib.hid ⟨0, Nat.zero_le _, rfl, by simp, Below.refl _ _⟩
  obtain ⟨cl, hcl⟩ : ∃ c, fstE (L.map (closE freeN)) = c := ⟨_, rfl⟩
  have HCL := Lib.hid hcl
  rw [hcl] at HR
  clear hcl
  go_wp2_with fail
  go_loopw [4] (fun i wr => RClosR w2 L i wr) (fun i _ => L.length - (intOf i).toNat)
  case atStart => exact a0.out
  case round =>
    rename World => wr
    obtain ⟨k, hk, rfl, hz, hbe⟩ := hrel
    have HZ := Lib.hid hz
    have HBE := Lib.hid hbe
    clear hz hbe a0
    by_cases hlt : k < L.length
    · obtain ⟨_, ⟨h0, _⟩ | ⟨b, off, cap, he, hbw⟩⟩ := HU.out.shape
      · subst h0; simp at hlt
      obtain ⟨rfl, rfl⟩ : a4 = some ⟨b, off, none⟩ ∧ n4 = cap := by simpa using he
      obtain ⟨a5, n5, g0, r1⟩ := HU.out.at hlt
      have g1 := (HBE.out.cell (p := ⟨b, off + k, none⟩) hbw).trans g0
      clear g0 he
      have hcall := rclosed_any L[k] _ wr (r1.below HBE.out) (HM.out _ (List.getElem_mem hlt))
      have HC := Lib.hid hcall
      have hfs : fstE (L.map (closE freeN)) = (if closE freeN L[k] = 0 then fstE ((L.drop (k + 1)).map (closE freeN)) else closE freeN L[k]) := by
        rw [clos_skip L k HZ.out, List.drop_eq_getElem_cons hlt]
        rfl
      have HF := Lib.hid (HCL.out.symm.trans hfs)
      have hzk : closE freeN L[k] = 0 → ∀ t ∈ L.take (k + 1), closE freeN t = 0 := fun h0 x hx => by
        rw [List.take_succ_eq_append_getElem hlt] at hx
        rcases List.mem_append.1 hx with h | h
        · exact HZ.out x h
        · simp at h; subst h; exact h0
      have HZK := Lib.hid hzk
      clear hcall hfs r1 hzk HZ
      obtain ⟨m, hmm⟩ : ∃ c, closE freeN L[k] = c := ⟨_, rfl⟩
      obtain ⟨ql, hql⟩ : ∃ q, L[k].length = q := ⟨_, rfl⟩
      rw [hmm] at HF HZK HC
      rw [hql] at HC g1
      clear hmm hql
      go_wp2_with (go_at_call 64; refine HC.out.mono ?_)
      rintro e w3 ⟨rfl, hb3⟩
      have HB3 := Lib.hid (HBE.out.trans (hb3.mono HBE.out.size))
      clear hb3 HC
      by_cases hc0 : m = 0
      · subst hc0
        go_wp2_with fail
        go_roundw
        case rel => exact ⟨k + 1, by omega, by go_num, HZK.out (by first | exact rfl | trivial), HB3.out⟩
        case measure => simp [intOf]; omega
      · have d0 : (m == 0) = false := by simpa using hc0
        have d1 : (m != 0) = true := by simpa using hc0
        have hr : R = m := by
          rw [HR.out, HF.out, if_neg hc0, if_pos hc0]
        subst hr
        go_wp2_with fail
        go_ret
        exact ⟨rfl, HB.out.trans ((HB2.out.trans (HB3.out.mono HB2.out.size)).mono HB.out.size)⟩
    obtain rfl : k = L.length := by omega
    have hcl0 : cl = 0 := by rw [← HCL.out, clos_skip L L.length HZ.out]; simp [fstE]
    have hr := HR.out
    rw [hcl0, if_neg (by simp)] at hr
    have HRR := Lib.hid hr
    have hbr := HB2.out.trans (HBE.out.mono HB2.out.size)
    have g0 := (hbr.cell (p := ⟨w.heap.size, 0, none⟩) HSZ.out).trans c0
    have g1 := (hbr.cell (p := ⟨w.heap.size, 1, none⟩) HSZ.out).trans k1
    have g3 := (hbr.cell (p := ⟨w.heap.size, 3, none⟩) HSZ.out).trans c3
    have g4 := (hbr.cell (p := ⟨w.heap.size, 4, none⟩) HSZ.out).trans c4
    have g5 := (hbr.cell (p := ⟨w.heap.size, 5, none⟩) HSZ.out).trans c5
    have HBR := Lib.hid hbr
    have HFIN : Hid (Below w.heap.size w wr) := Lib.hid (HB.out.trans (hbr.mono HB.out.size))
    have HVR : Hid (ReadNNN wr (.slice a3 T.length n3) T) := Lib.hid (HV.out.below hbr)
    clear hr HR hbr c0 k1 k2 c3 c4 c5 HCL HZ hcl0 HU HBE HB1 HB2 hmL HM
    have hmany : bd = false → (mn = (decide (6 < T.length) || T.any fun c => decide (6 < c.length))) → R = if mn then 21 else 0 := fun h1 _ => by rw [HRR.out, h1]; rfl
    by_cases h3 : kd = 3
    · subst h3
      have hbe : bd = (decide (0 < p) || (decide (0 < q) || (decide (lv < 1) || decide (9 < lv)))) := by rw [HBD.out, if_pos rfl]
      have HBE2 := Lib.hid hbe
      clear hbe
      by_cases q1 : 0 < p
      · have f1 : decide ((p : Int) > 0) = true := by rw [decide_eq_true_eq]; omega
        have f2 : decide ((0 : Int) < p) = true := by rw [decide_eq_true_eq]; omega
        have hr : R = 1 := by rw [HRR.out, HBE2.out]; simp [q1]
        subst hr
        go_wp2_with fail
        go_ret
        exact ⟨rfl, HFIN.out⟩
      have f1 : decide ((p : Int) > 0) = false := by rw [decide_eq_false_iff_not]; omega
      have f2 : decide ((0 : Int) < p) = false := by rw [decide_eq_false_iff_not]; omega
      by_cases q2 : 0 < q
      · have f3 : decide ((q : Int) > 0) = true := by rw [decide_eq_true_eq]; omega
        have f4 : decide ((0 : Int) < q) = true := by rw [decide_eq_true_eq]; omega
        have hr : R = 1 := by rw [HRR.out, HBE2.out]; simp [q2]
        subst hr
        go_wp2_with fail
        go_ret
        exact ⟨rfl, HFIN.out⟩
      have f3 : decide ((q : Int) > 0) = false := by rw [decide_eq_false_iff_not]; omega
      have f4 : decide ((0 : Int) < q) = false := by rw [decide_eq_false_iff_not]; omega
      by_cases q3 : lv < 1
      · have f5 : decide (lv < 1) = true := by rw [decide_eq_true_eq]; omega
        have hr : R = 1 := by rw [HRR.out, HBE2.out]; simp [q3]
        subst hr
        go_wp2_with fail
        go_ret
        exact ⟨rfl, HFIN.out⟩
      have f5 : decide (lv < 1) = false := by rw [decide_eq_false_iff_not]; omega
      by_cases q4 : 9 < lv
      · have f6 : decide (lv > 9) = true := by rw [decide_eq_true_eq]; omega
        have f7 : decide (9 < lv) = true := by rw [decide_eq_true_eq]; omega
        have hr : R = 1 := by rw [HRR.out, HBE2.out]; simp [q4]
        subst hr
        go_wp2_with fail
        go_ret
        exact ⟨rfl, HFIN.out⟩
      have f6 : decide (lv > 9) = false := by rw [decide_eq_false_iff_not]; omega
      have f7 : decide (9 < lv) = false := by rw [decide_eq_false_iff_not]; omega
      have hbf : bd = false := by rw [HBE2.out]; simp [q1, q2, q3, q4]
      have hR2 : R = if mn then 21 else 0 := by rw [HRR.out, hbf]; rfl
      by_cases h6 : 6 < T.length
      · have e1 : decide ((T.length : Int) > 6) = true := by rw [decide_eq_true_eq]; omega
        have e2 : decide ((6 : Int) < T.length) = true := by rw [decide_eq_true_eq]; omega
        have hr : R = 21 := by rw [hR2, HMN.out]; simp [h6]
        subst hr
        clear hR2
        go_wp2_with fail
        go_ret
        exact ⟨rfl, HFIN.out⟩
      have e1 : decide ((T.length : Int) > 6) = false := by rw [decide_eq_false_iff_not]; omega
      have e2 : decide ((6 : Int) < T.length) = false := by rw [decide_eq_false_iff_not]; omega
      have hR3 : R = if (T.any fun c => decide (6 < c.length)) then 21 else 0 := by rw [hR2, HMN.out]; simp [h6]
      have HR3 := Lib.hid hR3
      have m0 : Hid (RManyR wr T (.int .i64 0) wr) := Lib.hid ⟨⟨0, Nat.zero_le _, rfl, by simp⟩, rfl⟩
      clear hR2 hR3
      go_wp2_with fail
      go_loopw [6] (fun i wq => RManyR wr T i wq) (fun i _ => T.length - (intOf i).toNat)
      case atStart => exact m0.out
      case round =>
        obtain ⟨⟨k2, hk2, rfl, hz2⟩, rfl⟩ := hrel
        have HZ2 := Lib.hid hz2
        clear hz2 m0
        by_cases hlt2 : k2 < T.length
        · obtain ⟨_, ⟨h0, _⟩ | ⟨b, off, cap, he, hbw⟩⟩ := HVR.out.shape
          · subst h0; simp at hlt2
          obtain ⟨rfl, rfl⟩ : a3 = some ⟨b, off, none⟩ ∧ n3 = cap := by simpa using he
          obtain ⟨a6, n6, x6, r6⟩ := HVR.out.at hlt2
          have hq6 : T[k2].length ≤ 9223372036854775807 := by have := r6.shape.1; unfold maxLen at this; omega
          have hany : 6 < T[k2].length → R = 21 := fun h => by
            rw [HR3.out, if_pos]
            rw [List.any_eq_true]
            exact ⟨T[k2], List.getElem_mem hlt2, by simpa using h⟩
          have HANY := Lib.hid hany
          obtain ⟨ql2, hql2⟩ : ∃ q, T[k2].length = q := ⟨_, rfl⟩
          have HQL := Lib.hid hql2
          rw [hql2] at x6 hq6 HANY
          clear hany r6 he hql2
          by_cases hb6 : 6 < ql2
          · have e3 : decide ((ql2 : Int) > 6) = true := by rw [decide_eq_true_eq]; omega
            have e4 : decide ((6 : Int) < ql2) = true := by rw [decide_eq_true_eq]; omega
            have hr := HANY.out hb6
            subst hr
            go_wp2_with fail
            go_ret
            exact ⟨rfl, HFIN.out⟩
          · have e3 : decide ((ql2 : Int) > 6) = false := by rw [decide_eq_false_iff_not]; omega
            have e4 : decide ((6 : Int) < ql2) = false := by rw [decide_eq_false_iff_not]; omega
            go_wp2_with fail
            go_roundw
            case rel =>
              refine ⟨⟨k2 + 1, by omega, by go_num, fun c hc => ?_⟩, rfl⟩
              rw [List.take_succ_eq_append_getElem hlt2] at hc
              rcases List.mem_append.1 hc with h | h
              · exact HZ2.out c h
              · simp at h; subst h; rw [HQL.out]; simpa using hb6
            case measure => simp [intOf]; omega
        · obtain rfl : k2 = T.length := by omega
          have hr : R = 0 := by
            rw [HR3.out, if_neg]
            rw [List.any_eq_true]
            rintro ⟨c, hc, h⟩
            have := HZ2.out c (by rw [List.take_length]; exact hc)
            rw [this] at h
            cases h
          subst hr
          go_wp2_with fail
          go_ret
          exact ⟨rfl, HFIN.out⟩
    · have hbe : bd = (decide (0 < T.length) || (decide (lv ≠ 0) || (decide (kd = 2) && decide (0 < q)))) := by rw [HBD.out, if_neg h3]
      have HBE2 := Lib.hid hbe
      have n3e : (kd == 3) = false := by simpa using h3
      clear hbe
      by_cases q1 : 0 < T.length
      · have f1 : decide ((T.length : Int) > 0) = true := by rw [decide_eq_true_eq]; omega
        have f2 : decide ((0 : Int) < T.length) = true := by rw [decide_eq_true_eq]; omega
        have hr : R = 1 := by rw [HRR.out, HBE2.out]; simp [q1]
        subst hr
        go_wp2_with fail
        go_ret
        exact ⟨rfl, HFIN.out⟩
      have f1 : decide ((T.length : Int) > 0) = false := by rw [decide_eq_false_iff_not]; omega
      have f2 : decide ((0 : Int) < T.length) = false := by rw [decide_eq_false_iff_not]; omega
      by_cases q2 : lv = 0
      rotate_left
      · have f3 : (lv != 0) = true := by simpa using q2
        have hr : R = 1 := by rw [HRR.out, HBE2.out]; simp [q2]
        subst hr
        go_wp2_with fail
        go_ret
        exact ⟨rfl, HFIN.out⟩
      subst q2
      by_cases q3 : kd = 2
      · subst q3
        by_cases q4 : 0 < q
        · have f5 : decide ((q : Int) > 0) = true := by rw [decide_eq_true_eq]; omega
          have f6 : decide ((0 : Int) < q) = true := by rw [decide_eq_true_eq]; omega
          have hr : R = 1 := by rw [HRR.out, HBE2.out]; simp [q4]
          subst hr
          go_wp2_with fail
          go_ret
          exact ⟨rfl, HFIN.out⟩
        have f5 : decide ((q : Int) > 0) = false := by rw [decide_eq_false_iff_not]; omega
        have f6 : decide ((0 : Int) < q) = false := by rw [decide_eq_false_iff_not]; omega
        have hbf : bd = false := by rw [HBE2.out]; simp [q1, q4]
        obtain rfl : T = [] := List.length_eq_zero_iff.1 (by omega)
        have hr : R = 0 := by rw [HRR.out, hbf, HMN.out]; rfl
        subst hr
        simp only [List.length_nil] at g5 f1 f2 ⊢
        clear q1 hbf
        go_wp2_with fail
        go_loopw [6] (fun i wq => i = .int .i64 0 ∧ wq = wr) (fun _ _ => 0)
        case atStart => exact ⟨rfl, rfl⟩
        case round =>
          obtain ⟨rfl, rfl⟩ := hrel
          go_wp2_with fail
          go_ret
          exact ⟨rfl, HFIN.out⟩
      have n2e : (kd == 2) = false := by simpa using q3
      have hbf : bd = false := by rw [HBE2.out]; simp [q1, q3]
      obtain rfl : T = [] := List.length_eq_zero_iff.1 (by omega)
      have hr : R = 0 := by rw [HRR.out, hbf, HMN.out]; rfl
      subst hr
      simp only [List.length_nil] at g5 f1 f2 ⊢
      clear q1 hbf
      go_wp2_with fail
      go_loopw [6] (fun i wq => i = .int .i64 0 ∧ wq = wr) (fun _ _ => 0)
      case atStart => exact ⟨rfl, rfl⟩
      case round =>
        obtain ⟨rfl, rfl⟩ := hrel
        go_wp2_with fail
        go_ret
        exact ⟨rfl, HFIN.out⟩

end Go.Proofs.YteldkcpkamgfpaaDoor
