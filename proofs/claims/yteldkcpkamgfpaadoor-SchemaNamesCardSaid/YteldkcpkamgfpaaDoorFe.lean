/- SchemaNames' walk: for all types, names and numbers the law's function returns true; where the table of shapes lies as it is laid. -/
import Derived.Test.YteldkcpkamgfpaaDoorFc
namespace Go.Proofs.YteldkcpkamgfpaaDoor
set_option linter.unusedSimpArgs false
set_option linter.unusedVariables false
open Go.RowKit

theorem u8_natN {kk : Int} (hkk : (Lit.int .u8 kk).wf = true) : ∃ cu : Nat, kk = cu ∧ cu < 256 := by
  have h0 : IntKind.u8.min ≤ kk ∧ kk ≤ IntKind.u8.max := by simpa [Lit.wf] using hkk
  have h : 0 ≤ kk ∧ kk ≤ 255 := h0
  obtain ⟨n, hn⟩ := Int.eq_ofNat_of_zero_le h.1
  exact ⟨n, hn, by omega⟩

set_option maxRecDepth 100000 in
set_option maxHeartbeats 20000000 in
theorem snames_walk (W : World) (ts : List (List Nd)) (vt : Value) (ht : ReadNN W vt ts) (hst : SmallNN ts) (a : ByteArray) (hza : a.size ≤ maxLen) (b : ByteArray) (hzb : b.size ≤ maxLen) (n0 : Int) (hn0 : (Lit.int .u8 n0).wf = true) (hS : ShapesAt W) :
    Calls Tryd.prog 5 #[vt, .string a, .string b, .int .u8 n0] W fun e W' => e = .returned (.bool true) ∧ Below W.heap.size W W' := by
  obtain ⟨nn, rfl, hnn⟩ := u8_natN hn0
  obtain ⟨m, hm⟩ : ∃ m : Int, (nn : Int) % 9 = m := ⟨_, rfl⟩
  have HSH : Hid (∀ w', Below W.heap.size W w' → Calls Tryd.prog 9 #[] w' (RetB (.bool true) w')) := Lib.hid (fun w' hb => shown17_any w' (hS.below hb))
  have HNA : Hid (∀ w', Calls Tryd.prog 10 #[.string a] w' fun e w2 => e = .returned (.bool (nameB a)) ∧ w' = w2) := Lib.hid (fun w' => refname_any a hza w')
  have HNB : Hid (∀ w', Calls Tryd.prog 10 #[.string b] w' fun e w2 => e = .returned (.bool (nameB b)) ∧ w' = w2) := Lib.hid (fun w' => refname_any b hzb w')
  have HKA : Hid (∀ w', Calls Tryd.prog 20 #[.string a] w' (RetB (.bool (keyB a)) w')) := Lib.hid (fun w' => refkeyword_any a w')
  have HKB : Hid (∀ w', Calls Tryd.prog 20 #[.string b] w' (RetB (.bool (keyB b)) w')) := Lib.hid (fun w' => refkeyword_any b w')
  have HT := Lib.hid ht
  have HST := Lib.hid hst
  have HS := Lib.hid hS
  have HZA := Lib.hid hza
  have HZB := Lib.hid hzb
  obtain ⟨av, nv, rfl⟩ := ht.form
  have hm3 : ts.length ≤ 9223372036854775807 := by have := ht.shape.1; unfold maxLen at this; omega
  clear ht hst hS hza hzb hn0
  have HB0 : Hid (Below W.heap.size W W) := Below.refl _ _
  go_enter Tryd.func5, Tryd.ntmps5
  by_cases h6 : ts.length > 6
  · have e1 : decide ((ts.length : Int) > 6) = true := by rw [decide_eq_true_eq]; omega
    go_wp2_with fail
    refine (HSH.out _ HB0.out).mono ?_
    rintro e w2 ⟨rfl, hb2⟩
    have HB2 := Lib.hid hb2
    clear hb2
    go_wp2_with fail
    go_ret
    exact ⟨rfl, HB2.out⟩
  have e1 : decide ((ts.length : Int) > 6) = false := by rw [decide_eq_false_iff_not]; omega
  go_wp2_with fail
  refine (HNA.out _).mono ?_
  rintro e w3 ⟨rfl, rfl⟩
  cases hna : nameB a
  · go_wp2_with fail
    refine (HSH.out _ HB0.out).mono ?_
    rintro e w2 ⟨rfl, hb2⟩
    have HB2 := Lib.hid hb2
    clear hb2
    go_wp2_with fail
    go_ret
    exact ⟨rfl, HB2.out⟩
  have HA1 := Lib.hid hna
  clear hna HNA
  go_wp2_with fail
  refine (HNB.out _).mono ?_
  rintro e w3 ⟨rfl, rfl⟩
  cases hnb : nameB b
  · go_wp2_with fail
    refine (HSH.out _ HB0.out).mono ?_
    rintro e w2 ⟨rfl, hb2⟩
    have HB2 := Lib.hid hb2
    clear hb2
    go_wp2_with fail
    go_ret
    exact ⟨rfl, HB2.out⟩
  have HA2 := Lib.hid hnb
  clear hnb HNB
  go_wp2_with fail
  refine (HKA.out _).mono ?_
  rintro e w3 ⟨rfl, hb3⟩
  have HB3 := Lib.hid hb3
  clear hb3 HB0
  cases hka : keyB a
  rotate_left
  · go_wp2_with fail
    refine (HSH.out _ HB3.out).mono ?_
    rintro e w2 ⟨rfl, hb2⟩
    have HB2 := Lib.hid (HB3.out.trans (hb2.mono HB3.out.size))
    clear hb2
    go_wp2_with fail
    go_ret
    exact ⟨rfl, HB2.out⟩
  have HA3 := Lib.hid hka
  clear hka HKA
  go_wp2_with fail
  refine (HKB.out _).mono ?_
  rintro e w4 ⟨rfl, hb4⟩
  have HB4 := Lib.hid (HB3.out.trans (hb4.mono HB3.out.size))
  clear hb4
  cases hkb : keyB b
  rotate_left
  · go_wp2_with fail
    refine (HSH.out _ HB4.out).mono ?_
    rintro e w2 ⟨rfl, hb2⟩
    have HB2 := Lib.hid (HB4.out.trans (hb2.mono HB4.out.size))
    clear hb2
    go_wp2_with fail
    go_ret
    exact ⟨rfl, HB2.out⟩
  have HA4 := Lib.hid hkb
  clear hkb HKB HB3
  go_wp2_with fail
  refine (HSH.out _ HB4.out).mono ?_
  rintro e w5 ⟨rfl, hb5⟩
  have HB5 := Lib.hid (HB4.out.trans (hb5.mono HB4.out.size))
  clear hb5 HB4
  go_wp2_with fail
  go_loopw [9] (fun x wr => ∃ i : Nat, i ≤ ts.length ∧ x = .int .i64 (i : Int) ∧ (∀ t ∈ ts.take i, mentB t a = false ∧ mentB t b = false) ∧ Below W.heap.size W wr) (fun x _ => ts.length - (intOf x).toNat)
  case atStart => exact ⟨0, Nat.zero_le _, rfl, by simp, HB5.out⟩
  case round =>
    rename World => wr
    obtain ⟨i, hi, rfl, hz, hbr⟩ := hrel
    have HZ := Lib.hid hz
    have HBR := Lib.hid hbr
    clear hz hbr
    by_cases hlt : i < ts.length
    · have hrd := HT.out.below HBR.out
      obtain ⟨_, ⟨h0, _⟩ | ⟨bb, off, cap, he, hbw⟩⟩ := hrd.shape
      · subst h0; simp at hlt
      obtain ⟨rfl, rfl⟩ : av = some ⟨bb, off, none⟩ ∧ nv = cap := by simpa using he
      obtain ⟨a6, n6, f1, r1⟩ := hrd.at hlt
      have hsm : SmallN (ts[i]) := HST.out _ (List.getElem_mem hlt)
      have HHV := Lib.hid (heavy17_any (ts[i]) _ wr r1 hsm)
      have HM1 := Lib.hid (mentions_any (ts[i]) a _ wr r1)
      have HM2 : Hid (∀ w', Below wr.heap.size wr w' → Calls Tryd.prog 14 #[.slice a6 (ts[i]).length n6, .string b] w' (RetB (.bool (mentB (ts[i]) b)) w')) := Lib.hid (fun w' hb => mentions_any (ts[i]) b _ w' (r1.below hb))
      have hnx : mentB (ts[i]) a = false → mentB (ts[i]) b = false → ∀ t ∈ ts.take (i + 1), mentB t a = false ∧ mentB t b = false := fun h1 h2 t ht => by
        rw [List.take_succ_eq_append_getElem hlt] at ht
        rcases List.mem_append.1 ht with h | h
        · exact HZ.out t h
        · simp at h; rw [h]; exact ⟨h1, h2⟩
      have HNX := Lib.hid hnx
      obtain ⟨ma, hma⟩ : ∃ x, mentB (ts[i]) a = x := ⟨_, rfl⟩
      obtain ⟨mb, hmb⟩ : ∃ x, mentB (ts[i]) b = x := ⟨_, rfl⟩
      obtain ⟨ql, hql⟩ : ∃ x, (ts[i]).length = x := ⟨_, rfl⟩
      rw [hma] at HM1 HNX
      rw [hmb] at HM2 HNX
      rw [hql] at f1 HHV HM1 HM2
      clear r1 he hql hrd hnx hsm hma hmb HZ
      go_wp2_with (go_at_call 8; refine HHV.out.mono ?_)
      rintro e w2 ⟨⟨g2, rfl, _⟩, rfl⟩
      cases g2
      rotate_left
      · go_wp2_with fail
        refine (HSH.out _ HBR.out).mono ?_
        rintro e w2 ⟨rfl, hb2⟩
        have HB2 := Lib.hid (HBR.out.trans (hb2.mono HBR.out.size))
        clear hb2
        go_wp2_with fail
        go_ret
        exact ⟨rfl, HB2.out⟩
      go_wp2_with (go_at_call 14; refine HM1.out.mono ?_)
      rintro e w2 ⟨rfl, hb2⟩
      have f2 := (hb2.cell (p := ⟨bb, off + i, none⟩) (cell_lt f1)).trans f1
      have HB2 := Lib.hid (HBR.out.trans (hb2.mono HBR.out.size))
      have HM3 := Lib.hid (HM2.out _ hb2)
      clear hb2 HM2 HM1 f1 HHV
      cases ma
      rotate_left
      · go_wp2_with fail
        refine (HSH.out _ HB2.out).mono ?_
        rintro e w3 ⟨rfl, hb3⟩
        have HB3 := Lib.hid (HB2.out.trans (hb3.mono HB2.out.size))
        clear hb3
        go_wp2_with fail
        go_ret
        exact ⟨rfl, HB3.out⟩
      go_wp2_with (go_at_call 14; refine HM3.out.mono ?_)
      rintro e w3 ⟨rfl, hb3⟩
      have HB3 := Lib.hid (HB2.out.trans (hb3.mono HB2.out.size))
      clear hb3 HM3 f2
      cases mb
      rotate_left
      · go_wp2_with fail
        refine (HSH.out _ HB3.out).mono ?_
        rintro e w4 ⟨rfl, hb4⟩
        have HB4 := Lib.hid (HB3.out.trans (hb4.mono HB3.out.size))
        clear hb4
        go_wp2_with fail
        go_ret
        exact ⟨rfl, HB4.out⟩
      have HN2 : Hid (∀ t ∈ ts.take (i + 1), mentB t a = false ∧ mentB t b = false) := Lib.hid (HNX.out (by first | exact rfl | trivial) (by first | exact rfl | trivial))
      clear HNX
      go_wp2_with fail
      go_roundw
      case rel => exact ⟨i + 1, by omega, by go_num, HN2.out, HB3.out⟩
      case measure => simp [intOf]; omega
    obtain rfl : i = ts.length := by omega
    have hall := HZ.out
    rw [List.take_length] at hall
    have HALL := Lib.hid hall
    clear hall HZ hi hlt
    obtain ⟨y, hy⟩ : ∃ y, wr.heap.size = y := ⟨_, rfl⟩
    obtain ⟨W5, hW5⟩ : ∃ x, (((wr.alloc (.cells #[.slice av ts.length nv] 42)).alloc (.cells #[.int .i64 3, .int .i64 (1 + m), .string a, .slice none 0 0, .slice none 0 0, .slice (some ⟨y, 0, none⟩) 1 1] 36)).alloc
      (.cells #[.int .i64 3, .int .i64 (1 + m), .string b, .slice none 0 0, .slice none 0 0, .slice (some ⟨y, 0, none⟩) 1 1] 36)) = x := ⟨_, rfl⟩
    have b0 : Blk W5 y 42 #[.slice av ts.length nv] := by rw [← hW5, ← hy]; exact ((Blk.new _ _ _).alloc _).alloc _
    have b1 : Blk W5 (y + 1) 36 #[.int .i64 3, .int .i64 (1 + m), .string a, .slice none 0 0, .slice none 0 0, .slice (some ⟨y, 0, none⟩) 1 1] := by
      rw [← hW5, ← hy]
      have := Blk.new (wr.alloc (.cells #[.slice av ts.length nv] 42)) 36 #[.int .i64 3, .int .i64 (1 + m), .string a, .slice none 0 0, .slice none 0 0, .slice (some ⟨wr.heap.size, 0, none⟩) 1 1]
      rw [World.size_alloc] at this
      exact this.alloc _
    have b2 : Blk W5 (y + 1 + 1) 36 #[.int .i64 3, .int .i64 (1 + m), .string b, .slice none 0 0, .slice none 0 0, .slice (some ⟨y, 0, none⟩) 1 1] := by
      rw [← hW5, ← hy]
      have := Blk.new ((wr.alloc (.cells #[.slice av ts.length nv] 42)).alloc (.cells #[.int .i64 3, .int .i64 (1 + m), .string a, .slice none 0 0, .slice none 0 0, .slice (some ⟨wr.heap.size, 0, none⟩) 1 1] 36)) 36 #[.int .i64 3, .int .i64 (1 + m), .string b, .slice none 0 0, .slice none 0 0, .slice (some ⟨wr.heap.size, 0, none⟩) 1 1]
      rw [World.size_alloc, World.size_alloc] at this
      exact this
    have hb5 : Below wr.heap.size wr W5 := by rw [← hW5]; exact (((Below.refl _ _).alloc (Nat.le_refl _) _).alloc (by simp) _).alloc (by simp; omega) _
    have HW5 := Lib.hid hW5
    clear hW5
    have hbX := HBR.out.trans (hb5.mono HBR.out.size)
    have hnnn : ReadNNN W5 (.slice (some ⟨y, 0, none⟩) 1 1) [ts] :=
      ⟨[.slice av ts.length nv], rfl, RowAt.of_blk (size := 1) (n := 1) b0 rfl (by unfold maxLen; omega), fun i hi u hu => by
        match i, hi, hu with
        | 0, _, hu => cases hu; exact HT.out.below hbX⟩
    have small : ∀ x : ByteArray, x.size ≤ maxLen → SmallD ⟨3, 1 + m, x, [], [], [ts]⟩ := fun x hx =>
      ⟨(fun n hn => by cases hn), (fun n hn => by cases hn), hx, (fun c hc => by simp at hc; subst hc; exact HST.out)⟩
    have hasks : ∀ x : ByteArray, x.size ≤ maxLen → Asks W5 ⟨3, 1 + m, x, [], [], [ts]⟩ (declV ⟨3, 1 + m, x, [], [], [ts]⟩ (.slice none 0 0) (.slice none 0 0) (.slice (some ⟨y, 0, none⟩) 1 1)) := fun x hx =>
      asks W5 _ _ _ _ (HS.out.below hbX) ⟨RowAt.nil _ 4, RowAt.nil _ 4, hnnn⟩ (small x hx) ⟨by simp, by simp; omega⟩
    have hnA : nmB a = true := by unfold nmB; rw [HA1.out, HA3.out]; rfl
    have hnB : nmB b = true := by unfold nmB; rw [HA2.out, HA4.out]; rfl
    obtain ⟨l1, l2, l3⟩ := names_law nmB freeN (ts := ts) (a := a) (b := b) (lv := 1 + m) hnA hnB HALL.out
    have AA := hasks a HZA.out
    have AB := hasks b HZB.out
    have CA := AA.chk
    have CR := AA.rchk
    have CB := AA.bas
    have CC := AB.chk
    have CT := AA.their
    obtain ⟨sA, hsA⟩ : ∃ x, schE nmB freeN ⟨3, 1 + m, a, [], [], [ts]⟩ = x := ⟨_, rfl⟩
    obtain ⟨bA, hbA⟩ : ∃ x, basedB nmB freeN ⟨3, 1 + m, a, [], [], [ts]⟩ = x := ⟨_, rfl⟩
    rw [hsA] at CA CR l1 l2 l3
    rw [← l1] at CC
    rw [hbA] at CB l3
    obtain ⟨z, hz⟩ : ∃ z, (sA == 0) = z := ⟨_, rfl⟩
    have hbz : bA = z := by
      rw [← hz]
      cases bA
      · have : sA ≠ 0 := fun h => by have := l3.2 h; cases this
        simp [this]
      · simp [l3.1 rfl]
    subst hbz
    have q1 : (sA == sA) = true := by simp
    have q2 : (sA != 170) = true := by simpa using l2
    have d0 := b1.cell 0
    have d1 := b1.cell 1
    have d2 := b1.cell 2
    have d3 := b1.cell 3
    have d4 := b1.cell 4
    have d5 := b1.cell 5
    have c0 := b2.cell 0
    have c1 := b2.cell 1
    have c2 := b2.cell 2
    have c3 := b2.cell 3
    have c4 := b2.cell 4
    have c5 := b2.cell 5
    simp only [List.getElem?_toArray, List.getElem?_cons_zero, List.getElem?_cons_succ] at d0 d1 d2 d3 d4 d5 c0 c1 c2 c3 c4 c5
    have hl1 := b1.lt
    have hl2 := b2.lt
    have HX := Lib.hid hbX
    have HD : Hid (∀ w', Below W5.heap.size W5 w' → ∀ j v, W5.cell? ⟨y + 1, j, none⟩ = some v → w'.cell? ⟨y + 1, j, none⟩ = some v) := Lib.hid (fun w' hb j v hv => (hb.cell (p := ⟨y + 1, j, none⟩) hl1).trans hv)
    have HC : Hid (∀ w', Below W5.heap.size W5 w' → ∀ j v, W5.cell? ⟨y + 1 + 1, j, none⟩ = some v → w'.cell? ⟨y + 1 + 1, j, none⟩ = some v) := Lib.hid (fun w' hb j v hv => (hb.cell (p := ⟨y + 1 + 1, j, none⟩) hl2).trans hv)
    have KA := Lib.hid CA
    have KR := Lib.hid CR
    have KB := Lib.hid CB
    have KC := Lib.hid CC
    have KT := Lib.hid CT
    have D0 := Lib.hid d0; have D1 := Lib.hid d1; have D2 := Lib.hid d2; have D3 := Lib.hid d3; have D4 := Lib.hid d4; have D5 := Lib.hid d5
    have C0 := Lib.hid c0; have C1 := Lib.hid c1; have C2 := Lib.hid c2; have C3 := Lib.hid c3; have C4 := Lib.hid c4; have C5 := Lib.hid c5
    clear b0 b1 b2 hb5 hbX hnnn small hasks hnA hnB l1 l2 l3 AA AB CA CR CB CC CT hsA hbA d0 d1 d2 d3 d4 d5 c0 c1 c2 c3 c4 c5 hl1 hl2
    go_wp2_with fail
    rw [HW5.out]
    refine (KA.out _ (Below.refl _ _)).mono ?_
    rintro e x1 ⟨rfl, hx1⟩
    have X1 := Lib.hid hx1
    have d0 := HD.out _ hx1 _ _ D0.out; have d1 := HD.out _ hx1 _ _ D1.out; have d2 := HD.out _ hx1 _ _ D2.out; have d3 := HD.out _ hx1 _ _ D3.out; have d4 := HD.out _ hx1 _ _ D4.out; have d5 := HD.out _ hx1 _ _ D5.out
    have c0 := HC.out _ hx1 _ _ C0.out; have c1 := HC.out _ hx1 _ _ C1.out; have c2 := HC.out _ hx1 _ _ C2.out; have c3 := HC.out _ hx1 _ _ C3.out; have c4 := HC.out _ hx1 _ _ C4.out; have c5 := HC.out _ hx1 _ _ C5.out
    clear hx1
    go_wp2_with fail
    refine (KC.out _ X1.out).mono ?_
    rintro e x2 ⟨rfl, hx2'⟩
    have hx2 := X1.out.trans (hx2'.mono X1.out.size)
    have X2 := Lib.hid hx2
    clear d0 d1 d2 d3 d4 d5 c0 c1 c2 c3 c4 c5
    have d0 := HD.out _ hx2 _ _ D0.out; have d1 := HD.out _ hx2 _ _ D1.out; have d2 := HD.out _ hx2 _ _ D2.out; have d3 := HD.out _ hx2 _ _ D3.out; have d4 := HD.out _ hx2 _ _ D4.out; have d5 := HD.out _ hx2 _ _ D5.out
    clear hx2 hx2'
    go_wp2_with fail
    refine (KB.out _ X2.out).mono ?_
    rintro e x3 ⟨rfl, hx3'⟩
    have hx3 := X2.out.trans (hx3'.mono X2.out.size)
    have X3 := Lib.hid hx3
    clear d0 d1 d2 d3 d4 d5
    have d0 := HD.out _ hx3 _ _ D0.out; have d1 := HD.out _ hx3 _ _ D1.out; have d2 := HD.out _ hx3 _ _ D2.out; have d3 := HD.out _ hx3 _ _ D3.out; have d4 := HD.out _ hx3 _ _ D4.out; have d5 := HD.out _ hx3 _ _ D5.out
    clear hx3 hx3'
    have q3 : (bA == bA) = true := by simp
    go_wp2_with fail
    refine (KT.out _).mono ?_
    rintro e x4 ⟨rfl, hx4'⟩
    have hx4 := X3.out.trans (hx4'.mono X3.out.size)
    have X4 := Lib.hid hx4
    clear d0 d1 d2 d3 d4 d5 hx4 hx4'
    go_wp2_with fail
    refine (KR.out _ X4.out).mono ?_
    rintro e x5 ⟨rfl, hx5'⟩
    have X5 := Lib.hid (X4.out.trans (hx5'.mono X4.out.size))
    clear hx5'
    go_wp2_with fail
    go_ret
    exact ⟨rfl, HX.out.trans (X5.out.mono HX.out.size)⟩

end Go.Proofs.YteldkcpkamgfpaaDoor
