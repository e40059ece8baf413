/- ShiftUses' walk. -/
import Derived.Test.YtjhgpifccleknaaDoorUsesLaw
import Derived.Test.YtjhgpifccleknaaDoorRefA
import Derived.Test.YtjhgpifccleknaaDoorQuietC
namespace Go.Proofs.YtjhgpifccleknaaDoor
set_option linter.unusedSimpArgs false
set_option linter.unusedVariables false
open Go.RowKit Go.BigFrame

theorem Tryd.nodeK (K N M : Int) (S : ByteArray) (w : World) : (Instr.field 23 (.agg #[.int .i64 K, .int .i64 N, .int .i64 M, .string S]) 0).run Tryd.prog w = .ok (.int .i64 K) w := by kernel_rfl
theorem Tryd.nodeN (K N M : Int) (S : ByteArray) (w : World) : (Instr.field 23 (.agg #[.int .i64 K, .int .i64 N, .int .i64 M, .string S]) 1).run Tryd.prog w = .ok (.int .i64 N) w := by kernel_rfl

theorem usesN_bound {l : List Nd} {T : Tm} (k : Int) (hk : chk l = 0) (hw : whole l = some T) : 0 ≤ usesN k l ∧ usesN k l ≤ l.length := by
  obtain ⟨hwf, hfl⟩ := whole_some hw
  have h := (fvs_facts hwf T.flat.length (Nat.le_refl _)).1
  unfold usesN
  rw [if_pos hk, hw]
  show 0 ≤ (fvs T T.flat.length).foldl (fU k) 0 ∧ (fvs T T.flat.length).foldl (fU k) 0 ≤ _
  rw [foldU, ← hfl]
  have h2 : (fvs T T.flat.length).countP (· == k) ≤ (fvs T T.flat.length).length := List.countP_le_length
  unfold cntV
  omega

def UsesRel (W w1 : World) (v : Int) (cs : List Tm) (bs : List Nat) (s i : Value) (wr : World) : Prop :=
  ∃ j, j ≤ cs.length ∧ i = .int .i64 (j : Int) ∧ s = .int .i64 (sumU v cs bs j) ∧ (0 ≤ sumU v cs bs j ∧ sumU v cs bs j ≤ 300 * j) ∧ Below W.heap.size W wr ∧ Below w1.heap.size w1 wr

set_option maxRecDepth 20000 in
set_option maxHeartbeats 4000000 in
theorem uses_walk (W : World) (t : List Nd) (vt : Value) (ht : ReadN W vt t) (hst : SmallN t) (kk : Int) (hkk : (Lit.int .u8 kk).wf = true) (hS : ShapesAt W) :
    Calls Tryd.prog 7 #[vt, .int .u8 kk] W fun e W' => e = .returned (.bool true) ∧ Below W.heap.size W W' := by
  obtain ⟨ku, rfl, hku⟩ : ∃ cu : Nat, kk = cu ∧ cu < 256 := by
    have h0 : IntKind.u8.min ≤ kk ∧ kk ≤ IntKind.u8.max := by simpa [Lit.wf] using hkk
    have h : 0 ≤ kk ∧ kk ≤ 255 := h0
    obtain ⟨n, hn⟩ := Int.eq_ofNat_of_zero_le h.1
    exact ⟨n, hn, by omega⟩
  obtain ⟨at_, ct, rfl⟩ := ReadN.len_slice ht
  have HSW : Hid (∀ x, Below W.heap.size W x → ShapesAt x) := fun x hb => hS.below hb
  have HTW : Hid (∀ x, Below W.heap.size W x → ReadN x (.slice at_ t.length ct) t) := fun x hb => ht.below hb
  have HST := Lib.hid hst
  have HSH : Hid (∀ w', Below W.heap.size W w' → Calls Tryd.prog 39 #[] w' fun e w9 => e = .returned (.bool true) ∧ Below w'.heap.size w' w9) := fun w' hb => shown3_any w' (HSW.out _ hb)
  have HB0 : Hid (Below W.heap.size W W) := Below.refl _ _
  have HVT := Lib.hid (heavy3_any t _ W ht hst)
  clear ht hS hkk hst
  have fK := Tryd.nodeK
  have fN := Tryd.nodeN
  go_enter Tryd.func7, Tryd.ntmps7
  go_wp2_with fail
  refine HVT.out.mono ?_
  rintro e w1 ⟨⟨b1, rfl, hn1⟩, rfl⟩
  cases b1
  rotate_left
  · go_wp2_with fail
    refine (HSH.out _ HB0.out).mono ?_
    rintro e w2 ⟨rfl, hb2⟩
    go_wp2_with fail
    go_ret
    exact ⟨rfl, hb2⟩
  have hl300 := hn1 rfl
  clear hn1
  go_wp2_with fail
  refine (HSH.out _ HB0.out).mono ?_
  rintro e w2 ⟨rfl, hb2⟩
  have HB2 := chain HB0 hb2
  clear hb2
  obtain ⟨c, hc⟩ : ∃ c, chk t = c := ⟨_, rfl⟩
  have HC := Lib.hid hc; clear hc
  go_wp2_with fail
  have ek : ((ku : Int) % 20) = ((ku % 20 : Nat) : Int) := by simp
  try rw [ek]
  obtain ⟨k, hk⟩ : ∃ k, ku % 20 = k := ⟨_, rfl⟩
  have hk20 : k < 20 := by omega
  try rw [hk]
  clear ek hk
  obtain ⟨nu, hnu⟩ : ∃ nu, usesN (k : Int) t = nu := ⟨_, rfl⟩
  have HNU := Lib.hid hnu; clear hnu
  refine (uses_any t _ (k : Int) w2 (HSW.out _ HB2.out) (HTW.out _ HB2.out) HST.out).mono ?_
  rintro e w3 ⟨rfl, hb3⟩
  rw [HC.out, HNU.out]
  have HB3 := chain HB2 hb3
  clear hb3
  go_wp2_with fail
  refine (refcheck2_any t _ w3 (HTW.out _ HB3.out) HST.out).mono ?_
  rintro e w4 ⟨rfl, hb4⟩
  rw [HC.out]
  have HB4 := chain HB3 hb4
  clear hb4
  by_cases h0 : c = 0
  rotate_left
  · have hcb : (c != 0) = true := by simpa using h0
    have hn0 : nu = 0 := by rw [← HNU.out]; exact usesN_bad _ (by rw [HC.out]; exact h0)
    subst hn0
    go_wp2_with fail
    go_ret
    exact ⟨rfl, HB4.out⟩
  subst h0
  obtain ⟨hle, T, hw, _⟩ := chk_ok HC.out
  obtain ⟨nd, cs⟩ := T
  obtain ⟨hwf, hfl⟩ := whole_some hw
  have hlast : t.getLast? = some nd := by rw [← hfl]; exact flat_last _
  have HHW := Lib.hid hw; clear hw
  have HFL := Lib.hid hfl; clear hfl
  have HWF := Lib.hid hwf; clear hwf
  have HRT : Hid (∀ x, Below W.heap.size W x → Calls Tryd.prog 41 #[.slice at_ t.length ct] x fun e x' => e = .returned (.agg #[.int .i64 nd.K, .int .i64 nd.N, .int .i64 nd.M, .string nd.S]) ∧ Below x.heap.size x x') := fun x hb => root_any t nd _ x (HTW.out x hb) hlast
  have hsz : nd.S.size ≤ maxLen := HST.out nd (List.mem_of_getLast? hlast)
  have HSZ := Lib.hid hsz; clear hsz
  clear hlast
  go_wp2_with fail
  refine (HRT.out _ HB4.out).mono ?_
  rintro e w5 ⟨rfl, hb5⟩
  have HB5 := chain HB4 hb5
  clear hb5
  by_cases hK : nd.K = 0
  · have hkb : (nd.K == 0) = true := by simpa using hK
    have hv := uses_var (v := (k : Int)) (by omega) HC.out HHW.out hK
    rw [HNU.out] at hv
    by_cases hN : nd.N = (k : Int)
    · rw [if_pos hN] at hv
      subst hv
      have hnb : (nd.N == (k : Int)) = true := by simpa using hN
      clear hN hK
      go_wp2_with fail
      refine (HRT.out _ HB5.out).mono ?_
      rintro e w6 ⟨rfl, hb6⟩
      have HB6 := chain HB5 hb6
      clear hb6
      go_wp2_with fail
      go_ret
      exact ⟨rfl, HB6.out⟩
    · rw [if_neg hN] at hv
      subst hv
      have hnb : (nd.N == (k : Int)) = false := by simpa using hN
      clear hN hK
      go_wp2_with fail
      refine (HRT.out _ HB5.out).mono ?_
      rintro e w6 ⟨rfl, hb6⟩
      have HB6 := chain HB5 hb6
      clear hb6
      go_wp2_with fail
      go_ret
      exact ⟨rfl, HB6.out⟩
  have hkb : (nd.K == 0) = false := by simpa using hK
  have hsum := uses_parts (v := (k : Int)) (by omega) HC.out HHW.out hK
  rw [HNU.out] at hsum
  have HSUM := Lib.hid hsum; clear hsum
  have hr := (wf_iff.1 HWF.out).1
  have har := (wf_iff.1 HWF.out).2.1
  have HR := Lib.hid hr
  have HAR := Lib.hid har
  have hm4 : cs.length ≤ 4000 := by
    have h1 := flatL_ge cs
    have h2 : (Tm.mk nd cs).flat.length = (flatL cs).length + 1 := by (rw [flat_mk, List.length_append]; rfl)
    rw [HFL.out] at h2
    omega
  have HPA := Lib.hid (refparts_any nd cs (.slice at_ t.length ct) w5 HWF.out (by rw [HFL.out]; exact HTW.out _ HB5.out) (by rw [HFL.out]; exact HST.out) (by rw [HFL.out]; exact hle))
  clear hr har hK
  go_wp2_with fail
  refine HPA.out.mono ?_
  rintro e w6 ⟨pa, pc, rfl, hnn, hb6⟩
  have HB6 := chain HB5 hb6
  have HNN := Lib.hid hnn
  clear hb6 hnn HPA
  go_wp2_with fail
  refine (HRT.out _ HB6.out).mono ?_
  rintro e w7 ⟨rfl, hb7⟩
  have HB7 := chain HB6 hb7
  have HNN := Lib.hid (HNN.out.below hb7)
  clear hb7
  go_wp2_with fail
  refine (refbinds_any nd w7 HSZ.out).mono ?_
  rintro e w8 ⟨vb, lb, rfl, hvb, hlb, hb8⟩
  have hlb := hlb HR.out
  rw [HR.out]
  subst hlb
  have HB8 := chain HB7 hb8
  have HNN := Lib.hid (HNN.out.below hb8)
  clear hb8
  obtain ⟨ba, bc, rfl⟩ := ReadI.len_slice hvb
  rw [List.length_map, show (bnds nd).length = cs.length from HAR.out.symm] at *
  have hvb' : RowAt w8 1 (.slice ba cs.length bc) cs.length ((bnds nd).map fun y : Nat => Value.int .i64 (y : Int)) := by
    unfold ReadI at hvb
    rw [List.length_map, List.map_map, show (bnds nd).length = cs.length from HAR.out.symm] at hvb
    exact hvb
  have HVB := Lib.hid hvb'
  clear hvb hvb'
  obtain ⟨bs, hbs⟩ : ∃ bs, bnds nd = bs := ⟨_, rfl⟩
  have hb2 : ∀ y, y ∈ bs → y ≤ 2 := by rw [← hbs]; exact bnds_two HR.out
  have hbl : bs.length = cs.length := by rw [← hbs]; exact HAR.out.symm
  rw [hbs] at HSUM HVB
  have HB2L := Lib.hid hb2
  clear hb2 hbs
  go_wp2_with fail
  go_loopw [11, 12] (fun s i wr => UsesRel W w8 (k : Int) cs bs s i wr) (fun _ i _ => cs.length - (intOf i).toNat)
  case atStart => exact ⟨0, Nat.zero_le _, rfl, rfl, ⟨by rw [sumU_zero]; omega, by rw [sumU_zero]; omega⟩, HB8.out, Below.refl _ _⟩
  case round =>
    rename World => wa
    obtain ⟨j, hj, rfl, rfl, ⟨hs0, hs1⟩, hb, hbb⟩ := hrel
    have HB := Lib.hid hb; clear hb
    have HBB := Lib.hid hbb; clear hbb
    by_cases hlt : j < cs.length
    · have hnk := HNN.out.below HBB.out
      obtain ⟨_, ⟨h0, _⟩ | ⟨pb, po, pcap, hpe, hpb⟩⟩ := ReadNN.shape hnk
      · have h1 := congrArg List.length h0
        rw [List.length_map] at h1
        simp only [List.length_nil] at h1
        omega
      rw [List.length_map] at hpe
      obtain ⟨rfl, rfl⟩ : pa = some ⟨pb, po, none⟩ ∧ pc = pcap := by simpa using hpe
      have hnk' : ReadNN wa (.slice (some ⟨pb, po, none⟩) (cs.map Tm.flat).length pc) (cs.map Tm.flat) := by rw [List.length_map]; exact hnk
      obtain ⟨a1, c1, g1, r1⟩ := hnk'.at (i := j) (by simpa using hlt)
      have e1 : (cs.map Tm.flat)[j]'(by simpa using hlt) = cs[j].flat := by simp
      rw [e1] at g1 r1
      obtain ⟨gb, ob, cb', he, _, _, hgb, hbc⟩ := RowAt.pos (HVB.out.below HBB.out) (by omega)
      obtain ⟨rfl, rfl⟩ : ba = some ⟨gb, ob, none⟩ ∧ bc = cb' := by simpa using he
      obtain ⟨y, hy⟩ : ∃ y, bs[j]'(by omega) = y := ⟨_, rfl⟩
      have hy2 : y ≤ 2 := HB2L.out y (by rw [← hy]; exact List.getElem_mem _)
      have g2 : wa.cell? ⟨gb, ob + j, none⟩ = some (.int .i64 (y : Int)) := hbc j _ (by simp [hbl, hlt, hy])
      obtain ⟨hpk, hpw, hpm⟩ := part_ok HC.out HHW.out hlt
      obtain ⟨m, hm⟩ : ∃ m, usesN ((k : Int) + (y : Int)) cs[j].flat = m := ⟨_, rfl⟩
      have hmb := usesN_bound ((k : Int) + (y : Int)) hpk hpw
      rw [hm] at hmb
      have hlq : (cs[j]).flat.length ≤ 300 := by
        have := part_len (nd := nd) hlt
        rw [HFL.out] at this
        omega
      have hm0 : 0 ≤ m := hmb.1
      have hm3 : m ≤ 300 := by have := hmb.2; omega
      clear hmb
      have hsu : sumU (k : Int) cs bs (j + 1) = sumU (k : Int) cs bs j + m := by
        rw [sumU_succ, ← hm, usesN_fv _ hpk hpw]
        congr 2
        · rw [List.getD_eq_getElem?_getD, List.getElem?_eq_getElem (by omega), ← hy]; rfl
        · rw [List.getD_eq_getElem?_getD, List.getElem?_eq_getElem hlt]; rfl
      have HSU := Lib.hid hsu; clear hsu
      obtain ⟨q, hq⟩ : ∃ q, (cs[j]).flat.length = q := ⟨_, rfl⟩
      have HCX : Hid (∀ x : BW wa.heap.size wa, Calls Tryd.prog 40 #[.slice a1 q c1, .int .i64 ((k : Int) + (y : Int))] x.w fun e w' => e = .returned (.tuple #[.int .i64 m, .int .i64 0]) ∧ ∃ z : BW wa.heap.size wa, w' = z.w) := by
        show ∀ x : BW wa.heap.size wa, _
        intro x
        have hcall := uses_any cs[j].flat (.slice a1 q c1) ((k : Int) + (y : Int)) x.w (HSW.out _ (HB.out.trans (x.h.mono HB.out.size))) (by rw [← hq]; exact r1.below x.h) (fun n hn => HST.out n (hpm n hn))
        rw [hpk, hm] at hcall
        exact hcall.mono fun e w' ⟨h1, h2⟩ => ⟨h1, ⟨w', x.h.trans (h2.mono x.h.size)⟩, rfl⟩
      rw [hq] at g1
      have f1 : ∀ x : BW wa.heap.size wa, x.w.cell? ⟨pb, po + j, none⟩ = some (.slice a1 q c1) := fun x => (x.h.cell (p := ⟨pb, po + j, none⟩) hpb).trans g1
      have f2 : ∀ x : BW wa.heap.size wa, x.w.cell? ⟨gb, ob + j, none⟩ = some (.int .i64 (y : Int)) := fun x => (x.h.cell (p := ⟨gb, ob + j, none⟩) hgb).trans g2
      have C0 : Hid (Below wa.heap.size wa wa.drew) := (Below.refl _ wa).drew
      clear r1 hnk hnk' e1 hpe he hbc hy hpk hpw hpm hm hq
      go_wp2_with fail
      refine wp_region_bw (B := wa.heap.size) (W := wa) (by kernel_rfl) (by kernel_rfl) C0.out ?_
      repeat (first
        | go_big_quiet_skip
        | (go_big_quiet_want; go_big_quiet_op; first | go_big_quiet_on | (apply Exists.intro; refine ⟨?_, ?_⟩; exact HCX.out; go_big_quiet_on)))
      refine wpQuiet_nil ?_
      intro w9 hb9
      have HB9 : Hid (Below W.heap.size W w9) := HB.out.trans (hb9.mono HB.out.size)
      have HBB9 : Hid (Below w8.heap.size w8 w9) := HBB.out.trans (hb9.mono HBB.out.size)
      clear hb9 C0 f1 f2 HCX
      go_wp2_with fail
      exact ⟨⟨j + 1, by omega, by go_num, by rw [HSU.out], by rw [HSU.out]; omega, HB9.out, HBB9.out⟩, by simp [intOf]; omega⟩
    · obtain rfl : j = cs.length := by omega
      rw [HSUM.out]
      have hfa : nu ≠ 0 → (k : Int) < freeN t := fun h => free_above HC.out HHW.out (by rw [HNU.out]; exact h)
      obtain ⟨fr, hfr⟩ : ∃ f, freeN t = f := ⟨_, rfl⟩
      rw [hfr] at hfa
      have HFR := Lib.hid hfr; clear hfr
      go_wp2_with fail
      refine (free_any t _ wa (HSW.out _ HB.out) (HTW.out _ HB.out) HST.out).mono ?_
      rintro e w9 ⟨rfl, hb9⟩
      rw [HC.out, HFR.out]
      have HB9 := chain HB hb9
      clear hb9
      by_cases hn : nu = 0
      · have hnb : (nu == 0) = true := by simpa using hn
        clear hfa
        go_wp2_with fail
        go_ret
        exact ⟨rfl, HB9.out⟩
      · have hnb : (nu == 0) = false := by simpa using hn
        have hgt : decide (fr > (k : Int)) = true := by have := hfa hn; simp; omega
        clear hfa hn
        go_wp2_with fail
        go_ret
        exact ⟨rfl, HB9.out⟩

end Go.Proofs.YtjhgpifccleknaaDoor
