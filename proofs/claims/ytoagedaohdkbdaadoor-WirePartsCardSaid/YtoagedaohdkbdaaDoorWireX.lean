/- The walks of WireLong, WireEncodes, WireDecodes: each comes to true for every input. -/
import Derived.Test.YtoagedaohdkbdaaDoorWireW
namespace Go.Proofs.YtoagedaohdkbdaaDoor
set_option linter.unusedSimpArgs false
set_option linter.unusedVariables false
open Go.RowKit

theorem chain5 {W a b : World} (h : Hid (Below W.heap.size W a)) (hb : Below a.heap.size a b) : Hid (Below W.heap.size W b) := h.out.trans (hb.mono h.out.size)
theorem longs_succ {l : List Nd} {k : Nat} (h : k < l.length) : longs (l.take (k + 1)) = longs (l.take k) + (1 + kindLen l[k].K l[k].S.size) := by
  unfold longs
  rw [List.take_succ_eq_append_getElem h, List.map_append, List.sum_append]
  simp
theorem longs_most {l : List Nd} (h : ∀ n, n ∈ l → rightB n = true) (k : Nat) (hk : k ≤ l.length) : longs (l.take k) ≤ 300 * k := by
  induction k with
  | zero => simp [longs]
  | succ k ih =>
    rw [longs_succ (by omega)]
    have := ih (by omega)
    have hr := h l[k] (List.getElem_mem _)
    have := encN_most hr
    rw [encN_long hr] at this
    omega
def LongR (l : List Nd) (w : World) (v i : Value) (wr : World) : Prop := ∃ k : Nat, k ≤ l.length ∧ i = .int .i64 (k : Int) ∧ v = .int .i64 (2 + (longs (l.take k) : Int)) ∧ wr = w
theorem kindLen_of {k : Int} {m q : Nat} (h : kindLen k m = q) (a : Nat) : (2 : Int) + ((a + (1 + kindLen k m) : Nat) : Int) = 2 + (a : Int) + 1 + (q : Int) := by rw [h]; omega

set_option maxRecDepth 20000 in
set_option maxHeartbeats 4000000 in
theorem long_walk (W : World) (t : List Nd) (vt : Value) (ht : ReadN W vt t) (hst : SmallN t) (hS : ShapesAt W) (hF : FieldsAt W) :
    Calls Tryd.prog 3 #[vt] W fun e W' => e = .returned (.bool true) ∧ Below W.heap.size W W' := by
  obtain ⟨at_, ct, rfl⟩ := ReadN.len_slice ht
  have HSW : Hid (∀ x, Below W.heap.size W x → ShapesAt x) := fun x hb => hS.below hb
  have HFW : Hid (∀ x, Below W.heap.size W x → FieldsAt x) := fun x hb => hF.below hb
  have HTW : Hid (∀ x, Below W.heap.size W x → ReadN x (.slice at_ t.length ct) t) := fun x hb => ht.below hb
  have HST := Lib.hid hst
  have HSH : Hid (∀ x, Below W.heap.size W x → Calls Tryd.prog 10 #[] x fun e x' => e = .returned (.bool true) ∧ Below x.heap.size x x') := fun x hb => shown5_any x (HSW.out _ hb) (HFW.out _ hb)
  have HEN : Hid (∀ x, Below W.heap.size W x → Calls Tryd.prog 11 #[.slice at_ t.length ct] x (EncP t x)) := fun x hb => encode_any t _ x (HSW.out _ hb) (HFW.out _ hb) (HTW.out _ hb) HST.out
  have HCK : Hid (∀ x, Below W.heap.size W x → Calls Tryd.prog 12 #[.slice at_ t.length ct] x fun e x' => e = .returned (.int .i64 (chk t)) ∧ Below x.heap.size x x') := fun x hb => refcheck2_any t _ x (HTW.out _ hb) HST.out
  have HB0 : Hid (Below W.heap.size W W) := Below.refl _ _
  have HVT := Lib.hid (heavy5_any t _ W ht hst)
  obtain ⟨c, hc⟩ : ∃ c, chk t = c := ⟨_, rfl⟩
  have HC := Lib.hid hc
  rw [hc] at HCK
  clear ht hS hst hF hc
  go_enter Tryd.func3, Tryd.ntmps3
  go_wp2_with fail
  refine HVT.out.mono ?_
  rintro e w1 ⟨b1, rfl, hn1, rfl⟩
  cases b1
  rotate_left
  · go_wp2_with fail
    refine (HSH.out _ HB0.out).mono ?_
    rintro e w2 ⟨rfl, hb2⟩
    go_wp2_with fail
    go_ret
    exact ⟨rfl, hb2⟩
  have hl5 := hn1 rfl
  clear hn1
  go_wp2_with fail
  refine (HSH.out _ HB0.out).mono ?_
  rintro e w2 ⟨rfl, hb2⟩
  have HB2 := chain5 HB0 hb2
  clear hb2
  go_wp2_with fail
  refine (HEN.out _ HB2.out).mono ?_
  rintro e w3 ⟨s, rfl, hs, hb3⟩
  rw [HC.out]
  have HS3 := Lib.hid hs
  have HB3 := chain5 HB2 hb3
  clear hs hb3
  go_wp2_with fail
  refine (HCK.out _ HB3.out).mono ?_
  rintro e w4 ⟨rfl, hb4⟩
  have HB4 := chain5 HB3 hb4
  clear hb4
  by_cases h0 : c = 0
  rotate_left
  · have hcb : (c != 0) = true := by simpa using h0
    have hse : s.data.toList = [] := by rw [HS3.out]; unfold codE; rw [if_neg (by rw [HC.out]; exact h0)]
    obtain rfl : s = ⟨#[]⟩ := text_eq hse
    clear hse h0
    go_wp2_with fail
    go_ret
    exact ⟨rfl, HB4.out⟩
  subst h0
  have HSZ : Hid (s.size = 2 + longs t) := by show _ = _; rw [size_list, HS3.out]; unfold codE; rw [if_pos HC.out, codB_long HC.out]
  have HR := Lib.hid (chk_right HC.out)
  have HLM : Hid (∀ k, k ≤ t.length → longs (t.take k) ≤ 300 * k) := fun k hk => longs_most HR.out k hk
  have hsz9 : s.size ≤ 150002 := by have h := HLM.out t.length (Nat.le_refl _); rw [List.take_of_length_le (Nat.le_refl _)] at h; rw [HSZ.out]; omega
  have HI : Hid (LongR t w4 (.int .i64 2) (.int .i64 0) w4) := ⟨0, by omega, rfl, rfl, rfl⟩
  go_wp2_with fail
  go_loopw [5, 6] (fun v i wr => LongR t w4 v i wr) (fun _ i _ => t.length - (intOf i).toNat)
  case atStart => exact HI.out
  case round =>
    obtain ⟨k, hk, rfl, rfl, rfl⟩ := hrel
    have hlm := HLM.out k hk
    by_cases hlt : k < t.length
    rotate_left
    · obtain rfl : k = t.length := by omega
      have hq : (s.size : Int) = 2 + (longs (t.take t.length) : Int) := by rw [List.take_of_length_le (Nat.le_refl _)]; have := HSZ.out; omega
      rw [← hq]
      clear hq hlm
      go_wp2_with fail
      go_ret
      exact ⟨rfl, HB4.out⟩
    have hsu := longs_succ hlt
    obtain ⟨_, ⟨h0, _⟩ | ⟨pb, po, pcap, hpe, _, _, hpb, hcell⟩⟩ := (HTW.out _ HB4.out).cases
    · subst h0; simp at hlt
    obtain ⟨rfl, rfl⟩ : at_ = some ⟨pb, po, none⟩ ∧ ct = pcap := by simpa using hpe
    obtain ⟨g0, g1, g2, g3⟩ := hcell k hlt
    obtain ⟨nd, hnd⟩ : ∃ nd, t[k] = nd := ⟨_, rfl⟩
    rw [hnd] at g0 g1 g2 g3 hsu
    have hnr : rightB nd = true := by rw [← hnd]; exact HR.out _ (List.getElem_mem hlt)
    obtain ⟨⟨k0, k1⟩, _, _, s1, _⟩ := right_parts hnr
    obtain ⟨kk, hK⟩ := Int.eq_ofNat_of_zero_le k0
    rw [hK] at g0 k0 k1 hsu
    obtain ⟨q, hq⟩ : ∃ q, longs (t.take k) = q := ⟨_, rfl⟩
    rw [hq] at hsu hlm ⊢
    have HSU := Lib.hid hsu
    clear hsu hq hcell hpe hnd hnr hK k0
    have hcase : (kk = 0 ∨ kk = 2 ∨ kk = 3 ∨ kk = 6) ∨ (kk = 1 ∨ kk = 25) ∨ kk = 26 ∨ kk = 27 ∨ (kk ≠ 0 ∧ kk ≠ 1 ∧ kk ≠ 2 ∧ kk ≠ 3 ∧ kk ≠ 6 ∧ kk ≠ 25 ∧ kk ≠ 26 ∧ kk ≠ 27) := by omega
    rcases hcase with (rfl | rfl | rfl | rfl) | (rfl | rfl) | rfl | rfl | ⟨n0, n1, n2, n3, n6, n25, n26, n27⟩
    rotate_right
    · have b0 : ((kk : Int) == 0) = false := by simp; omega
      have b1 : ((kk : Int) == 1) = false := by simp; omega
      have b2 : ((kk : Int) == 2) = false := by simp; omega
      have b3 : ((kk : Int) == 3) = false := by simp; omega
      have b6 : ((kk : Int) == 6) = false := by simp; omega
      have b25 : ((kk : Int) == 25) = false := by simp; omega
      have b26 : ((kk : Int) == 26) = false := by simp; omega
      have b27 : ((kk : Int) == 27) = false := by simp; omega
      have hkl : kindLen (kk : Int) nd.S.size = 0 := by unfold kindLen; rw [if_neg (by omega), if_neg (by omega), if_neg (by omega), if_neg (by omega)]
      have HKL := Lib.hid hkl
      clear hkl n0 n1 n2 n3 n6 n25 n26 n27
      go_wp2_with fail
      go_roundw
      case rel => exact ⟨k + 1, by omega, by go_num, by rw [HSU.out, kindLen_of HKL.out]; go_num, rfl⟩
      case measure => simp [intOf]; omega
    all_goals
      have s19 : nd.S.size ≤ 255 := s1
      go_wp2_with fail
      go_roundw
      case rel => exact ⟨k + 1, by omega, by go_num, by rw [HSU.out]; simp [kindLen]; omega, rfl⟩
      case measure => simp [intOf]; omega

end Go.Proofs.YtoagedaohdkbdaaDoor
