/- The document's Pack, Unpack and Texts; rows of nodes that differ. -/
import Derived.Test.YtoagedaohdkbdaaDoorWireU
import Derived.Test.YtoagedaohdkbdaaDoorBw
namespace Go.Proofs.YtoagedaohdkbdaaDoor
set_option linter.unusedSimpArgs false
set_option linter.unusedVariables false
open Go.RowKit

def RPackR (l : List ByteArray) (D : Nat) (w : World) (v i : Value) (wr : World) : Prop :=
  ∃ (k : Nat) (s : ByteArray), k ≤ l.length ∧ i = .int .i64 (k : Int) ∧ v = .string s ∧ (∀ i (hi : i < l.length), i < k → l[i].size ≤ 20000) ∧ s.data.toList = preP l k ∧ Below D w wr ∧ D ≤ wr.heap.size

set_option maxRecDepth 20000 in
set_option maxHeartbeats 1000000 in
theorem rpack_any (l : List ByteArray) (v : Value) (w : World) (hv : ReadS w v l) (hs : SmallS l) :
    Calls Tryd.prog 18 #[v] w (PackP l w) := by
  obtain ⟨at_, ct, rfl⟩ := ReadS.len_slice hv
  have hm := hv.cases.1
  have hm9 : l.length ≤ 9223372036854775807 := by unfold maxLen at hm; omega
  clear hm
  by_cases h5 : l.length > 255
  · have d5 : decide ((l.length : Int) > 255) = true := by simp; omega
    have HF : Hid (fitD l = false) := by show _ = _; unfold fitD; simp; omega
    clear hv hs
    go_enter Tryd.func18, Tryd.ntmps18
    go_wp2_with fail
    go_ret2
    exact PackP.bad HF.out (Below.refl _ _)
  have d5 : decide ((l.length : Int) > 255) = false := by simp; omega
  have hl5 : l.length ≤ 255 := by omega
  have HVW : Hid (∀ x, Below w.heap.size w x → ReadS x (.slice at_ l.length ct) l) := fun x hb => hv.below hb
  have HSM := Lib.hid hs
  obtain ⟨D, hD⟩ : ∃ D, w.heap.size = D := ⟨_, rfl⟩
  have HD := Lib.hid hD
  have cv := conv1 w (l.length : Int)
  have HI : Hid (RPackR l D w (.string (tx1 (l.length : Int))) (.int .i64 0) (w.alloc (.cells #[.int .u8 (l.length : Int)] 5))) := ⟨0, _, by omega, rfl, rfl, (fun i hi h => by omega), rfl, by rw [← hD]; exact (Below.refl _ _).alloc (Nat.le_refl _) _, by rw [← hD]; simp⟩
  rw [hD] at HVW
  clear hv hs h5 hD
  go_enter Tryd.func18, Tryd.ntmps18
  go_wp2_with fail
  clear cv
  obtain ⟨v2, hv2⟩ : ∃ v2, Value.string (tx1 (l.length : Int)) = v2 := ⟨_, rfl⟩
  rw [hv2] at HI ⊢
  clear hv2
  go_loopw [4, 5] (fun v i wr => RPackR l D w v i wr) (fun _ i _ => l.length - (intOf i).toNat)
  case atStart => exact HI.out
  case round =>
    rename World => wr
    obtain ⟨k, s0, hk, rfl, rfl, hfit, hs0, hbe, hze⟩ := hrel
    have HFI := Lib.hid hfit
    have HLS := Lib.hid hs0
    have HE := Lib.hid hbe
    have HZ := Lib.hid hze
    clear hfit hs0 hbe hze
    by_cases hlt : k < l.length
    rotate_left
    · obtain rfl : k = l.length := by omega
      have HFT : Hid (fitD l = true) := by
        show _ = _
        rw [fitD_iff]
        refine ⟨hl5, fun s h => ?_⟩
        obtain ⟨i, hi, rfl⟩ := List.mem_iff_getElem.1 h
        exact HFI.out i hi hi
      go_wp2_with fail
      go_ret2
      refine ⟨s0, by unfold packE; rw [HFT.out]; rfl, ?_, by rw [HD.out]; exact HE.out⟩
      unfold packL
      rw [HFT.out, if_pos rfl, ← preP_all]
      exact HLS.out
    have hrd := HVW.out _ HE.out
    obtain ⟨_, ⟨h0, _⟩ | ⟨pb, po, pcap, hpe, hpb, hcell⟩⟩ := hrd.cases
    · subst h0; simp at hlt
    obtain ⟨rfl, rfl⟩ : at_ = some ⟨pb, po, none⟩ ∧ ct = pcap := by simpa using hpe
    have g0 := hcell k hlt
    have hss := HSM.out l[k] (List.getElem_mem hlt)
    have hs9 : l[k].size ≤ 9223372036854775807 := by unfold maxLen at hss; omega
    obtain ⟨s, hsk⟩ : ∃ s, l[k] = s := ⟨_, rfl⟩
    rw [hsk] at g0 hs9
    have HSK := Lib.hid hsk
    clear hsk hss hcell hrd hpe
    have hLN : s0.size ≤ 1 + 20002 * k := by rw [size_list, HLS.out]; exact preP_len k hk HFI.out
    by_cases hg : s.size > 20000
    · have dg : decide ((s.size : Int) > 20000) = true := by simp; omega
      have HF : Hid (fitD l = false) := by
        show _ = _
        rw [Bool.eq_false_iff]
        intro h
        have := (fitD_iff.1 h).2 l[k] (List.getElem_mem hlt)
        rw [HSK.out] at this
        omega
      clear hg
      go_wp2_with fail
      go_ret2
      exact PackP.bad HF.out (by rw [HD.out]; exact HE.out)
    have dg : decide ((s.size : Int) > 20000) = false := by simp; omega
    have hs20 : s.size ≤ 20000 := by omega
    clear hg
    go_wp2_with fail
    obtain ⟨wa, hwa⟩ : ∃ wa, wr = wa := ⟨_, rfl⟩
    have HTC : Hid (∀ x : BW wr.heap.size wr, Calls Tryd.prog 29 #[.int .i64 (s.size : Int)] x.w fun e w' => e = .returned (.string (tx2 (loB s.size) (hiB s.size))) ∧ ∃ z : BW wr.heap.size wr, w' = z.w) := by
      show ∀ x : BW wr.heap.size wr, _
      intro x
      exact (rTwo_any s.size (by omega) x.w).mono fun e w' ⟨h1, h2⟩ => ⟨h1, ⟨w', x.h.trans (h2.mono x.h.size)⟩, rfl⟩
    have f1 : ∀ x : BW wr.heap.size wr, x.w.cell? ⟨pb, po + k, none⟩ = some (.string s) := fun x => (x.h.cell (p := ⟨pb, po + k, none⟩) hpb).trans g0
    obtain ⟨tw, htw⟩ : ∃ t, tx2 (loB s.size) (hiB s.size) = t := ⟨_, rfl⟩
    have htws : tw.size = 2 := by rw [← htw]; rfl
    have HTL : Hid (tw.data.toList = [by8 (loB s.size), by8 (hiB s.size)]) := by show _ = _; rw [← htw]; rfl
    rw [htw] at HTC
    obtain ⟨s1, hs1⟩ : ∃ t, s0 ++ tw = t := ⟨_, rfl⟩
    obtain ⟨s2, hs2⟩ : ∃ t, s1 ++ s = t := ⟨_, rfl⟩
    have hz1 : s1.size = s0.size + 2 := by rw [← hs1, ByteArray.size_append, htws]
    have ad1 : ∀ w, (Op.stringOp .add s0 tw).run Tryd.prog w = .ok (.string s1) w := fun w => by rw [← hs1]; exact add_run (by omega) w
    have ad2 : ∀ w, (Op.stringOp .add s1 s).run Tryd.prog w = .ok (.string s2) w := fun w => by rw [← hs2]; exact add_run (by omega) w
    have HFIN : Hid (s2.data.toList = preP l (k + 1)) := by
      show _ = _
      have h1 := text_add HLS.out HTL.out
      rw [hs1] at h1
      rw [← hs2, preP_succ hlt, HSK.out, text_add h1 rfl]
      unfold txt2
      rw [List.append_assoc]
      rfl
    have C0 : Hid (Below wr.heap.size wr wr.drew) := (Below.refl _ wr).drew
    clear hwa htw htws hs1 hs2 hz1
    refine wp_region_bw (B := wr.heap.size) (W := wr) (by kernel_rfl) (by kernel_rfl) C0.out ?_
    repeat (first
      | go_big_quiet_skip
      | (go_big_quiet_want; go_big_quiet_op; first | go_big_quiet_on | (apply Exists.intro; refine ⟨?_, ?_⟩; exact HTC.out; go_big_quiet_on)))
    refine wpQuiet_nil ?_
    intro w9 hb9
    have HE9 : Hid (Below D w w9) := HE.out.trans (hb9.mono HZ.out)
    have HZ9 : Hid (D ≤ w9.heap.size) := by have := HZ.out; have := hb9.size; show _ ≤ _; omega
    have HF2 : Hid (∀ i (hi : i < l.length), i < k + 1 → l[i].size ≤ 20000) := by
      intro i hi h2
      by_cases e : i = k
      · subst e; rw [HSK.out]; exact hs20
      · exact HFI.out i hi (by omega)
    clear hb9 C0 f1 HTC ad1 ad2
    go_wp2_with fail
    go_roundw
    case rel => exact ⟨k + 1, s2, by omega, by go_num, rfl, HF2.out, HFIN.out, HE9.out, HZ9.out⟩
    case measure => simp [intOf]; omega

/-! ### Unpack -/
theorem cut_at {s : ByteArray} {lo hi : Nat} {zl zh : Int} (hl : zl = (lo : Int)) (hh : zh = (hi : Int)) (h1 : lo ≤ hi) (h2 : hi ≤ s.size) (w : World) :
    (Instr.slice 9 (.string s) (some (.int .i64 zl)) (some (.int .i64 zh)) none).run Tryd.prog w = .ok (.string (s.extract lo hi)) w := by
  subst hl
  subst hh
  have := run_slice_string (P := Tryd.prog) w 9 s .i64 .i64 (lo : Int) (hi : Int) Tryd.underlying9 (by omega) (by omega) (by omega)
  rw [this, Int.toNat_natCast, Int.toNat_natCast]
def RUnR (s : ByteArray) (r0 : List UInt8) (n0 D : Nat) (w : World) (v at_ i : Value) (wr : World) : Prop :=
  ∃ (j a : Nat) (L : List ByteArray) (ao : Option Addr) (co : Nat), j ≤ n0 ∧ a ≤ s.size ∧ i = .int .i64 (j : Int) ∧ at_ = .int .i64 (a : Int) ∧ v = .slice ao L.length co ∧ L.length = j ∧ unK 20000 j r0 = some (L, s.data.toList.drop a) ∧ wr.ownsRow D 9 1 (.slice ao L.length co) L.length (L.map .string) ∧ Below D w wr ∧ D ≤ wr.heap.size
theorem run_next {s : ByteArray} {r0 r' : List UInt8} {n0 D j a a' : Nat} {w x x' w5 : World} {L : List ByteArray} {t : ByteArray} {ao a5 : Option Addr} {co c5 : Nat} {i at_ : Value} (hj : j < n0) (hi : i = .int .i64 ((j + 1 : Nat) : Int)) (ha : at_ = .int .i64 (a' : Int)) (ha' : a' ≤ s.size) (hl : L.length = j)
    (hd : unK 20000 j r0 = some (L, s.data.toList.drop a)) (h4 : un2 20000 (s.data.toList.drop a) = some (t, s.data.toList.drop a')) (hx : Below x.heap.size x x') (ho : x.ownsRow D 9 1 (.slice ao L.length co) L.length (L.map .string))
    (h5 : w5.ownsRow D 9 1 (.slice a5 (L.length + 1) c5) (L.length + 1) (L.map .string ++ [.string t])) (hg : x'.grownBy w5 (Value.slice ao L.length co).ownBlock) (hb : Below D w x) (hz : D ≤ x.heap.size) :
    RUnR s r0 n0 D w (.slice a5 (L.length + 1) c5) at_ i w5 := by
  have hc1 : Chg (fun z => D ≤ z) x w5 := (Chg.fresh hx).trans (Chg.grown hg (fun g hg => (ho.lt g hg).1))
  refine ⟨j + 1, a', L ++ [t], a5, c5, by omega, ha', hi, ha, by simp, by simp [hl], ?_, ?_, ?_, by have := hc1.size; omega⟩
  · rw [unK_snoc, hd, Option.bind_some]
    simp only
    rw [h4]
    rfl
  · simpa using h5
  · exact hb.trans (hc1.to_below (fun z h => by omega) (by omega))
theorem run_fail {a0 : UInt8} {r0 r : List UInt8} {j : Nat} {L : List ByteArray} (hj : j < a0.toNat) (hd : unK 20000 j r0 = some (L, r)) (h4 : un2 20000 r = none) : unpackB 20000 (a0 :: r0) = none := by
  refine un_bad (j := j + 1) (by omega) ?_
  rw [unK_snoc, hd, Option.bind_some]
  simp only
  rw [h4]
  rfl

set_option maxRecDepth 20000 in
set_option maxHeartbeats 1000000 in
theorem runpack_any (s : ByteArray) (w : World) (hs : s.size ≤ 100000000) :
    Calls Tryd.prog 20 #[.string s] w (UnP s.data.toList w) := by
  obtain ⟨i0, hi, jz0, jz1, jz2⟩ := info_parts infoStr
  obtain ⟨D, hD⟩ : ∃ D, w.heap.size = D := ⟨_, rfl⟩
  have HD := Lib.hid hD
  cases hd : s.data.toList with
  | nil =>
    have h0 : s.size = 0 := by rw [size_list, hd]; rfl
    have hsz : (s.size : Int) = 0 := by omega
    have HB : Hid (UnP [] w (.returned (.tuple #[.slice none 0 0, .int .i64 50])) w) := UnP.bad rfl (Below.refl _ _)
    clear hd h0 hD
    go_enter Tryd.func20, Tryd.ntmps20
    go_wp2_with fail
    go_ret2
    exact HB.out
  | cons a0 r0 =>
  have h0 : s.size ≠ 0 := by rw [size_list, hd]; simp
  have d1 : decide ((s.size : Int) < 1) = false := by simp; omega
  have HBAD : Hid (∀ w', unpackB 20000 (a0 :: r0) = none → Below D w w' → UnP (a0 :: r0) w (.returned (.tuple #[.slice none 0 0, .int .i64 50])) w') := fun w' h hb => UnP.bad h (by rw [HD.out]; exact hb)
  obtain ⟨n0, hn0⟩ : ∃ n, a0.toNat = n := ⟨_, rfl⟩
  have HN0 := Lib.hid hn0
  have hn9 : n0 ≤ 255 := by have := a0.toNat_lt; omega
  have i0' := fun w => idx_run (s := s) (i := 0) (b := a0) (r := r0) (by rw [List.drop_zero]; exact hd) w
  rw [hn0] at i0'
  have i0'' : ∀ w : World, (Instr.index 9 (.string s) (.int .i64 0)).run Tryd.prog w = .ok (.int .u8 (n0 : Int)) w := i0'
  have hs1 : (0 : Int) < (s.size : Int) := by omega
  have HDROP : Hid (s.data.toList.drop 1 = r0) := by show _ = _; rw [hd]; rfl
  have HI : Hid (RUnR s r0 n0 D w (.slice (some ⟨D, 0, none⟩) 0 0) (.int .i64 1) (.int .i64 0) (w.alloc (.cells #[] 9))) := by
    have h1 := World.ownsRow_lit (base := D) (e := 9) (size := 1) w #[] 0 (by omega) (by unfold maxLen; omega) rfl
    rw [hD] at h1
    exact ⟨0, 1, [], some ⟨D, 0, none⟩, 0, by omega, by omega, rfl, rfl, rfl, rfl, by rw [HDROP.out]; rfl, h1, (Below.refl _ _).alloc (by omega) _, by simp; omega⟩
  clear hd h0 hn0 i0'
  go_enter Tryd.func20, Tryd.ntmps20
  have hDD := hD
  clear hD
  go_wp2_with fail
  clear hDD
  go_loopw [4, 5, 6] (fun v a i wr => RUnR s r0 n0 D w v a i wr) (fun _ _ i _ => n0 - (intOf i).toNat)
  case atStart => exact HI.out
  case round =>
    rename World => wr
    obtain ⟨j, a, L, ao, co, hj, ha, rfl, rfl, rfl, hlj, hdk, how, hbe, hze⟩ := hrel
    have HLL := Lib.hid hlj
    have HDK := Lib.hid hdk
    have HO := Lib.hid how
    have HE := Lib.hid hbe
    have HZ := Lib.hid hze
    clear hlj hdk how hbe hze
    have hss : s.size ≤ 9223372036854775807 := by omega
    by_cases hlt : j < n0
    rotate_left
    · obtain rfl : j = n0 := by omega
      by_cases hae : a = s.size
      · subst hae
        have HNIL : Hid (s.data.toList.drop s.size = []) := List.drop_eq_nil_of_le (by rw [Array.length_toList]; exact Nat.le_refl _)
        have HD9 : Hid (unE (a0 :: r0) = 0 ∧ unL (a0 :: r0) = L) := by
          have h1 := HDK.out
          rw [HNIL.out, ← HN0.out] at h1
          exact unE_some ((un_end h1).trans (if_pos rfl))
        have HO9 : Hid (OwnS D wr (.slice ao L.length co) L) := HO.out
        go_wp2_with fail
        go_ret2
        exact ⟨_, by rw [HD9.out.1]; rfl, by rw [HD9.out.2, HD.out]; exact HO9.out, by rw [HD.out]; exact HE.out⟩
      · have hab : ((a : Int) != (s.size : Int)) = true := by simp; omega
        have HDN : Hid (unpackB 20000 (a0 :: r0) = none) := by
          have h1 := HDK.out
          rw [← HN0.out] at h1
          refine (un_end h1).trans (if_neg ?_)
          intro h3
          have := drop_end h3
          omega
        clear hae
        go_wp2_with fail
        go_ret2
        exact HBAD.out _ HDN.out HE.out
    have hltI : (j : Int) < (n0 : Int) := by omega
    by_cases h2 : s.size < a + 2
    · have HDN : Hid (unpackB 20000 (a0 :: r0) = none) := by
        refine run_fail (by rw [HN0.out]; exact hlt) HDK.out ?_
        have hlen : (s.data.toList.drop a).length < 2 := by rw [List.length_drop, Array.length_toList]; show s.size - a < 2; omega
        match hm : s.data.toList.drop a, hlen with
        | [], _ => rfl
        | [x], _ => rfl
      have dg : decide ((a : Int) + 2 > (s.size : Int)) = true := by simp; omega
      clear h2
      go_wp2_with fail
      go_ret2
      exact HBAD.out _ HDN.out HE.out
    have dg : decide ((a : Int) + 2 > (s.size : Int)) = false := by simp; omega
    obtain ⟨x, y, r2, hxy⟩ : ∃ x y r2, s.data.toList.drop a = x :: y :: r2 := by
      have hlen : 2 ≤ (s.data.toList.drop a).length := by rw [List.length_drop, Array.length_toList]; show 2 ≤ s.size - a; omega
      match hm : s.data.toList.drop a, hlen with
      | x :: y :: r2, _ => exact ⟨x, y, r2, rfl⟩
    obtain ⟨hl1, hd1, _⟩ := drop_lt hxy
    obtain ⟨hl2, hd2, hr2⟩ := drop_lt hd1
    have ix0 := idx_run hxy
    have ix1' := idx_run hd1
    have ix1 : ∀ w : World, (Instr.index 9 (.string s) (.int .i64 ((a : Int) + 1))).run Tryd.prog w = .ok (.int .u8 ((y.toNat : Nat) : Int)) w := ix1'
    have hx9 := x.toNat_lt
    have hy9 := y.toNat_lt
    obtain ⟨nn, hnn⟩ : ∃ n, x.toNat + 256 * y.toNat = n := ⟨_, rfl⟩
    have HU2 : Hid (un2 20000 (s.data.toList.drop a) = if nn ≤ 20000 ∧ nn ≤ r2.length then some (⟨(r2.take nn).toArray⟩, r2.drop nn) else none) := by show _ = _; rw [hxy, ← hnn]; rfl
    obtain ⟨xx, hxx⟩ : ∃ n, x.toNat = n := ⟨_, rfl⟩
    obtain ⟨yy, hyy⟩ : ∃ n, y.toNat = n := ⟨_, rfl⟩
    rw [hxx] at ix0 hx9 hnn
    rw [hyy] at ix1 hy9 hnn
    have HSUM : Hid ((xx : Int) + 256 * (yy : Int) = (nn : Int)) := by show _ = _; omega
    have hxI : (xx : Int) ≤ 255 := by omega
    have hyI : (yy : Int) ≤ 255 := by omega
    have hlA : (a : Int) + 1 < (s.size : Int) := by omega
    have hnn9 : nn ≤ 65535 := by omega
    have hd22 : s.data.toList.drop (a + 2) = r2 := hd2
    have hr22 : r2.length = s.size - (a + 2) := hr2
    clear ix1' hxy hd1 hd2 hr2 hxx hyy hl1 hl2 h2
    go_wp2_with fail
    have ww0 : IntKind.i64.wrap ((a : Int) + 1) = (a : Int) + 1 := IntWalk.i64_in _ (by omega)
    have ww1 : IntKind.i64.wrap (256 * (yy : Int)) = 256 * (yy : Int) := IntWalk.i64_in _ (by omega)
    have ww2 : IntKind.i64.wrap ((xx : Int) + 256 * (yy : Int)) = (xx : Int) + 256 * (yy : Int) := IntWalk.i64_in _ (by omega)
    go_quiet (fail)
    clear ww0 ww1 ww2 ix0 ix1 dg
    rw [HSUM.out]
    by_cases hbig : nn > 20000
    · have db : decide ((nn : Int) > 20000) = true := by simp; omega
      have HDN : Hid (unpackB 20000 (a0 :: r0) = none) := run_fail (by rw [HN0.out]; exact hlt) HDK.out (HU2.out.trans (if_neg (by omega)))
      clear hbig hnn hd22 hr22
      go_wp2_with fail
      go_ret2
      exact HBAD.out _ HDN.out (below_drewN HE.out _)
    have db : decide ((nn : Int) > 20000) = false := by simp; omega
    by_cases hlong : s.size < a + 2 + nn
    · have dl : decide ((a : Int) + 2 + (nn : Int) > (s.size : Int)) = true := by simp; omega
      have HDN : Hid (unpackB 20000 (a0 :: r0) = none) := run_fail (by rw [HN0.out]; exact hlt) HDK.out (HU2.out.trans (if_neg (by omega)))
      clear hbig hlong hnn hd22 hr22
      go_wp2_with fail
      go_ret2
      exact HBAD.out _ HDN.out (below_drewN HE.out _)
    have dl : decide ((a : Int) + 2 + (nn : Int) > (s.size : Int)) = false := by simp; omega
    have cut := cut_at (s := s) (lo := a + 2) (hi := a + 2 + nn) (zl := (a : Int) + 2) (zh := (a : Int) + 2 + (nn : Int)) (by omega) (by omega) (by omega) (by omega)
    obtain ⟨tx, htx⟩ : ∃ t, s.extract (a + 2) (a + 2 + nn) = t := ⟨_, rfl⟩
    rw [htx] at cut
    have hfin : a + 2 + nn ≤ s.size := by omega
    have HU3 : Hid (un2 20000 (s.data.toList.drop a) = some (tx, s.data.toList.drop (a + 2 + nn))) := by
      show _ = _
      refine HU2.out.trans ((if_pos (by omega)).trans ?_)
      have h1 : tx.data.toList = r2.take nn := by rw [← htx, Lib.extract_data, hd22, Nat.add_sub_cancel_left]
      rw [← text_eq h1, ← hd22, List.drop_drop]
    clear hbig hlong hnn hd22 hr22 htx
    obtain ⟨x4, hx4⟩ : ∃ x, wr.drewN nq = x := ⟨_, rfl⟩
    have HO4 : Hid (x4.ownsRow D 9 1 (.slice ao L.length co) L.length (L.map .string)) := by rw [← hx4]; exact HO.out
    have HE4 : Hid (Below D w x4) := by rw [← hx4]; exact below_drewN HE.out _
    have HZ4 : Hid (D ≤ x4.heap.size) := by rw [← hx4]; exact HZ.out
    rw [hx4]
    clear hx4
    have HA1 : Hid ((x4.alloc (.cells #[.string tx] 9)).ownsRow D 9 1 (.slice ao L.length co) L.length (L.map .string)) := ownsRow_below HO4.out ((Below.refl _ _).alloc (Nat.le_refl _) _) (fun g hg => (HO4.out.lt g hg).2)
    have HA2 : Hid (RowAt (x4.alloc (.cells #[.string tx] 9)) 1 (.slice (some ⟨x4.heap.size, 0, none⟩) 1 1) 1 [.string tx]) := RowAt.lit (size := 1) x4 9 #[.string tx] 1 rfl (by unfold maxLen; omega)
    have HA3 := Lib.hid (text_one tx)
    have hA4 : (L.length + 1) * 16 ≤ 140737488355328 := by have := HLL.out; omega
    have hA5 : L.length + 1 ≤ maxLen := by have := HLL.out; unfold maxLen; omega
    have hA6 : D ≤ (x4.alloc (.cells #[.string tx] 9)).heap.size := by have := HZ4.out; simp; omega
    go_wp2_with (at_builtin; go_must (refine wpList_append_row rfl (.tmp 46) (.tmp 55) 37 rfl D 9 i0 (.string ByteArray.empty) 1 16 Tryd.underlying37 hi jz0 jz1 jz2 rfl (by decide) (.slice ao L.length co) L.length (L.map .string) rfl HA1.out (.slice (some ⟨x4.heap.size, 0, none⟩) 1 1) 1 [.string tx] rfl HA2.out HA3.out hA4 hA5 hA6 ?_); intro v5 w5 hown5 hg5 hat5; obtain ⟨a5, c5, rfl, _⟩ := (RowAt.of_own hown5).form; have HST5 := Lib.hid hown5; have HG5 := Lib.hid hg5; clear hown5 hg5 hat5)
    go_roundw
    case rel => exact run_next (r' := []) (a := a) (a' := a + 2 + nn) hlt (by go_num) (by first | go_num | (simp; omega)) hfin HLL.out HDK.out HU3.out ((Below.refl _ _).alloc (Nat.le_refl _) _) HO4.out HST5.out HG5.out HE4.out HZ4.out
    case measure => simp [intOf]; omega

/-! ### Texts; rows of nodes that differ -/
set_option maxRecDepth 20000 in
set_option maxHeartbeats 1000000 in
theorem texts_yes (l : List ByteArray) (va vb : Value) (w : World) (ha : ReadS w va l) (hb : ReadS w vb l) :
    Calls Tryd.prog 21 #[va, vb] w fun e w' => e = .returned (.bool true) ∧ Below w.heap.size w w' := by
  obtain ⟨hm, ⟨h0, a, cap, rfl⟩ | ⟨b, off, cap, rfl, _, hc⟩⟩ := ha.cases
  · subst h0
    obtain ⟨a', cap', rfl⟩ := hb.len_slice
    go_enter Tryd.func21, Tryd.ntmps21
    go_wp2_with fail
    go_loopw [5] (fun i wr => i = .int .i64 0 ∧ wr = w) (fun _ _ => 0)
    case atStart => exact ⟨rfl, rfl⟩
    case round =>
      obtain ⟨rfl, rfl⟩ := hrel
      go_wp2_with fail
      go_ret
      exact ⟨rfl, Below.refl _ _⟩
  obtain ⟨_, ⟨h0, a, cap', rfl⟩ | ⟨b', off', cap', rfl, _, hc'⟩⟩ := hb.cases
  · subst h0
    go_enter Tryd.func21, Tryd.ntmps21
    go_wp2_with fail
    go_loopw [5] (fun i wr => i = .int .i64 0 ∧ wr = w) (fun _ _ => 0)
    case atStart => exact ⟨rfl, rfl⟩
    case round =>
      obtain ⟨rfl, rfl⟩ := hrel
      go_wp2_with fail
      go_ret
      exact ⟨rfl, Below.refl _ _⟩
  have HC := Lib.hid hc
  have HC' := Lib.hid hc'
  have hm9 : l.length ≤ 9223372036854775807 := by unfold maxLen at hm; omega
  clear hm hc hc' ha hb
  go_enter Tryd.func21, Tryd.ntmps21
  go_wp2_with fail
  go_loopw [5] (fun i wr => (∃ k : Nat, k ≤ l.length ∧ i = .int .i64 (k : Int)) ∧ ∃ n, wr = w.drewN n) (fun i _ => l.length - (intOf i).toNat)
  case atStart => exact ⟨⟨0, Nat.zero_le _, rfl⟩, 0, rfl⟩
  case round =>
    obtain ⟨⟨k, hk, rfl⟩, n, rfl⟩ := hrel
    by_cases hlt : k < l.length
    · have g0 := HC.out k hlt
      have f0 := HC'.out k hlt
      obtain ⟨s, hs⟩ : ∃ s, l[k] = s := ⟨_, rfl⟩
      rw [hs] at g0 f0
      clear hs
      go_wp2_with fail
      go_quiet (fail)
      go_wp2_with fail
      go_roundw
      case rel => exact ⟨⟨k + 1, by omega, by go_num⟩, ⟨_, rfl⟩⟩
      case measure => simp [intOf]; omega
    · obtain rfl : k = l.length := by omega
      go_wp2_with fail
      go_ret
      exact ⟨rfl, below_drewN (Below.refl _ _) _⟩

end Go.Proofs.YtoagedaohdkbdaaDoor
