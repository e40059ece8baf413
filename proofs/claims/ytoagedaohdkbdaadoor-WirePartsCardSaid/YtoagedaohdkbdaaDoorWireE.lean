/- wire.two, wire.Encode, wire.Pack: which bytes they make. -/
import Derived.Test.YtoagedaohdkbdaaDoorWireG
import Derived.Test.YtoagedaohdkbdaaDoorBld
import Derived.Test.YtoagedaohdkbdaaDoorPa
namespace Go.Proofs.YtoagedaohdkbdaaDoor
set_option linter.unusedSimpArgs false
set_option linter.unusedVariables false
open Go.RowKit

theorem Bld.alloc {B b : Nat} {l : List UInt8} {w : World} (h : Bld B b l w) (o : Obj) : Bld B b l (w.alloc o) := Lib.IsBuilderF.alloc h o
theorem Bld.fresh (w : World) : Bld w.heap.size w.heap.size [] (w.alloc (.cells #[.pointer none, .slice none 0 0] 47)) :=
  .inl ⟨Nat.le_refl _, .slice none 0 0, heap_alloc_new w _, ⟨rfl, .inl ⟨rfl, rfl⟩⟩, by simp [Value.ownBlock]⟩
theorem lo8 (n : Nat) : ((n : Int) % 256) = ((by8 (loB n)).toNat : Int) := by
  have h1 := by8_nat (n := loB n) (by unfold loB; omega) (by unfold loB; omega)
  rw [h1]; unfold loB; omega
theorem hi8 (n : Nat) (hn : n ≤ 65535) : ((n : Int) / 256) = ((by8 (hiB n)).toNat : Int) := by
  have h1 := by8_nat (n := hiB n) (by unfold hiB; omega) (by unfold hiB; omega)
  rw [h1]; unfold hiB; omega

theorem two_any (B b : Nat) (l : List UInt8) (n : Nat) (hn : n ≤ 65535) (w : World) (h : Bld B b l w) (hlen : l.length ≤ 99999999) (hBw : B ≤ w.heap.size) :
    Calls Tryd.prog 23 #[.pointer (some ⟨b, 0, none⟩), .int .i64 (n : Int)] w fun e w' => e = .returned (.tuple #[]) ∧ Wrote B b (l ++ [by8 (loB n), by8 (hiB n)]) w w' := by
  have HL := Lib.hid (lo8 n)
  have HH := Lib.hid (hi8 n hn)
  go_enter Tryd.func23, Tryd.ntmps23
  go_wp2_with fail
  refine (bbyte_any B b l (by8 (loB n)) _ HL.out _ h (by omega) hBw).mono ?_
  rintro e w1 ⟨rfl, hb1, hw1, hk1⟩
  have HB1 := Lib.hid hb1
  have HW1 := Lib.hid hw1
  have HK1 := Lib.hid hk1
  clear hb1 hw1 hk1
  go_wp2_with fail
  refine (bbyte_any B b (l ++ [by8 (loB n)]) (by8 (hiB n)) _ (by have := HH.out; omega) _ HB1.out (by simp; omega) (by have := HW1.out.size; omega)).mono ?_
  rintro e w2 ⟨rfl, hb2, hw2, hk2⟩
  have HF : Hid (Wrote B b (l ++ [by8 (loB n), by8 (hiB n)]) w w2) := ⟨by simpa using hb2, HW1.out.trans (hw2.mono (Nat.le_refl _)), HK1.out.trans hk2⟩
  clear hb2 hw2 hk2
  go_wp2_with fail
  go_end0
  exact ⟨rfl, HF.out⟩

/-! ### Encode -/
def codE (l : List Nd) : List UInt8 := if chk l = 0 then codB l else []
/-- the bytes of the first k nodes -/
def preE (l : List Nd) (k : Nat) : List UInt8 := [by8 (loB l.length), by8 (hiB l.length)] ++ (l.take k).flatMap encN
theorem preE_all (l : List Nd) : preE l l.length = codB l := by unfold preE codB; rw [List.take_of_length_le (Nat.le_refl _)]; rfl
theorem preE_succ {l : List Nd} {k : Nat} (h : k < l.length) : preE l (k + 1) = preE l k ++ encN l[k] := by
  unfold preE
  rw [List.take_succ_eq_append_getElem h, List.flatMap_append, List.append_assoc]
  simp
theorem encN_most {n : Nd} (h : rightB n = true) : (encN n).length ≤ 300 := by
  obtain ⟨_, _, _, h1, _⟩ := right_parts h
  rw [encN_len]
  split <;> split <;> split <;> omega
theorem preE_len {l : List Nd} (h : ∀ n, n ∈ l → rightB n = true) (k : Nat) (hk : k ≤ l.length) : (preE l k).length ≤ 2 + 300 * k := by
  induction k with
  | zero => simp [preE]
  | succ k ih =>
    rw [preE_succ (by omega), List.length_append]
    have := ih (by omega)
    have := encN_most (h l[k] (List.getElem_mem _))
    omega
/-- behind a write: the builder, and what stands -/
theorem enc_step {B b p : Nat} {l' : List UInt8} {W w w' : World} {cs : Array Value} (h : Wrote B b l' w w') (hb : Below B W w) (hq : Blk w p 30 cs) (hpb : p ≠ b) :
    Bld B b l' w' ∧ Below B W w' ∧ Blk w' p 30 cs :=
  ⟨h.1, hb.trans (h.2.1.mono (Nat.le_refl _)), h.2.2 p _ hq (by intro e; injection e with e; exact hpb e) (by intro c fz e; injection e with _ e; cases e)⟩
def EncP (l : List Nd) (w : World) (e : Ending) (w' : World) : Prop := ∃ s : ByteArray, e = .returned (.tuple #[.string s, .int .i64 (chk l)]) ∧ s.data.toList = codE l ∧ Below w.heap.size w w'
/-- at a round's head -/
def EncI (l : List Nd) (B : Nat) (W : World) (i : Value) (wr : World) : Prop := ∃ k : Nat, k ≤ l.length ∧ i = .int .i64 (k : Int) ∧ Bld B B (preE l k) wr ∧ Below B W wr

set_option maxRecDepth 20000 in
set_option maxHeartbeats 2000000 in
theorem encode_any (l : List Nd) (v : Value) (w : World) (hS : ShapesAt w) (hF : FieldsAt w) (hv : ReadN w v l) (hs : SmallN l) :
    Calls Tryd.prog 11 #[v] w (EncP l w) := by
  obtain ⟨at_, ct, rfl⟩ := ReadN.len_slice hv
  have HFW : Hid (∀ x, Below w.heap.size w x → FieldsAt x) := fun x hb => hF.below hb
  have HVW : Hid (∀ x, Below w.heap.size w x → ReadN x (.slice at_ l.length ct) l) := fun x hb => hv.below hb
  have HCH := Lib.hid (tcheck_any l _ w hS hv hs)
  obtain ⟨c, hc⟩ : ∃ c, chk l = c := ⟨_, rfl⟩
  rw [hc] at HCH
  have HC := Lib.hid hc
  clear hS hF hv hs hc
  by_cases h0 : c = 0
  rotate_left
  · have hcb : (c != 0) = true := by simpa using h0
    have hE : codE l = [] := by unfold codE; rw [if_neg (by rw [HC.out]; exact h0)]
    have HE := Lib.hid hE
    clear hE h0
    go_enter Tryd.func11, Tryd.ntmps11
    go_wp2_with fail
    refine HCH.out.mono ?_
    rintro e w1 ⟨rfl, hb1⟩
    have HB1 := Lib.hid hb1
    clear hb1
    go_wp2_with fail
    go_ret2
    exact ⟨⟨#[]⟩, by rw [HC.out]; rfl, by rw [HE.out], HB1.out⟩
  subst h0
  have hle := (chk_ok HC.out).1
  have hE : codE l = codB l := by unfold codE; rw [if_pos HC.out]
  have HE := Lib.hid hE
  have HR := Lib.hid (chk_right HC.out)
  have HPL : Hid (∀ k, k ≤ l.length → (preE l k).length ≤ 2 + 300 * k) := fun k hk => preE_len HR.out k hk
  clear hE
  go_enter Tryd.func11, Tryd.ntmps11
  go_wp2_with fail
  refine HCH.out.mono ?_
  rintro e w1 ⟨rfl, hb1⟩
  obtain ⟨W, hW⟩ : ∃ W, w1.alloc (.cells #[.pointer none, .slice none 0 0] 47) = W := ⟨_, rfl⟩
  obtain ⟨B, hB⟩ : ∃ B, w1.heap.size = B := ⟨_, rfl⟩
  have hbf := Bld.fresh w1
  rw [hW, hB] at hbf
  have hbW : Below B w1 W := by rw [← hW, ← hB]; exact (Below.refl _ _).alloc (Nat.le_refl _) _
  have hBW : B ≤ W.heap.size := by rw [← hW, ← hB]; simp
  have HBF := Lib.hid hbf
  have HBW := Lib.hid hbW
  have HB1 := Lib.hid hb1
  have HBs := Lib.hid hB
  have HWe := Lib.hid hW
  clear hb1 hbf hbW hW hB
  go_wp2_with fail
  rw [HWe.out, HBs.out]
  refine (two_any B B [] l.length (by omega) W HBF.out (by simp) hBW).mono ?_
  rintro e w2 ⟨rfl, hw2⟩
  have HI : Hid (EncI l B w1 (.int .i64 0) w2) := ⟨0, by omega, rfl, by have := hw2.1; rw [List.nil_append] at this; show Bld _ _ ([by8 (loB l.length), by8 (hiB l.length)] ++ []) _; rw [List.append_nil]; exact this, HBW.out.trans (hw2.2.1.mono (Nat.le_refl _))⟩
  clear hw2
  go_wp2_with fail
  go_loopw [18] (fun i wr => EncI l B w1 i wr) (fun i _ => l.length - (intOf i).toNat)
  case atStart => exact HI.out
  case round =>
    rename World => wr
    obtain ⟨k, hk, rfl, hbld, hbel⟩ := hrel
    have HB := Lib.hid hbld
    have HBE := Lib.hid hbel
    clear hbld hbel
    by_cases hlt : k < l.length
    rotate_left
    · obtain rfl : k = l.length := by omega
      go_wp2_with fail
      refine (bstring_any B B _ wr HB.out (by have := HBE.out.size; have := HBs.out; omega)).mono ?_
      rintro e w9 ⟨rfl, hb9⟩
      have HF9 : Hid (Below w.heap.size w w9) := HB1.out.trans ((HBE.out.trans hb9).mono (by have := HB1.out.size; have := HBs.out; omega))
      clear hb9
      go_wp2_with fail
      go_ret2
      refine ⟨⟨(preE l l.length).toArray⟩, by rw [HC.out]; rfl, ?_, HF9.out⟩
      rw [HE.out, ← preE_all]
    have hbw : Below w.heap.size w wr := HB1.out.trans (HBE.out.mono (by have := HB1.out.size; have := HBs.out; omega))
    have hrd := HVW.out _ hbw
    obtain ⟨_, ⟨h0, _⟩ | ⟨pb, po, pcap, hpe, _, _, hpb, hcell⟩⟩ := hrd.cases
    · subst h0; simp at hlt
    obtain ⟨rfl, rfl⟩ : at_ = some ⟨pb, po, none⟩ ∧ ct = pcap := by simpa using hpe
    obtain ⟨g0, g1, g2, g3⟩ := hcell k hlt
    obtain ⟨nd, hnd⟩ : ∃ nd, l[k] = nd := ⟨_, rfl⟩
    rw [hnd] at g0 g1 g2 g3
    have hnr : rightB nd = true := by rw [← hnd]; exact HR.out _ (List.getElem_mem hlt)
    obtain ⟨⟨k0, k1⟩, ⟨n0, n1, _⟩, ⟨m0, m1, _⟩, s1, _⟩ := right_parts hnr
    obtain ⟨kk, hK⟩ := Int.eq_ofNat_of_zero_le k0
    rw [hK] at g0 k0 k1
    have hk30 : kk < 30 := by omega
    have HK8 := Lib.hid (by8_nat (n := (kk : Int)) (by omega) (by omega))
    have HN8 := Lib.hid (by8_nat (n := nd.N) n0 n1)
    have HM8 := Lib.hid (by8_nat (n := nd.M) m0 m1)
    have HS8 := Lib.hid (by8_nat (n := (nd.S.size : Int)) (by omega) (by omega))
    have HSL : Hid (nd.S.data.toList.length = nd.S.size) := Array.length_toList
    obtain ⟨p, hp⟩ : ∃ p, wr.heap.size = p := ⟨_, rfl⟩
    obtain ⟨x0, hx0⟩ : ∃ x, wr.alloc (.cells #[.int .i64 (kk : Int), .int .i64 nd.N, .int .i64 nd.M, .string nd.S] 30) = x := ⟨_, rfl⟩
    have HQ0 : Hid (Blk x0 p 30 #[.int .i64 (kk : Int), .int .i64 nd.N, .int .i64 nd.M, .string nd.S]) := by rw [← hx0, ← hp]; exact Blk.new _ _ _
    have HW0 : Hid (Below B w1 x0) := by rw [← hx0]; exact HBE.out.alloc (by have := HBE.out.size; have := HBs.out; omega) _
    obtain ⟨L0, hL0⟩ : ∃ x, preE l k = x := ⟨_, rfl⟩
    have HL0 := Lib.hid hL0
    have HB0 : Hid (Bld B B L0 x0) := by rw [← hx0, ← hL0]; exact HB.out.alloc _
    have HLN0 : Hid (L0.length ≤ 2 + 300 * k + 0) := by rw [← hL0]; exact HPL.out k hk
    have hpB : p ≠ B := by
      have hlt2 : B < wr.heap.size := by
        rcases HB.out with h | h <;> exact h.lt
      omega
    have HPB := Lib.hid hpB
    have HMK : Hid (∀ x, Below B w1 x → x.cell? ⟨0, kk, none⟩ = some (.int .u8 (maskB kk))) := fun x hb => (HFW.out x (HB1.out.trans (hb.mono (by have := HB1.out.size; have := HBs.out; omega)))) kk (by omega)
    have HND := Lib.hid hnd
    have r0 : x0.cell? ⟨p, 0, none⟩ = some (.int .i64 (kk : Int)) := HQ0.out.cell 0
    have r1 : x0.cell? ⟨p, 1, none⟩ = some (.int .i64 nd.N) := HQ0.out.cell 1
    have r2 : x0.cell? ⟨p, 2, none⟩ = some (.int .i64 nd.M) := HQ0.out.cell 2
    have r3 : x0.cell? ⟨p, 3, none⟩ = some (.string nd.S) := HQ0.out.cell 3
    have hsum := shp_sum kk hk30
    have HX0 := Lib.hid hx0
    have HP := Lib.hid hp
    clear hnd hnr hbw hrd hcell hL0 hpB hx0 hp hpe
    have hcase : (fN kk = true ∧ fM kk = false ∧ fS kk = false) ∨ (fN kk = false ∧ fM kk = false ∧ fS kk = true) ∨ (fN kk = false ∧ fM kk = false ∧ fS kk = false) ∨ (fN kk = true ∧ fM kk = true ∧ fS kk = true) ∨ (fN kk = false ∧ fM kk = true ∧ fS kk = true) := by
      unfold fN fM fS
      rw [Int.toNat_natCast]
      rcases hsum with h | h | h | ⟨h, _⟩ | ⟨h, _⟩ <;> rw [h] <;> simp
    clear hsum
    rcases hcase with ⟨e1, e2, e3⟩ | ⟨e1, e2, e3⟩ | ⟨e1, e2, e3⟩ | ⟨e1, e2, e3⟩ | ⟨e1, e2, e3⟩
    · have HEN : Hid (encN nd = [by8 (kk : Int)] ++ [by8 nd.N]) := by
        show encN nd = _
        unfold encN optB txtB
        rw [hK, e1, e2, e3]
        simp
      have hmk : maskB kk = 1 := by unfold maskB; rw [e1, e2, e3]; rfl
      rw [hmk] at HMK
      clear hmk
      have r4 := HMK.out _ HW0.out
      clear e1 e2 e3
      go_wp2_with fail
      rw [HX0.out, HP.out]
      obtain ⟨L1, hL1⟩ : ∃ x, L0 ++ [by8 (kk : Int)] = x := ⟨_, rfl⟩
      have HL1 := Lib.hid hL1
      have hl1 : L1.length = L0.length + 1 := by rw [← hL1, List.length_append]; rfl
      have HLN1 : Hid (L1.length ≤ 2 + 300 * k + 1) := by show _ ≤ _; rw [hl1]; have := HLN0.out; omega
      clear hL1 hl1
      refine (bbyte_any B B L0 (by8 (kk : Int)) (kk : Int) HK8.out.symm _ HB0.out (by have := HLN0.out; omega) (by have := HW0.out.size; have := HBs.out; omega)).mono ?_
      rintro e x1 ⟨rfl, hw1⟩
      rw [HL1.out] at hw1
      obtain ⟨y1, y2, y3⟩ := enc_step hw1 HW0.out HQ0.out HPB.out
      have HB1 := Lib.hid y1
      have HW1 := Lib.hid y2
      have HQ1 := Lib.hid y3
      have r0 : x1.cell? ⟨p, 0, none⟩ = some (.int .i64 (kk : Int)) := HQ1.out.cell 0
      have r1 : x1.cell? ⟨p, 1, none⟩ = some (.int .i64 nd.N) := HQ1.out.cell 1
      have r2 : x1.cell? ⟨p, 2, none⟩ = some (.int .i64 nd.M) := HQ1.out.cell 2
      have r3 : x1.cell? ⟨p, 3, none⟩ = some (.string nd.S) := HQ1.out.cell 3
      have r4 := HMK.out _ HW1.out
      clear hw1 y1 y2 y3
      go_wp2_with fail
      obtain ⟨L2, hL2⟩ : ∃ x, L1 ++ [by8 nd.N] = x := ⟨_, rfl⟩
      have HL2 := Lib.hid hL2
      have hl2 : L2.length = L1.length + 1 := by rw [← hL2, List.length_append]; rfl
      have HLN2 : Hid (L2.length ≤ 2 + 300 * k + 2) := by show _ ≤ _; rw [hl2]; have := HLN1.out; omega
      clear hL2 hl2
      refine (bbyte_any B B L1 (by8 nd.N) nd.N HN8.out.symm _ HB1.out (by have := HLN1.out; omega) (by have := HW1.out.size; have := HBs.out; omega)).mono ?_
      rintro e x2 ⟨rfl, hw2⟩
      rw [HL2.out] at hw2
      obtain ⟨y1, y2, y3⟩ := enc_step hw2 HW1.out HQ1.out HPB.out
      have HB2 := Lib.hid y1
      have HW2 := Lib.hid y2
      have HQ2 := Lib.hid y3
      have r0 : x2.cell? ⟨p, 0, none⟩ = some (.int .i64 (kk : Int)) := HQ2.out.cell 0
      have r1 : x2.cell? ⟨p, 1, none⟩ = some (.int .i64 nd.N) := HQ2.out.cell 1
      have r2 : x2.cell? ⟨p, 2, none⟩ = some (.int .i64 nd.M) := HQ2.out.cell 2
      have r3 : x2.cell? ⟨p, 3, none⟩ = some (.string nd.S) := HQ2.out.cell 3
      have r4 := HMK.out _ HW2.out
      clear hw2 y1 y2 y3
      go_wp2_with fail
      have HFI : Hid (preE l (k + 1) = L2) := by
        show _ = _
        rw [preE_succ hlt, HND.out, HEN.out, ← HL2.out, ← HL1.out, ← HL0.out]
        all_goals simp
      go_roundw
      case rel => exact ⟨k + 1, by omega, by go_num, by rw [HFI.out]; exact HB2.out, HW2.out⟩
      case measure => simp [intOf]; omega
    · have HEN : Hid (encN nd = [by8 (kk : Int)] ++ [by8 (nd.S.size : Int)] ++ nd.S.data.toList) := by
        show encN nd = _
        unfold encN optB txtB
        rw [hK, e1, e2, e3]
        simp
      have hmk : maskB kk = 4 := by unfold maskB; rw [e1, e2, e3]; rfl
      rw [hmk] at HMK
      clear hmk
      have r4 := HMK.out _ HW0.out
      clear e1 e2 e3
      go_wp2_with fail
      rw [HX0.out, HP.out]
      obtain ⟨L1, hL1⟩ : ∃ x, L0 ++ [by8 (kk : Int)] = x := ⟨_, rfl⟩
      have HL1 := Lib.hid hL1
      have hl1 : L1.length = L0.length + 1 := by rw [← hL1, List.length_append]; rfl
      have HLN1 : Hid (L1.length ≤ 2 + 300 * k + 1) := by show _ ≤ _; rw [hl1]; have := HLN0.out; omega
      clear hL1 hl1
      refine (bbyte_any B B L0 (by8 (kk : Int)) (kk : Int) HK8.out.symm _ HB0.out (by have := HLN0.out; omega) (by have := HW0.out.size; have := HBs.out; omega)).mono ?_
      rintro e x1 ⟨rfl, hw1⟩
      rw [HL1.out] at hw1
      obtain ⟨y1, y2, y3⟩ := enc_step hw1 HW0.out HQ0.out HPB.out
      have HB1 := Lib.hid y1
      have HW1 := Lib.hid y2
      have HQ1 := Lib.hid y3
      have r0 : x1.cell? ⟨p, 0, none⟩ = some (.int .i64 (kk : Int)) := HQ1.out.cell 0
      have r1 : x1.cell? ⟨p, 1, none⟩ = some (.int .i64 nd.N) := HQ1.out.cell 1
      have r2 : x1.cell? ⟨p, 2, none⟩ = some (.int .i64 nd.M) := HQ1.out.cell 2
      have r3 : x1.cell? ⟨p, 3, none⟩ = some (.string nd.S) := HQ1.out.cell 3
      have r4 := HMK.out _ HW1.out
      clear hw1 y1 y2 y3
      go_wp2_with fail
      obtain ⟨L2, hL2⟩ : ∃ x, L1 ++ [by8 (nd.S.size : Int)] = x := ⟨_, rfl⟩
      have HL2 := Lib.hid hL2
      have hl2 : L2.length = L1.length + 1 := by rw [← hL2, List.length_append]; rfl
      have HLN2 : Hid (L2.length ≤ 2 + 300 * k + 2) := by show _ ≤ _; rw [hl2]; have := HLN1.out; omega
      clear hL2 hl2
      refine (bbyte_any B B L1 (by8 (nd.S.size : Int)) (nd.S.size : Int) HS8.out.symm _ HB1.out (by have := HLN1.out; omega) (by have := HW1.out.size; have := HBs.out; omega)).mono ?_
      rintro e x2 ⟨rfl, hw2⟩
      rw [HL2.out] at hw2
      obtain ⟨y1, y2, y3⟩ := enc_step hw2 HW1.out HQ1.out HPB.out
      have HB2 := Lib.hid y1
      have HW2 := Lib.hid y2
      have HQ2 := Lib.hid y3
      have r0 : x2.cell? ⟨p, 0, none⟩ = some (.int .i64 (kk : Int)) := HQ2.out.cell 0
      have r1 : x2.cell? ⟨p, 1, none⟩ = some (.int .i64 nd.N) := HQ2.out.cell 1
      have r2 : x2.cell? ⟨p, 2, none⟩ = some (.int .i64 nd.M) := HQ2.out.cell 2
      have r3 : x2.cell? ⟨p, 3, none⟩ = some (.string nd.S) := HQ2.out.cell 3
      have r4 := HMK.out _ HW2.out
      clear hw2 y1 y2 y3
      go_wp2_with fail
      obtain ⟨L3, hL3⟩ : ∃ x, L2 ++ nd.S.data.toList = x := ⟨_, rfl⟩
      have HL3 := Lib.hid hL3
      have hl3 : L3.length = L2.length + nd.S.size := by rw [← hL3, List.length_append]; rw [HSL.out]
      have HLN3 : Hid (L3.length ≤ 2 + 300 * k + 258) := by show _ ≤ _; rw [hl3]; have := HLN2.out; omega
      clear hL3 hl3
      refine (btext_any B B L2 nd.S _ HB2.out (by have := HLN2.out; omega) (by omega) (by have := HW2.out.size; have := HBs.out; omega)).mono ?_
      rintro e x3 ⟨rfl, hw3⟩
      rw [HL3.out] at hw3
      obtain ⟨y1, y2, y3⟩ := enc_step hw3 HW2.out HQ2.out HPB.out
      have HB3 := Lib.hid y1
      have HW3 := Lib.hid y2
      have HQ3 := Lib.hid y3
      have r0 : x3.cell? ⟨p, 0, none⟩ = some (.int .i64 (kk : Int)) := HQ3.out.cell 0
      have r1 : x3.cell? ⟨p, 1, none⟩ = some (.int .i64 nd.N) := HQ3.out.cell 1
      have r2 : x3.cell? ⟨p, 2, none⟩ = some (.int .i64 nd.M) := HQ3.out.cell 2
      have r3 : x3.cell? ⟨p, 3, none⟩ = some (.string nd.S) := HQ3.out.cell 3
      have r4 := HMK.out _ HW3.out
      clear hw3 y1 y2 y3
      go_wp2_with fail
      have HFI : Hid (preE l (k + 1) = L3) := by
        show _ = _
        rw [preE_succ hlt, HND.out, HEN.out, ← HL3.out, ← HL2.out, ← HL1.out, ← HL0.out]
        all_goals simp
      go_roundw
      case rel => exact ⟨k + 1, by omega, by go_num, by rw [HFI.out]; exact HB3.out, HW3.out⟩
      case measure => simp [intOf]; omega
    · have HEN : Hid (encN nd = [by8 (kk : Int)]) := by
        show encN nd = _
        unfold encN optB txtB
        rw [hK, e1, e2, e3]
        simp
      have hmk : maskB kk = 0 := by unfold maskB; rw [e1, e2, e3]; rfl
      rw [hmk] at HMK
      clear hmk
      have r4 := HMK.out _ HW0.out
      clear e1 e2 e3
      go_wp2_with fail
      rw [HX0.out, HP.out]
      obtain ⟨L1, hL1⟩ : ∃ x, L0 ++ [by8 (kk : Int)] = x := ⟨_, rfl⟩
      have HL1 := Lib.hid hL1
      have hl1 : L1.length = L0.length + 1 := by rw [← hL1, List.length_append]; rfl
      have HLN1 : Hid (L1.length ≤ 2 + 300 * k + 1) := by show _ ≤ _; rw [hl1]; have := HLN0.out; omega
      clear hL1 hl1
      refine (bbyte_any B B L0 (by8 (kk : Int)) (kk : Int) HK8.out.symm _ HB0.out (by have := HLN0.out; omega) (by have := HW0.out.size; have := HBs.out; omega)).mono ?_
      rintro e x1 ⟨rfl, hw1⟩
      rw [HL1.out] at hw1
      obtain ⟨y1, y2, y3⟩ := enc_step hw1 HW0.out HQ0.out HPB.out
      have HB1 := Lib.hid y1
      have HW1 := Lib.hid y2
      have HQ1 := Lib.hid y3
      have r0 : x1.cell? ⟨p, 0, none⟩ = some (.int .i64 (kk : Int)) := HQ1.out.cell 0
      have r1 : x1.cell? ⟨p, 1, none⟩ = some (.int .i64 nd.N) := HQ1.out.cell 1
      have r2 : x1.cell? ⟨p, 2, none⟩ = some (.int .i64 nd.M) := HQ1.out.cell 2
      have r3 : x1.cell? ⟨p, 3, none⟩ = some (.string nd.S) := HQ1.out.cell 3
      have r4 := HMK.out _ HW1.out
      clear hw1 y1 y2 y3
      go_wp2_with fail
      have HFI : Hid (preE l (k + 1) = L1) := by
        show _ = _
        rw [preE_succ hlt, HND.out, HEN.out, ← HL1.out, ← HL0.out]
        all_goals simp
      go_roundw
      case rel => exact ⟨k + 1, by omega, by go_num, by rw [HFI.out]; exact HB1.out, HW1.out⟩
      case measure => simp [intOf]; omega
    · have HEN : Hid (encN nd = [by8 (kk : Int)] ++ [by8 nd.N] ++ [by8 nd.M] ++ [by8 (nd.S.size : Int)] ++ nd.S.data.toList) := by
        show encN nd = _
        unfold encN optB txtB
        rw [hK, e1, e2, e3]
        simp
      have hmk : maskB kk = 7 := by unfold maskB; rw [e1, e2, e3]; rfl
      rw [hmk] at HMK
      clear hmk
      have r4 := HMK.out _ HW0.out
      clear e1 e2 e3
      go_wp2_with fail
      rw [HX0.out, HP.out]
      obtain ⟨L1, hL1⟩ : ∃ x, L0 ++ [by8 (kk : Int)] = x := ⟨_, rfl⟩
      have HL1 := Lib.hid hL1
      have hl1 : L1.length = L0.length + 1 := by rw [← hL1, List.length_append]; rfl
      have HLN1 : Hid (L1.length ≤ 2 + 300 * k + 1) := by show _ ≤ _; rw [hl1]; have := HLN0.out; omega
      clear hL1 hl1
      refine (bbyte_any B B L0 (by8 (kk : Int)) (kk : Int) HK8.out.symm _ HB0.out (by have := HLN0.out; omega) (by have := HW0.out.size; have := HBs.out; omega)).mono ?_
      rintro e x1 ⟨rfl, hw1⟩
      rw [HL1.out] at hw1
      obtain ⟨y1, y2, y3⟩ := enc_step hw1 HW0.out HQ0.out HPB.out
      have HB1 := Lib.hid y1
      have HW1 := Lib.hid y2
      have HQ1 := Lib.hid y3
      have r0 : x1.cell? ⟨p, 0, none⟩ = some (.int .i64 (kk : Int)) := HQ1.out.cell 0
      have r1 : x1.cell? ⟨p, 1, none⟩ = some (.int .i64 nd.N) := HQ1.out.cell 1
      have r2 : x1.cell? ⟨p, 2, none⟩ = some (.int .i64 nd.M) := HQ1.out.cell 2
      have r3 : x1.cell? ⟨p, 3, none⟩ = some (.string nd.S) := HQ1.out.cell 3
      have r4 := HMK.out _ HW1.out
      clear hw1 y1 y2 y3
      go_wp2_with fail
      obtain ⟨L2, hL2⟩ : ∃ x, L1 ++ [by8 nd.N] = x := ⟨_, rfl⟩
      have HL2 := Lib.hid hL2
      have hl2 : L2.length = L1.length + 1 := by rw [← hL2, List.length_append]; rfl
      have HLN2 : Hid (L2.length ≤ 2 + 300 * k + 2) := by show _ ≤ _; rw [hl2]; have := HLN1.out; omega
      clear hL2 hl2
      refine (bbyte_any B B L1 (by8 nd.N) nd.N HN8.out.symm _ HB1.out (by have := HLN1.out; omega) (by have := HW1.out.size; have := HBs.out; omega)).mono ?_
      rintro e x2 ⟨rfl, hw2⟩
      rw [HL2.out] at hw2
      obtain ⟨y1, y2, y3⟩ := enc_step hw2 HW1.out HQ1.out HPB.out
      have HB2 := Lib.hid y1
      have HW2 := Lib.hid y2
      have HQ2 := Lib.hid y3
      have r0 : x2.cell? ⟨p, 0, none⟩ = some (.int .i64 (kk : Int)) := HQ2.out.cell 0
      have r1 : x2.cell? ⟨p, 1, none⟩ = some (.int .i64 nd.N) := HQ2.out.cell 1
      have r2 : x2.cell? ⟨p, 2, none⟩ = some (.int .i64 nd.M) := HQ2.out.cell 2
      have r3 : x2.cell? ⟨p, 3, none⟩ = some (.string nd.S) := HQ2.out.cell 3
      have r4 := HMK.out _ HW2.out
      clear hw2 y1 y2 y3
      go_wp2_with fail
      obtain ⟨L3, hL3⟩ : ∃ x, L2 ++ [by8 nd.M] = x := ⟨_, rfl⟩
      have HL3 := Lib.hid hL3
      have hl3 : L3.length = L2.length + 1 := by rw [← hL3, List.length_append]; rfl
      have HLN3 : Hid (L3.length ≤ 2 + 300 * k + 3) := by show _ ≤ _; rw [hl3]; have := HLN2.out; omega
      clear hL3 hl3
      refine (bbyte_any B B L2 (by8 nd.M) nd.M HM8.out.symm _ HB2.out (by have := HLN2.out; omega) (by have := HW2.out.size; have := HBs.out; omega)).mono ?_
      rintro e x3 ⟨rfl, hw3⟩
      rw [HL3.out] at hw3
      obtain ⟨y1, y2, y3⟩ := enc_step hw3 HW2.out HQ2.out HPB.out
      have HB3 := Lib.hid y1
      have HW3 := Lib.hid y2
      have HQ3 := Lib.hid y3
      have r0 : x3.cell? ⟨p, 0, none⟩ = some (.int .i64 (kk : Int)) := HQ3.out.cell 0
      have r1 : x3.cell? ⟨p, 1, none⟩ = some (.int .i64 nd.N) := HQ3.out.cell 1
      have r2 : x3.cell? ⟨p, 2, none⟩ = some (.int .i64 nd.M) := HQ3.out.cell 2
      have r3 : x3.cell? ⟨p, 3, none⟩ = some (.string nd.S) := HQ3.out.cell 3
      have r4 := HMK.out _ HW3.out
      clear hw3 y1 y2 y3
      go_wp2_with fail
      obtain ⟨L4, hL4⟩ : ∃ x, L3 ++ [by8 (nd.S.size : Int)] = x := ⟨_, rfl⟩
      have HL4 := Lib.hid hL4
      have hl4 : L4.length = L3.length + 1 := by rw [← hL4, List.length_append]; rfl
      have HLN4 : Hid (L4.length ≤ 2 + 300 * k + 4) := by show _ ≤ _; rw [hl4]; have := HLN3.out; omega
      clear hL4 hl4
      refine (bbyte_any B B L3 (by8 (nd.S.size : Int)) (nd.S.size : Int) HS8.out.symm _ HB3.out (by have := HLN3.out; omega) (by have := HW3.out.size; have := HBs.out; omega)).mono ?_
      rintro e x4 ⟨rfl, hw4⟩
      rw [HL4.out] at hw4
      obtain ⟨y1, y2, y3⟩ := enc_step hw4 HW3.out HQ3.out HPB.out
      have HB4 := Lib.hid y1
      have HW4 := Lib.hid y2
      have HQ4 := Lib.hid y3
      have r0 : x4.cell? ⟨p, 0, none⟩ = some (.int .i64 (kk : Int)) := HQ4.out.cell 0
      have r1 : x4.cell? ⟨p, 1, none⟩ = some (.int .i64 nd.N) := HQ4.out.cell 1
      have r2 : x4.cell? ⟨p, 2, none⟩ = some (.int .i64 nd.M) := HQ4.out.cell 2
      have r3 : x4.cell? ⟨p, 3, none⟩ = some (.string nd.S) := HQ4.out.cell 3
      have r4 := HMK.out _ HW4.out
      clear hw4 y1 y2 y3
      go_wp2_with fail
      obtain ⟨L5, hL5⟩ : ∃ x, L4 ++ nd.S.data.toList = x := ⟨_, rfl⟩
      have HL5 := Lib.hid hL5
      have hl5 : L5.length = L4.length + nd.S.size := by rw [← hL5, List.length_append]; rw [HSL.out]
      have HLN5 : Hid (L5.length ≤ 2 + 300 * k + 260) := by show _ ≤ _; rw [hl5]; have := HLN4.out; omega
      clear hL5 hl5
      refine (btext_any B B L4 nd.S _ HB4.out (by have := HLN4.out; omega) (by omega) (by have := HW4.out.size; have := HBs.out; omega)).mono ?_
      rintro e x5 ⟨rfl, hw5⟩
      rw [HL5.out] at hw5
      obtain ⟨y1, y2, y3⟩ := enc_step hw5 HW4.out HQ4.out HPB.out
      have HB5 := Lib.hid y1
      have HW5 := Lib.hid y2
      have HQ5 := Lib.hid y3
      have r0 : x5.cell? ⟨p, 0, none⟩ = some (.int .i64 (kk : Int)) := HQ5.out.cell 0
      have r1 : x5.cell? ⟨p, 1, none⟩ = some (.int .i64 nd.N) := HQ5.out.cell 1
      have r2 : x5.cell? ⟨p, 2, none⟩ = some (.int .i64 nd.M) := HQ5.out.cell 2
      have r3 : x5.cell? ⟨p, 3, none⟩ = some (.string nd.S) := HQ5.out.cell 3
      have r4 := HMK.out _ HW5.out
      clear hw5 y1 y2 y3
      go_wp2_with fail
      have HFI : Hid (preE l (k + 1) = L5) := by
        show _ = _
        rw [preE_succ hlt, HND.out, HEN.out, ← HL5.out, ← HL4.out, ← HL3.out, ← HL2.out, ← HL1.out, ← HL0.out]
        all_goals simp
      go_roundw
      case rel => exact ⟨k + 1, by omega, by go_num, by rw [HFI.out]; exact HB5.out, HW5.out⟩
      case measure => simp [intOf]; omega
    · have HEN : Hid (encN nd = [by8 (kk : Int)] ++ [by8 nd.M] ++ [by8 (nd.S.size : Int)] ++ nd.S.data.toList) := by
        show encN nd = _
        unfold encN optB txtB
        rw [hK, e1, e2, e3]
        simp
      have hmk : maskB kk = 6 := by unfold maskB; rw [e1, e2, e3]; rfl
      rw [hmk] at HMK
      clear hmk
      have r4 := HMK.out _ HW0.out
      clear e1 e2 e3
      go_wp2_with fail
      rw [HX0.out, HP.out]
      obtain ⟨L1, hL1⟩ : ∃ x, L0 ++ [by8 (kk : Int)] = x := ⟨_, rfl⟩
      have HL1 := Lib.hid hL1
      have hl1 : L1.length = L0.length + 1 := by rw [← hL1, List.length_append]; rfl
      have HLN1 : Hid (L1.length ≤ 2 + 300 * k + 1) := by show _ ≤ _; rw [hl1]; have := HLN0.out; omega
      clear hL1 hl1
      refine (bbyte_any B B L0 (by8 (kk : Int)) (kk : Int) HK8.out.symm _ HB0.out (by have := HLN0.out; omega) (by have := HW0.out.size; have := HBs.out; omega)).mono ?_
      rintro e x1 ⟨rfl, hw1⟩
      rw [HL1.out] at hw1
      obtain ⟨y1, y2, y3⟩ := enc_step hw1 HW0.out HQ0.out HPB.out
      have HB1 := Lib.hid y1
      have HW1 := Lib.hid y2
      have HQ1 := Lib.hid y3
      have r0 : x1.cell? ⟨p, 0, none⟩ = some (.int .i64 (kk : Int)) := HQ1.out.cell 0
      have r1 : x1.cell? ⟨p, 1, none⟩ = some (.int .i64 nd.N) := HQ1.out.cell 1
      have r2 : x1.cell? ⟨p, 2, none⟩ = some (.int .i64 nd.M) := HQ1.out.cell 2
      have r3 : x1.cell? ⟨p, 3, none⟩ = some (.string nd.S) := HQ1.out.cell 3
      have r4 := HMK.out _ HW1.out
      clear hw1 y1 y2 y3
      go_wp2_with fail
      obtain ⟨L2, hL2⟩ : ∃ x, L1 ++ [by8 nd.M] = x := ⟨_, rfl⟩
      have HL2 := Lib.hid hL2
      have hl2 : L2.length = L1.length + 1 := by rw [← hL2, List.length_append]; rfl
      have HLN2 : Hid (L2.length ≤ 2 + 300 * k + 2) := by show _ ≤ _; rw [hl2]; have := HLN1.out; omega
      clear hL2 hl2
      refine (bbyte_any B B L1 (by8 nd.M) nd.M HM8.out.symm _ HB1.out (by have := HLN1.out; omega) (by have := HW1.out.size; have := HBs.out; omega)).mono ?_
      rintro e x2 ⟨rfl, hw2⟩
      rw [HL2.out] at hw2
      obtain ⟨y1, y2, y3⟩ := enc_step hw2 HW1.out HQ1.out HPB.out
      have HB2 := Lib.hid y1
      have HW2 := Lib.hid y2
      have HQ2 := Lib.hid y3
      have r0 : x2.cell? ⟨p, 0, none⟩ = some (.int .i64 (kk : Int)) := HQ2.out.cell 0
      have r1 : x2.cell? ⟨p, 1, none⟩ = some (.int .i64 nd.N) := HQ2.out.cell 1
      have r2 : x2.cell? ⟨p, 2, none⟩ = some (.int .i64 nd.M) := HQ2.out.cell 2
      have r3 : x2.cell? ⟨p, 3, none⟩ = some (.string nd.S) := HQ2.out.cell 3
      have r4 := HMK.out _ HW2.out
      clear hw2 y1 y2 y3
      go_wp2_with fail
      obtain ⟨L3, hL3⟩ : ∃ x, L2 ++ [by8 (nd.S.size : Int)] = x := ⟨_, rfl⟩
      have HL3 := Lib.hid hL3
      have hl3 : L3.length = L2.length + 1 := by rw [← hL3, List.length_append]; rfl
      have HLN3 : Hid (L3.length ≤ 2 + 300 * k + 3) := by show _ ≤ _; rw [hl3]; have := HLN2.out; omega
      clear hL3 hl3
      refine (bbyte_any B B L2 (by8 (nd.S.size : Int)) (nd.S.size : Int) HS8.out.symm _ HB2.out (by have := HLN2.out; omega) (by have := HW2.out.size; have := HBs.out; omega)).mono ?_
      rintro e x3 ⟨rfl, hw3⟩
      rw [HL3.out] at hw3
      obtain ⟨y1, y2, y3⟩ := enc_step hw3 HW2.out HQ2.out HPB.out
      have HB3 := Lib.hid y1
      have HW3 := Lib.hid y2
      have HQ3 := Lib.hid y3
      have r0 : x3.cell? ⟨p, 0, none⟩ = some (.int .i64 (kk : Int)) := HQ3.out.cell 0
      have r1 : x3.cell? ⟨p, 1, none⟩ = some (.int .i64 nd.N) := HQ3.out.cell 1
      have r2 : x3.cell? ⟨p, 2, none⟩ = some (.int .i64 nd.M) := HQ3.out.cell 2
      have r3 : x3.cell? ⟨p, 3, none⟩ = some (.string nd.S) := HQ3.out.cell 3
      have r4 := HMK.out _ HW3.out
      clear hw3 y1 y2 y3
      go_wp2_with fail
      obtain ⟨L4, hL4⟩ : ∃ x, L3 ++ nd.S.data.toList = x := ⟨_, rfl⟩
      have HL4 := Lib.hid hL4
      have hl4 : L4.length = L3.length + nd.S.size := by rw [← hL4, List.length_append]; rw [HSL.out]
      have HLN4 : Hid (L4.length ≤ 2 + 300 * k + 259) := by show _ ≤ _; rw [hl4]; have := HLN3.out; omega
      clear hL4 hl4
      refine (btext_any B B L3 nd.S _ HB3.out (by have := HLN3.out; omega) (by omega) (by have := HW3.out.size; have := HBs.out; omega)).mono ?_
      rintro e x4 ⟨rfl, hw4⟩
      rw [HL4.out] at hw4
      obtain ⟨y1, y2, y3⟩ := enc_step hw4 HW3.out HQ3.out HPB.out
      have HB4 := Lib.hid y1
      have HW4 := Lib.hid y2
      have HQ4 := Lib.hid y3
      have r0 : x4.cell? ⟨p, 0, none⟩ = some (.int .i64 (kk : Int)) := HQ4.out.cell 0
      have r1 : x4.cell? ⟨p, 1, none⟩ = some (.int .i64 nd.N) := HQ4.out.cell 1
      have r2 : x4.cell? ⟨p, 2, none⟩ = some (.int .i64 nd.M) := HQ4.out.cell 2
      have r3 : x4.cell? ⟨p, 3, none⟩ = some (.string nd.S) := HQ4.out.cell 3
      have r4 := HMK.out _ HW4.out
      clear hw4 y1 y2 y3
      go_wp2_with fail
      have HFI : Hid (preE l (k + 1) = L4) := by
        show _ = _
        rw [preE_succ hlt, HND.out, HEN.out, ← HL4.out, ← HL3.out, ← HL2.out, ← HL1.out, ← HL0.out]
        all_goals simp
      go_roundw
      case rel => exact ⟨k + 1, by omega, by go_num, by rw [HFI.out]; exact HB4.out, HW4.out⟩
      case measure => simp [intOf]; omega

/-! ### Pack -/
/-- a row of texts, as it reads -/
def ReadS (w : World) (v : Value) (l : List ByteArray) : Prop := RowAt w 1 v l.length (l.map .string)
def SmallS (l : List ByteArray) : Prop := ∀ s, s ∈ l → s.size ≤ maxLen
theorem ReadS.below {w w' : World} {v : Value} {l : List ByteArray} (h : ReadS w v l) (hb : Below w.heap.size w w') : ReadS w' v l := RowAt.below h hb
theorem ReadS.len_slice {w : World} {v : Value} {l : List ByteArray} (h : ReadS w v l) : ∃ a cap, v = .slice a l.length cap := by
  obtain ⟨a, cap, rfl, _⟩ := h.form
  exact ⟨a, cap, rfl⟩
theorem ReadS.cases {w : World} {v : Value} {l : List ByteArray} (h : ReadS w v l) : l.length ≤ maxLen ∧ ((l = [] ∧ ∃ a cap, v = .slice a 0 cap) ∨
    ∃ b off cap, v = .slice (some ⟨b, off, none⟩) l.length cap ∧ b < w.heap.size ∧ ∀ (i : Nat) (h : i < l.length), w.cell? ⟨b, off + i, none⟩ = some (.string l[i])) := by
  refine ⟨h.small, ?_⟩
  by_cases h0 : l = []
  · subst h0
    obtain ⟨a, cap, rfl, _⟩ := h.form
    exact .inl ⟨rfl, a, cap, rfl⟩
  · obtain ⟨b, off, cap, rfl, _, _, hb, hc⟩ := RowAt.pos h (List.length_pos_iff.2 h0)
    refine .inr ⟨b, off, cap, rfl, hb, fun i hi => hc i _ ?_⟩
    simp [List.getElem?_eq_getElem hi]
def fitD (l : List ByteArray) : Bool := decide (l.length ≤ 255) && l.all fun s => decide (s.size ≤ 20000)
theorem fitD_iff {l : List ByteArray} : fitD l = true ↔ fitB 20000 l := by
  unfold fitD fitB
  simp [List.all_eq_true]
def packE (l : List ByteArray) : Int := if fitD l then 0 else 21
def packL (l : List ByteArray) : List UInt8 := if fitD l then packB l else []
def PackP (l : List ByteArray) (w : World) (e : Ending) (w' : World) : Prop := ∃ s : ByteArray, e = .returned (.tuple #[.string s, .int .i64 (packE l)]) ∧ s.data.toList = packL l ∧ Below w.heap.size w w'
theorem PackP.bad {l : List ByteArray} {w w' : World} (h : fitD l = false) (hb : Below w.heap.size w w') : PackP l w (.returned (.tuple #[.string ⟨#[]⟩, .int .i64 21])) w' :=
  ⟨⟨#[]⟩, by unfold packE; rw [h]; rfl, by unfold packL; rw [h]; rfl, hb⟩
def preP (l : List ByteArray) (k : Nat) : List UInt8 := by8 (l.length : Int) :: (l.take k).flatMap txt2
theorem preP_all (l : List ByteArray) : preP l l.length = packB l := by unfold preP packB; rw [List.take_of_length_le (Nat.le_refl _)]
theorem preP_succ {l : List ByteArray} {k : Nat} (h : k < l.length) : preP l (k + 1) = preP l k ++ txt2 l[k] := by
  unfold preP
  rw [List.take_succ_eq_append_getElem h, List.flatMap_append]
  simp
theorem txt2_len (s : ByteArray) : (txt2 s).length = 2 + s.size := by
  unfold txt2
  rw [List.length_cons, List.length_cons, Array.length_toList]
  show s.size + 1 + 1 = _
  omega
theorem preP_len {l : List ByteArray} (k : Nat) (hk : k ≤ l.length) (h : ∀ i (hi : i < l.length), i < k → l[i].size ≤ 20000) : (preP l k).length ≤ 1 + 20002 * k := by
  induction k with
  | zero => simp [preP]
  | succ k ih =>
    rw [preP_succ (by omega), List.length_append, txt2_len]
    have := ih (by omega) (fun i hi h2 => h i hi (by omega))
    have := h k (by omega) (by omega)
    omega
def PackI (l : List ByteArray) (B : Nat) (W : World) (i : Value) (wr : World) : Prop := ∃ k : Nat, k ≤ l.length ∧ i = .int .i64 (k : Int) ∧ (∀ i (hi : i < l.length), i < k → l[i].size ≤ 20000) ∧ Bld B B (preP l k) wr ∧ Below B W wr

set_option maxRecDepth 20000 in
set_option maxHeartbeats 2000000 in
theorem pack_any (l : List ByteArray) (v : Value) (w : World) (hv : ReadS w v l) (hs : SmallS l) :
    Calls Tryd.prog 17 #[v] w (PackP l w) := by
  obtain ⟨at_, ct, rfl⟩ := ReadS.len_slice hv
  have hm := hv.cases.1
  have hm9 : l.length ≤ 9223372036854775807 := by unfold maxLen at hm; omega
  clear hm
  by_cases h5 : l.length > 255
  · have d5 : decide ((l.length : Int) > 255) = true := by simp; omega
    have HF : Hid (fitD l = false) := by show _ = _; unfold fitD; simp; omega
    clear hv hs
    go_enter Tryd.func17, Tryd.ntmps17
    go_wp2_with fail
    go_ret2
    exact PackP.bad HF.out (Below.refl _ _)
  have d5 : decide ((l.length : Int) > 255) = false := by simp; omega
  have hl5 : l.length ≤ 255 := by omega
  have HVW : Hid (∀ x, Below w.heap.size w x → ReadS x (.slice at_ l.length ct) l) := fun x hb => hv.below hb
  have HSM := Lib.hid hs
  obtain ⟨W, hW⟩ : ∃ W, w.alloc (.cells #[.pointer none, .slice none 0 0] 47) = W := ⟨_, rfl⟩
  obtain ⟨B, hB⟩ : ∃ B, w.heap.size = B := ⟨_, rfl⟩
  have hbf := Bld.fresh w
  rw [hW, hB] at hbf
  have hbW : Below B w W := by rw [← hW, ← hB]; exact (Below.refl _ _).alloc (Nat.le_refl _) _
  have hBW : B ≤ W.heap.size := by rw [← hW, ← hB]; simp
  have HBF := Lib.hid hbf
  have HBW := Lib.hid hbW
  have HBs := Lib.hid hB
  have HWe := Lib.hid hW
  have HL8 := Lib.hid (by8_nat (n := (l.length : Int)) (by omega) (by omega))
  clear hbf hbW hW hB hv hs h5
  go_enter Tryd.func17, Tryd.ntmps17
  go_wp2_with fail
  rw [HWe.out, HBs.out]
  refine (bbyte_any B B [] (by8 (l.length : Int)) (l.length : Int) HL8.out.symm W HBF.out (by simp) hBW).mono ?_
  rintro e w2 ⟨rfl, hw2⟩
  have HI : Hid (PackI l B w (.int .i64 0) w2) := ⟨0, by omega, rfl, (fun i _ h => by omega), by have := hw2.1; rw [List.nil_append] at this; exact this, HBW.out.trans (hw2.2.1.mono (Nat.le_refl _))⟩
  clear hw2
  go_wp2_with fail
  go_loopw [16] (fun i wr => PackI l B w i wr) (fun i _ => l.length - (intOf i).toNat)
  case atStart => exact HI.out
  case round =>
    rename World => wr
    obtain ⟨k, hk, rfl, hfit, hbld, hbel⟩ := hrel
    have HB := Lib.hid hbld
    have HBE := Lib.hid hbel
    have HFI := Lib.hid hfit
    clear hbld hbel hfit
    by_cases hlt : k < l.length
    rotate_left
    · obtain rfl : k = l.length := by omega
      go_wp2_with fail
      refine (bstring_any B B _ wr HB.out (by have := HBE.out.size; have := HBs.out; omega)).mono ?_
      rintro e w9 ⟨rfl, hb9⟩
      have HF9 : Hid (Below B w w9) := HBE.out.trans hb9
      have HFT : Hid (fitD l = true) := by
        show _ = _
        rw [fitD_iff]
        refine ⟨hl5, fun s h => ?_⟩
        obtain ⟨i, hi, rfl⟩ := List.mem_iff_getElem.1 h
        exact HFI.out i hi hi
      clear hb9
      go_wp2_with fail
      go_ret2
      refine ⟨⟨(preP l l.length).toArray⟩, by unfold packE; rw [HFT.out]; rfl, ?_, by rw [HBs.out]; exact HF9.out⟩
      unfold packL
      rw [HFT.out, if_pos rfl, ← preP_all]
    have hbw : Below w.heap.size w wr := by rw [HBs.out]; exact HBE.out
    have hrd := HVW.out _ hbw
    obtain ⟨_, ⟨h0, _⟩ | ⟨pb, po, pcap, hpe, hpb, hcell⟩⟩ := hrd.cases
    · subst h0; simp at hlt
    obtain ⟨rfl, rfl⟩ : at_ = some ⟨pb, po, none⟩ ∧ ct = pcap := by simpa using hpe
    have g0 := hcell k hlt
    have hss := HSM.out l[k] (List.getElem_mem hlt)
    have hs9 : l[k].size ≤ 9223372036854775807 := by unfold maxLen at hss; omega
    obtain ⟨s, hsk⟩ : ∃ s, l[k] = s := ⟨_, rfl⟩
    rw [hsk] at g0 hs9
    have HSK := Lib.hid hsk
    clear hsk hss hcell hrd hpe
    have HLN : Hid ((preP l k).length ≤ 1 + 20002 * k) := preP_len k hk HFI.out
    by_cases hg : s.size > 20000
    · have dg : decide ((s.size : Int) > 20000) = true := by simp; omega
      have HF : Hid (fitD l = false) := by
        show _ = _
        rw [Bool.eq_false_iff]
        intro h
        have := (fitD_iff.1 h).2 l[k] (List.getElem_mem hlt)
        rw [HSK.out] at this
        omega
      have HBL := Lib.hid hbw
      clear hbw hg
      go_wp2_with fail
      go_ret2
      exact PackP.bad HF.out HBL.out
    have dg : decide ((s.size : Int) > 20000) = false := by simp; omega
    have hs20 : s.size ≤ 20000 := by omega
    obtain ⟨L0, hL0⟩ : ∃ x, preP l k = x := ⟨_, rfl⟩
    rw [hL0] at HLN HB
    have HL0 := Lib.hid hL0
    obtain ⟨L1, hL1⟩ : ∃ x, L0 ++ [by8 (loB s.size), by8 (hiB s.size)] = x := ⟨_, rfl⟩
    have HLN1 : Hid (L1.length ≤ 3 + 20002 * k) := by show _ ≤ _; rw [← hL1, List.length_append]; have := HLN.out; simp; omega
    have HL1 := Lib.hid hL1
    clear hL0 hL1 hbw hg
    go_wp2_with fail
    refine (two_any B B L0 s.size (by omega) wr HB.out (by have := HLN.out; omega) (by have := HBE.out.size; have := HBs.out; omega)).mono ?_
    rintro e x1 ⟨rfl, hw1⟩
    rw [HL1.out] at hw1
    have HB1 := Lib.hid hw1.1
    have HW1 : Hid (Below B w x1) := HBE.out.trans hw1.2.1
    clear hw1
    go_wp2_with fail
    refine (btext_any B B L1 s x1 HB1.out (by have := HLN1.out; omega) (by omega) (by have := HW1.out.size; have := HBs.out; omega)).mono ?_
    rintro e x2 ⟨rfl, hw2⟩
    have HB2 : Hid (Bld B B (preP l (k + 1)) x2) := by
      have h := hw2.1
      rw [← HL1.out, ← HL0.out, List.append_assoc] at h
      show Bld _ _ _ _
      rw [preP_succ hlt, HSK.out]
      exact h
    have HW2 : Hid (Below B w x2) := HW1.out.trans hw2.2.1
    have HF2 : Hid (∀ i (hi : i < l.length), i < k + 1 → l[i].size ≤ 20000) := by
      intro i hi h2
      by_cases e : i = k
      · subst e; rw [HSK.out]; exact hs20
      · exact HFI.out i hi (by omega)
    clear hw2
    go_wp2_with fail
    go_roundw
    case rel => exact ⟨k + 1, by omega, by go_num, HF2.out, HB2.out, HW2.out⟩
    case measure => simp [intOf]; omega

end Go.Proofs.YtoagedaohdkbdaaDoor
