/- corniceref05.Encode: which bytes it makes. -/
import Derived.Test.YtoagedaohdkbdaaDoorWireE
namespace Go.Proofs.YtoagedaohdkbdaaDoor
set_option linter.unusedSimpArgs false
set_option linter.unusedVariables false
open Go.RowKit

theorem text_add {s t : ByteArray} {l m : List UInt8} (h : s.data.toList = l) (h2 : t.data.toList = m) : (s ++ t).data.toList = l ++ m := by
  rw [ByteArray.data_append, Array.toList_append, h, h2]
theorem add_run {s t : ByteArray} (h : s.size + t.size ≤ 1000000000) (w : World) : (Op.stringOp .add s t).run Tryd.prog w = .ok (.string (s ++ t)) w := run_string_add_sum w s t (by omega)
theorem size_list (s : ByteArray) : s.size = s.data.toList.length := (Array.length_toList).symm
theorem re_alloc {D p : Nat} {w a x : World} {t e : TypeId} {cs bs : Array Value} (h : a.alloc (.cells bs e) = x) (hE : Below D w a) (hD : D ≤ a.heap.size) (hQ : Blk a p t cs) : Below D w x ∧ D ≤ x.heap.size ∧ Blk x p t cs := by
  rw [← h]
  exact ⟨hE.alloc hD _, by simp; omega, hQ.alloc _⟩
theorem re_call {D p : Nat} {w a x : World} {t : TypeId} {cs : Array Value} (hE : Below D w a) (hD : D ≤ a.heap.size) (hQ : Blk a p t cs) (hb : Below a.heap.size a x) : Below D w x ∧ D ≤ x.heap.size ∧ Blk x p t cs :=
  ⟨hE.trans (hb.mono hD), Nat.le_trans hD hb.size, hQ.below hb hQ.lt⟩
def REncR (l : List Nd) (D : Nat) (w : World) (v i : Value) (wr : World) : Prop :=
  ∃ (k : Nat) (s : ByteArray), k ≤ l.length ∧ i = .int .i64 (k : Int) ∧ v = .string s ∧ s.data.toList = preE l k ∧ Below D w wr ∧ D ≤ wr.heap.size

set_option maxRecDepth 20000 in
set_option maxHeartbeats 2000000 in
theorem rencode_any (l : List Nd) (v : Value) (w : World) (hv : ReadN w v l) (hs : SmallN l) :
    Calls Tryd.prog 13 #[v] w (EncP l w) := by
  obtain ⟨at_, ct, rfl⟩ := ReadN.len_slice hv
  have HVW : Hid (∀ x, Below w.heap.size w x → ReadN x (.slice at_ l.length ct) l) := fun x hb => hv.below hb
  have HCH := Lib.hid (refcheck2_any l _ w hv hs)
  obtain ⟨c, hc⟩ : ∃ c, chk l = c := ⟨_, rfl⟩
  rw [hc] at HCH
  have HC := Lib.hid hc
  clear hv hs hc
  by_cases h0 : c = 0
  rotate_left
  · have hcb : (c != 0) = true := by simpa using h0
    have hE : codE l = [] := by unfold codE; rw [if_neg (by rw [HC.out]; exact h0)]
    have HE := Lib.hid hE
    clear hE h0
    go_enter Tryd.func13, Tryd.ntmps13
    go_wp2_with fail
    refine HCH.out.mono ?_
    rintro e w1 ⟨rfl, hb1⟩
    have HB1 := Lib.hid hb1
    clear hb1
    go_wp2_with fail
    go_ret2
    exact ⟨⟨#[]⟩, by rw [HC.out]; rfl, by rw [HE.out], HB1.out⟩
  subst h0
  have hle := (chk_ok HC.out).1
  have hE : codE l = codB l := by unfold codE; rw [if_pos HC.out]
  have HE := Lib.hid hE
  have HR := Lib.hid (chk_right HC.out)
  have HPL : Hid (∀ k, k ≤ l.length → (preE l k).length ≤ 2 + 300 * k) := fun k hk => preE_len HR.out k hk
  obtain ⟨D, hD⟩ : ∃ D, w.heap.size = D := ⟨_, rfl⟩
  have HD := Lib.hid hD
  rw [hD] at HVW HCH
  clear hE hD
  go_enter Tryd.func13, Tryd.ntmps13
  go_wp2_with fail
  refine HCH.out.mono ?_
  rintro e w1 ⟨rfl, hb1⟩
  have HB1 := Lib.hid hb1
  clear hb1
  go_wp2_with fail
  refine (rTwo_any l.length (by omega) w1).mono ?_
  rintro e w2 ⟨rfl, hb2⟩
  have HI : Hid (REncR l D w (.string (tx2 (loB l.length) (hiB l.length))) (.int .i64 0) w2) := ⟨0, _, by omega, rfl, rfl, by rw [tx2_list]; show _ = [by8 (loB l.length), by8 (hiB l.length)] ++ []; rw [List.append_nil], HB1.out.trans (hb2.mono (by have := HB1.out.size; have := HD.out; omega)), by have := HB1.out.size; have := hb2.size; have := HD.out; omega⟩
  obtain ⟨v2, hv2⟩ : ∃ v2, Value.string (tx2 (loB l.length) (hiB l.length)) = v2 := ⟨_, rfl⟩
  rw [hv2] at HI ⊢
  clear hb2 hv2
  go_wp2_with fail
  go_loopw [5, 6] (fun v i wr => REncR l D w v i wr) (fun _ i _ => l.length - (intOf i).toNat)
  case atStart => exact HI.out
  case round =>
    rename World => wr
    obtain ⟨k, s0, hk, rfl, rfl, hs0, hbe, hze⟩ := hrel
    have HLS0 := Lib.hid hs0
    have HEr := Lib.hid hbe
    have HZr := Lib.hid hze
    clear hs0 hbe hze
    by_cases hlt : k < l.length
    rotate_left
    · obtain rfl : k = l.length := by omega
      go_wp2_with fail
      go_ret2
      refine ⟨s0, by rw [HC.out]; rfl, ?_, by rw [HD.out]; exact HEr.out⟩
      rw [HE.out, ← preE_all]
      exact HLS0.out
    have hrd := HVW.out _ HEr.out
    obtain ⟨_, ⟨h0, _⟩ | ⟨pb, po, pcap, hpe, _, _, hpb, hcell⟩⟩ := hrd.cases
    · subst h0; simp at hlt
    obtain ⟨rfl, rfl⟩ : at_ = some ⟨pb, po, none⟩ ∧ ct = pcap := by simpa using hpe
    obtain ⟨g0, g1, g2, g3⟩ := hcell k hlt
    obtain ⟨nd, hnd⟩ : ∃ nd, l[k] = nd := ⟨_, rfl⟩
    rw [hnd] at g0 g1 g2 g3
    have hnr : rightB nd = true := by rw [← hnd]; exact HR.out _ (List.getElem_mem hlt)
    obtain ⟨⟨k0, k1⟩, ⟨n0, n1, _⟩, ⟨m0, m1, _⟩, s1, _⟩ := right_parts hnr
    obtain ⟨kk, hK⟩ := Int.eq_ofNat_of_zero_le k0
    rw [hK] at g0 k0 k1
    have hk30 : kk < 30 := by omega
    have HSL : Hid (nd.S.data.toList.length = nd.S.size) := Array.length_toList
    obtain ⟨p, hp⟩ : ∃ p, wr.heap.size = p := ⟨_, rfl⟩
    obtain ⟨x0, hx0⟩ : ∃ x, wr.alloc (.cells #[.int .i64 (kk : Int), .int .i64 nd.N, .int .i64 nd.M, .string nd.S] 30) = x := ⟨_, rfl⟩
    have HQ0 : Hid (Blk x0 p 30 #[.int .i64 (kk : Int), .int .i64 nd.N, .int .i64 nd.M, .string nd.S]) := by rw [← hx0, ← hp]; exact Blk.new _ _ _
    have HE0 : Hid (Below D w x0) := by rw [← hx0]; exact HEr.out.alloc HZr.out _
    have HZ0 : Hid (D ≤ x0.heap.size) := by have := HZr.out; rw [← hx0]; show _ ≤ _; simp; omega
    obtain ⟨L0, hL0⟩ : ∃ x, preE l k = x := ⟨_, rfl⟩
    have HL0 := Lib.hid hL0
    rw [hL0] at HLS0
    have hls0 : s0.size ≤ 2 + 300 * k := by rw [size_list, HLS0.out, ← hL0]; exact HPL.out k hk
    have HND := Lib.hid hnd
    have hsum := shp_sum kk hk30
    have HX0 := Lib.hid hx0
    have HP := Lib.hid hp
    have HKK := Lib.hid hK
    clear hnd hnr hrd hcell hL0 hx0 hp hpe hK
    have hcase : (fN kk = true ∧ fM kk = false ∧ fS kk = false) ∨ (fN kk = false ∧ fM kk = false ∧ fS kk = true) ∨ (fN kk = false ∧ fM kk = false ∧ fS kk = false) ∨ (fN kk = true ∧ fM kk = true ∧ fS kk = true) ∨ (fN kk = false ∧ fM kk = true ∧ fS kk = true) := by
      unfold fN fM fS
      rw [Int.toNat_natCast]
      rcases hsum with h | h | h | ⟨h, _⟩ | ⟨h, _⟩ <;> rw [h] <;> simp
    clear hsum
    rcases hcase with ⟨e1, e2, e3⟩ | ⟨e1, e2, e3⟩ | ⟨e1, e2, e3⟩ | ⟨e1, e2, e3⟩ | ⟨e1, e2, e3⟩
    · have tok : True := trivial
      have HEN : Hid (encN nd = [by8 (kk : Int)] ++ [by8 nd.N]) := by
        show encN nd = _
        unfold encN optB txtB
        rw [HKK.out, e1, e2, e3]
        simp
      have HF1 := Lib.hid e1
      have HF2 := Lib.hid e2
      have HF3 := Lib.hid e3
      clear e1 e2 e3
      obtain ⟨s1, hs1⟩ : ∃ s, s0 ++ tx1 (kk : Int) = s := ⟨_, rfl⟩
      have HLS1 : Hid (s1.data.toList = L0 ++ [by8 (kk : Int)]) := by show _ = _; rw [← hs1]; exact text_add HLS0.out rfl
      have htx : (tx1 (kk : Int)).size ≤ 1 := by first | exact Nat.le_refl _ | omega
      have hls1 : s1.size ≤ 2 + 300 * k + 1 := by rw [← hs1, ByteArray.size_append]; omega
      have had1 : ∀ w, (Op.stringOp .add s0 (tx1 (kk : Int))).run Tryd.prog w = .ok (.string s1) w := fun w => by rw [← hs1]; exact add_run (by omega) w
      clear htx
      obtain ⟨L1, hL1⟩ : ∃ x, L0 ++ [by8 (kk : Int)] = x := ⟨_, rfl⟩
      rw [hL1] at HLS1
      have HL1 := Lib.hid hL1
      clear hL1 hs1
      have cv := conv1 (wr.alloc (.cells #[.int .i64 (kk : Int), .int .i64 nd.N, .int .i64 nd.M, .string nd.S] 30)) (kk : Int)
      simp only [World.size_alloc] at cv
      go_wp2_with fail
      rw [HX0.out, HP.out]
      clear cv had1
      obtain ⟨x1, hx1⟩ : ∃ y, x0.alloc (.cells #[.int .u8 (kk : Int)] 5) = y := ⟨_, rfl⟩
      rw [hx1]
      obtain ⟨o1, o2, o3⟩ := re_alloc hx1 HE0.out HZ0.out HQ0.out
      have HE1 := Lib.hid o1
      have HZ1 := Lib.hid o2
      have HQ1 := Lib.hid o3
      clear o1 o2 o3 hx1
      refine (rhasN_any (kk : Int) (by omega) x1).mono ?_
      rintro e x2 ⟨rfl, hb⟩
      obtain ⟨o1, o2, o3⟩ := re_call HE1.out HZ1.out HQ1.out hb
      have HE2 := Lib.hid o1
      have HZ2 := Lib.hid o2
      have HQ2 := Lib.hid o3
      clear o1 o2 o3 hb
      rw [HF1.out]
      have r0 : x2.cell? ⟨p, 0, none⟩ = some (.int .i64 (kk : Int)) := HQ2.out.cell 0
      have r1 : x2.cell? ⟨p, 1, none⟩ = some (.int .i64 nd.N) := HQ2.out.cell 1
      have r2 : x2.cell? ⟨p, 2, none⟩ = some (.int .i64 nd.M) := HQ2.out.cell 2
      have r3 : x2.cell? ⟨p, 3, none⟩ = some (.string nd.S) := HQ2.out.cell 3
      obtain ⟨s2, hs2⟩ : ∃ s, s1 ++ tx1 nd.N = s := ⟨_, rfl⟩
      have HLS2 : Hid (s2.data.toList = L1 ++ [by8 nd.N]) := by show _ = _; rw [← hs2]; exact text_add HLS1.out rfl
      have htx : (tx1 nd.N).size ≤ 1 := by first | exact Nat.le_refl _ | omega
      have hls2 : s2.size ≤ 2 + 300 * k + 2 := by rw [← hs2, ByteArray.size_append]; omega
      have had2 : ∀ w, (Op.stringOp .add s1 (tx1 nd.N)).run Tryd.prog w = .ok (.string s2) w := fun w => by rw [← hs2]; exact add_run (by omega) w
      clear htx
      obtain ⟨L2, hL2⟩ : ∃ x, L1 ++ [by8 nd.N] = x := ⟨_, rfl⟩
      rw [hL2] at HLS2
      have HL2 := Lib.hid hL2
      clear hL2 hs2
      have cv := conv1 x2 nd.N
      have q0 : (x2.alloc (.cells #[.int .u8 (nd.N)] 5)).cell? ⟨p, 0, none⟩ = some (.int .i64 (kk : Int)) := (HQ2.out.alloc _).cell 0
      go_wp2_with fail
      clear cv had2 r0 r1 r2 r3 q0
      obtain ⟨x3, hx3⟩ : ∃ y, x2.alloc (.cells #[.int .u8 (nd.N)] 5) = y := ⟨_, rfl⟩
      rw [hx3]
      obtain ⟨o1, o2, o3⟩ := re_alloc hx3 HE2.out HZ2.out HQ2.out
      have HE3 := Lib.hid o1
      have HZ3 := Lib.hid o2
      have HQ3 := Lib.hid o3
      clear o1 o2 o3 hx3
      refine (rhasM_any (kk : Int) (by omega) x3).mono ?_
      rintro e y ⟨rfl, rfl⟩
      rw [HF2.out]
      have r0 : x3.cell? ⟨p, 0, none⟩ = some (.int .i64 (kk : Int)) := HQ3.out.cell 0
      have r1 : x3.cell? ⟨p, 1, none⟩ = some (.int .i64 nd.N) := HQ3.out.cell 1
      have r2 : x3.cell? ⟨p, 2, none⟩ = some (.int .i64 nd.M) := HQ3.out.cell 2
      have r3 : x3.cell? ⟨p, 3, none⟩ = some (.string nd.S) := HQ3.out.cell 3
      go_wp2_with fail
      clear r0 r1 r2 r3
      refine (rhasS_any (kk : Int) (by omega) x3).mono ?_
      rintro e x4 ⟨rfl, hb⟩
      obtain ⟨o1, o2, o3⟩ := re_call HE3.out HZ3.out HQ3.out hb
      have HE4 := Lib.hid o1
      have HZ4 := Lib.hid o2
      have HQ4 := Lib.hid o3
      clear o1 o2 o3 hb
      rw [HF3.out]
      have r0 : x4.cell? ⟨p, 0, none⟩ = some (.int .i64 (kk : Int)) := HQ4.out.cell 0
      have r1 : x4.cell? ⟨p, 1, none⟩ = some (.int .i64 nd.N) := HQ4.out.cell 1
      have r2 : x4.cell? ⟨p, 2, none⟩ = some (.int .i64 nd.M) := HQ4.out.cell 2
      have r3 : x4.cell? ⟨p, 3, none⟩ = some (.string nd.S) := HQ4.out.cell 3
      go_wp2_with fail
      have HFI : Hid (s2.data.toList = preE l (k + 1)) := by
        show _ = _
        rw [HLS2.out, preE_succ hlt, HND.out, HEN.out, ← HL2.out, ← HL1.out, ← HL0.out]
        all_goals simp
      go_roundw
      case rel => exact ⟨k + 1, s2, by omega, by go_num, rfl, HFI.out, HE4.out, HZ4.out⟩
      case measure => simp [intOf]; omega
    · have tok : True := trivial
      have HEN : Hid (encN nd = [by8 (kk : Int)] ++ [by8 (nd.S.size : Int)] ++ nd.S.data.toList) := by
        show encN nd = _
        unfold encN optB txtB
        rw [HKK.out, e1, e2, e3]
        simp
      have HF1 := Lib.hid e1
      have HF2 := Lib.hid e2
      have HF3 := Lib.hid e3
      clear e1 e2 e3
      obtain ⟨s1, hs1⟩ : ∃ s, s0 ++ tx1 (kk : Int) = s := ⟨_, rfl⟩
      have HLS1 : Hid (s1.data.toList = L0 ++ [by8 (kk : Int)]) := by show _ = _; rw [← hs1]; exact text_add HLS0.out rfl
      have htx : (tx1 (kk : Int)).size ≤ 1 := by first | exact Nat.le_refl _ | omega
      have hls1 : s1.size ≤ 2 + 300 * k + 1 := by rw [← hs1, ByteArray.size_append]; omega
      have had1 : ∀ w, (Op.stringOp .add s0 (tx1 (kk : Int))).run Tryd.prog w = .ok (.string s1) w := fun w => by rw [← hs1]; exact add_run (by omega) w
      clear htx
      obtain ⟨L1, hL1⟩ : ∃ x, L0 ++ [by8 (kk : Int)] = x := ⟨_, rfl⟩
      rw [hL1] at HLS1
      have HL1 := Lib.hid hL1
      clear hL1 hs1
      have cv := conv1 (wr.alloc (.cells #[.int .i64 (kk : Int), .int .i64 nd.N, .int .i64 nd.M, .string nd.S] 30)) (kk : Int)
      simp only [World.size_alloc] at cv
      go_wp2_with fail
      rw [HX0.out, HP.out]
      clear cv had1
      obtain ⟨x1, hx1⟩ : ∃ y, x0.alloc (.cells #[.int .u8 (kk : Int)] 5) = y := ⟨_, rfl⟩
      rw [hx1]
      obtain ⟨o1, o2, o3⟩ := re_alloc hx1 HE0.out HZ0.out HQ0.out
      have HE1 := Lib.hid o1
      have HZ1 := Lib.hid o2
      have HQ1 := Lib.hid o3
      clear o1 o2 o3 hx1
      refine (rhasN_any (kk : Int) (by omega) x1).mono ?_
      rintro e x2 ⟨rfl, hb⟩
      obtain ⟨o1, o2, o3⟩ := re_call HE1.out HZ1.out HQ1.out hb
      have HE2 := Lib.hid o1
      have HZ2 := Lib.hid o2
      have HQ2 := Lib.hid o3
      clear o1 o2 o3 hb
      rw [HF1.out]
      have r0 : x2.cell? ⟨p, 0, none⟩ = some (.int .i64 (kk : Int)) := HQ2.out.cell 0
      have r1 : x2.cell? ⟨p, 1, none⟩ = some (.int .i64 nd.N) := HQ2.out.cell 1
      have r2 : x2.cell? ⟨p, 2, none⟩ = some (.int .i64 nd.M) := HQ2.out.cell 2
      have r3 : x2.cell? ⟨p, 3, none⟩ = some (.string nd.S) := HQ2.out.cell 3
      go_wp2_with fail
      clear r0 r1 r2 r3
      refine (rhasM_any (kk : Int) (by omega) x2).mono ?_
      rintro e y ⟨rfl, rfl⟩
      rw [HF2.out]
      have r0 : x2.cell? ⟨p, 0, none⟩ = some (.int .i64 (kk : Int)) := HQ2.out.cell 0
      have r1 : x2.cell? ⟨p, 1, none⟩ = some (.int .i64 nd.N) := HQ2.out.cell 1
      have r2 : x2.cell? ⟨p, 2, none⟩ = some (.int .i64 nd.M) := HQ2.out.cell 2
      have r3 : x2.cell? ⟨p, 3, none⟩ = some (.string nd.S) := HQ2.out.cell 3
      go_wp2_with fail
      clear r0 r1 r2 r3
      refine (rhasS_any (kk : Int) (by omega) x2).mono ?_
      rintro e x3 ⟨rfl, hb⟩
      obtain ⟨o1, o2, o3⟩ := re_call HE2.out HZ2.out HQ2.out hb
      have HE3 := Lib.hid o1
      have HZ3 := Lib.hid o2
      have HQ3 := Lib.hid o3
      clear o1 o2 o3 hb
      rw [HF3.out]
      have r0 : x3.cell? ⟨p, 0, none⟩ = some (.int .i64 (kk : Int)) := HQ3.out.cell 0
      have r1 : x3.cell? ⟨p, 1, none⟩ = some (.int .i64 nd.N) := HQ3.out.cell 1
      have r2 : x3.cell? ⟨p, 2, none⟩ = some (.int .i64 nd.M) := HQ3.out.cell 2
      have r3 : x3.cell? ⟨p, 3, none⟩ = some (.string nd.S) := HQ3.out.cell 3
      obtain ⟨s2, hs2⟩ : ∃ s, s1 ++ tx1 (nd.S.size : Int) = s := ⟨_, rfl⟩
      have HLS2 : Hid (s2.data.toList = L1 ++ [by8 (nd.S.size : Int)]) := by show _ = _; rw [← hs2]; exact text_add HLS1.out rfl
      have htx : (tx1 (nd.S.size : Int)).size ≤ 1 := by first | exact Nat.le_refl _ | omega
      have hls2 : s2.size ≤ 2 + 300 * k + 2 := by rw [← hs2, ByteArray.size_append]; omega
      have had2 : ∀ w, (Op.stringOp .add s1 (tx1 (nd.S.size : Int))).run Tryd.prog w = .ok (.string s2) w := fun w => by rw [← hs2]; exact add_run (by omega) w
      clear htx
      obtain ⟨L2, hL2⟩ : ∃ x, L1 ++ [by8 (nd.S.size : Int)] = x := ⟨_, rfl⟩
      rw [hL2] at HLS2
      have HL2 := Lib.hid hL2
      clear hL2 hs2
      obtain ⟨s3, hs3⟩ : ∃ s, s2 ++ nd.S = s := ⟨_, rfl⟩
      have HLS3 : Hid (s3.data.toList = L2 ++ nd.S.data.toList) := by show _ = _; rw [← hs3]; exact text_add HLS2.out rfl
      have htx : (nd.S).size ≤ 255 := by first | exact Nat.le_refl _ | omega
      have hls3 : s3.size ≤ 2 + 300 * k + 258 := by rw [← hs3, ByteArray.size_append]; omega
      have had3 : ∀ w, (Op.stringOp .add s2 (nd.S)).run Tryd.prog w = .ok (.string s3) w := fun w => by rw [← hs3]; exact add_run (by omega) w
      clear htx
      obtain ⟨L3, hL3⟩ : ∃ x, L2 ++ nd.S.data.toList = x := ⟨_, rfl⟩
      rw [hL3] at HLS3
      have HL3 := Lib.hid hL3
      clear hL3 hs3
      have cv := conv1 x3 (nd.S.size : Int)
      have q3 : (x3.alloc (.cells #[.int .u8 (nd.S.size : Int)] 5)).cell? ⟨p, 3, none⟩ = some (.string nd.S) := (HQ3.out.alloc _).cell 3
      go_wp2_with fail
      have HFI : Hid (s3.data.toList = preE l (k + 1)) := by
        show _ = _
        rw [HLS3.out, preE_succ hlt, HND.out, HEN.out, ← HL3.out, ← HL2.out, ← HL1.out, ← HL0.out]
        all_goals simp
      go_roundw
      case rel => exact ⟨k + 1, s3, by omega, by go_num, rfl, HFI.out, (HE3.out.alloc HZ3.out _), (by have := HZ3.out; simp; omega)⟩
      case measure => simp [intOf]; omega
    · have tok : True := trivial
      have HEN : Hid (encN nd = [by8 (kk : Int)]) := by
        show encN nd = _
        unfold encN optB txtB
        rw [HKK.out, e1, e2, e3]
        simp
      have HF1 := Lib.hid e1
      have HF2 := Lib.hid e2
      have HF3 := Lib.hid e3
      clear e1 e2 e3
      obtain ⟨s1, hs1⟩ : ∃ s, s0 ++ tx1 (kk : Int) = s := ⟨_, rfl⟩
      have HLS1 : Hid (s1.data.toList = L0 ++ [by8 (kk : Int)]) := by show _ = _; rw [← hs1]; exact text_add HLS0.out rfl
      have htx : (tx1 (kk : Int)).size ≤ 1 := by first | exact Nat.le_refl _ | omega
      have hls1 : s1.size ≤ 2 + 300 * k + 1 := by rw [← hs1, ByteArray.size_append]; omega
      have had1 : ∀ w, (Op.stringOp .add s0 (tx1 (kk : Int))).run Tryd.prog w = .ok (.string s1) w := fun w => by rw [← hs1]; exact add_run (by omega) w
      clear htx
      obtain ⟨L1, hL1⟩ : ∃ x, L0 ++ [by8 (kk : Int)] = x := ⟨_, rfl⟩
      rw [hL1] at HLS1
      have HL1 := Lib.hid hL1
      clear hL1 hs1
      have cv := conv1 (wr.alloc (.cells #[.int .i64 (kk : Int), .int .i64 nd.N, .int .i64 nd.M, .string nd.S] 30)) (kk : Int)
      simp only [World.size_alloc] at cv
      go_wp2_with fail
      rw [HX0.out, HP.out]
      clear cv had1
      obtain ⟨x1, hx1⟩ : ∃ y, x0.alloc (.cells #[.int .u8 (kk : Int)] 5) = y := ⟨_, rfl⟩
      rw [hx1]
      obtain ⟨o1, o2, o3⟩ := re_alloc hx1 HE0.out HZ0.out HQ0.out
      have HE1 := Lib.hid o1
      have HZ1 := Lib.hid o2
      have HQ1 := Lib.hid o3
      clear o1 o2 o3 hx1
      refine (rhasN_any (kk : Int) (by omega) x1).mono ?_
      rintro e x2 ⟨rfl, hb⟩
      obtain ⟨o1, o2, o3⟩ := re_call HE1.out HZ1.out HQ1.out hb
      have HE2 := Lib.hid o1
      have HZ2 := Lib.hid o2
      have HQ2 := Lib.hid o3
      clear o1 o2 o3 hb
      rw [HF1.out]
      have r0 : x2.cell? ⟨p, 0, none⟩ = some (.int .i64 (kk : Int)) := HQ2.out.cell 0
      have r1 : x2.cell? ⟨p, 1, none⟩ = some (.int .i64 nd.N) := HQ2.out.cell 1
      have r2 : x2.cell? ⟨p, 2, none⟩ = some (.int .i64 nd.M) := HQ2.out.cell 2
      have r3 : x2.cell? ⟨p, 3, none⟩ = some (.string nd.S) := HQ2.out.cell 3
      go_wp2_with fail
      clear r0 r1 r2 r3
      refine (rhasM_any (kk : Int) (by omega) x2).mono ?_
      rintro e y ⟨rfl, rfl⟩
      rw [HF2.out]
      have r0 : x2.cell? ⟨p, 0, none⟩ = some (.int .i64 (kk : Int)) := HQ2.out.cell 0
      have r1 : x2.cell? ⟨p, 1, none⟩ = some (.int .i64 nd.N) := HQ2.out.cell 1
      have r2 : x2.cell? ⟨p, 2, none⟩ = some (.int .i64 nd.M) := HQ2.out.cell 2
      have r3 : x2.cell? ⟨p, 3, none⟩ = some (.string nd.S) := HQ2.out.cell 3
      go_wp2_with fail
      clear r0 r1 r2 r3
      refine (rhasS_any (kk : Int) (by omega) x2).mono ?_
      rintro e x3 ⟨rfl, hb⟩
      obtain ⟨o1, o2, o3⟩ := re_call HE2.out HZ2.out HQ2.out hb
      have HE3 := Lib.hid o1
      have HZ3 := Lib.hid o2
      have HQ3 := Lib.hid o3
      clear o1 o2 o3 hb
      rw [HF3.out]
      have r0 : x3.cell? ⟨p, 0, none⟩ = some (.int .i64 (kk : Int)) := HQ3.out.cell 0
      have r1 : x3.cell? ⟨p, 1, none⟩ = some (.int .i64 nd.N) := HQ3.out.cell 1
      have r2 : x3.cell? ⟨p, 2, none⟩ = some (.int .i64 nd.M) := HQ3.out.cell 2
      have r3 : x3.cell? ⟨p, 3, none⟩ = some (.string nd.S) := HQ3.out.cell 3
      go_wp2_with fail
      have HFI : Hid (s1.data.toList = preE l (k + 1)) := by
        show _ = _
        rw [HLS1.out, preE_succ hlt, HND.out, HEN.out, ← HL1.out, ← HL0.out]
        all_goals simp
      go_roundw
      case rel => exact ⟨k + 1, s1, by omega, by go_num, rfl, HFI.out, HE3.out, HZ3.out⟩
      case measure => simp [intOf]; omega
    · have tok : True := trivial
      have HEN : Hid (encN nd = [by8 (kk : Int)] ++ [by8 nd.N] ++ [by8 nd.M] ++ [by8 (nd.S.size : Int)] ++ nd.S.data.toList) := by
        show encN nd = _
        unfold encN optB txtB
        rw [HKK.out, e1, e2, e3]
        simp
      have HF1 := Lib.hid e1
      have HF2 := Lib.hid e2
      have HF3 := Lib.hid e3
      clear e1 e2 e3
      obtain ⟨s1, hs1⟩ : ∃ s, s0 ++ tx1 (kk : Int) = s := ⟨_, rfl⟩
      have HLS1 : Hid (s1.data.toList = L0 ++ [by8 (kk : Int)]) := by show _ = _; rw [← hs1]; exact text_add HLS0.out rfl
      have htx : (tx1 (kk : Int)).size ≤ 1 := by first | exact Nat.le_refl _ | omega
      have hls1 : s1.size ≤ 2 + 300 * k + 1 := by rw [← hs1, ByteArray.size_append]; omega
      have had1 : ∀ w, (Op.stringOp .add s0 (tx1 (kk : Int))).run Tryd.prog w = .ok (.string s1) w := fun w => by rw [← hs1]; exact add_run (by omega) w
      clear htx
      obtain ⟨L1, hL1⟩ : ∃ x, L0 ++ [by8 (kk : Int)] = x := ⟨_, rfl⟩
      rw [hL1] at HLS1
      have HL1 := Lib.hid hL1
      clear hL1 hs1
      have cv := conv1 (wr.alloc (.cells #[.int .i64 (kk : Int), .int .i64 nd.N, .int .i64 nd.M, .string nd.S] 30)) (kk : Int)
      simp only [World.size_alloc] at cv
      go_wp2_with fail
      rw [HX0.out, HP.out]
      clear cv had1
      obtain ⟨x1, hx1⟩ : ∃ y, x0.alloc (.cells #[.int .u8 (kk : Int)] 5) = y := ⟨_, rfl⟩
      rw [hx1]
      obtain ⟨o1, o2, o3⟩ := re_alloc hx1 HE0.out HZ0.out HQ0.out
      have HE1 := Lib.hid o1
      have HZ1 := Lib.hid o2
      have HQ1 := Lib.hid o3
      clear o1 o2 o3 hx1
      refine (rhasN_any (kk : Int) (by omega) x1).mono ?_
      rintro e x2 ⟨rfl, hb⟩
      obtain ⟨o1, o2, o3⟩ := re_call HE1.out HZ1.out HQ1.out hb
      have HE2 := Lib.hid o1
      have HZ2 := Lib.hid o2
      have HQ2 := Lib.hid o3
      clear o1 o2 o3 hb
      rw [HF1.out]
      have r0 : x2.cell? ⟨p, 0, none⟩ = some (.int .i64 (kk : Int)) := HQ2.out.cell 0
      have r1 : x2.cell? ⟨p, 1, none⟩ = some (.int .i64 nd.N) := HQ2.out.cell 1
      have r2 : x2.cell? ⟨p, 2, none⟩ = some (.int .i64 nd.M) := HQ2.out.cell 2
      have r3 : x2.cell? ⟨p, 3, none⟩ = some (.string nd.S) := HQ2.out.cell 3
      obtain ⟨s2, hs2⟩ : ∃ s, s1 ++ tx1 nd.N = s := ⟨_, rfl⟩
      have HLS2 : Hid (s2.data.toList = L1 ++ [by8 nd.N]) := by show _ = _; rw [← hs2]; exact text_add HLS1.out rfl
      have htx : (tx1 nd.N).size ≤ 1 := by first | exact Nat.le_refl _ | omega
      have hls2 : s2.size ≤ 2 + 300 * k + 2 := by rw [← hs2, ByteArray.size_append]; omega
      have had2 : ∀ w, (Op.stringOp .add s1 (tx1 nd.N)).run Tryd.prog w = .ok (.string s2) w := fun w => by rw [← hs2]; exact add_run (by omega) w
      clear htx
      obtain ⟨L2, hL2⟩ : ∃ x, L1 ++ [by8 nd.N] = x := ⟨_, rfl⟩
      rw [hL2] at HLS2
      have HL2 := Lib.hid hL2
      clear hL2 hs2
      have cv := conv1 x2 nd.N
      have q0 : (x2.alloc (.cells #[.int .u8 (nd.N)] 5)).cell? ⟨p, 0, none⟩ = some (.int .i64 (kk : Int)) := (HQ2.out.alloc _).cell 0
      go_wp2_with fail
      clear cv had2 r0 r1 r2 r3 q0
      obtain ⟨x3, hx3⟩ : ∃ y, x2.alloc (.cells #[.int .u8 (nd.N)] 5) = y := ⟨_, rfl⟩
      rw [hx3]
      obtain ⟨o1, o2, o3⟩ := re_alloc hx3 HE2.out HZ2.out HQ2.out
      have HE3 := Lib.hid o1
      have HZ3 := Lib.hid o2
      have HQ3 := Lib.hid o3
      clear o1 o2 o3 hx3
      refine (rhasM_any (kk : Int) (by omega) x3).mono ?_
      rintro e y ⟨rfl, rfl⟩
      rw [HF2.out]
      have r0 : x3.cell? ⟨p, 0, none⟩ = some (.int .i64 (kk : Int)) := HQ3.out.cell 0
      have r1 : x3.cell? ⟨p, 1, none⟩ = some (.int .i64 nd.N) := HQ3.out.cell 1
      have r2 : x3.cell? ⟨p, 2, none⟩ = some (.int .i64 nd.M) := HQ3.out.cell 2
      have r3 : x3.cell? ⟨p, 3, none⟩ = some (.string nd.S) := HQ3.out.cell 3
      obtain ⟨s3, hs3⟩ : ∃ s, s2 ++ tx1 nd.M = s := ⟨_, rfl⟩
      have HLS3 : Hid (s3.data.toList = L2 ++ [by8 nd.M]) := by show _ = _; rw [← hs3]; exact text_add HLS2.out rfl
      have htx : (tx1 nd.M).size ≤ 1 := by first | exact Nat.le_refl _ | omega
      have hls3 : s3.size ≤ 2 + 300 * k + 3 := by rw [← hs3, ByteArray.size_append]; omega
      have had3 : ∀ w, (Op.stringOp .add s2 (tx1 nd.M)).run Tryd.prog w = .ok (.string s3) w := fun w => by rw [← hs3]; exact add_run (by omega) w
      clear htx
      obtain ⟨L3, hL3⟩ : ∃ x, L2 ++ [by8 nd.M] = x := ⟨_, rfl⟩
      rw [hL3] at HLS3
      have HL3 := Lib.hid hL3
      clear hL3 hs3
      have cv := conv1 x3 nd.M
      have q0 : (x3.alloc (.cells #[.int .u8 (nd.M)] 5)).cell? ⟨p, 0, none⟩ = some (.int .i64 (kk : Int)) := (HQ3.out.alloc _).cell 0
      go_wp2_with fail
      clear cv had3 r0 r1 r2 r3 q0
      obtain ⟨x4, hx4⟩ : ∃ y, x3.alloc (.cells #[.int .u8 (nd.M)] 5) = y := ⟨_, rfl⟩
      rw [hx4]
      obtain ⟨o1, o2, o3⟩ := re_alloc hx4 HE3.out HZ3.out HQ3.out
      have HE4 := Lib.hid o1
      have HZ4 := Lib.hid o2
      have HQ4 := Lib.hid o3
      clear o1 o2 o3 hx4
      refine (rhasS_any (kk : Int) (by omega) x4).mono ?_
      rintro e x5 ⟨rfl, hb⟩
      obtain ⟨o1, o2, o3⟩ := re_call HE4.out HZ4.out HQ4.out hb
      have HE5 := Lib.hid o1
      have HZ5 := Lib.hid o2
      have HQ5 := Lib.hid o3
      clear o1 o2 o3 hb
      rw [HF3.out]
      have r0 : x5.cell? ⟨p, 0, none⟩ = some (.int .i64 (kk : Int)) := HQ5.out.cell 0
      have r1 : x5.cell? ⟨p, 1, none⟩ = some (.int .i64 nd.N) := HQ5.out.cell 1
      have r2 : x5.cell? ⟨p, 2, none⟩ = some (.int .i64 nd.M) := HQ5.out.cell 2
      have r3 : x5.cell? ⟨p, 3, none⟩ = some (.string nd.S) := HQ5.out.cell 3
      obtain ⟨s4, hs4⟩ : ∃ s, s3 ++ tx1 (nd.S.size : Int) = s := ⟨_, rfl⟩
      have HLS4 : Hid (s4.data.toList = L3 ++ [by8 (nd.S.size : Int)]) := by show _ = _; rw [← hs4]; exact text_add HLS3.out rfl
      have htx : (tx1 (nd.S.size : Int)).size ≤ 1 := by first | exact Nat.le_refl _ | omega
      have hls4 : s4.size ≤ 2 + 300 * k + 4 := by rw [← hs4, ByteArray.size_append]; omega
      have had4 : ∀ w, (Op.stringOp .add s3 (tx1 (nd.S.size : Int))).run Tryd.prog w = .ok (.string s4) w := fun w => by rw [← hs4]; exact add_run (by omega) w
      clear htx
      obtain ⟨L4, hL4⟩ : ∃ x, L3 ++ [by8 (nd.S.size : Int)] = x := ⟨_, rfl⟩
      rw [hL4] at HLS4
      have HL4 := Lib.hid hL4
      clear hL4 hs4
      obtain ⟨s5, hs5⟩ : ∃ s, s4 ++ nd.S = s := ⟨_, rfl⟩
      have HLS5 : Hid (s5.data.toList = L4 ++ nd.S.data.toList) := by show _ = _; rw [← hs5]; exact text_add HLS4.out rfl
      have htx : (nd.S).size ≤ 255 := by first | exact Nat.le_refl _ | omega
      have hls5 : s5.size ≤ 2 + 300 * k + 260 := by rw [← hs5, ByteArray.size_append]; omega
      have had5 : ∀ w, (Op.stringOp .add s4 (nd.S)).run Tryd.prog w = .ok (.string s5) w := fun w => by rw [← hs5]; exact add_run (by omega) w
      clear htx
      obtain ⟨L5, hL5⟩ : ∃ x, L4 ++ nd.S.data.toList = x := ⟨_, rfl⟩
      rw [hL5] at HLS5
      have HL5 := Lib.hid hL5
      clear hL5 hs5
      have cv := conv1 x5 (nd.S.size : Int)
      have q3 : (x5.alloc (.cells #[.int .u8 (nd.S.size : Int)] 5)).cell? ⟨p, 3, none⟩ = some (.string nd.S) := (HQ5.out.alloc _).cell 3
      go_wp2_with fail
      have HFI : Hid (s5.data.toList = preE l (k + 1)) := by
        show _ = _
        rw [HLS5.out, preE_succ hlt, HND.out, HEN.out, ← HL5.out, ← HL4.out, ← HL3.out, ← HL2.out, ← HL1.out, ← HL0.out]
        all_goals simp
      go_roundw
      case rel => exact ⟨k + 1, s5, by omega, by go_num, rfl, HFI.out, (HE5.out.alloc HZ5.out _), (by have := HZ5.out; simp; omega)⟩
      case measure => simp [intOf]; omega
    · have tok : True := trivial
      have HEN : Hid (encN nd = [by8 (kk : Int)] ++ [by8 nd.M] ++ [by8 (nd.S.size : Int)] ++ nd.S.data.toList) := by
        show encN nd = _
        unfold encN optB txtB
        rw [HKK.out, e1, e2, e3]
        simp
      have HF1 := Lib.hid e1
      have HF2 := Lib.hid e2
      have HF3 := Lib.hid e3
      clear e1 e2 e3
      obtain ⟨s1, hs1⟩ : ∃ s, s0 ++ tx1 (kk : Int) = s := ⟨_, rfl⟩
      have HLS1 : Hid (s1.data.toList = L0 ++ [by8 (kk : Int)]) := by show _ = _; rw [← hs1]; exact text_add HLS0.out rfl
      have htx : (tx1 (kk : Int)).size ≤ 1 := by first | exact Nat.le_refl _ | omega
      have hls1 : s1.size ≤ 2 + 300 * k + 1 := by rw [← hs1, ByteArray.size_append]; omega
      have had1 : ∀ w, (Op.stringOp .add s0 (tx1 (kk : Int))).run Tryd.prog w = .ok (.string s1) w := fun w => by rw [← hs1]; exact add_run (by omega) w
      clear htx
      obtain ⟨L1, hL1⟩ : ∃ x, L0 ++ [by8 (kk : Int)] = x := ⟨_, rfl⟩
      rw [hL1] at HLS1
      have HL1 := Lib.hid hL1
      clear hL1 hs1
      have cv := conv1 (wr.alloc (.cells #[.int .i64 (kk : Int), .int .i64 nd.N, .int .i64 nd.M, .string nd.S] 30)) (kk : Int)
      simp only [World.size_alloc] at cv
      go_wp2_with fail
      rw [HX0.out, HP.out]
      clear cv had1
      obtain ⟨x1, hx1⟩ : ∃ y, x0.alloc (.cells #[.int .u8 (kk : Int)] 5) = y := ⟨_, rfl⟩
      rw [hx1]
      obtain ⟨o1, o2, o3⟩ := re_alloc hx1 HE0.out HZ0.out HQ0.out
      have HE1 := Lib.hid o1
      have HZ1 := Lib.hid o2
      have HQ1 := Lib.hid o3
      clear o1 o2 o3 hx1
      refine (rhasN_any (kk : Int) (by omega) x1).mono ?_
      rintro e x2 ⟨rfl, hb⟩
      obtain ⟨o1, o2, o3⟩ := re_call HE1.out HZ1.out HQ1.out hb
      have HE2 := Lib.hid o1
      have HZ2 := Lib.hid o2
      have HQ2 := Lib.hid o3
      clear o1 o2 o3 hb
      rw [HF1.out]
      have r0 : x2.cell? ⟨p, 0, none⟩ = some (.int .i64 (kk : Int)) := HQ2.out.cell 0
      have r1 : x2.cell? ⟨p, 1, none⟩ = some (.int .i64 nd.N) := HQ2.out.cell 1
      have r2 : x2.cell? ⟨p, 2, none⟩ = some (.int .i64 nd.M) := HQ2.out.cell 2
      have r3 : x2.cell? ⟨p, 3, none⟩ = some (.string nd.S) := HQ2.out.cell 3
      go_wp2_with fail
      clear r0 r1 r2 r3
      refine (rhasM_any (kk : Int) (by omega) x2).mono ?_
      rintro e y ⟨rfl, rfl⟩
      rw [HF2.out]
      have r0 : x2.cell? ⟨p, 0, none⟩ = some (.int .i64 (kk : Int)) := HQ2.out.cell 0
      have r1 : x2.cell? ⟨p, 1, none⟩ = some (.int .i64 nd.N) := HQ2.out.cell 1
      have r2 : x2.cell? ⟨p, 2, none⟩ = some (.int .i64 nd.M) := HQ2.out.cell 2
      have r3 : x2.cell? ⟨p, 3, none⟩ = some (.string nd.S) := HQ2.out.cell 3
      obtain ⟨s2, hs2⟩ : ∃ s, s1 ++ tx1 nd.M = s := ⟨_, rfl⟩
      have HLS2 : Hid (s2.data.toList = L1 ++ [by8 nd.M]) := by show _ = _; rw [← hs2]; exact text_add HLS1.out rfl
      have htx : (tx1 nd.M).size ≤ 1 := by first | exact Nat.le_refl _ | omega
      have hls2 : s2.size ≤ 2 + 300 * k + 2 := by rw [← hs2, ByteArray.size_append]; omega
      have had2 : ∀ w, (Op.stringOp .add s1 (tx1 nd.M)).run Tryd.prog w = .ok (.string s2) w := fun w => by rw [← hs2]; exact add_run (by omega) w
      clear htx
      obtain ⟨L2, hL2⟩ : ∃ x, L1 ++ [by8 nd.M] = x := ⟨_, rfl⟩
      rw [hL2] at HLS2
      have HL2 := Lib.hid hL2
      clear hL2 hs2
      have cv := conv1 x2 nd.M
      have q0 : (x2.alloc (.cells #[.int .u8 (nd.M)] 5)).cell? ⟨p, 0, none⟩ = some (.int .i64 (kk : Int)) := (HQ2.out.alloc _).cell 0
      go_wp2_with fail
      clear cv had2 r0 r1 r2 r3 q0
      obtain ⟨x3, hx3⟩ : ∃ y, x2.alloc (.cells #[.int .u8 (nd.M)] 5) = y := ⟨_, rfl⟩
      rw [hx3]
      obtain ⟨o1, o2, o3⟩ := re_alloc hx3 HE2.out HZ2.out HQ2.out
      have HE3 := Lib.hid o1
      have HZ3 := Lib.hid o2
      have HQ3 := Lib.hid o3
      clear o1 o2 o3 hx3
      refine (rhasS_any (kk : Int) (by omega) x3).mono ?_
      rintro e x4 ⟨rfl, hb⟩
      obtain ⟨o1, o2, o3⟩ := re_call HE3.out HZ3.out HQ3.out hb
      have HE4 := Lib.hid o1
      have HZ4 := Lib.hid o2
      have HQ4 := Lib.hid o3
      clear o1 o2 o3 hb
      rw [HF3.out]
      have r0 : x4.cell? ⟨p, 0, none⟩ = some (.int .i64 (kk : Int)) := HQ4.out.cell 0
      have r1 : x4.cell? ⟨p, 1, none⟩ = some (.int .i64 nd.N) := HQ4.out.cell 1
      have r2 : x4.cell? ⟨p, 2, none⟩ = some (.int .i64 nd.M) := HQ4.out.cell 2
      have r3 : x4.cell? ⟨p, 3, none⟩ = some (.string nd.S) := HQ4.out.cell 3
      obtain ⟨s3, hs3⟩ : ∃ s, s2 ++ tx1 (nd.S.size : Int) = s := ⟨_, rfl⟩
      have HLS3 : Hid (s3.data.toList = L2 ++ [by8 (nd.S.size : Int)]) := by show _ = _; rw [← hs3]; exact text_add HLS2.out rfl
      have htx : (tx1 (nd.S.size : Int)).size ≤ 1 := by first | exact Nat.le_refl _ | omega
      have hls3 : s3.size ≤ 2 + 300 * k + 3 := by rw [← hs3, ByteArray.size_append]; omega
      have had3 : ∀ w, (Op.stringOp .add s2 (tx1 (nd.S.size : Int))).run Tryd.prog w = .ok (.string s3) w := fun w => by rw [← hs3]; exact add_run (by omega) w
      clear htx
      obtain ⟨L3, hL3⟩ : ∃ x, L2 ++ [by8 (nd.S.size : Int)] = x := ⟨_, rfl⟩
      rw [hL3] at HLS3
      have HL3 := Lib.hid hL3
      clear hL3 hs3
      obtain ⟨s4, hs4⟩ : ∃ s, s3 ++ nd.S = s := ⟨_, rfl⟩
      have HLS4 : Hid (s4.data.toList = L3 ++ nd.S.data.toList) := by show _ = _; rw [← hs4]; exact text_add HLS3.out rfl
      have htx : (nd.S).size ≤ 255 := by first | exact Nat.le_refl _ | omega
      have hls4 : s4.size ≤ 2 + 300 * k + 259 := by rw [← hs4, ByteArray.size_append]; omega
      have had4 : ∀ w, (Op.stringOp .add s3 (nd.S)).run Tryd.prog w = .ok (.string s4) w := fun w => by rw [← hs4]; exact add_run (by omega) w
      clear htx
      obtain ⟨L4, hL4⟩ : ∃ x, L3 ++ nd.S.data.toList = x := ⟨_, rfl⟩
      rw [hL4] at HLS4
      have HL4 := Lib.hid hL4
      clear hL4 hs4
      have cv := conv1 x4 (nd.S.size : Int)
      have q3 : (x4.alloc (.cells #[.int .u8 (nd.S.size : Int)] 5)).cell? ⟨p, 3, none⟩ = some (.string nd.S) := (HQ4.out.alloc _).cell 3
      go_wp2_with fail
      have HFI : Hid (s4.data.toList = preE l (k + 1)) := by
        show _ = _
        rw [HLS4.out, preE_succ hlt, HND.out, HEN.out, ← HL4.out, ← HL3.out, ← HL2.out, ← HL1.out, ← HL0.out]
        all_goals simp
      go_roundw
      case rel => exact ⟨k + 1, s4, by omega, by go_num, rfl, HFI.out, (HE4.out.alloc HZ4.out _), (by have := HZ4.out; simp; omega)⟩
      case measure => simp [intOf]; omega

end Go.Proofs.YtoagedaohdkbdaaDoor
