/- wire.Unpack; the document's Pack, Unpack and Texts; rows of nodes that differ. -/
import Derived.Test.YtoagedaohdkbdaaDoorWireD
import Derived.Test.YtoagedaohdkbdaaDoorWireS
namespace Go.Proofs.YtoagedaohdkbdaaDoor
set_option linter.unusedSimpArgs false
set_option linter.unusedVariables false
open Go.RowKit

theorem infoStr : (Tryd.prog.info? 9).map (fun i => (i.zero, i.size, i.bytes)) = some (some (.string ByteArray.empty), 1, 16) := by kernel_rfl
def unL (s : List UInt8) : List ByteArray := (unpackB 20000 s).getD []
def unE (s : List UInt8) : Int := if (unpackB 20000 s).isSome then 0 else 50
theorem unE_none {s : List UInt8} (h : unpackB 20000 s = none) : unE s = 50 ∧ unL s = [] := by unfold unE unL; rw [h]; exact ⟨rfl, rfl⟩
theorem unE_some {s : List UInt8} {l : List ByteArray} (h : unpackB 20000 s = some l) : unE s = 0 ∧ unL s = l := by unfold unE unL; rw [h]; exact ⟨rfl, rfl⟩
def OwnS (base : Nat) (w : World) (v : Value) (l : List ByteArray) : Prop := w.ownsRow base 9 1 v l.length (l.map .string)
theorem OwnS.read {base : Nat} {w : World} {v : Value} {l : List ByteArray} (h : OwnS base w v l) : ReadS w v l := RowAt.of_own h
def UnP (s : List UInt8) (w : World) (e : Ending) (w' : World) : Prop := ∃ v, e = .returned (.tuple #[v, .int .i64 (unE s)]) ∧ OwnS w.heap.size w' v (unL s) ∧ Below w.heap.size w w'
theorem UnP.bad {s : List UInt8} {w w' : World} (h : unpackB 20000 s = none) (hb : Below w.heap.size w w') : UnP s w (.returned (.tuple #[.slice none 0 0, .int .i64 50])) w' :=
  ⟨_, by rw [(unE_none h).1], by rw [(unE_none h).2]; exact World.ownsRow_nil _ _ _ _, hb⟩
theorem un_bad {a0 : UInt8} {r0 : List UInt8} {j : Nat} (hj : j ≤ a0.toNat) (h : unK 20000 j r0 = none) : unpackB 20000 (a0 :: r0) = none := by
  unfold unpackB
  simp only
  rw [unK_stop h _ hj]
  rfl
theorem un_end {a0 : UInt8} {r0 r : List UInt8} {L : List ByteArray} (h : unK 20000 a0.toNat r0 = some (L, r)) : unpackB 20000 (a0 :: r0) = if r = [] then some L else none := by
  unfold unpackB
  simp only
  rw [h, Option.bind_some]
theorem un_left {a0 : UInt8} {r0 : List UInt8} {st : Option (List UInt8)} {L : List ByteArray} (h : UnI 20000 r0 a0.toNat st L) (hz : leftI st ≠ 0) : unpackB 20000 (a0 :: r0) = none := by
  match st, h, hz with
  | none, h, _ => exact un_bad (Nat.le_refl _) h.2
  | some [], _, hz => exact absurd rfl hz
  | some (a :: r), h, _ => rw [un_end h.2, if_neg (by simp)]
theorem left_some {st : Option (List UInt8)} (h : ¬ leftI st < 0) : ∃ r, st = some r := by
  match st, h with
  | none, h => exact absurd (by show (-1 : Int) < 0; omega) h
  | some r, _ => exact ⟨r, rfl⟩
theorem left_none {st : Option (List UInt8)} (h : leftI st < 0) : st = none := by
  match st, h with
  | none, _ => rfl
  | some r, h => unfold leftI at h; simp at h; omega
def UnR (r0 : List UInt8) (n0 D : Nat) (w : World) (v i : Value) (wr : World) : Prop :=
  ∃ (j : Nat) (st : Option (List UInt8)) (L : List ByteArray) (a : Option Addr) (c : Nat), j ≤ n0 ∧ i = .int .i64 ((n0 : Int) - (j : Int)) ∧ v = .slice a L.length c ∧ UnI 20000 r0 j st L ∧ Tk (D + 1) D st wr ∧ wr.ownsRow (D + 2) 9 1 (.slice a L.length c) L.length (L.map .string) ∧ Below D w wr ∧ D + 2 ≤ wr.heap.size
theorem un_next {r0 : List UInt8} {n0 D j : Nat} {w x x' w5 : World} {st S : Option (List UInt8)} {L : List ByteArray} {t : ByteArray} {ao a5 : Option Addr} {co c5 : Nat} {i : Value} (hj : j < n0) (hi : i = .int .i64 ((n0 : Int) - ((j + 1 : Nat) : Int)))
    (hdi : UnI 20000 r0 (j + 1) (stT st) (L ++ [txT st])) (hS : stT st = S) (hnd : txT st = t) (ht : Tk (D + 1) D S x) (hx : Below x.heap.size x x') (ho : x.ownsRow (D + 2) 9 1 (.slice ao L.length co) L.length (L.map .string))
    (h5 : w5.ownsRow (D + 2) 9 1 (.slice a5 (L.length + 1) c5) (L.length + 1) (L.map .string ++ [.string t])) (hg : x'.grownBy w5 (Value.slice ao L.length co).ownBlock) (hb : Below D w x) (hz : D + 2 ≤ x.heap.size) :
    UnR r0 n0 D w (.slice a5 (L.length + 1) c5) i w5 := by
  have hc1 : Chg (fun z => D + 2 ≤ z) x w5 := (Chg.fresh hx).trans (Chg.grown hg (fun g hg => (ho.lt g hg).1))
  refine ⟨j + 1, stT st, L ++ [txT st], a5, c5, by omega, hi, by simp, hdi, ?_, ?_, ?_, by have := hc1.size; omega⟩
  · rw [hS]
    exact ht.stab hc1 (by omega) (by omega)
  · rw [hnd]
    simpa using h5
  · exact hb.trans (hc1.to_below (fun z h => by omega) (by omega))
theorem text_one (t : ByteArray) : ∀ u, u ∈ [Value.string t] → u.oneCell' = true := by
  intro u hu
  simp at hu
  rw [hu]
  rfl

set_option maxRecDepth 20000 in
set_option maxHeartbeats 1000000 in
theorem unpack_any (s : ByteArray) (w : World) (hs : s.size ≤ maxLen) :
    Calls Tryd.prog 19 #[.string s] w (UnP s.data.toList w) := by
  obtain ⟨i0, hi, jz0, jz1, jz2⟩ := info_parts infoStr
  cases hd : s.data.toList with
  | nil =>
    have h0 : s.size = 0 := by rw [size_list, hd]; rfl
    have e1 : s.toList.isEmpty = true := by rw [size0]; simpa using h0
    have e2 : s.toList = [] := by simpa using e1
    have HB : Hid (UnP [] w (.returned (.tuple #[.slice none 0 0, .int .i64 50])) w) := UnP.bad rfl (Below.refl _ _)
    clear hd h0
    go_enter Tryd.func19, Tryd.ntmps19
    go_wp2_with fail
    go_ret2
    exact HB.out
  | cons a0 r0 =>
  have h0 : s.size ≠ 0 := by rw [size_list, hd]; simp
  have e1 : s.toList.isEmpty = false := by rw [size0]; simpa using h0
  have e2 : (s.toList == []) = false := by
    cases h : s.toList with
    | nil => rw [h] at e1; cases e1
    | cons a r => rfl
  have HTK := Lib.hid (taker_any s hs w)
  rw [hd] at HTK
  obtain ⟨D, hD⟩ : ∃ D, w.heap.size = D := ⟨_, rfl⟩
  have HD := Lib.hid hD
  rw [hD] at HTK
  have HBAD : Hid (∀ w', unpackB 20000 (a0 :: r0) = none → Below D w w' → UnP (a0 :: r0) w (.returned (.tuple #[.slice none 0 0, .int .i64 50])) w') := fun w' h hb => UnP.bad h (by rw [HD.out]; exact hb)
  obtain ⟨n0, hn0⟩ : ∃ n, a0.toNat = n := ⟨_, rfl⟩
  have HN0 := Lib.hid hn0
  have hn9 : n0 ≤ 255 := by have := a0.toNat_lt; omega
  clear hd hs h0 hD hn0
  go_enter Tryd.func19, Tryd.ntmps19
  go_wp2_with fail
  refine HTK.out.mono ?_
  rintro e w1 ⟨rfl, htk, hb1, hz1⟩
  have HT1 := Lib.hid htk
  have HE1 := Lib.hid hb1
  have HZ1 : Hid (D + 2 ≤ w1.heap.size) := by show _ ≤ _; omega
  clear htk hb1 hz1
  go_wp2_with fail
  refine (take_lit (D + 1) D (some (a0 :: r0)) 1 _ rfl (by omega) _ HT1.out).mono ?_
  rintro e w2 ⟨t2, rfl, ht2, htk2, hch2⟩
  rw [tkV_one] at ht2
  rw [tkS_one] at htk2
  have HT2 := Lib.hid htk2
  have HE2 : Hid (Below D w w2) := HE1.out.trans (hch2.to_below (fun z h => by omega) (by have := HZ1.out; omega))
  have HZ2 : Hid (D + 2 ≤ w2.heap.size) := by have := HZ1.out; have := hch2.size; show _ ≤ _; omega
  clear hch2 htk2
  go_wp2_with fail
  refine (number_any t2 (by rw [size_of_toList ht2]; simp) _).mono ?_
  rintro e y ⟨rfl, rfl⟩
  rw [ht2, num_one, HN0.out]
  clear ht2
  have HI : Hid (UnR r0 n0 D w (.slice none 0 0) (.int .i64 (n0 : Int)) w2) := ⟨0, some r0, [], none, 0, by omega, by simp, rfl, UnI.zero _ _, HT2.out, World.ownsRow_nil _ _ _ _, HE2.out, HZ2.out⟩
  go_wp2_with fail
  go_loopw [6, 7] (fun v i wr => UnR r0 n0 D w v i wr) (fun _ i _ => (intOf i).toNat)
  case atStart => exact HI.out
  case round =>
    rename World => wr
    obtain ⟨j, st, L, ao, co, hj, rfl, rfl, hdi, htk, how, hbe, hsz⟩ := hrel
    have HDI := Lib.hid hdi
    have HT := Lib.hid htk
    have HO := Lib.hid how
    have HE := Lib.hid hbe
    have HZ := Lib.hid hsz
    have HLL : Hid (L.length = j) := hdi.1
    clear hdi htk how hbe hsz
    obtain ⟨z, hz⟩ : ∃ z, leftI st = z := ⟨_, rfl⟩
    have HLF := Lib.hid hz
    have HLA := Lib.hid (left_any (D + 1) D st)
    rw [hz] at HLA
    have hzm : -1 ≤ z := by rw [← hz]; exact left_lt st
    clear hz
    by_cases hlt : j < n0
    rotate_left
    · obtain rfl : j = n0 := by omega
      have hzz : ((j : Int) - (j : Int)) = 0 := by omega
      rw [hzz]
      clear hzz
      go_wp2_with fail
      refine (HLA.out _ HT.out).mono ?_
      rintro e y ⟨rfl, rfl⟩
      by_cases h0 : z = 0
      · subst h0
        have HSE : Hid (st = some []) := left_eq HLF.out
        have HD9 : Hid (unE (a0 :: r0) = 0 ∧ unL (a0 :: r0) = L) := by
          have h1 := HDI.out
          rw [HSE.out, ← HN0.out] at h1
          exact unE_some ((un_end h1.2).trans (if_pos rfl))
        have HO9 : Hid (OwnS D wr (.slice ao L.length co) L) := ownsRow_low HO.out (by omega)
        go_wp2_with fail
        go_ret2
        exact ⟨_, by rw [HD9.out.1]; rfl, by rw [HD9.out.2, HD.out]; exact HO9.out, by rw [HD.out]; exact HE.out⟩
      · have hzb : (z != 0) = true := by simpa using h0
        have HDN : Hid (unpackB 20000 (a0 :: r0) = none) := un_left (by rw [HN0.out]; exact HDI.out) (by rw [HLF.out]; exact h0)
        clear h0
        go_wp2_with fail
        go_ret2
        exact HBAD.out _ HDN.out HE.out
    have hpos : (0 : Int) < (n0 : Int) - (j : Int) := by omega
    by_cases hz1 : z < 0
    · have HDN : Hid (unpackB 20000 (a0 :: r0) = none) := by
        have h1 := HDI.out
        rw [left_none (st := st) (by rw [HLF.out]; exact hz1)] at h1
        exact un_bad (by rw [HN0.out]; exact hj) h1.2
      have hzb : (z != 0) = true := by simp; omega
      have hzd : decide (z ≥ 0) = false := by simp; omega
      go_wp2_with fail
      refine (HLA.out _ HT.out).mono ?_
      rintro e y ⟨rfl, rfl⟩
      go_wp2_with fail
      refine (HLA.out _ HT.out).mono ?_
      rintro e y ⟨rfl, rfl⟩
      go_wp2_with fail
      go_ret2
      exact HBAD.out _ HDN.out HE.out
    obtain ⟨r, hsj⟩ := left_some (by rw [HLF.out]; exact hz1)
    have HSR := Lib.hid hsj
    have hzd : decide (z ≥ 0) = true := by simp; omega
    clear hsj
    go_wp2_with fail
    refine (HLA.out _ HT.out).mono ?_
    rintro e y ⟨rfl, rfl⟩
    go_wp2_with fail
    refine (take_lit (D + 1) D st 2 _ (by first | rfl | omega) (by omega) _ HT.out).mono ?_
    rintro e x3 ⟨t3, rfl, ht3, htk3, hch3⟩
    obtain ⟨o1, o2, o3⟩ := dec_step hch3 HO.out HE.out HZ.out
    have HO3 := Lib.hid o1
    have HE3 := Lib.hid o2
    have HZ3 := Lib.hid o3
    obtain ⟨S3, hS3⟩ : ∃ x, tkS st 2 = x := ⟨_, rfl⟩
    rw [hS3] at htk3
    have HS3 := Lib.hid hS3
    have HT3 := Lib.hid htk3
    clear o1 o2 o3 htk3 hch3 hS3
    obtain ⟨nn, hnn⟩ : ∃ x, num (tkV st 2) = x := ⟨_, rfl⟩
    have Hnn := Lib.hid hnn
    have nn9 : nn ≤ 65535 := by rw [← hnn]; exact num_le2 (tkV_len _ _)
    go_wp2_with fail
    refine (number_any t3 (by rw [size_of_toList ht3]; exact tkV_len _ _) _).mono ?_
    rintro e y ⟨rfl, rfl⟩
    rw [ht3, hnn]
    clear ht3 hnn
    by_cases hg : nn > 20000
    · have HDN : Hid (unpackB 20000 (a0 :: r0) = none) := by
        have h1 := HDI.out
        rw [HSR.out] at h1
        refine un_bad (j := j + 1) (by rw [HN0.out]; omega) (h1.great ?_)
        rw [← HSR.out, Hnn.out]
        omega
      have dg : decide ((nn : Int) > 20000) = true := by simp; omega
      clear hg
      go_wp2_with fail
      go_ret2
      exact HBAD.out _ HDN.out HE3.out
    have dg : decide ((nn : Int) > 20000) = false := by simp; omega
    have hn20 : nn ≤ 20000 := by omega
    clear hg
    go_wp2_with fail
    refine (take_lit (D + 1) D S3 nn _ (by first | rfl | omega) (by omega) _ HT3.out).mono ?_
    rintro e x4 ⟨t4, rfl, ht4, htk4, hch4⟩
    obtain ⟨o1, o2, o3⟩ := dec_step hch4 HO3.out HE3.out HZ3.out
    have HO4 := Lib.hid o1
    have HE4 := Lib.hid o2
    have HZ4 := Lib.hid o3
    obtain ⟨S4, hS4⟩ : ∃ x, tkS S3 nn = x := ⟨_, rfl⟩
    rw [hS4] at htk4
    have HT4 := Lib.hid htk4
    have HST4 : Hid (stT st = S4) := by show _ = _; unfold stT; rw [HS3.out, Hnn.out, hS4]
    have HTX4 : Hid (txT st = t4) := by show _ = _; unfold txT; rw [HS3.out, Hnn.out, text_eq ht4]
    have HDI1 : Hid (UnI 20000 r0 (j + 1) (stT st) (L ++ [txT st])) := by
      have h := HDI.out
      rw [HSR.out] at h ⊢
      exact h.step (by rw [← HSR.out, Hnn.out]; omega)
    clear o1 o2 o3 htk4 hch4 hS4 ht4
    have HA1 : Hid ((x4.alloc (.cells #[.string t4] 9)).ownsRow (D + 2) 9 1 (.slice ao L.length co) L.length (L.map .string)) := ownsRow_below HO4.out ((Below.refl _ _).alloc (Nat.le_refl _) _) (fun g hg => (HO4.out.lt g hg).2)
    have HA2 : Hid (RowAt (x4.alloc (.cells #[.string t4] 9)) 1 (.slice (some ⟨x4.heap.size, 0, none⟩) 1 1) 1 [.string t4]) := RowAt.lit (size := 1) x4 9 #[.string t4] 1 rfl (by unfold maxLen; omega)
    have HA3 := Lib.hid (text_one t4)
    have hA4 : (L.length + 1) * 16 ≤ 140737488355328 := by have := HLL.out; omega
    have hA5 : L.length + 1 ≤ maxLen := by have := HLL.out; unfold maxLen; omega
    have hA6 : D + 2 ≤ (x4.alloc (.cells #[.string t4] 9)).heap.size := by have := HZ4.out; simp; omega
    go_wp2_with (at_builtin; go_must (refine wpList_append_row rfl (.tmp 33) (.tmp 37) 37 rfl (D + 2) 9 i0 (.string ByteArray.empty) 1 16 Tryd.underlying37 hi jz0 jz1 jz2 rfl (by decide) (.slice ao L.length co) L.length (L.map .string) rfl HA1.out (.slice (some ⟨x4.heap.size, 0, none⟩) 1 1) 1 [.string t4] rfl HA2.out HA3.out hA4 hA5 hA6 ?_); intro v5 w5 hown5 hg5 hat5; obtain ⟨a5, c5, rfl, _⟩ := (RowAt.of_own hown5).form; have HST5 := Lib.hid hown5; have HG5 := Lib.hid hg5; clear hown5 hg5 hat5)
    go_roundw
    case rel => exact un_next hlt (by go_num) HDI1.out HST4.out HTX4.out HT4.out ((Below.refl _ _).alloc (Nat.le_refl _) _) HO4.out HST5.out HG5.out HE4.out HZ4.out
    case measure => simp [intOf]; omega

end Go.Proofs.YtoagedaohdkbdaaDoor
