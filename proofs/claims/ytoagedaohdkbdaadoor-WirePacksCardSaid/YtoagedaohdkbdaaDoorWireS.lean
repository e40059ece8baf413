/- corniceref05.Decode: what it reads. -/
import Derived.Test.YtoagedaohdkbdaaDoorWireD
import Derived.Test.YtoagedaohdkbdaaDoorWireR
namespace Go.Proofs.YtoagedaohdkbdaaDoor
set_option linter.unusedSimpArgs false
set_option linter.unusedVariables false
open Go.RowKit

theorem drop_lt {s : ByteArray} {i : Nat} {b : UInt8} {r : List UInt8} (h : s.data.toList.drop i = b :: r) : i < s.size ∧ s.data.toList.drop (i + 1) = r ∧ r.length = s.size - (i + 1) := by
  have hl : s.data.toList.length = s.size := Array.length_toList
  have h1 : i < s.data.toList.length := by
    rcases Nat.lt_or_ge i s.data.toList.length with h2 | h2
    · exact h2
    · rw [List.drop_eq_nil_of_le h2] at h; cases h
  have h2 : s.data.toList.drop (i + 1) = r := by
    have h3 : s.data.toList.drop (i + 1) = (s.data.toList.drop i).drop 1 := by rw [List.drop_drop]
    rw [h3, h]; rfl
  exact ⟨by omega, h2, by rw [← h2, List.length_drop, hl]⟩
theorem drop_end {s : ByteArray} {i : Nat} (h : s.data.toList.drop i = []) : s.size ≤ i := by
  have hl : s.data.toList.length = s.size := Array.length_toList
  have := List.drop_eq_nil_iff.1 h
  omega
theorem idx_run {s : ByteArray} {i : Nat} {b : UInt8} {r : List UInt8} (h : s.data.toList.drop i = b :: r) (w : World) :
    (Instr.index 9 (.string s) (.int .i64 (i : Int))).run Tryd.prog w = .ok (.int .u8 ((b.toNat : Nat) : Int)) w := by
  obtain ⟨h1, _⟩ := drop_lt h
  rw [run_index_string w 9 s .i64 i Tryd.underlying9, dif_pos (by omega)]
  have e : (s[(i : Int).toNat]'(by omega)) = b := by
    have hl : s.data.toList.length = s.size := Array.length_toList
    have h2 : s.data.toList[i]? = some b := by
      have := congrArg (fun l => l[0]?) h
      simp only [List.getElem?_drop, Nat.add_zero, List.getElem?_cons_zero] at this
      exact this
    have h3 : s.data.toList[i]'(by omega) = b := by
      rw [List.getElem?_eq_getElem (by omega)] at h2
      exact Option.some.inj h2
    rw [← h3]
    rfl
  rw [e]
theorem cut_run {s : ByteArray} {a n : Nat} (h : a + 1 + n ≤ s.size) (w : World) :
    (Instr.slice 9 (.string s) (some (.int .i64 ((a : Int) + 1))) (some (.int .i64 ((a : Int) + 1 + (n : Int)))) none).run Tryd.prog w = .ok (.string (s.extract (a + 1) (a + 1 + n))) w := by
  have := run_slice_string (P := Tryd.prog) w 9 s .i64 .i64 ((a : Int) + 1) ((a : Int) + 1 + (n : Int)) Tryd.underlying9 (by omega) (by omega) (by omega)
  rw [this]
  have e1 : ((a : Int) + 1).toNat = a + 1 := by omega
  have e2 : ((a : Int) + 1 + (n : Int)).toNat = a + 1 + n := by omega
  rw [e1, e2]
def RDecR (s : ByteArray) (r0 : List UInt8) (n0 D : Nat) (w : World) (at_ v i : Value) (wr : World) : Prop :=
  ∃ (j a : Nat) (L : List Nd) (ao : Option Addr) (co : Nat), j ≤ n0 ∧ a ≤ s.size ∧ i = .int .i64 (j : Int) ∧ at_ = .int .i64 (a : Int) ∧ v = .slice ao L.length co ∧ L.length = j ∧ decK j r0 = some (L, s.data.toList.drop a) ∧ SmallN L ∧ wr.ownsRow D 30 4 (.slice ao L.length co) L.length (L.flatMap nodeV) ∧ Below D w wr ∧ D ≤ wr.heap.size
theorem rd_next {s : ByteArray} {r0 : List UInt8} {n0 D j a a' : Nat} {w x x' w5 : World} {L : List Nd} {nd : Nd} {ao a5 : Option Addr} {co c5 : Nat} {i at_ : Value} {st : Option (List UInt8)} (hj : j < n0) (hi : i = .int .i64 ((j + 1 : Nat) : Int)) (ha : at_ = .int .i64 (a' : Int)) (ha' : a' ≤ s.size) (hl : L.length = j)
    (hst : st = some (s.data.toList.drop a)) (hd : decK j r0 = some (L, s.data.toList.drop a)) (h4 : st4 st = some (s.data.toList.drop a')) (hnd : ndT st = nd) (hsl : SmallN L) (hx : Below x.heap.size x x') (ho : x.ownsRow D 30 4 (.slice ao L.length co) L.length (L.flatMap nodeV))
    (h5 : w5.ownsRow D 30 4 (.slice a5 (L.length + 1) c5) (L.length + 1) (L.flatMap nodeV ++ nodeV nd)) (hg : x'.grownBy w5 (Value.slice ao L.length co).ownBlock) (hb : Below D w x) (hz : D ≤ x.heap.size) :
    RDecR s r0 n0 D w at_ (.slice a5 (L.length + 1) c5) i w5 := by
  have hc1 : Chg (fun z => D ≤ z) x w5 := (Chg.fresh hx).trans (Chg.grown hg (fun g hg => (ho.lt g hg).1))
  refine ⟨j + 1, a', L ++ [nd], a5, c5, by omega, ha', hi, ha, by simp, by simp [hl], ?_, ?_, ?_, ?_, by have := hc1.size; omega⟩
  · rw [decK_snoc, hd, Option.bind_some]
    simp only
    rw [decN_take, ← hst, h4, hnd]
    rfl
  · intro n hn
    rcases List.mem_append.1 hn with hn | hn
    · exact hsl n hn
    · simp at hn
      rw [hn, ← hnd]
      have := nS_size (fS (kN st)) (st3 st)
      show (nS (fS (kN st)) (st3 st)).size ≤ maxLen
      unfold maxLen
      omega
  · simpa using h5
  · exact hb.trans (hc1.to_below (fun z h => by omega) (by omega))
theorem rd_fail {S0 r0 : List UInt8} (h0 : tkS (some S0) 2 = some r0) {j : Nat} {L : List Nd} {r : List UInt8} (hj : j < num (tkV (some S0) 2)) (hd : decK j r0 = some (L, r)) (h4 : st4 (some r) = none) : decB S0 = none := by
  refine dec_bad h0 (j := j + 1) (by omega) ?_
  rw [decK_snoc, hd, Option.bind_some]
  simp only
  rw [decN_take, h4]
  rfl
theorem sS_short {b : UInt8} {r : List UInt8} (h : ¬ b.toNat ≤ r.length) : sS true (some (b :: r)) = none := by
  rw [sS_t, tkS_one, tkV_one, num_one]
  unfold tkS
  exact if_neg h
theorem sS_long {b : UInt8} {r : List UInt8} (h : b.toNat ≤ r.length) : sS true (some (b :: r)) = some (r.drop b.toNat) := by
  rw [sS_t, tkS_one, tkV_one, num_one]
  unfold tkS
  exact if_pos h
theorem nS_long {b : UInt8} {r : List UInt8} (h : b.toNat ≤ r.length) : nS true (some (b :: r)) = ⟨(r.take b.toNat).toArray⟩ := by
  rw [nS_t, tkS_one, tkV_one, num_one]
  unfold tkV
  simp only [if_pos h]
theorem st1_cons (b : UInt8) (r : List UInt8) : st1 (some (b :: r)) = some r := tkS_one b r
theorem sN_cons (b : UInt8) (r : List UInt8) : sN true (some (b :: r)) = some r := tkS_one b r
theorem sN_nil : sN true (some []) = none := rfl
theorem sS_nil : sS true (some []) = none := rfl
theorem nN_cons (b : UInt8) (r : List UInt8) : nN true (some (b :: r)) = ((b.toNat : Nat) : Int) := by rw [nN_t, tkV_one, num_one]
theorem kN_cons (b : UInt8) (r : List UInt8) : kN (some (b :: r)) = ((b.toNat : Nat) : Int) := by unfold kN; rw [tkV_one, num_one]

set_option maxRecDepth 20000 in
set_option maxHeartbeats 2000000 in
theorem rdecode_any (s : ByteArray) (w : World) (hs : s.size ≤ 1000000) :
    Calls Tryd.prog 16 #[.string s] w (DecP s.data.toList w) := by
  obtain ⟨i0, hi, jz0, jz1, jz2⟩ := info_parts Tryd.infoNode
  obtain ⟨D, hD⟩ : ∃ D, w.heap.size = D := ⟨_, rfl⟩
  have HD := Lib.hid hD
  have HBAD : Hid (∀ w', decB s.data.toList = none → Below D w w' → DecP s.data.toList w (.returned (.tuple #[.slice none 0 0, .int .i64 50])) w') := fun w' h hb => DecP.bad h (by rw [HD.out]; exact hb)
  have hll : s.data.toList.length = s.size := Array.length_toList
  by_cases h2 : s.size < 2
  · have HS : Hid (decB s.data.toList = none) := dec_short (by unfold tkS; simp only; rw [if_neg (by omega)])
    have hb0 : Hid (Below D w w) := Below.refl _ _
    clear hll hD
    go_enter Tryd.func16, Tryd.ntmps16
    go_wp2_with fail
    go_ret2
    exact HBAD.out _ HS.out hb0.out
  obtain ⟨b0, b1, hb01⟩ : ∃ b0 b1, s.data.toList = b0 :: b1 :: s.data.toList.drop 2 := by
    match hm : s.data.toList with
    | [] => rw [hm] at hll; simp at hll; omega
    | [a] => rw [hm] at hll; simp at hll; omega
    | a :: b :: r => exact ⟨a, b, rfl⟩
  have i0' := fun w => idx_run (s := s) (i := 0) (b := b0) (r := b1 :: s.data.toList.drop 2) (by rw [List.drop_zero]; exact hb01) w
  have i1' := fun w => idx_run (s := s) (i := 1) (b := b1) (r := s.data.toList.drop 2) (by rw [hb01]; rfl) w
  obtain ⟨r0, hr0⟩ : ∃ r, s.data.toList.drop 2 = r := ⟨_, rfl⟩
  have HST : Hid (tkS (some s.data.toList) 2 = some r0) := by show _ = _; rw [← hr0]; unfold tkS; simp only; rw [if_pos (by omega)]
  obtain ⟨n0, hn0⟩ : ∃ n, num (tkV (some s.data.toList) 2) = n := ⟨_, rfl⟩
  have hn1 : n0 = b0.toNat + 256 * b1.toNat := by
    rw [← hn0]
    unfold tkV
    simp only
    rw [if_pos (by omega), hb01]
    simp [num]
  have HN0 := Lib.hid hn0
  have hx := b0.toNat_lt
  have hy := b1.toNat_lt
  have HR0 := Lib.hid hr0
  obtain ⟨y0, hy0⟩ : ∃ y, b0.toNat = y := ⟨_, rfl⟩
  obtain ⟨y1, hy1⟩ : ∃ y, b1.toNat = y := ⟨_, rfl⟩
  rw [hy0] at hn1 hx i0'
  rw [hy1] at hn1 hy i1'
  have hsum : ((y0 : Int) + 256 * (y1 : Int)) = (n0 : Int) := by omega
  have HSUM := Lib.hid hsum
  have hn9 : n0 ≤ 65535 := by omega
  have hy09 : (y0 : Int) ≤ 255 := by omega
  have hy19 : (y1 : Int) ≤ 255 := by omega
  have i0'' : ∀ w : World, (Instr.index 9 (.string s) (.int .i64 0)).run Tryd.prog w = .ok (.int .u8 (y0 : Int)) w := i0'
  have i1'' : ∀ w : World, (Instr.index 9 (.string s) (.int .i64 1)).run Tryd.prog w = .ok (.int .u8 (y1 : Int)) w := i1'
  have HI : Hid (∀ m, RDecR s r0 n0 D w (.int .i64 2) (.slice (some ⟨D, 0, none⟩) 0 0) (.int .i64 0) ((w.alloc (.cells #[] 30)).drewN m)) := by
    show ∀ m, _
    intro m
    have h1 := World.ownsRow_lit (base := D) (e := 30) (size := 4) w #[] 0 (by omega) (by unfold maxLen; omega) rfl
    rw [hD] at h1
    exact ⟨0, 2, [], some ⟨D, 0, none⟩, 0, by omega, by omega, rfl, rfl, rfl, rfl, by rw [hr0]; rfl, (fun n h => by cases h), h1, below_drewN ((Below.refl _ _).alloc (by omega) _) m, by simp; omega⟩
  have d2 : decide ((s.size : Int) < 2) = false := by simp; omega
  clear hll h2 hb01 i0' i1' hr0 hn0 hn1 hx hy hy0 hy1 hsum
  go_enter Tryd.func16, Tryd.ntmps16
  have hDD := hD
  clear hD
  go_wp2_with fail
  have ww1 : IntKind.i64.wrap (256 * (y1 : Int)) = 256 * (y1 : Int) := IntWalk.i64_in _ (by omega)
  have ww2 : IntKind.i64.wrap ((y0 : Int) + 256 * (y1 : Int)) = (y0 : Int) + 256 * (y1 : Int) := IntWalk.i64_in _ (by omega)
  go_quiet (fail)
  clear ww1 ww2
  go_wp2_with fail
  clear hDD i0'' i1''
  rw [HSUM.out]
  go_loopw [5, 6, 7] (fun a v i wr => RDecR s r0 n0 D w a v i wr) (fun _ _ i _ => n0 - (intOf i).toNat)
  case atStart => exact HI.out _
  case round =>
    rename World => wr
    obtain ⟨j, a, L, ao, co, hj, ha, rfl, rfl, rfl, hlj, hdk, hsl, how, hbe, hze⟩ := hrel
    have HLL := Lib.hid hlj
    have HDK := Lib.hid hdk
    have HSL := Lib.hid hsl
    have HO := Lib.hid how
    have HE := Lib.hid hbe
    have HZ := Lib.hid hze
    clear hlj hdk hsl how hbe hze
    have hss : s.size ≤ 9223372036854775807 := by omega
    by_cases hlt : j < n0
    rotate_left
    · obtain rfl : j = n0 := by omega
      by_cases hae : a = s.size
      · subst hae
        have HNIL : Hid (s.data.toList.drop s.size = []) := List.drop_eq_nil_of_le (by rw [Array.length_toList]; exact Nat.le_refl _)
        have HDE : Hid (decB s.data.toList = if chk L = 0 then some L else none) := by
          have h1 := HDK.out
          rw [HNIL.out, ← HN0.out] at h1
          have h2 := dec_end HST.out h1
          simp only [true_and] at h2
          exact h2
        have HCH := Lib.hid (refcheck2_any L (.slice ao L.length co) wr (RowAt.of_own HO.out) HSL.out)
        obtain ⟨c, hc⟩ : ∃ c, chk L = c := ⟨_, rfl⟩
        rw [hc] at HCH HDE
        clear hc
        by_cases hc0 : c = 0
        · subst hc0
          go_wp2_with fail
          refine HCH.out.mono ?_
          rintro e w9 ⟨rfl, hb9⟩
          have HD9 := Lib.hid (decE_some (show decB s.data.toList = some L by rw [HDE.out]; simp))
          have HO9 : Hid (OwnD D w9 (.slice ao L.length co) L) := ownsRow_below HO.out hb9 (fun g hg => (HO.out.lt g hg).2)
          have HE9 : Hid (Below D w w9) := HE.out.trans (hb9.mono HZ.out)
          clear hb9
          go_wp2_with fail
          go_ret2
          exact ⟨_, by rw [HD9.out.1]; rfl, by rw [HD9.out.2, HD.out]; exact HO9.out, by rw [HD.out]; exact HE9.out⟩
        · have hcb : (c != 0) = true := by simpa using hc0
          have HDN : Hid (decB s.data.toList = none) := HDE.out.trans (if_neg hc0)
          clear hc0
          go_wp2_with fail
          refine HCH.out.mono ?_
          rintro e w9 ⟨rfl, hb9⟩
          have HE9 : Hid (Below D w w9) := HE.out.trans (hb9.mono HZ.out)
          clear hb9
          go_wp2_with fail
          go_ret2
          exact HBAD.out _ HDN.out HE9.out
      · have hab : ((a : Int) != (s.size : Int)) = true := by simp; omega
        have HDN : Hid (decB s.data.toList = none) := by
          have h1 := HDK.out
          rw [← HN0.out] at h1
          refine (dec_end HST.out h1).trans (if_neg ?_)
          rintro ⟨h3, _⟩
          have := drop_end h3
          omega
        clear hae
        go_wp2_with fail
        go_ret2
        exact HBAD.out _ HDN.out HE.out
    have hltI : (j : Int) < (n0 : Int) := by omega
    cases hd : s.data.toList.drop a with
    | nil =>
      have HDN : Hid (decB s.data.toList = none) := by
        have h1 := HDK.out
        rw [hd] at h1
        exact rd_fail HST.out (by rw [HN0.out]; exact hlt) h1 rfl
      have hge : (s.size : Int) ≤ (a : Int) := by have := drop_end hd; omega
      clear hd
      go_wp2_with fail
      go_ret2
      exact HBAD.out _ HDN.out HE.out
    | cons b r =>
    obtain ⟨ha1, hd1, hr1⟩ := drop_lt hd
    have hltA : (a : Int) < (s.size : Int) := by omega
    have ixa := idx_run hd
    have hkk := b.toNat_lt
    obtain ⟨st, hst⟩ : ∃ st, some (s.data.toList.drop a) = st := ⟨_, rfl⟩
    have HSTT := Lib.hid hst.symm
    rw [hd] at hst
    have HSTB := Lib.hid hst
    obtain ⟨kk, hkb⟩ : ∃ k, b.toNat = k := ⟨_, rfl⟩
    rw [hkb] at ixa hkk
    have HKN : Hid (kN st = (kk : Int)) := by show _ = _; rw [← hst, kN_cons, hkb]
    have HS1 : Hid (st1 st = some r) := by show _ = _; rw [← hst]; rfl
    obtain ⟨a1, hA1⟩ : ∃ x, a + 1 = x := ⟨_, rfl⟩
    have HA1 : Hid ((a : Int) + 1 = (a1 : Int)) := by show _ = _; omega
    rw [hA1] at hd1 hr1
    have ha1s : a1 ≤ s.size := by omega
    have HD1 := Lib.hid hd1
    obtain ⟨p, hp⟩ : ∃ p, wr.heap.size = p := ⟨_, rfl⟩
    obtain ⟨x0, hx0⟩ : ∃ x, wr.alloc (.cells #[.int .i64 (kk : Int), .int .i64 0, .int .i64 0, .string ⟨#[]⟩] 30) = x := ⟨_, rfl⟩
    have hal : Below wr.heap.size wr x0 := by rw [← hx0]; exact (Below.refl _ _).alloc (Nat.le_refl _) _
    have HQ0 : Hid (Blk x0 p 30 #[.int .i64 (kk : Int), .int .i64 0, .int .i64 0, .string ⟨#[]⟩]) := by rw [← hx0, ← hp]; exact Blk.new _ _ _
    have HPD : Hid (D ≤ p) := by rw [← hp]; exact HZ.out
    have HNP : Hid (∀ g, (Value.slice ao L.length co).ownBlock = some g → g ≠ p) := fun g hg => by have := (HO.out.lt g hg).2; omega
    have HO0 := Lib.hid (ownsRow_below HO.out hal (fun g hg => (HO.out.lt g hg).2))
    have HE0 : Hid (Below D w x0) := HE.out.trans (hal.mono HZ.out)
    have HZ0 : Hid (D ≤ x0.heap.size) := by have := HZ.out; have := hal.size; show _ ≤ _; omega
    have HP := Lib.hid hp
    have HX0 := Lib.hid hx0
    have hk9 : (kk : Int) ≤ 255 := by omega
    have HRL := Lib.hid hr1
    clear hd hal hp hx0 hst hkb hd1 hA1 hr1 hkk
    go_wp2_with fail
    rw [HX0.out, HP.out, HA1.out]
    clear ixa
    have hcase := shp_any kk
    rcases hcase with ⟨e1, e2, e3⟩ | ⟨e1, e2, e3⟩ | ⟨e1, e2, e3⟩ | ⟨e1, e2, e3⟩ | ⟨e1, e2, e3⟩
    · have tok : True := trivial
      have HF1 := Lib.hid e1
      have HF2 := Lib.hid e2
      have HF3 := Lib.hid e3
      clear e1 e2 e3
      refine (rhasN_any (kk : Int) (by omega) x0).mono ?_
      rintro e x1 ⟨rfl, hb⟩
      rw [HF1.out]
      have HO1 := Lib.hid (ownsRow_below HO0.out hb (fun g hg => (HO0.out.lt g hg).2))
      obtain ⟨o1, o2, o3⟩ := re_call HE0.out HZ0.out HQ0.out hb
      have HE1 := Lib.hid o1
      have HZ1 := Lib.hid o2
      have HQ1 := Lib.hid o3
      clear o1 o2 o3 hb
      cases hdnn : r with
      | nil =>
        rw [hdnn] at HD1
        have HDN : Hid (decB s.data.toList = none) := by
          refine rd_fail HST.out (by rw [HN0.out]; exact hlt) HDK.out ?_
          rw [← HSTT.out]
          unfold st4 st3 st2
          rw [HKN.out, HF1.out, HF2.out, HF3.out, HS1.out]
          simp only [sN_f, sS_f, nN_f, nS_f, sN_cons, sN_nil, sN_none, sS_none, sS_nil, hdnn]
        have hge : (s.size : Int) ≤ (a1 : Int) := by have := drop_end HD1.out; omega
        clear hdnn
        go_wp2_with fail
        go_ret2
        exact HBAD.out _ HDN.out HE1.out
      | cons bnn rnn =>
      have Hhdnn := Lib.hid hdnn
      rw [hdnn] at HD1
      clear hdnn
      obtain ⟨hx1, hx2, hx3⟩ := drop_lt HD1.out
      have hltnn : (a1 : Int) < (s.size : Int) := by omega
      have ix := idx_run HD1.out
      have hb9 := bnn.toNat_lt
      obtain ⟨nn, hnn⟩ : ∃ x, bnn.toNat = x := ⟨_, rfl⟩
      rw [hnn] at ix hb9
      have Hnn := Lib.hid hnn
      obtain ⟨a2, hA⟩ : ∃ x, a1 + 1 = x := ⟨_, rfl⟩
      have HA2 : Hid ((a1 : Int) + 1 = (a2 : Int)) := by show _ = _; omega
      rw [hA] at hx2 hx3
      have a2s : a2 ≤ s.size := by omega
      have HD2 := Lib.hid hx2
      have nn9 : (nn : Int) ≤ 255 := by omega
      clear hx1 hx2 hx3 hA hnn hb9
      obtain ⟨x2, hx2⟩ : ∃ x, x1.setCell ⟨p, 1, none⟩ (.int .i64 (nn : Int)) = x := ⟨_, rfl⟩
      have r0 : x1.cell? ⟨p, 0, none⟩ = some (.int .i64 (kk : Int)) := HQ1.out.cell 0
      have f0 : x1.frozen? ⟨p, 0, none⟩ = false := HQ1.out.frozen 0
      have r1 : x1.cell? ⟨p, 1, none⟩ = some (.int .i64 0) := HQ1.out.cell 1
      have f1 : x1.frozen? ⟨p, 1, none⟩ = false := HQ1.out.frozen 1
      have r2 : x1.cell? ⟨p, 2, none⟩ = some (.int .i64 0) := HQ1.out.cell 2
      have f2 : x1.frozen? ⟨p, 2, none⟩ = false := HQ1.out.frozen 2
      have r3 : x1.cell? ⟨p, 3, none⟩ = some (.string ⟨#[]⟩) := HQ1.out.cell 3
      have f3 : x1.frozen? ⟨p, 3, none⟩ = false := HQ1.out.frozen 3
      have hch : Chg (fun z => z = p) x1 x2 := by rw [← hx2]; exact Chg.setCell (S := fun z => z = p) _ ⟨p, 1, none⟩ _ rfl
      have HQ2 : Hid (Blk x2 p 30 #[.int .i64 (kk : Int), .int .i64 (nn : Int), .int .i64 0, .string ⟨#[]⟩]) := by rw [← hx2]; exact HQ1.out.set_ 1 (.int .i64 (nn : Int))
      have HO2 := Lib.hid (ownsRow_kept HO1.out (hch.kept (K := fun z => z ≠ p) (fun z h => h)) (fun g hg => HNP.out g hg))
      have HE2 : Hid (Below D w x2) := HE1.out.trans (hch.to_below (fun z h => by have := HPD.out; omega) HZ1.out)
      have HZ2 : Hid (D ≤ x2.heap.size) := by have := HZ1.out; have := hch.size; show _ ≤ _; omega
      clear hch
      have q0 : x2.cell? ⟨p, 0, none⟩ = some (.int .i64 (kk : Int)) := HQ2.out.cell 0
      have g0 : x2.frozen? ⟨p, 0, none⟩ = false := HQ2.out.frozen 0
      have q1 : x2.cell? ⟨p, 1, none⟩ = some (.int .i64 (nn : Int)) := HQ2.out.cell 1
      have g1 : x2.frozen? ⟨p, 1, none⟩ = false := HQ2.out.frozen 1
      have q2 : x2.cell? ⟨p, 2, none⟩ = some (.int .i64 0) := HQ2.out.cell 2
      have g2 : x2.frozen? ⟨p, 2, none⟩ = false := HQ2.out.frozen 2
      have q3 : x2.cell? ⟨p, 3, none⟩ = some (.string ⟨#[]⟩) := HQ2.out.cell 3
      have g3 : x2.frozen? ⟨p, 3, none⟩ = false := HQ2.out.frozen 3
      go_wp2_with fail
      rw [HA2.out]
      clear ix
      clear r0 f0 r1 f1 r2 f2 r3 f3 q0 g0 q1 g1 q2 g2 q3 g3 hx2
      refine (rhasM_any (kk : Int) (by omega) x2).mono ?_
      rintro e y ⟨rfl, rfl⟩
      rw [HF2.out]
      have r0 : x2.cell? ⟨p, 0, none⟩ = some (.int .i64 (kk : Int)) := HQ2.out.cell 0
      have f0 : x2.frozen? ⟨p, 0, none⟩ = false := HQ2.out.frozen 0
      have r1 : x2.cell? ⟨p, 1, none⟩ = some (.int .i64 (nn : Int)) := HQ2.out.cell 1
      have f1 : x2.frozen? ⟨p, 1, none⟩ = false := HQ2.out.frozen 1
      have r2 : x2.cell? ⟨p, 2, none⟩ = some (.int .i64 0) := HQ2.out.cell 2
      have f2 : x2.frozen? ⟨p, 2, none⟩ = false := HQ2.out.frozen 2
      have r3 : x2.cell? ⟨p, 3, none⟩ = some (.string ⟨#[]⟩) := HQ2.out.cell 3
      have f3 : x2.frozen? ⟨p, 3, none⟩ = false := HQ2.out.frozen 3
      go_wp2_with fail
      clear r0 f0 r1 f1 r2 f2 r3 f3
      refine (rhasS_any (kk : Int) (by omega) x2).mono ?_
      rintro e x3 ⟨rfl, hb⟩
      rw [HF3.out]
      have HO3 := Lib.hid (ownsRow_below HO2.out hb (fun g hg => (HO2.out.lt g hg).2))
      obtain ⟨o1, o2, o3⟩ := re_call HE2.out HZ2.out HQ2.out hb
      have HE3 := Lib.hid o1
      have HZ3 := Lib.hid o2
      have HQ3 := Lib.hid o3
      clear o1 o2 o3 hb
      have q0 : x3.cell? ⟨p, 0, none⟩ = some (.int .i64 (kk : Int)) := HQ3.out.cell 0
      have g0 : x3.frozen? ⟨p, 0, none⟩ = false := HQ3.out.frozen 0
      have q1 : x3.cell? ⟨p, 1, none⟩ = some (.int .i64 (nn : Int)) := HQ3.out.cell 1
      have g1 : x3.frozen? ⟨p, 1, none⟩ = false := HQ3.out.frozen 1
      have q2 : x3.cell? ⟨p, 2, none⟩ = some (.int .i64 0) := HQ3.out.cell 2
      have g2 : x3.frozen? ⟨p, 2, none⟩ = false := HQ3.out.frozen 2
      have q3 : x3.cell? ⟨p, 3, none⟩ = some (.string ⟨#[]⟩) := HQ3.out.cell 3
      have g3 : x3.frozen? ⟨p, 3, none⟩ = false := HQ3.out.frozen 3
      obtain ⟨nd, hnd⟩ : ∃ nd : Nd, (⟨(kk : Int), (nn : Int), 0, ⟨#[]⟩⟩ : Nd) = nd := ⟨_, rfl⟩
      have hst4 : st4 st = some (s.data.toList.drop a2) := by
        unfold st4 st3 st2
        rw [HKN.out, HF1.out, HF2.out, HF3.out, HS1.out]
        simp only [sN_f, sS_f, nN_f, nS_f, sN_cons, sN_nil, sN_none, sS_none, sS_nil, Hhdnn.out]
        all_goals rw [HD2.out]
      have hndt : ndT st = nd := by
        rw [← hnd]
        unfold ndT st3 st2
        rw [HKN.out, HF1.out, HF2.out, HF3.out, HS1.out]
        simp only [sN_f, sS_f, nN_f, nS_f, sN_cons, sN_nil, sN_none, sS_none, sS_nil, nN_cons, Hhdnn.out, Hnn.out]
        all_goals rfl
      have hnv : nodeV nd = [.int .i64 (kk : Int), .int .i64 (nn : Int), .int .i64 0, .string ⟨#[]⟩] := by rw [← hnd]; rfl
      have HST4 := Lib.hid hst4
      have HNDT := Lib.hid hndt
      have HNV := Lib.hid hnv
      clear hst4 hndt hnv hnd
      have HAA1 : Hid ((x3.alloc (.cells #[.int .i64 (kk : Int), .int .i64 (nn : Int), .int .i64 0, .string ⟨#[]⟩] 30)).ownsRow D 30 4 (.slice ao L.length co) L.length (L.flatMap nodeV)) := ownsRow_below HO3.out ((Below.refl _ _).alloc (Nat.le_refl _) _) (fun g hg => (HO3.out.lt g hg).2)
      have HAA2 : Hid (RowAt (x3.alloc (.cells #[.int .i64 (kk : Int), .int .i64 (nn : Int), .int .i64 0, .string ⟨#[]⟩] 30)) 4 (.slice (some ⟨x3.heap.size, 0, none⟩) 1 1) 1 (nodeV nd)) := by
        show RowAt _ _ _ _ _
        rw [HNV.out]
        exact RowAt.lit (size := 4) x3 30 #[.int .i64 (kk : Int), .int .i64 (nn : Int), .int .i64 0, .string ⟨#[]⟩] 1 rfl (by unfold maxLen; omega)
      have HAA3 : Hid (∀ u, u ∈ nodeV nd → u.oneCell' = true) := nodeV_each nd
      have hA4 : (L.length + 1) * 40 ≤ 140737488355328 := by have := HLL.out; omega
      have hA5 : L.length + 1 ≤ maxLen := by have := HLL.out; unfold maxLen; omega
      have hA6 : D ≤ (x3.alloc (.cells #[.int .i64 (kk : Int), .int .i64 (nn : Int), .int .i64 0, .string ⟨#[]⟩] 30)).heap.size := by have := HZ3.out; simp; omega
      go_wp2_with (at_builtin; go_must (refine wpList_append_row rfl (.tmp 102) (.tmp 104) 22 rfl D 30 i0 (.agg #[.int .i64 0, .int .i64 0, .int .i64 0, .string ByteArray.empty]) 4 40 Tryd.underlying22 hi jz0 jz1 jz2 rfl (by decide) (.slice ao L.length co) L.length (L.flatMap nodeV) rfl HAA1.out (.slice (some ⟨x3.heap.size, 0, none⟩) 1 1) 1 (nodeV nd) rfl HAA2.out HAA3.out hA4 hA5 hA6 ?_); intro v5 w5 hown5 hg5 hat5; obtain ⟨a5, c5, rfl, _⟩ := (RowAt.of_own hown5).form; have HST5 := Lib.hid hown5; have HG5 := Lib.hid hg5; clear hown5 hg5 hat5)
      go_roundw
      case rel => exact rd_next (a := a) (a' := a2) (st := st) hlt (by go_num) (by first | rfl | (have h := HTS.out; rw [h]; go_num) | (simp; omega)) (by omega) HLL.out HSTT.out HDK.out HST4.out HNDT.out HSL.out ((Below.refl _ _).alloc (Nat.le_refl _) _) HO3.out HST5.out HG5.out HE3.out HZ3.out
      case measure => simp [intOf]; omega
    · have tok : True := trivial
      have HF1 := Lib.hid e1
      have HF2 := Lib.hid e2
      have HF3 := Lib.hid e3
      clear e1 e2 e3
      refine (rhasN_any (kk : Int) (by omega) x0).mono ?_
      rintro e x1 ⟨rfl, hb⟩
      rw [HF1.out]
      have HO1 := Lib.hid (ownsRow_below HO0.out hb (fun g hg => (HO0.out.lt g hg).2))
      obtain ⟨o1, o2, o3⟩ := re_call HE0.out HZ0.out HQ0.out hb
      have HE1 := Lib.hid o1
      have HZ1 := Lib.hid o2
      have HQ1 := Lib.hid o3
      clear o1 o2 o3 hb
      have r0 : x1.cell? ⟨p, 0, none⟩ = some (.int .i64 (kk : Int)) := HQ1.out.cell 0
      have f0 : x1.frozen? ⟨p, 0, none⟩ = false := HQ1.out.frozen 0
      have r1 : x1.cell? ⟨p, 1, none⟩ = some (.int .i64 0) := HQ1.out.cell 1
      have f1 : x1.frozen? ⟨p, 1, none⟩ = false := HQ1.out.frozen 1
      have r2 : x1.cell? ⟨p, 2, none⟩ = some (.int .i64 0) := HQ1.out.cell 2
      have f2 : x1.frozen? ⟨p, 2, none⟩ = false := HQ1.out.frozen 2
      have r3 : x1.cell? ⟨p, 3, none⟩ = some (.string ⟨#[]⟩) := HQ1.out.cell 3
      have f3 : x1.frozen? ⟨p, 3, none⟩ = false := HQ1.out.frozen 3
      go_wp2_with fail
      clear r0 f0 r1 f1 r2 f2 r3 f3
      refine (rhasM_any (kk : Int) (by omega) x1).mono ?_
      rintro e y ⟨rfl, rfl⟩
      rw [HF2.out]
      have r0 : x1.cell? ⟨p, 0, none⟩ = some (.int .i64 (kk : Int)) := HQ1.out.cell 0
      have f0 : x1.frozen? ⟨p, 0, none⟩ = false := HQ1.out.frozen 0
      have r1 : x1.cell? ⟨p, 1, none⟩ = some (.int .i64 0) := HQ1.out.cell 1
      have f1 : x1.frozen? ⟨p, 1, none⟩ = false := HQ1.out.frozen 1
      have r2 : x1.cell? ⟨p, 2, none⟩ = some (.int .i64 0) := HQ1.out.cell 2
      have f2 : x1.frozen? ⟨p, 2, none⟩ = false := HQ1.out.frozen 2
      have r3 : x1.cell? ⟨p, 3, none⟩ = some (.string ⟨#[]⟩) := HQ1.out.cell 3
      have f3 : x1.frozen? ⟨p, 3, none⟩ = false := HQ1.out.frozen 3
      go_wp2_with fail
      clear r0 f0 r1 f1 r2 f2 r3 f3
      refine (rhasS_any (kk : Int) (by omega) x1).mono ?_
      rintro e x2 ⟨rfl, hb⟩
      rw [HF3.out]
      have HO2 := Lib.hid (ownsRow_below HO1.out hb (fun g hg => (HO1.out.lt g hg).2))
      obtain ⟨o1, o2, o3⟩ := re_call HE1.out HZ1.out HQ1.out hb
      have HE2 := Lib.hid o1
      have HZ2 := Lib.hid o2
      have HQ2 := Lib.hid o3
      clear o1 o2 o3 hb
      cases hdss : r with
      | nil =>
        rw [hdss] at HD1
        have HDN : Hid (decB s.data.toList = none) := by
          refine rd_fail HST.out (by rw [HN0.out]; exact hlt) HDK.out ?_
          rw [← HSTT.out]
          unfold st4 st3 st2
          rw [HKN.out, HF1.out, HF2.out, HF3.out, HS1.out]
          simp only [sN_f, sS_f, nN_f, nS_f, sN_cons, sN_nil, sN_none, sS_none, sS_nil, hdss]
        have hge : (s.size : Int) ≤ (a1 : Int) := by have := drop_end HD1.out; omega
        clear hdss
        go_wp2_with fail
        go_ret2
        exact HBAD.out _ HDN.out HE2.out
      | cons bss rss =>
      have Hhdss := Lib.hid hdss
      rw [hdss] at HD1
      clear hdss
      obtain ⟨hx1, hx2, hx3⟩ := drop_lt HD1.out
      have hltss : (a1 : Int) < (s.size : Int) := by omega
      have ix := idx_run HD1.out
      have hb9 := bss.toNat_lt
      obtain ⟨ss, hss2⟩ : ∃ x, bss.toNat = x := ⟨_, rfl⟩
      rw [hss2] at ix hb9
      have Hss := Lib.hid hss2
      have ss9 : (ss : Int) ≤ 255 := by omega
      by_cases hfit : ss ≤ rss.length
      rotate_left
      · have hgt : (s.size : Int) < (a1 : Int) + 1 + (ss : Int) := by omega
        have HDN : Hid (decB s.data.toList = none) := by
          refine rd_fail HST.out (by rw [HN0.out]; exact hlt) HDK.out ?_
          rw [← HSTT.out]
          unfold st4 st3 st2
          rw [HKN.out, HF1.out, HF2.out, HF3.out, HS1.out]
          simp only [sN_f, sS_f, nN_f, nS_f, sN_cons, sN_nil, sN_none, sS_none, sS_nil]; rw [Hhdss.out, sS_short (by rw [Hss.out]; exact hfit)]
        clear hfit hx1 hx2 hx3 hb9 hss2
        go_wp2_with fail
        go_ret2
        exact HBAD.out _ HDN.out HE2.out
      have hle : (a1 : Int) + 1 + (ss : Int) ≤ (s.size : Int) := by omega
      have cut := cut_run (s := s) (a := a1) (n := ss) (by omega)
      obtain ⟨tx, htx⟩ : ∃ t, s.extract (a1 + 1) (a1 + 1 + ss) = t := ⟨_, rfl⟩
      rw [htx] at cut
      have HTL : Hid (tx.data.toList = rss.take ss) := by
        show _ = _
        rw [← htx, Lib.extract_data, hx2, Nat.add_sub_cancel_left]
      have HTS : Hid (tx.size = ss) := by show _ = _; rw [size_list, HTL.out, List.length_take]; omega
      have HDF : Hid (s.data.toList.drop (a1 + 1 + ss) = rss.drop ss) := by show _ = _; rw [← hx2, List.drop_drop]
      have tx9 : tx.size ≤ 255 := by rw [HTS.out]; omega
      have hfin : a1 + 1 + ss ≤ s.size := by omega
      have HFIT := Lib.hid hfit
      clear hfit hx1 hx2 hx3 hss2 htx hb9
      obtain ⟨x3, hx3⟩ : ∃ x, x2.setCell ⟨p, 3, none⟩ (.string tx) = x := ⟨_, rfl⟩
      have r0 : x2.cell? ⟨p, 0, none⟩ = some (.int .i64 (kk : Int)) := HQ2.out.cell 0
      have f0 : x2.frozen? ⟨p, 0, none⟩ = false := HQ2.out.frozen 0
      have r1 : x2.cell? ⟨p, 1, none⟩ = some (.int .i64 0) := HQ2.out.cell 1
      have f1 : x2.frozen? ⟨p, 1, none⟩ = false := HQ2.out.frozen 1
      have r2 : x2.cell? ⟨p, 2, none⟩ = some (.int .i64 0) := HQ2.out.cell 2
      have f2 : x2.frozen? ⟨p, 2, none⟩ = false := HQ2.out.frozen 2
      have r3 : x2.cell? ⟨p, 3, none⟩ = some (.string ⟨#[]⟩) := HQ2.out.cell 3
      have f3 : x2.frozen? ⟨p, 3, none⟩ = false := HQ2.out.frozen 3
      have hch : Chg (fun z => z = p) x2 x3 := by rw [← hx3]; exact Chg.setCell (S := fun z => z = p) _ ⟨p, 3, none⟩ _ rfl
      have HQ3 : Hid (Blk x3 p 30 #[.int .i64 (kk : Int), .int .i64 0, .int .i64 0, .string tx]) := by rw [← hx3]; exact HQ2.out.set_ 3 (.string tx)
      have HO3 := Lib.hid (ownsRow_kept HO2.out (hch.kept (K := fun z => z ≠ p) (fun z h => h)) (fun g hg => HNP.out g hg))
      have HE3 : Hid (Below D w x3) := HE2.out.trans (hch.to_below (fun z h => by have := HPD.out; omega) HZ2.out)
      have HZ3 : Hid (D ≤ x3.heap.size) := by have := HZ2.out; have := hch.size; show _ ≤ _; omega
      clear hch
      have q0 : x3.cell? ⟨p, 0, none⟩ = some (.int .i64 (kk : Int)) := HQ3.out.cell 0
      have g0 : x3.frozen? ⟨p, 0, none⟩ = false := HQ3.out.frozen 0
      have q1 : x3.cell? ⟨p, 1, none⟩ = some (.int .i64 0) := HQ3.out.cell 1
      have g1 : x3.frozen? ⟨p, 1, none⟩ = false := HQ3.out.frozen 1
      have q2 : x3.cell? ⟨p, 2, none⟩ = some (.int .i64 0) := HQ3.out.cell 2
      have g2 : x3.frozen? ⟨p, 2, none⟩ = false := HQ3.out.frozen 2
      have q3 : x3.cell? ⟨p, 3, none⟩ = some (.string tx) := HQ3.out.cell 3
      have g3 : x3.frozen? ⟨p, 3, none⟩ = false := HQ3.out.frozen 3
      obtain ⟨nd, hnd⟩ : ∃ nd : Nd, (⟨(kk : Int), 0, 0, tx⟩ : Nd) = nd := ⟨_, rfl⟩
      have hst4 : st4 st = some (s.data.toList.drop (a1 + 1 + ss)) := by
        unfold st4 st3 st2
        rw [HKN.out, HF1.out, HF2.out, HF3.out, HS1.out]
        simp only [sN_f, sS_f, nN_f, nS_f, sN_cons, sN_nil, sN_none, sS_none, sS_nil]
        all_goals rw [Hhdss.out, sS_long (by rw [Hss.out]; exact HFIT.out), Hss.out, HDF.out]
      have hndt : ndT st = nd := by
        rw [← hnd]
        unfold ndT st3 st2
        rw [HKN.out, HF1.out, HF2.out, HF3.out, HS1.out]
        simp only [sN_f, sS_f, nN_f, nS_f, sN_cons, sN_nil, sN_none, sS_none, sS_nil, nN_cons]
        all_goals rw [Hhdss.out, nS_long (by rw [Hss.out]; exact HFIT.out), Hss.out, text_eq HTL.out]
        all_goals rfl
      have hnv : nodeV nd = [.int .i64 (kk : Int), .int .i64 0, .int .i64 0, .string tx] := by rw [← hnd]; rfl
      have HST4 := Lib.hid hst4
      have HNDT := Lib.hid hndt
      have HNV := Lib.hid hnv
      clear hst4 hndt hnv hnd
      have HAA1 : Hid ((x3.alloc (.cells #[.int .i64 (kk : Int), .int .i64 0, .int .i64 0, .string tx] 30)).ownsRow D 30 4 (.slice ao L.length co) L.length (L.flatMap nodeV)) := ownsRow_below HO3.out ((Below.refl _ _).alloc (Nat.le_refl _) _) (fun g hg => (HO3.out.lt g hg).2)
      have HAA2 : Hid (RowAt (x3.alloc (.cells #[.int .i64 (kk : Int), .int .i64 0, .int .i64 0, .string tx] 30)) 4 (.slice (some ⟨x3.heap.size, 0, none⟩) 1 1) 1 (nodeV nd)) := by
        show RowAt _ _ _ _ _
        rw [HNV.out]
        exact RowAt.lit (size := 4) x3 30 #[.int .i64 (kk : Int), .int .i64 0, .int .i64 0, .string tx] 1 rfl (by unfold maxLen; omega)
      have HAA3 : Hid (∀ u, u ∈ nodeV nd → u.oneCell' = true) := nodeV_each nd
      have hA4 : (L.length + 1) * 40 ≤ 140737488355328 := by have := HLL.out; omega
      have hA5 : L.length + 1 ≤ maxLen := by have := HLL.out; unfold maxLen; omega
      have hA6 : D ≤ (x3.alloc (.cells #[.int .i64 (kk : Int), .int .i64 0, .int .i64 0, .string tx] 30)).heap.size := by have := HZ3.out; simp; omega
      go_wp2_with (at_builtin; go_must (refine wpList_append_row rfl (.tmp 102) (.tmp 104) 22 rfl D 30 i0 (.agg #[.int .i64 0, .int .i64 0, .int .i64 0, .string ByteArray.empty]) 4 40 Tryd.underlying22 hi jz0 jz1 jz2 rfl (by decide) (.slice ao L.length co) L.length (L.flatMap nodeV) rfl HAA1.out (.slice (some ⟨x3.heap.size, 0, none⟩) 1 1) 1 (nodeV nd) rfl HAA2.out HAA3.out hA4 hA5 hA6 ?_); intro v5 w5 hown5 hg5 hat5; obtain ⟨a5, c5, rfl, _⟩ := (RowAt.of_own hown5).form; have HST5 := Lib.hid hown5; have HG5 := Lib.hid hg5; clear hown5 hg5 hat5)
      go_roundw
      case rel => exact rd_next (a := a) (a' := (a1 + 1 + ss)) (st := st) hlt (by go_num) (by first | rfl | (have h := HTS.out; rw [h]; go_num) | (simp; omega)) (by omega) HLL.out HSTT.out HDK.out HST4.out HNDT.out HSL.out ((Below.refl _ _).alloc (Nat.le_refl _) _) HO3.out HST5.out HG5.out HE3.out HZ3.out
      case measure => simp [intOf]; omega
    · have tok : True := trivial
      have HF1 := Lib.hid e1
      have HF2 := Lib.hid e2
      have HF3 := Lib.hid e3
      clear e1 e2 e3
      refine (rhasN_any (kk : Int) (by omega) x0).mono ?_
      rintro e x1 ⟨rfl, hb⟩
      rw [HF1.out]
      have HO1 := Lib.hid (ownsRow_below HO0.out hb (fun g hg => (HO0.out.lt g hg).2))
      obtain ⟨o1, o2, o3⟩ := re_call HE0.out HZ0.out HQ0.out hb
      have HE1 := Lib.hid o1
      have HZ1 := Lib.hid o2
      have HQ1 := Lib.hid o3
      clear o1 o2 o3 hb
      have r0 : x1.cell? ⟨p, 0, none⟩ = some (.int .i64 (kk : Int)) := HQ1.out.cell 0
      have f0 : x1.frozen? ⟨p, 0, none⟩ = false := HQ1.out.frozen 0
      have r1 : x1.cell? ⟨p, 1, none⟩ = some (.int .i64 0) := HQ1.out.cell 1
      have f1 : x1.frozen? ⟨p, 1, none⟩ = false := HQ1.out.frozen 1
      have r2 : x1.cell? ⟨p, 2, none⟩ = some (.int .i64 0) := HQ1.out.cell 2
      have f2 : x1.frozen? ⟨p, 2, none⟩ = false := HQ1.out.frozen 2
      have r3 : x1.cell? ⟨p, 3, none⟩ = some (.string ⟨#[]⟩) := HQ1.out.cell 3
      have f3 : x1.frozen? ⟨p, 3, none⟩ = false := HQ1.out.frozen 3
      go_wp2_with fail
      clear r0 f0 r1 f1 r2 f2 r3 f3
      refine (rhasM_any (kk : Int) (by omega) x1).mono ?_
      rintro e y ⟨rfl, rfl⟩
      rw [HF2.out]
      have r0 : x1.cell? ⟨p, 0, none⟩ = some (.int .i64 (kk : Int)) := HQ1.out.cell 0
      have f0 : x1.frozen? ⟨p, 0, none⟩ = false := HQ1.out.frozen 0
      have r1 : x1.cell? ⟨p, 1, none⟩ = some (.int .i64 0) := HQ1.out.cell 1
      have f1 : x1.frozen? ⟨p, 1, none⟩ = false := HQ1.out.frozen 1
      have r2 : x1.cell? ⟨p, 2, none⟩ = some (.int .i64 0) := HQ1.out.cell 2
      have f2 : x1.frozen? ⟨p, 2, none⟩ = false := HQ1.out.frozen 2
      have r3 : x1.cell? ⟨p, 3, none⟩ = some (.string ⟨#[]⟩) := HQ1.out.cell 3
      have f3 : x1.frozen? ⟨p, 3, none⟩ = false := HQ1.out.frozen 3
      go_wp2_with fail
      clear r0 f0 r1 f1 r2 f2 r3 f3
      refine (rhasS_any (kk : Int) (by omega) x1).mono ?_
      rintro e x2 ⟨rfl, hb⟩
      rw [HF3.out]
      have HO2 := Lib.hid (ownsRow_below HO1.out hb (fun g hg => (HO1.out.lt g hg).2))
      obtain ⟨o1, o2, o3⟩ := re_call HE1.out HZ1.out HQ1.out hb
      have HE2 := Lib.hid o1
      have HZ2 := Lib.hid o2
      have HQ2 := Lib.hid o3
      clear o1 o2 o3 hb
      have q0 : x2.cell? ⟨p, 0, none⟩ = some (.int .i64 (kk : Int)) := HQ2.out.cell 0
      have g0 : x2.frozen? ⟨p, 0, none⟩ = false := HQ2.out.frozen 0
      have q1 : x2.cell? ⟨p, 1, none⟩ = some (.int .i64 0) := HQ2.out.cell 1
      have g1 : x2.frozen? ⟨p, 1, none⟩ = false := HQ2.out.frozen 1
      have q2 : x2.cell? ⟨p, 2, none⟩ = some (.int .i64 0) := HQ2.out.cell 2
      have g2 : x2.frozen? ⟨p, 2, none⟩ = false := HQ2.out.frozen 2
      have q3 : x2.cell? ⟨p, 3, none⟩ = some (.string ⟨#[]⟩) := HQ2.out.cell 3
      have g3 : x2.frozen? ⟨p, 3, none⟩ = false := HQ2.out.frozen 3
      obtain ⟨nd, hnd⟩ : ∃ nd : Nd, (⟨(kk : Int), 0, 0, ⟨#[]⟩⟩ : Nd) = nd := ⟨_, rfl⟩
      have hst4 : st4 st = some (s.data.toList.drop a1) := by
        unfold st4 st3 st2
        rw [HKN.out, HF1.out, HF2.out, HF3.out, HS1.out]
        simp only [sN_f, sS_f, nN_f, nS_f, sN_cons, sN_nil, sN_none, sS_none, sS_nil]
        all_goals rw [HD1.out]
      have hndt : ndT st = nd := by
        rw [← hnd]
        unfold ndT st3 st2
        rw [HKN.out, HF1.out, HF2.out, HF3.out, HS1.out]
        simp only [sN_f, sS_f, nN_f, nS_f, sN_cons, sN_nil, sN_none, sS_none, sS_nil, nN_cons]
        all_goals rfl
      have hnv : nodeV nd = [.int .i64 (kk : Int), .int .i64 0, .int .i64 0, .string ⟨#[]⟩] := by rw [← hnd]; rfl
      have HST4 := Lib.hid hst4
      have HNDT := Lib.hid hndt
      have HNV := Lib.hid hnv
      clear hst4 hndt hnv hnd
      have HAA1 : Hid ((x2.alloc (.cells #[.int .i64 (kk : Int), .int .i64 0, .int .i64 0, .string ⟨#[]⟩] 30)).ownsRow D 30 4 (.slice ao L.length co) L.length (L.flatMap nodeV)) := ownsRow_below HO2.out ((Below.refl _ _).alloc (Nat.le_refl _) _) (fun g hg => (HO2.out.lt g hg).2)
      have HAA2 : Hid (RowAt (x2.alloc (.cells #[.int .i64 (kk : Int), .int .i64 0, .int .i64 0, .string ⟨#[]⟩] 30)) 4 (.slice (some ⟨x2.heap.size, 0, none⟩) 1 1) 1 (nodeV nd)) := by
        show RowAt _ _ _ _ _
        rw [HNV.out]
        exact RowAt.lit (size := 4) x2 30 #[.int .i64 (kk : Int), .int .i64 0, .int .i64 0, .string ⟨#[]⟩] 1 rfl (by unfold maxLen; omega)
      have HAA3 : Hid (∀ u, u ∈ nodeV nd → u.oneCell' = true) := nodeV_each nd
      have hA4 : (L.length + 1) * 40 ≤ 140737488355328 := by have := HLL.out; omega
      have hA5 : L.length + 1 ≤ maxLen := by have := HLL.out; unfold maxLen; omega
      have hA6 : D ≤ (x2.alloc (.cells #[.int .i64 (kk : Int), .int .i64 0, .int .i64 0, .string ⟨#[]⟩] 30)).heap.size := by have := HZ2.out; simp; omega
      go_wp2_with (at_builtin; go_must (refine wpList_append_row rfl (.tmp 102) (.tmp 104) 22 rfl D 30 i0 (.agg #[.int .i64 0, .int .i64 0, .int .i64 0, .string ByteArray.empty]) 4 40 Tryd.underlying22 hi jz0 jz1 jz2 rfl (by decide) (.slice ao L.length co) L.length (L.flatMap nodeV) rfl HAA1.out (.slice (some ⟨x2.heap.size, 0, none⟩) 1 1) 1 (nodeV nd) rfl HAA2.out HAA3.out hA4 hA5 hA6 ?_); intro v5 w5 hown5 hg5 hat5; obtain ⟨a5, c5, rfl, _⟩ := (RowAt.of_own hown5).form; have HST5 := Lib.hid hown5; have HG5 := Lib.hid hg5; clear hown5 hg5 hat5)
      go_roundw
      case rel => exact rd_next (a := a) (a' := a1) (st := st) hlt (by go_num) (by first | rfl | (have h := HTS.out; rw [h]; go_num) | (simp; omega)) (by omega) HLL.out HSTT.out HDK.out HST4.out HNDT.out HSL.out ((Below.refl _ _).alloc (Nat.le_refl _) _) HO2.out HST5.out HG5.out HE2.out HZ2.out
      case measure => simp [intOf]; omega
    · have tok : True := trivial
      have HF1 := Lib.hid e1
      have HF2 := Lib.hid e2
      have HF3 := Lib.hid e3
      clear e1 e2 e3
      refine (rhasN_any (kk : Int) (by omega) x0).mono ?_
      rintro e x1 ⟨rfl, hb⟩
      rw [HF1.out]
      have HO1 := Lib.hid (ownsRow_below HO0.out hb (fun g hg => (HO0.out.lt g hg).2))
      obtain ⟨o1, o2, o3⟩ := re_call HE0.out HZ0.out HQ0.out hb
      have HE1 := Lib.hid o1
      have HZ1 := Lib.hid o2
      have HQ1 := Lib.hid o3
      clear o1 o2 o3 hb
      cases hdnn : r with
      | nil =>
        rw [hdnn] at HD1
        have HDN : Hid (decB s.data.toList = none) := by
          refine rd_fail HST.out (by rw [HN0.out]; exact hlt) HDK.out ?_
          rw [← HSTT.out]
          unfold st4 st3 st2
          rw [HKN.out, HF1.out, HF2.out, HF3.out, HS1.out]
          simp only [sN_f, sS_f, nN_f, nS_f, sN_cons, sN_nil, sN_none, sS_none, sS_nil, hdnn]
        have hge : (s.size : Int) ≤ (a1 : Int) := by have := drop_end HD1.out; omega
        clear hdnn
        go_wp2_with fail
        go_ret2
        exact HBAD.out _ HDN.out HE1.out
      | cons bnn rnn =>
      have Hhdnn := Lib.hid hdnn
      rw [hdnn] at HD1
      clear hdnn
      obtain ⟨hx1, hx2, hx3⟩ := drop_lt HD1.out
      have hltnn : (a1 : Int) < (s.size : Int) := by omega
      have ix := idx_run HD1.out
      have hb9 := bnn.toNat_lt
      obtain ⟨nn, hnn⟩ : ∃ x, bnn.toNat = x := ⟨_, rfl⟩
      rw [hnn] at ix hb9
      have Hnn := Lib.hid hnn
      obtain ⟨a2, hA⟩ : ∃ x, a1 + 1 = x := ⟨_, rfl⟩
      have HA2 : Hid ((a1 : Int) + 1 = (a2 : Int)) := by show _ = _; omega
      rw [hA] at hx2 hx3
      have a2s : a2 ≤ s.size := by omega
      have HD2 := Lib.hid hx2
      have nn9 : (nn : Int) ≤ 255 := by omega
      clear hx1 hx2 hx3 hA hnn hb9
      obtain ⟨x2, hx2⟩ : ∃ x, x1.setCell ⟨p, 1, none⟩ (.int .i64 (nn : Int)) = x := ⟨_, rfl⟩
      have r0 : x1.cell? ⟨p, 0, none⟩ = some (.int .i64 (kk : Int)) := HQ1.out.cell 0
      have f0 : x1.frozen? ⟨p, 0, none⟩ = false := HQ1.out.frozen 0
      have r1 : x1.cell? ⟨p, 1, none⟩ = some (.int .i64 0) := HQ1.out.cell 1
      have f1 : x1.frozen? ⟨p, 1, none⟩ = false := HQ1.out.frozen 1
      have r2 : x1.cell? ⟨p, 2, none⟩ = some (.int .i64 0) := HQ1.out.cell 2
      have f2 : x1.frozen? ⟨p, 2, none⟩ = false := HQ1.out.frozen 2
      have r3 : x1.cell? ⟨p, 3, none⟩ = some (.string ⟨#[]⟩) := HQ1.out.cell 3
      have f3 : x1.frozen? ⟨p, 3, none⟩ = false := HQ1.out.frozen 3
      have hch : Chg (fun z => z = p) x1 x2 := by rw [← hx2]; exact Chg.setCell (S := fun z => z = p) _ ⟨p, 1, none⟩ _ rfl
      have HQ2 : Hid (Blk x2 p 30 #[.int .i64 (kk : Int), .int .i64 (nn : Int), .int .i64 0, .string ⟨#[]⟩]) := by rw [← hx2]; exact HQ1.out.set_ 1 (.int .i64 (nn : Int))
      have HO2 := Lib.hid (ownsRow_kept HO1.out (hch.kept (K := fun z => z ≠ p) (fun z h => h)) (fun g hg => HNP.out g hg))
      have HE2 : Hid (Below D w x2) := HE1.out.trans (hch.to_below (fun z h => by have := HPD.out; omega) HZ1.out)
      have HZ2 : Hid (D ≤ x2.heap.size) := by have := HZ1.out; have := hch.size; show _ ≤ _; omega
      clear hch
      have q0 : x2.cell? ⟨p, 0, none⟩ = some (.int .i64 (kk : Int)) := HQ2.out.cell 0
      have g0 : x2.frozen? ⟨p, 0, none⟩ = false := HQ2.out.frozen 0
      have q1 : x2.cell? ⟨p, 1, none⟩ = some (.int .i64 (nn : Int)) := HQ2.out.cell 1
      have g1 : x2.frozen? ⟨p, 1, none⟩ = false := HQ2.out.frozen 1
      have q2 : x2.cell? ⟨p, 2, none⟩ = some (.int .i64 0) := HQ2.out.cell 2
      have g2 : x2.frozen? ⟨p, 2, none⟩ = false := HQ2.out.frozen 2
      have q3 : x2.cell? ⟨p, 3, none⟩ = some (.string ⟨#[]⟩) := HQ2.out.cell 3
      have g3 : x2.frozen? ⟨p, 3, none⟩ = false := HQ2.out.frozen 3
      go_wp2_with fail
      rw [HA2.out]
      clear ix
      clear r0 f0 r1 f1 r2 f2 r3 f3 q0 g0 q1 g1 q2 g2 q3 g3 hx2
      refine (rhasM_any (kk : Int) (by omega) x2).mono ?_
      rintro e y ⟨rfl, rfl⟩
      rw [HF2.out]
      cases hdmm : rnn with
      | nil =>
        rw [hdmm] at HD2
        have HDN : Hid (decB s.data.toList = none) := by
          refine rd_fail HST.out (by rw [HN0.out]; exact hlt) HDK.out ?_
          rw [← HSTT.out]
          unfold st4 st3 st2
          rw [HKN.out, HF1.out, HF2.out, HF3.out, HS1.out]
          simp only [sN_f, sS_f, nN_f, nS_f, sN_cons, sN_nil, sN_none, sS_none, sS_nil, Hhdnn.out, hdmm]
        have hge : (s.size : Int) ≤ (a2 : Int) := by have := drop_end HD2.out; omega
        clear hdmm
        go_wp2_with fail
        go_ret2
        exact HBAD.out _ HDN.out HE2.out
      | cons bmm rmm =>
      have Hhdmm := Lib.hid hdmm
      rw [hdmm] at HD2
      clear hdmm
      obtain ⟨hx1, hx2, hx3⟩ := drop_lt HD2.out
      have hltmm : (a2 : Int) < (s.size : Int) := by omega
      have ix := idx_run HD2.out
      have hb9 := bmm.toNat_lt
      obtain ⟨mm, hmm⟩ : ∃ x, bmm.toNat = x := ⟨_, rfl⟩
      rw [hmm] at ix hb9
      have Hmm := Lib.hid hmm
      obtain ⟨a3, hA⟩ : ∃ x, a2 + 1 = x := ⟨_, rfl⟩
      have HA3 : Hid ((a2 : Int) + 1 = (a3 : Int)) := by show _ = _; omega
      rw [hA] at hx2 hx3
      have a3s : a3 ≤ s.size := by omega
      have HD3 := Lib.hid hx2
      have mm9 : (mm : Int) ≤ 255 := by omega
      clear hx1 hx2 hx3 hA hmm hb9
      obtain ⟨x3, hx3⟩ : ∃ x, x2.setCell ⟨p, 2, none⟩ (.int .i64 (mm : Int)) = x := ⟨_, rfl⟩
      have r0 : x2.cell? ⟨p, 0, none⟩ = some (.int .i64 (kk : Int)) := HQ2.out.cell 0
      have f0 : x2.frozen? ⟨p, 0, none⟩ = false := HQ2.out.frozen 0
      have r1 : x2.cell? ⟨p, 1, none⟩ = some (.int .i64 (nn : Int)) := HQ2.out.cell 1
      have f1 : x2.frozen? ⟨p, 1, none⟩ = false := HQ2.out.frozen 1
      have r2 : x2.cell? ⟨p, 2, none⟩ = some (.int .i64 0) := HQ2.out.cell 2
      have f2 : x2.frozen? ⟨p, 2, none⟩ = false := HQ2.out.frozen 2
      have r3 : x2.cell? ⟨p, 3, none⟩ = some (.string ⟨#[]⟩) := HQ2.out.cell 3
      have f3 : x2.frozen? ⟨p, 3, none⟩ = false := HQ2.out.frozen 3
      have hch : Chg (fun z => z = p) x2 x3 := by rw [← hx3]; exact Chg.setCell (S := fun z => z = p) _ ⟨p, 2, none⟩ _ rfl
      have HQ3 : Hid (Blk x3 p 30 #[.int .i64 (kk : Int), .int .i64 (nn : Int), .int .i64 (mm : Int), .string ⟨#[]⟩]) := by rw [← hx3]; exact HQ2.out.set_ 2 (.int .i64 (mm : Int))
      have HO3 := Lib.hid (ownsRow_kept HO2.out (hch.kept (K := fun z => z ≠ p) (fun z h => h)) (fun g hg => HNP.out g hg))
      have HE3 : Hid (Below D w x3) := HE2.out.trans (hch.to_below (fun z h => by have := HPD.out; omega) HZ2.out)
      have HZ3 : Hid (D ≤ x3.heap.size) := by have := HZ2.out; have := hch.size; show _ ≤ _; omega
      clear hch
      have q0 : x3.cell? ⟨p, 0, none⟩ = some (.int .i64 (kk : Int)) := HQ3.out.cell 0
      have g0 : x3.frozen? ⟨p, 0, none⟩ = false := HQ3.out.frozen 0
      have q1 : x3.cell? ⟨p, 1, none⟩ = some (.int .i64 (nn : Int)) := HQ3.out.cell 1
      have g1 : x3.frozen? ⟨p, 1, none⟩ = false := HQ3.out.frozen 1
      have q2 : x3.cell? ⟨p, 2, none⟩ = some (.int .i64 (mm : Int)) := HQ3.out.cell 2
      have g2 : x3.frozen? ⟨p, 2, none⟩ = false := HQ3.out.frozen 2
      have q3 : x3.cell? ⟨p, 3, none⟩ = some (.string ⟨#[]⟩) := HQ3.out.cell 3
      have g3 : x3.frozen? ⟨p, 3, none⟩ = false := HQ3.out.frozen 3
      go_wp2_with fail
      rw [HA3.out]
      clear ix
      clear r0 f0 r1 f1 r2 f2 r3 f3 q0 g0 q1 g1 q2 g2 q3 g3 hx3
      refine (rhasS_any (kk : Int) (by omega) x3).mono ?_
      rintro e x4 ⟨rfl, hb⟩
      rw [HF3.out]
      have HO4 := Lib.hid (ownsRow_below HO3.out hb (fun g hg => (HO3.out.lt g hg).2))
      obtain ⟨o1, o2, o3⟩ := re_call HE3.out HZ3.out HQ3.out hb
      have HE4 := Lib.hid o1
      have HZ4 := Lib.hid o2
      have HQ4 := Lib.hid o3
      clear o1 o2 o3 hb
      cases hdss : rmm with
      | nil =>
        rw [hdss] at HD3
        have HDN : Hid (decB s.data.toList = none) := by
          refine rd_fail HST.out (by rw [HN0.out]; exact hlt) HDK.out ?_
          rw [← HSTT.out]
          unfold st4 st3 st2
          rw [HKN.out, HF1.out, HF2.out, HF3.out, HS1.out]
          simp only [sN_f, sS_f, nN_f, nS_f, sN_cons, sN_nil, sN_none, sS_none, sS_nil, Hhdnn.out, Hhdmm.out, hdss]
        have hge : (s.size : Int) ≤ (a3 : Int) := by have := drop_end HD3.out; omega
        clear hdss
        go_wp2_with fail
        go_ret2
        exact HBAD.out _ HDN.out HE4.out
      | cons bss rss =>
      have Hhdss := Lib.hid hdss
      rw [hdss] at HD3
      clear hdss
      obtain ⟨hx1, hx2, hx3⟩ := drop_lt HD3.out
      have hltss : (a3 : Int) < (s.size : Int) := by omega
      have ix := idx_run HD3.out
      have hb9 := bss.toNat_lt
      obtain ⟨ss, hss2⟩ : ∃ x, bss.toNat = x := ⟨_, rfl⟩
      rw [hss2] at ix hb9
      have Hss := Lib.hid hss2
      have ss9 : (ss : Int) ≤ 255 := by omega
      by_cases hfit : ss ≤ rss.length
      rotate_left
      · have hgt : (s.size : Int) < (a3 : Int) + 1 + (ss : Int) := by omega
        have HDN : Hid (decB s.data.toList = none) := by
          refine rd_fail HST.out (by rw [HN0.out]; exact hlt) HDK.out ?_
          rw [← HSTT.out]
          unfold st4 st3 st2
          rw [HKN.out, HF1.out, HF2.out, HF3.out, HS1.out]
          simp only [sN_f, sS_f, nN_f, nS_f, sN_cons, sN_nil, sN_none, sS_none, sS_nil, Hhdnn.out, Hhdmm.out]; rw [Hhdss.out, sS_short (by rw [Hss.out]; exact hfit)]
        clear hfit hx1 hx2 hx3 hb9 hss2
        go_wp2_with fail
        go_ret2
        exact HBAD.out _ HDN.out HE4.out
      have hle : (a3 : Int) + 1 + (ss : Int) ≤ (s.size : Int) := by omega
      have cut := cut_run (s := s) (a := a3) (n := ss) (by omega)
      obtain ⟨tx, htx⟩ : ∃ t, s.extract (a3 + 1) (a3 + 1 + ss) = t := ⟨_, rfl⟩
      rw [htx] at cut
      have HTL : Hid (tx.data.toList = rss.take ss) := by
        show _ = _
        rw [← htx, Lib.extract_data, hx2, Nat.add_sub_cancel_left]
      have HTS : Hid (tx.size = ss) := by show _ = _; rw [size_list, HTL.out, List.length_take]; omega
      have HDF : Hid (s.data.toList.drop (a3 + 1 + ss) = rss.drop ss) := by show _ = _; rw [← hx2, List.drop_drop]
      have tx9 : tx.size ≤ 255 := by rw [HTS.out]; omega
      have hfin : a3 + 1 + ss ≤ s.size := by omega
      have HFIT := Lib.hid hfit
      clear hfit hx1 hx2 hx3 hss2 htx hb9
      obtain ⟨x5, hx5⟩ : ∃ x, x4.setCell ⟨p, 3, none⟩ (.string tx) = x := ⟨_, rfl⟩
      have r0 : x4.cell? ⟨p, 0, none⟩ = some (.int .i64 (kk : Int)) := HQ4.out.cell 0
      have f0 : x4.frozen? ⟨p, 0, none⟩ = false := HQ4.out.frozen 0
      have r1 : x4.cell? ⟨p, 1, none⟩ = some (.int .i64 (nn : Int)) := HQ4.out.cell 1
      have f1 : x4.frozen? ⟨p, 1, none⟩ = false := HQ4.out.frozen 1
      have r2 : x4.cell? ⟨p, 2, none⟩ = some (.int .i64 (mm : Int)) := HQ4.out.cell 2
      have f2 : x4.frozen? ⟨p, 2, none⟩ = false := HQ4.out.frozen 2
      have r3 : x4.cell? ⟨p, 3, none⟩ = some (.string ⟨#[]⟩) := HQ4.out.cell 3
      have f3 : x4.frozen? ⟨p, 3, none⟩ = false := HQ4.out.frozen 3
      have hch : Chg (fun z => z = p) x4 x5 := by rw [← hx5]; exact Chg.setCell (S := fun z => z = p) _ ⟨p, 3, none⟩ _ rfl
      have HQ5 : Hid (Blk x5 p 30 #[.int .i64 (kk : Int), .int .i64 (nn : Int), .int .i64 (mm : Int), .string tx]) := by rw [← hx5]; exact HQ4.out.set_ 3 (.string tx)
      have HO5 := Lib.hid (ownsRow_kept HO4.out (hch.kept (K := fun z => z ≠ p) (fun z h => h)) (fun g hg => HNP.out g hg))
      have HE5 : Hid (Below D w x5) := HE4.out.trans (hch.to_below (fun z h => by have := HPD.out; omega) HZ4.out)
      have HZ5 : Hid (D ≤ x5.heap.size) := by have := HZ4.out; have := hch.size; show _ ≤ _; omega
      clear hch
      have q0 : x5.cell? ⟨p, 0, none⟩ = some (.int .i64 (kk : Int)) := HQ5.out.cell 0
      have g0 : x5.frozen? ⟨p, 0, none⟩ = false := HQ5.out.frozen 0
      have q1 : x5.cell? ⟨p, 1, none⟩ = some (.int .i64 (nn : Int)) := HQ5.out.cell 1
      have g1 : x5.frozen? ⟨p, 1, none⟩ = false := HQ5.out.frozen 1
      have q2 : x5.cell? ⟨p, 2, none⟩ = some (.int .i64 (mm : Int)) := HQ5.out.cell 2
      have g2 : x5.frozen? ⟨p, 2, none⟩ = false := HQ5.out.frozen 2
      have q3 : x5.cell? ⟨p, 3, none⟩ = some (.string tx) := HQ5.out.cell 3
      have g3 : x5.frozen? ⟨p, 3, none⟩ = false := HQ5.out.frozen 3
      obtain ⟨nd, hnd⟩ : ∃ nd : Nd, (⟨(kk : Int), (nn : Int), (mm : Int), tx⟩ : Nd) = nd := ⟨_, rfl⟩
      have hst4 : st4 st = some (s.data.toList.drop (a3 + 1 + ss)) := by
        unfold st4 st3 st2
        rw [HKN.out, HF1.out, HF2.out, HF3.out, HS1.out]
        simp only [sN_f, sS_f, nN_f, nS_f, sN_cons, sN_nil, sN_none, sS_none, sS_nil, Hhdnn.out, Hhdmm.out]
        all_goals rw [Hhdss.out, sS_long (by rw [Hss.out]; exact HFIT.out), Hss.out, HDF.out]
      have hndt : ndT st = nd := by
        rw [← hnd]
        unfold ndT st3 st2
        rw [HKN.out, HF1.out, HF2.out, HF3.out, HS1.out]
        simp only [sN_f, sS_f, nN_f, nS_f, sN_cons, sN_nil, sN_none, sS_none, sS_nil, nN_cons, Hhdnn.out, Hhdmm.out, Hnn.out, Hmm.out]
        all_goals rw [Hhdss.out, nS_long (by rw [Hss.out]; exact HFIT.out), Hss.out, text_eq HTL.out]
        all_goals rfl
      have hnv : nodeV nd = [.int .i64 (kk : Int), .int .i64 (nn : Int), .int .i64 (mm : Int), .string tx] := by rw [← hnd]; rfl
      have HST4 := Lib.hid hst4
      have HNDT := Lib.hid hndt
      have HNV := Lib.hid hnv
      clear hst4 hndt hnv hnd
      have HAA1 : Hid ((x5.alloc (.cells #[.int .i64 (kk : Int), .int .i64 (nn : Int), .int .i64 (mm : Int), .string tx] 30)).ownsRow D 30 4 (.slice ao L.length co) L.length (L.flatMap nodeV)) := ownsRow_below HO5.out ((Below.refl _ _).alloc (Nat.le_refl _) _) (fun g hg => (HO5.out.lt g hg).2)
      have HAA2 : Hid (RowAt (x5.alloc (.cells #[.int .i64 (kk : Int), .int .i64 (nn : Int), .int .i64 (mm : Int), .string tx] 30)) 4 (.slice (some ⟨x5.heap.size, 0, none⟩) 1 1) 1 (nodeV nd)) := by
        show RowAt _ _ _ _ _
        rw [HNV.out]
        exact RowAt.lit (size := 4) x5 30 #[.int .i64 (kk : Int), .int .i64 (nn : Int), .int .i64 (mm : Int), .string tx] 1 rfl (by unfold maxLen; omega)
      have HAA3 : Hid (∀ u, u ∈ nodeV nd → u.oneCell' = true) := nodeV_each nd
      have hA4 : (L.length + 1) * 40 ≤ 140737488355328 := by have := HLL.out; omega
      have hA5 : L.length + 1 ≤ maxLen := by have := HLL.out; unfold maxLen; omega
      have hA6 : D ≤ (x5.alloc (.cells #[.int .i64 (kk : Int), .int .i64 (nn : Int), .int .i64 (mm : Int), .string tx] 30)).heap.size := by have := HZ5.out; simp; omega
      go_wp2_with (at_builtin; go_must (refine wpList_append_row rfl (.tmp 102) (.tmp 104) 22 rfl D 30 i0 (.agg #[.int .i64 0, .int .i64 0, .int .i64 0, .string ByteArray.empty]) 4 40 Tryd.underlying22 hi jz0 jz1 jz2 rfl (by decide) (.slice ao L.length co) L.length (L.flatMap nodeV) rfl HAA1.out (.slice (some ⟨x5.heap.size, 0, none⟩) 1 1) 1 (nodeV nd) rfl HAA2.out HAA3.out hA4 hA5 hA6 ?_); intro v5 w5 hown5 hg5 hat5; obtain ⟨a5, c5, rfl, _⟩ := (RowAt.of_own hown5).form; have HST5 := Lib.hid hown5; have HG5 := Lib.hid hg5; clear hown5 hg5 hat5)
      go_roundw
      case rel => exact rd_next (a := a) (a' := (a3 + 1 + ss)) (st := st) hlt (by go_num) (by first | rfl | (have h := HTS.out; rw [h]; go_num) | (simp; omega)) (by omega) HLL.out HSTT.out HDK.out HST4.out HNDT.out HSL.out ((Below.refl _ _).alloc (Nat.le_refl _) _) HO5.out HST5.out HG5.out HE5.out HZ5.out
      case measure => simp [intOf]; omega
    · have tok : True := trivial
      have HF1 := Lib.hid e1
      have HF2 := Lib.hid e2
      have HF3 := Lib.hid e3
      clear e1 e2 e3
      refine (rhasN_any (kk : Int) (by omega) x0).mono ?_
      rintro e x1 ⟨rfl, hb⟩
      rw [HF1.out]
      have HO1 := Lib.hid (ownsRow_below HO0.out hb (fun g hg => (HO0.out.lt g hg).2))
      obtain ⟨o1, o2, o3⟩ := re_call HE0.out HZ0.out HQ0.out hb
      have HE1 := Lib.hid o1
      have HZ1 := Lib.hid o2
      have HQ1 := Lib.hid o3
      clear o1 o2 o3 hb
      have r0 : x1.cell? ⟨p, 0, none⟩ = some (.int .i64 (kk : Int)) := HQ1.out.cell 0
      have f0 : x1.frozen? ⟨p, 0, none⟩ = false := HQ1.out.frozen 0
      have r1 : x1.cell? ⟨p, 1, none⟩ = some (.int .i64 0) := HQ1.out.cell 1
      have f1 : x1.frozen? ⟨p, 1, none⟩ = false := HQ1.out.frozen 1
      have r2 : x1.cell? ⟨p, 2, none⟩ = some (.int .i64 0) := HQ1.out.cell 2
      have f2 : x1.frozen? ⟨p, 2, none⟩ = false := HQ1.out.frozen 2
      have r3 : x1.cell? ⟨p, 3, none⟩ = some (.string ⟨#[]⟩) := HQ1.out.cell 3
      have f3 : x1.frozen? ⟨p, 3, none⟩ = false := HQ1.out.frozen 3
      go_wp2_with fail
      clear r0 f0 r1 f1 r2 f2 r3 f3
      refine (rhasM_any (kk : Int) (by omega) x1).mono ?_
      rintro e y ⟨rfl, rfl⟩
      rw [HF2.out]
      cases hdmm : r with
      | nil =>
        rw [hdmm] at HD1
        have HDN : Hid (decB s.data.toList = none) := by
          refine rd_fail HST.out (by rw [HN0.out]; exact hlt) HDK.out ?_
          rw [← HSTT.out]
          unfold st4 st3 st2
          rw [HKN.out, HF1.out, HF2.out, HF3.out, HS1.out]
          simp only [sN_f, sS_f, nN_f, nS_f, sN_cons, sN_nil, sN_none, sS_none, sS_nil, hdmm]
        have hge : (s.size : Int) ≤ (a1 : Int) := by have := drop_end HD1.out; omega
        clear hdmm
        go_wp2_with fail
        go_ret2
        exact HBAD.out _ HDN.out HE1.out
      | cons bmm rmm =>
      have Hhdmm := Lib.hid hdmm
      rw [hdmm] at HD1
      clear hdmm
      obtain ⟨hx1, hx2, hx3⟩ := drop_lt HD1.out
      have hltmm : (a1 : Int) < (s.size : Int) := by omega
      have ix := idx_run HD1.out
      have hb9 := bmm.toNat_lt
      obtain ⟨mm, hmm⟩ : ∃ x, bmm.toNat = x := ⟨_, rfl⟩
      rw [hmm] at ix hb9
      have Hmm := Lib.hid hmm
      obtain ⟨a2, hA⟩ : ∃ x, a1 + 1 = x := ⟨_, rfl⟩
      have HA2 : Hid ((a1 : Int) + 1 = (a2 : Int)) := by show _ = _; omega
      rw [hA] at hx2 hx3
      have a2s : a2 ≤ s.size := by omega
      have HD2 := Lib.hid hx2
      have mm9 : (mm : Int) ≤ 255 := by omega
      clear hx1 hx2 hx3 hA hmm hb9
      obtain ⟨x2, hx2⟩ : ∃ x, x1.setCell ⟨p, 2, none⟩ (.int .i64 (mm : Int)) = x := ⟨_, rfl⟩
      have r0 : x1.cell? ⟨p, 0, none⟩ = some (.int .i64 (kk : Int)) := HQ1.out.cell 0
      have f0 : x1.frozen? ⟨p, 0, none⟩ = false := HQ1.out.frozen 0
      have r1 : x1.cell? ⟨p, 1, none⟩ = some (.int .i64 0) := HQ1.out.cell 1
      have f1 : x1.frozen? ⟨p, 1, none⟩ = false := HQ1.out.frozen 1
      have r2 : x1.cell? ⟨p, 2, none⟩ = some (.int .i64 0) := HQ1.out.cell 2
      have f2 : x1.frozen? ⟨p, 2, none⟩ = false := HQ1.out.frozen 2
      have r3 : x1.cell? ⟨p, 3, none⟩ = some (.string ⟨#[]⟩) := HQ1.out.cell 3
      have f3 : x1.frozen? ⟨p, 3, none⟩ = false := HQ1.out.frozen 3
      have hch : Chg (fun z => z = p) x1 x2 := by rw [← hx2]; exact Chg.setCell (S := fun z => z = p) _ ⟨p, 2, none⟩ _ rfl
      have HQ2 : Hid (Blk x2 p 30 #[.int .i64 (kk : Int), .int .i64 0, .int .i64 (mm : Int), .string ⟨#[]⟩]) := by rw [← hx2]; exact HQ1.out.set_ 2 (.int .i64 (mm : Int))
      have HO2 := Lib.hid (ownsRow_kept HO1.out (hch.kept (K := fun z => z ≠ p) (fun z h => h)) (fun g hg => HNP.out g hg))
      have HE2 : Hid (Below D w x2) := HE1.out.trans (hch.to_below (fun z h => by have := HPD.out; omega) HZ1.out)
      have HZ2 : Hid (D ≤ x2.heap.size) := by have := HZ1.out; have := hch.size; show _ ≤ _; omega
      clear hch
      have q0 : x2.cell? ⟨p, 0, none⟩ = some (.int .i64 (kk : Int)) := HQ2.out.cell 0
      have g0 : x2.frozen? ⟨p, 0, none⟩ = false := HQ2.out.frozen 0
      have q1 : x2.cell? ⟨p, 1, none⟩ = some (.int .i64 0) := HQ2.out.cell 1
      have g1 : x2.frozen? ⟨p, 1, none⟩ = false := HQ2.out.frozen 1
      have q2 : x2.cell? ⟨p, 2, none⟩ = some (.int .i64 (mm : Int)) := HQ2.out.cell 2
      have g2 : x2.frozen? ⟨p, 2, none⟩ = false := HQ2.out.frozen 2
      have q3 : x2.cell? ⟨p, 3, none⟩ = some (.string ⟨#[]⟩) := HQ2.out.cell 3
      have g3 : x2.frozen? ⟨p, 3, none⟩ = false := HQ2.out.frozen 3
      go_wp2_with fail
      rw [HA2.out]
      clear ix
      clear r0 f0 r1 f1 r2 f2 r3 f3 q0 g0 q1 g1 q2 g2 q3 g3 hx2
      refine (rhasS_any (kk : Int) (by omega) x2).mono ?_
      rintro e x3 ⟨rfl, hb⟩
      rw [HF3.out]
      have HO3 := Lib.hid (ownsRow_below HO2.out hb (fun g hg => (HO2.out.lt g hg).2))
      obtain ⟨o1, o2, o3⟩ := re_call HE2.out HZ2.out HQ2.out hb
      have HE3 := Lib.hid o1
      have HZ3 := Lib.hid o2
      have HQ3 := Lib.hid o3
      clear o1 o2 o3 hb
      cases hdss : rmm with
      | nil =>
        rw [hdss] at HD2
        have HDN : Hid (decB s.data.toList = none) := by
          refine rd_fail HST.out (by rw [HN0.out]; exact hlt) HDK.out ?_
          rw [← HSTT.out]
          unfold st4 st3 st2
          rw [HKN.out, HF1.out, HF2.out, HF3.out, HS1.out]
          simp only [sN_f, sS_f, nN_f, nS_f, sN_cons, sN_nil, sN_none, sS_none, sS_nil, Hhdmm.out, hdss]
        have hge : (s.size : Int) ≤ (a2 : Int) := by have := drop_end HD2.out; omega
        clear hdss
        go_wp2_with fail
        go_ret2
        exact HBAD.out _ HDN.out HE3.out
      | cons bss rss =>
      have Hhdss := Lib.hid hdss
      rw [hdss] at HD2
      clear hdss
      obtain ⟨hx1, hx2, hx3⟩ := drop_lt HD2.out
      have hltss : (a2 : Int) < (s.size : Int) := by omega
      have ix := idx_run HD2.out
      have hb9 := bss.toNat_lt
      obtain ⟨ss, hss2⟩ : ∃ x, bss.toNat = x := ⟨_, rfl⟩
      rw [hss2] at ix hb9
      have Hss := Lib.hid hss2
      have ss9 : (ss : Int) ≤ 255 := by omega
      by_cases hfit : ss ≤ rss.length
      rotate_left
      · have hgt : (s.size : Int) < (a2 : Int) + 1 + (ss : Int) := by omega
        have HDN : Hid (decB s.data.toList = none) := by
          refine rd_fail HST.out (by rw [HN0.out]; exact hlt) HDK.out ?_
          rw [← HSTT.out]
          unfold st4 st3 st2
          rw [HKN.out, HF1.out, HF2.out, HF3.out, HS1.out]
          simp only [sN_f, sS_f, nN_f, nS_f, sN_cons, sN_nil, sN_none, sS_none, sS_nil, Hhdmm.out]; rw [Hhdss.out, sS_short (by rw [Hss.out]; exact hfit)]
        clear hfit hx1 hx2 hx3 hb9 hss2
        go_wp2_with fail
        go_ret2
        exact HBAD.out _ HDN.out HE3.out
      have hle : (a2 : Int) + 1 + (ss : Int) ≤ (s.size : Int) := by omega
      have cut := cut_run (s := s) (a := a2) (n := ss) (by omega)
      obtain ⟨tx, htx⟩ : ∃ t, s.extract (a2 + 1) (a2 + 1 + ss) = t := ⟨_, rfl⟩
      rw [htx] at cut
      have HTL : Hid (tx.data.toList = rss.take ss) := by
        show _ = _
        rw [← htx, Lib.extract_data, hx2, Nat.add_sub_cancel_left]
      have HTS : Hid (tx.size = ss) := by show _ = _; rw [size_list, HTL.out, List.length_take]; omega
      have HDF : Hid (s.data.toList.drop (a2 + 1 + ss) = rss.drop ss) := by show _ = _; rw [← hx2, List.drop_drop]
      have tx9 : tx.size ≤ 255 := by rw [HTS.out]; omega
      have hfin : a2 + 1 + ss ≤ s.size := by omega
      have HFIT := Lib.hid hfit
      clear hfit hx1 hx2 hx3 hss2 htx hb9
      obtain ⟨x4, hx4⟩ : ∃ x, x3.setCell ⟨p, 3, none⟩ (.string tx) = x := ⟨_, rfl⟩
      have r0 : x3.cell? ⟨p, 0, none⟩ = some (.int .i64 (kk : Int)) := HQ3.out.cell 0
      have f0 : x3.frozen? ⟨p, 0, none⟩ = false := HQ3.out.frozen 0
      have r1 : x3.cell? ⟨p, 1, none⟩ = some (.int .i64 0) := HQ3.out.cell 1
      have f1 : x3.frozen? ⟨p, 1, none⟩ = false := HQ3.out.frozen 1
      have r2 : x3.cell? ⟨p, 2, none⟩ = some (.int .i64 (mm : Int)) := HQ3.out.cell 2
      have f2 : x3.frozen? ⟨p, 2, none⟩ = false := HQ3.out.frozen 2
      have r3 : x3.cell? ⟨p, 3, none⟩ = some (.string ⟨#[]⟩) := HQ3.out.cell 3
      have f3 : x3.frozen? ⟨p, 3, none⟩ = false := HQ3.out.frozen 3
      have hch : Chg (fun z => z = p) x3 x4 := by rw [← hx4]; exact Chg.setCell (S := fun z => z = p) _ ⟨p, 3, none⟩ _ rfl
      have HQ4 : Hid (Blk x4 p 30 #[.int .i64 (kk : Int), .int .i64 0, .int .i64 (mm : Int), .string tx]) := by rw [← hx4]; exact HQ3.out.set_ 3 (.string tx)
      have HO4 := Lib.hid (ownsRow_kept HO3.out (hch.kept (K := fun z => z ≠ p) (fun z h => h)) (fun g hg => HNP.out g hg))
      have HE4 : Hid (Below D w x4) := HE3.out.trans (hch.to_below (fun z h => by have := HPD.out; omega) HZ3.out)
      have HZ4 : Hid (D ≤ x4.heap.size) := by have := HZ3.out; have := hch.size; show _ ≤ _; omega
      clear hch
      have q0 : x4.cell? ⟨p, 0, none⟩ = some (.int .i64 (kk : Int)) := HQ4.out.cell 0
      have g0 : x4.frozen? ⟨p, 0, none⟩ = false := HQ4.out.frozen 0
      have q1 : x4.cell? ⟨p, 1, none⟩ = some (.int .i64 0) := HQ4.out.cell 1
      have g1 : x4.frozen? ⟨p, 1, none⟩ = false := HQ4.out.frozen 1
      have q2 : x4.cell? ⟨p, 2, none⟩ = some (.int .i64 (mm : Int)) := HQ4.out.cell 2
      have g2 : x4.frozen? ⟨p, 2, none⟩ = false := HQ4.out.frozen 2
      have q3 : x4.cell? ⟨p, 3, none⟩ = some (.string tx) := HQ4.out.cell 3
      have g3 : x4.frozen? ⟨p, 3, none⟩ = false := HQ4.out.frozen 3
      obtain ⟨nd, hnd⟩ : ∃ nd : Nd, (⟨(kk : Int), 0, (mm : Int), tx⟩ : Nd) = nd := ⟨_, rfl⟩
      have hst4 : st4 st = some (s.data.toList.drop (a2 + 1 + ss)) := by
        unfold st4 st3 st2
        rw [HKN.out, HF1.out, HF2.out, HF3.out, HS1.out]
        simp only [sN_f, sS_f, nN_f, nS_f, sN_cons, sN_nil, sN_none, sS_none, sS_nil, Hhdmm.out]
        all_goals rw [Hhdss.out, sS_long (by rw [Hss.out]; exact HFIT.out), Hss.out, HDF.out]
      have hndt : ndT st = nd := by
        rw [← hnd]
        unfold ndT st3 st2
        rw [HKN.out, HF1.out, HF2.out, HF3.out, HS1.out]
        simp only [sN_f, sS_f, nN_f, nS_f, sN_cons, sN_nil, sN_none, sS_none, sS_nil, nN_cons, Hhdmm.out, Hmm.out]
        all_goals rw [Hhdss.out, nS_long (by rw [Hss.out]; exact HFIT.out), Hss.out, text_eq HTL.out]
        all_goals rfl
      have hnv : nodeV nd = [.int .i64 (kk : Int), .int .i64 0, .int .i64 (mm : Int), .string tx] := by rw [← hnd]; rfl
      have HST4 := Lib.hid hst4
      have HNDT := Lib.hid hndt
      have HNV := Lib.hid hnv
      clear hst4 hndt hnv hnd
      have HAA1 : Hid ((x4.alloc (.cells #[.int .i64 (kk : Int), .int .i64 0, .int .i64 (mm : Int), .string tx] 30)).ownsRow D 30 4 (.slice ao L.length co) L.length (L.flatMap nodeV)) := ownsRow_below HO4.out ((Below.refl _ _).alloc (Nat.le_refl _) _) (fun g hg => (HO4.out.lt g hg).2)
      have HAA2 : Hid (RowAt (x4.alloc (.cells #[.int .i64 (kk : Int), .int .i64 0, .int .i64 (mm : Int), .string tx] 30)) 4 (.slice (some ⟨x4.heap.size, 0, none⟩) 1 1) 1 (nodeV nd)) := by
        show RowAt _ _ _ _ _
        rw [HNV.out]
        exact RowAt.lit (size := 4) x4 30 #[.int .i64 (kk : Int), .int .i64 0, .int .i64 (mm : Int), .string tx] 1 rfl (by unfold maxLen; omega)
      have HAA3 : Hid (∀ u, u ∈ nodeV nd → u.oneCell' = true) := nodeV_each nd
      have hA4 : (L.length + 1) * 40 ≤ 140737488355328 := by have := HLL.out; omega
      have hA5 : L.length + 1 ≤ maxLen := by have := HLL.out; unfold maxLen; omega
      have hA6 : D ≤ (x4.alloc (.cells #[.int .i64 (kk : Int), .int .i64 0, .int .i64 (mm : Int), .string tx] 30)).heap.size := by have := HZ4.out; simp; omega
      go_wp2_with (at_builtin; go_must (refine wpList_append_row rfl (.tmp 102) (.tmp 104) 22 rfl D 30 i0 (.agg #[.int .i64 0, .int .i64 0, .int .i64 0, .string ByteArray.empty]) 4 40 Tryd.underlying22 hi jz0 jz1 jz2 rfl (by decide) (.slice ao L.length co) L.length (L.flatMap nodeV) rfl HAA1.out (.slice (some ⟨x4.heap.size, 0, none⟩) 1 1) 1 (nodeV nd) rfl HAA2.out HAA3.out hA4 hA5 hA6 ?_); intro v5 w5 hown5 hg5 hat5; obtain ⟨a5, c5, rfl, _⟩ := (RowAt.of_own hown5).form; have HST5 := Lib.hid hown5; have HG5 := Lib.hid hg5; clear hown5 hg5 hat5)
      go_roundw
      case rel => exact rd_next (a := a) (a' := (a2 + 1 + ss)) (st := st) hlt (by go_num) (by first | rfl | (have h := HTS.out; rw [h]; go_num) | (simp; omega)) (by omega) HLL.out HSTT.out HDK.out HST4.out HNDT.out HSL.out ((Below.refl _ _).alloc (Nat.le_refl _) _) HO4.out HST5.out HG5.out HE4.out HZ4.out
      case measure => simp [intOf]; omega

end Go.Proofs.YtoagedaohdkbdaaDoor
