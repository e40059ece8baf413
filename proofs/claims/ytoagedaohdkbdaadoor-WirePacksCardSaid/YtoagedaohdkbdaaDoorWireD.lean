/- wire.Decode, wire.Unpack: what they read. -/
import Derived.Test.YtoagedaohdkbdaaDoorWireE
namespace Go.Proofs.YtoagedaohdkbdaaDoor
set_option linter.unusedSimpArgs false
set_option linter.unusedVariables false
open Go.RowKit

theorem shp_any (kk : Nat) : (fN kk = true ∧ fM kk = false ∧ fS kk = false) ∨ (fN kk = false ∧ fM kk = false ∧ fS kk = true) ∨ (fN kk = false ∧ fM kk = false ∧ fS kk = false) ∨ (fN kk = true ∧ fM kk = true ∧ fS kk = true) ∨ (fN kk = false ∧ fM kk = true ∧ fS kk = true) := by
  unfold fN fM fS
  rw [Int.toNat_natCast]
  by_cases h : kk < 30
  · rcases shp_sum kk h with h | h | h | ⟨h, _⟩ | ⟨h, _⟩ <;> rw [h] <;> simp
  · rw [shp_big (by omega)]; simp
def decL (s : List UInt8) : List Nd := (decB s).getD []
def decE (s : List UInt8) : Int := if (decB s).isSome then 0 else 50
theorem decE_none {s : List UInt8} (h : decB s = none) : decE s = 50 ∧ decL s = [] := by unfold decE decL; rw [h]; exact ⟨rfl, rfl⟩
theorem decE_some {s : List UInt8} {l : List Nd} (h : decB s = some l) : decE s = 0 ∧ decL s = l := by unfold decE decL; rw [h]; exact ⟨rfl, rfl⟩
theorem dec_bad {s r0 : List UInt8} (h0 : tkS (some s) 2 = some r0) {j : Nat} (hj : j ≤ num (tkV (some s) 2)) (h : decK j r0 = none) : decB s = none := by
  rw [decB_two]
  unfold decB2
  rw [h0]
  simp only
  rw [decK_stop h _ hj]
  rfl
theorem dec_end {s r0 : List UInt8} (h0 : tkS (some s) 2 = some r0) {r : List UInt8} {L : List Nd} (h : decK (num (tkV (some s) 2)) r0 = some (L, r)) : decB s = if r = [] ∧ chk L = 0 then some L else none := by
  rw [decB_two]
  unfold decB2
  rw [h0]
  simp only
  rw [h, Option.bind_some]
theorem dec_short {s : List UInt8} (h : tkS (some s) 2 = none) : decB s = none := by rw [decB_two]; unfold decB2; rw [h]
theorem dec_dry {r0 : List UInt8} {j : Nat} {L : List Nd} (h : DecI r0 j (some []) L) : decK (j + 1) r0 = none := by
  have h2 : decK j r0 = some (L, []) := h.2
  rw [decK_snoc, h2]
  rfl
theorem dec_fail {r0 : List UInt8} {j : Nat} {L : List Nd} (h : DecI r0 j none L) : decK j r0 = none := h.2
theorem left_out {st : Option (List UInt8)} (h : leftI st < 1) : st = none ∨ st = some [] := by
  match st, h with
  | none, _ => exact .inl rfl
  | some [], _ => exact .inr rfl
  | some (a :: r), h => unfold leftI at h; simp at h; omega
theorem left_in {st : Option (List UInt8)} (h : ¬ leftI st < 1) : ∃ a r, st = some (a :: r) := by
  match st, h with
  | none, h => exact absurd (by show (-1 : Int) < 1; omega) h
  | some [], h => exact absurd (by show (0 : Int) < 1; omega) h
  | some (a :: r), _ => exact ⟨a, r, rfl⟩
theorem left_ne {s r0 : List UInt8} (h0 : tkS (some s) 2 = some r0) {st : Option (List UInt8)} {L : List Nd} (h : DecI r0 (num (tkV (some s) 2)) st L) (hz : leftI st ≠ 0) : decB s = none := by
  match st, h, hz with
  | none, h, _ => exact dec_bad h0 (Nat.le_refl _) h.2
  | some [], _, hz => exact absurd rfl hz
  | some (a :: r), h, _ => rw [dec_end h0 h.2, if_neg (by simp)]
theorem left_eq {st : Option (List UInt8)} (h : leftI st = 0) : st = some [] := by
  match st, h with
  | none, h => exact absurd h (by show ¬ (-1 : Int) = 0; omega)
  | some [], _ => rfl
  | some (a :: r), h => unfold leftI at h; simp at h; omega
theorem left_lt (st : Option (List UInt8)) : -1 ≤ leftI st := by
  match st with
  | none => exact Int.le_refl _
  | some r => show (-1 : Int) ≤ (r.length : Int); omega
theorem chk_nil : chk [] ≠ 0 := by decide +kernel
theorem tk2_most {s : List UInt8} : num (tkV (some s) 2) ≤ 65535 := num_le2 (tkV_len _ _)
theorem size_of_toList {t : ByteArray} {l : List UInt8} (h : t.data.toList = l) : t.size = l.length := by rw [← h]; exact (Array.length_toList).symm
theorem nS_size (c : Bool) (st : Option (List UInt8)) : (nS c st).size ≤ 255 := by
  unfold nS
  split
  · show (tkV (tkS st 1) (num (tkV st 1))).toArray.size ≤ 255
    have h1 := tkV_len (tkS st 1) (num (tkV st 1))
    have h2 := num_le1 (tkV_len st 1)
    simp
    omega
  · show (0 : Nat) ≤ 255
    omega
theorem text_eq {t : ByteArray} {l : List UInt8} (h : t.data.toList = l) : t = ⟨l.toArray⟩ := by
  apply ByteArray.ext
  apply Array.ext'
  rw [h]

def OwnD (base : Nat) (w : World) (v : Value) (l : List Nd) : Prop := w.ownsRow base 30 4 v l.length (l.flatMap nodeV)
theorem OwnD.read {base : Nat} {w : World} {v : Value} {l : List Nd} (h : OwnD base w v l) : ReadN w v l := RowAt.of_own h
theorem nodeV_each (n : Nd) : ∀ u, u ∈ nodeV n → u.oneCell' = true := by
  intro u hu
  simp [nodeV] at hu
  rcases hu with rfl | rfl | rfl | rfl <;> rfl
def DecP (s : List UInt8) (w : World) (e : Ending) (w' : World) : Prop := ∃ v, e = .returned (.tuple #[v, .int .i64 (decE s)]) ∧ OwnD w.heap.size w' v (decL s) ∧ Below w.heap.size w w'
theorem DecP.bad {s : List UInt8} {w w' : World} (h : decB s = none) (hb : Below w.heap.size w w') : DecP s w (.returned (.tuple #[.slice none 0 0, .int .i64 50])) w' :=
  ⟨_, by rw [(decE_none h).1], by rw [(decE_none h).2]; exact World.ownsRow_nil _ _ _ _, hb⟩
def DecR (r0 : List UInt8) (n0 D : Nat) (w : World) (v i : Value) (wr : World) : Prop :=
  ∃ (j : Nat) (st : Option (List UInt8)) (L : List Nd) (a : Option Addr) (c : Nat), j ≤ n0 ∧ i = .int .i64 ((n0 : Int) - (j : Int)) ∧ v = .slice a L.length c ∧ DecI r0 j st L ∧ SmallN L ∧ Tk (D + 1) D st wr ∧ wr.ownsRow (D + 2) 30 4 (.slice a L.length c) L.length (L.flatMap nodeV) ∧ Below D w wr ∧ D + 2 ≤ wr.heap.size
/-- behind a take: the row of the call's own, and what stands -/
theorem dec_step {D : Nat} {e : TypeId} {size : Nat} {v : Value} {n : Nat} {cs : List Value} {w x x' : World} (hch : Chg (fun z => z = D + 1 ∨ z = D) x x') (ho : x.ownsRow (D + 2) e size v n cs) (hb : Below D w x) (hs : D + 2 ≤ x.heap.size) :
    x'.ownsRow (D + 2) e size v n cs ∧ Below D w x' ∧ D + 2 ≤ x'.heap.size :=
  ⟨ownsRow_kept ho (hch.kept (K := fun z => D + 2 ≤ z) (fun z h h2 => by omega)) (fun g hg => (ho.lt g hg).1), hb.trans (hch.to_below (fun z h => by omega) (by omega)), by have := hch.size; omega⟩
theorem dec_node {D p : Nat} {t : TypeId} {cs : Array Value} {x x' : World} (hch : Chg (fun z => z = D + 1 ∨ z = D) x x') (hq : Blk x p t cs) (hp : D + 2 ≤ p) : Blk x' p t cs := hq.stab (fun h => by omega) hch

theorem take_lit (bo bs : Nat) (st : Option (List UInt8)) (n : Nat) (z : Int) (hz : z = (n : Int)) (hn : n ≤ 100000) (w : World) (h : Tk bo bs st w) :
    Calls Tryd.prog 39 #[.int .i64 z, .pointer (some ⟨bo, 0, none⟩), .pointer (some ⟨bs, 0, none⟩)] w (TakeP bo bs st n w) := by rw [hz]; exact take_any bo bs st n hn w h
theorem tk_none {s : List UInt8} {n : Nat} (h : tkS (some s) n = none) : tkV (some s) n = [] := by
  unfold tkS at h
  unfold tkV
  simp only at h ⊢
  split at h
  · cases h
  · rename_i hn; rw [if_neg hn]

theorem sN_t (st : Option (List UInt8)) : sN true st = tkS st 1 := rfl
theorem sN_f (st : Option (List UInt8)) : sN false st = st := rfl
theorem sS_t (st : Option (List UInt8)) : sS true st = tkS (tkS st 1) (num (tkV st 1)) := rfl
theorem sS_f (st : Option (List UInt8)) : sS false st = st := rfl
theorem nN_t (st : Option (List UInt8)) : nN true st = ((num (tkV st 1) : Nat) : Int) := rfl
theorem nN_f (st : Option (List UInt8)) : nN false st = 0 := rfl
theorem nS_t (st : Option (List UInt8)) : nS true st = ⟨(tkV (tkS st 1) (num (tkV st 1))).toArray⟩ := rfl
theorem nS_f (st : Option (List UInt8)) : nS false st = ⟨#[]⟩ := rfl
/-- one round further -/
theorem dec_next {r0 : List UInt8} {n0 D j : Nat} {w x x' w5 : World} {st S : Option (List UInt8)} {L : List Nd} {nd : Nd} {ao a5 : Option Addr} {co c5 : Nat} {i : Value} (hj : j < n0) (hi : i = .int .i64 ((n0 : Int) - ((j + 1 : Nat) : Int)))
    (hdi : DecI r0 (j + 1) (st4 st) (L ++ [ndT st])) (hS : st4 st = S) (hnd : ndT st = nd) (hsl : SmallN L) (ht : Tk (D + 1) D S x) (hx : Below x.heap.size x x') (ho : x.ownsRow (D + 2) 30 4 (.slice ao L.length co) L.length (L.flatMap nodeV))
    (h5 : w5.ownsRow (D + 2) 30 4 (.slice a5 (L.length + 1) c5) (L.length + 1) (L.flatMap nodeV ++ nodeV nd)) (hg : x'.grownBy w5 (Value.slice ao L.length co).ownBlock) (hb : Below D w x) (hz : D + 2 ≤ x.heap.size) :
    DecR r0 n0 D w (.slice a5 (L.length + 1) c5) i w5 := by
  have hc1 : Chg (fun z => D + 2 ≤ z) x w5 := (Chg.fresh hx).trans (Chg.grown hg (fun g hg => (ho.lt g hg).1))
  refine ⟨j + 1, st4 st, L ++ [ndT st], a5, c5, by omega, hi, by simp, hdi, ?_, ?_, ?_, ?_, by have := hc1.size; omega⟩
  · intro n hn
    rcases List.mem_append.1 hn with hn | hn
    · exact hsl n hn
    · simp at hn
      rw [hn]
      have := nS_size (fS (kN st)) (st3 st)
      show (nS (fS (kN st)) (st3 st)).size ≤ maxLen
      unfold maxLen
      omega
  · rw [hS]
    exact ht.stab hc1 (by omega) (by omega)
  · rw [hnd]
    simpa using h5
  · exact hb.trans (hc1.to_below (fun z h => by omega) (by omega))

theorem ownsRow_low {w : World} {b b' : Nat} {e : TypeId} {size : Nat} {v : Value} {n : Nat} {xs : List Value} (h : w.ownsRow b e size v n xs) (hb : b' ≤ b) : w.ownsRow b' e size v n xs := by
  refine ⟨h.1, ?_⟩
  rcases h.2 with hn | ⟨g, cap, cur, h1, h2, h3⟩
  · exact .inl hn
  · exact .inr ⟨g, cap, cur, h1, Nat.le_trans hb h2, h3⟩

set_option maxRecDepth 20000 in
set_option maxHeartbeats 1000000 in
theorem decode_any (s : ByteArray) (w : World) (hS : ShapesAt w) (hF : FieldsAt w) (hs : s.size ≤ maxLen) :
    Calls Tryd.prog 14 #[.string s] w (DecP s.data.toList w) := by
  obtain ⟨i0, hi, jz0, jz1, jz2⟩ := info_parts Tryd.infoNode
  have HSW : Hid (∀ x, Below w.heap.size w x → ShapesAt x) := fun x hb => hS.below hb
  have HFW : Hid (∀ x, Below w.heap.size w x → FieldsAt x) := fun x hb => hF.below hb
  have HTK := Lib.hid (taker_any s hs w)
  obtain ⟨S0, hS0⟩ : ∃ S0, s.data.toList = S0 := ⟨_, rfl⟩
  rw [hS0] at HTK
  rw [hS0]
  obtain ⟨D, hD⟩ : ∃ D, w.heap.size = D := ⟨_, rfl⟩
  have HD := Lib.hid hD
  rw [hD] at HTK HSW HFW
  obtain ⟨n0, hn0⟩ : ∃ n, num (tkV (some S0) 2) = n := ⟨_, rfl⟩
  have hnm : n0 ≤ 65535 := by rw [← hn0]; exact tk2_most
  have HN0 := Lib.hid hn0
  have HBAD : Hid (∀ w', decB S0 = none → Below D w w' → DecP S0 w (.returned (.tuple #[.slice none 0 0, .int .i64 50])) w') := fun w' h hb => DecP.bad h (by rw [HD.out]; exact hb)
  clear hS hF hs hS0 hD hn0
  go_enter Tryd.func14, Tryd.ntmps14
  go_wp2_with fail
  go_step3
  go_wp2_with fail
  refine HTK.out.mono ?_
  rintro e w1 ⟨rfl, htk, hb1, hz1⟩
  have HT1 := Lib.hid htk
  have HE1 := Lib.hid hb1
  have HZ1 : Hid (D + 2 ≤ w1.heap.size) := by show _ ≤ _; omega
  clear htk hb1 hz1
  go_wp2_with fail
  go_step3
  go_wp2_with fail
  refine (take_lit (D + 1) D (some S0) 2 _ rfl (by omega) _ HT1.out).mono ?_
  rintro e w2 ⟨t2, rfl, ht2, htk2, hch2⟩
  have HE2 : Hid (Below D w w2) := HE1.out.trans (hch2.to_below (fun z h => by omega) (by have := HZ1.out; omega))
  have HZ2 : Hid (D + 2 ≤ w2.heap.size) := by have := HZ1.out; have := hch2.size; show _ ≤ _; omega
  clear hch2
  go_wp2_with fail
  refine (number_any t2 (by rw [size_of_toList ht2]; exact tkV_len _ _) _).mono ?_
  rintro e y ⟨rfl, rfl⟩
  rw [ht2, HN0.out]
  clear ht2
  cases hst : tkS (some S0) 2 with
  | none =>
    rw [hst] at htk2
    have hn : n0 = 0 := by rw [← HN0.out, tk_none hst]; rfl
    subst hn
    have HT2 := Lib.hid htk2
    have HDB := Lib.hid (dec_short hst)
    clear htk2 hst
    go_wp2_with fail
    go_loopw [6, 7] (fun v i wr => v = .slice none 0 0 ∧ i = .int .i64 0 ∧ wr = w2) (fun _ _ _ => 0)
    case atStart => exact ⟨rfl, rfl, rfl⟩
    case round =>
      obtain ⟨rfl, rfl, rfl⟩ := hrel
      go_wp2_with fail
      refine (left_any (D + 1) D none _ HT2.out).mono ?_
      rintro e y ⟨rfl, rfl⟩
      have hl : leftI none = -1 := rfl
      rw [hl]
      clear hl
      go_wp2_with fail
      rw [Exit.noGoto_ret]
      go_ret2
      exact HBAD.out _ HDB.out HE2.out
  | some r0 =>
  rw [hst] at htk2
  have HT2 := Lib.hid htk2
  have HST := Lib.hid hst
  clear htk2 hst
  have HI : Hid (DecR r0 n0 D w (.slice none 0 0) (.int .i64 (n0 : Int)) w2) := ⟨0, some r0, [], none, 0, by omega, by simp, rfl, DecI.zero _, (fun n h => by cases h), HT2.out, World.ownsRow_nil _ _ _ _, HE2.out, HZ2.out⟩
  go_wp2_with fail
  go_loopw [6, 7] (fun v i wr => DecR r0 n0 D w v i wr) (fun _ i _ => (intOf i).toNat)
  case atStart => exact HI.out
  case round =>
    rename World => wr
    obtain ⟨j, st, L, ao, co, hj, rfl, rfl, hdi, hsl, htk, how, hbe, hsz⟩ := hrel
    have HDI := Lib.hid hdi
    have HSL := Lib.hid hsl
    have HT := Lib.hid htk
    have HO := Lib.hid how
    have HE := Lib.hid hbe
    have HZ := Lib.hid hsz
    have HLL : Hid (L.length = j) := hdi.1
    clear hdi hsl htk how hbe hsz
    obtain ⟨z, hz⟩ : ∃ z, leftI st = z := ⟨_, rfl⟩
    have HLF := Lib.hid hz
    have HLA := Lib.hid (left_any (D + 1) D st)
    rw [hz] at HLA
    have hzm : -1 ≤ z := by rw [← hz]; exact left_lt st
    clear hz
    by_cases hlt : j < n0
    rotate_left
    · obtain rfl : j = n0 := by omega
      have hzz : ((j : Int) - (j : Int)) = 0 := by omega
      rw [hzz]
      clear hzz
      go_wp2_with fail
      refine (HLA.out _ HT.out).mono ?_
      rintro e y ⟨rfl, rfl⟩
      by_cases h0 : z = 0
      · subst h0
        have HSE : Hid (st = some []) := left_eq HLF.out
        have HDE : Hid (decB S0 = if chk L = 0 then some L else none) := by
          have h1 := HDI.out
          rw [HSE.out, ← HN0.out] at h1
          have h2 := dec_end HST.out h1.2
          simp only [true_and] at h2
          exact h2
        have HCH := Lib.hid (tcheck_any L (.slice ao L.length co) _ (HSW.out _ HE.out) (RowAt.of_own HO.out) HSL.out)
        obtain ⟨c, hc⟩ : ∃ c, chk L = c := ⟨_, rfl⟩
        have HC := Lib.hid hc
        rw [hc] at HCH HDE
        clear hc
        by_cases hc0 : c = 0
        · subst hc0
          go_wp2_with fail
          refine HCH.out.mono ?_
          rintro e w9 ⟨rfl, hb9⟩
          have HD9 := Lib.hid (decE_some (show decB S0 = some L by rw [HDE.out]; simp))
          have HO9 : Hid (OwnD D w9 (.slice ao L.length co) L) := ownsRow_low (ownsRow_below HO.out hb9 (fun g hg => (HO.out.lt g hg).2)) (by omega)
          have HE9 : Hid (Below D w w9) := HE.out.trans (hb9.mono (by have := HZ.out; omega))
          clear hb9
          go_wp2_with fail
          rw [Exit.noGoto_ret]
          go_ret2
          exact ⟨_, by rw [HD9.out.1]; rfl, by rw [HD9.out.2, HD.out]; exact HO9.out, by rw [HD.out]; exact HE9.out⟩
        · have hcb : (c != 0) = true := by simpa using hc0
          have HDN : Hid (decB S0 = none) := HDE.out.trans (if_neg hc0)
          clear hc0
          go_wp2_with fail
          refine HCH.out.mono ?_
          rintro e w9 ⟨rfl, hb9⟩
          have HE9 : Hid (Below D w w9) := HE.out.trans (hb9.mono (by have := HZ.out; omega))
          clear hb9
          go_wp2_with fail
          rw [Exit.noGoto_ret]
          go_ret2
          exact HBAD.out _ HDN.out HE9.out
      · have hzb : (z != 0) = true := by simpa using h0
        have HDN : Hid (decB S0 = none) := left_ne HST.out (by rw [HN0.out]; exact HDI.out) (by rw [HLF.out]; exact h0)
        clear h0
        go_wp2_with fail
        rw [Exit.noGoto_ret]
        go_ret2
        exact HBAD.out _ HDN.out HE.out
    have hpos : (0 : Int) < (n0 : Int) - (j : Int) := by omega
    by_cases hz1 : z < 1
    · have HDN : Hid (decB S0 = none) := by
        rcases left_out (by rw [HLF.out]; exact hz1) with e | e
        · exact dec_bad HST.out (by rw [HN0.out]; exact hj) (dec_fail (L := L) (by rw [← e]; exact HDI.out))
        · exact dec_bad HST.out (j := j + 1) (by rw [HN0.out]; omega) (dec_dry (L := L) (by rw [← e]; exact HDI.out))
      go_wp2_with fail
      refine (HLA.out _ HT.out).mono ?_
      rintro e y ⟨rfl, rfl⟩
      by_cases h0 : z = 0
      · subst h0
        have HCH := Lib.hid (tcheck_any [] (.slice none 0 0) _ (HSW.out _ HE.out) (ReadN.nil _) (fun n h => by cases h))
        obtain ⟨c, hc⟩ : ∃ c, chk [] = c := ⟨_, rfl⟩
        have hcb : (c != 0) = true := by rw [← hc]; simpa using chk_nil
        rw [hc] at HCH
        clear hc
        go_wp2_with fail
        refine (HLA.out _ HT.out).mono ?_
        rintro e y ⟨rfl, rfl⟩
        go_wp2_with fail
        refine HCH.out.mono ?_
        rintro e w9 ⟨rfl, hb9⟩
        have HE9 : Hid (Below D w w9) := HE.out.trans (hb9.mono (by have := HZ.out; omega))
        clear hb9
        go_wp2_with fail
        rw [Exit.noGoto_ret]
        go_ret2
        exact HBAD.out _ HDN.out HE9.out
      · have hzb : (z != 0) = true := by simpa using h0
        clear h0
        go_wp2_with fail
        refine (HLA.out _ HT.out).mono ?_
        rintro e y ⟨rfl, rfl⟩
        go_wp2_with fail
        rw [Exit.noGoto_ret]
        go_ret2
        exact HBAD.out _ HDN.out HE.out
    obtain ⟨a0, r, hsj⟩ := left_in (by rw [HLF.out]; exact hz1)
    have HSR := Lib.hid hsj
    clear hsj
    go_wp2_with fail
    refine (HLA.out _ HT.out).mono ?_
    rintro e y ⟨rfl, rfl⟩
    go_wp2_with fail
    obtain ⟨S2, hs2⟩ : ∃ x, st = x := ⟨_, rfl⟩
    have HSJ := Lib.hid hs2
    have HT2 : Hid (Tk (D + 1) D S2 wr) := by rw [← hs2]; exact HT.out
    have HO2 := HO
    have HE2 := HE
    have HZ2 := HZ
    clear hs2
    refine (take_lit (D + 1) D S2 1 _ (by first | rfl | omega) (by omega) _ HT2.out).mono ?_
    rintro e x3 ⟨t3, rfl, ht3, htk3, hch3⟩
    obtain ⟨o1, o2, o3⟩ := dec_step hch3 HO2.out HE2.out HZ2.out
    have HO3 := Lib.hid o1
    have HE3 := Lib.hid o2
    have HZ3 := Lib.hid o3
    obtain ⟨S3, hS3⟩ : ∃ x, tkS S2 1 = x := ⟨_, rfl⟩
    rw [hS3] at htk3
    have HS3 := Lib.hid hS3
    have HT3 := Lib.hid htk3
    clear o1 o2 o3 htk3 hch3 hS3
    obtain ⟨kk, hkk⟩ : ∃ x, num (tkV S2 1) = x := ⟨_, rfl⟩
    have Hkk := Lib.hid hkk
    have kk9 : kk ≤ 255 := by rw [← hkk]; exact num_le1 (tkV_len _ _)
    go_wp2_with fail
    refine (number_any t3 (by rw [size_of_toList ht3]; have := tkV_len S2 1; omega) _).mono ?_
    rintro e y ⟨rfl, rfl⟩
    rw [ht3, hkk]
    clear ht3 hkk
    have HKN : Hid (kN st = (kk : Int)) := by show _ = _; unfold kN; rw [HSJ.out, Hkk.out]
    obtain ⟨p, hp⟩ : ∃ p, x3.heap.size = p := ⟨_, rfl⟩
    obtain ⟨x4, hx4⟩ : ∃ x, x3.alloc (.cells #[.int .i64 (kk : Int), .int .i64 0, .int .i64 0, .string ⟨#[]⟩] 30) = x := ⟨_, rfl⟩
    have hal : Below x3.heap.size x3 x4 := by rw [← hx4]; exact (Below.refl _ _).alloc (Nat.le_refl _) _
    have HQ4 : Hid (Blk x4 p 30 #[.int .i64 (kk : Int), .int .i64 0, .int .i64 0, .string ⟨#[]⟩]) := by rw [← hx4, ← hp]; exact Blk.new _ _ _
    have HPD : Hid (D + 2 ≤ p) := by rw [← hp]; exact HZ3.out
    have HNP : Hid (∀ g, (Value.slice ao L.length co).ownBlock = some g → g ≠ p) := fun g hg => by have := (HO3.out.lt g hg).2; omega
    have HO4 := Lib.hid (ownsRow_below HO3.out hal (fun g hg => (HO3.out.lt g hg).2))
    have HE4 : Hid (Below D w x4) := HE3.out.trans (hal.mono (by have := HZ3.out; omega))
    have HZ4 : Hid (D + 2 ≤ x4.heap.size) := by have := HZ3.out; have := hal.size; show _ ≤ _; omega
    have HT4 := Lib.hid (HT3.out.stab (Chg.fresh (S := fun _ => False) hal) (fun h => h) (fun h => h))
    have HMK : Hid ((x3.alloc (.cells #[.int .i64 (kk : Int), .int .i64 0, .int .i64 0, .string ⟨#[]⟩] 30)).cell? ⟨0, kk, none⟩ = some (.int .u8 (maskB kk))) := by rw [hx4]; exact HFW.out _ HE4.out kk (by omega)
    have HM3 : Hid (x3.cell? ⟨0, kk, none⟩ = some (.int .u8 (maskB kk))) := HFW.out _ HE3.out kk (by omega)
    have HP := Lib.hid hp
    have HX4 := Lib.hid hx4
    have HJP := Lib.hid (HDI.out)
    have HDN1 : Hid (DecI r0 (j + 1) (st4 st) (L ++ [ndT st])) := by have h := HDI.out; rw [HSR.out] at h ⊢; exact h.step
    clear hal hp hx4
    rcases shp_any kk with ⟨e1, e2, e3⟩ | ⟨e1, e2, e3⟩ | ⟨e1, e2, e3⟩ | ⟨e1, e2, e3⟩ | ⟨e1, e2, e3⟩
    · have tok : True := trivial
      have hmk : maskB kk = 1 := by unfold maskB; rw [e1, e2, e3]; rfl
      have HE1 := Lib.hid e1
      have HE2 := Lib.hid e2
      have HE3 := Lib.hid e3
      clear e1 e2 e3
      have r4 := HMK.out
      have r5 := HM3.out
      rw [hmk] at r4 r5
      clear hmk
      go_wp2_with fail
      rw [HX4.out, HP.out]
      clear r4 r5
      refine (take_lit (D + 1) D S3 1 _ (by first | rfl | omega) (by omega) _ HT4.out).mono ?_
      rintro e x5 ⟨t5, rfl, ht5, htk5, hch5⟩
      obtain ⟨o1, o2, o3⟩ := dec_step hch5 HO4.out HE4.out HZ4.out
      have HO5 := Lib.hid o1
      have HE5 := Lib.hid o2
      have HZ5 := Lib.hid o3
      have HQ5 := Lib.hid (dec_node hch5 HQ4.out HPD.out)
      obtain ⟨Snn, hSnn⟩ : ∃ x, tkS S3 1 = x := ⟨_, rfl⟩
      rw [hSnn] at htk5
      have HSnn := Lib.hid hSnn
      have HT5 := Lib.hid htk5
      clear o1 o2 o3 htk5 hch5 hSnn
      obtain ⟨nn, hnn⟩ : ∃ x, num (tkV S3 1) = x := ⟨_, rfl⟩
      have Hnn := Lib.hid hnn
      have nn9 : nn ≤ 255 := by rw [← hnn]; exact num_le1 (tkV_len _ _)
      go_wp2_with fail
      refine (number_any t5 (by rw [size_of_toList ht5]; have := tkV_len S3 1; omega) _).mono ?_
      rintro e y ⟨rfl, rfl⟩
      rw [ht5, hnn]
      clear ht5 hnn
      obtain ⟨x6, hx6⟩ : ∃ x, x5.setCell ⟨p, 1, none⟩ (.int .i64 (nn : Int)) = x := ⟨_, rfl⟩
      have r0 : x5.cell? ⟨p, 0, none⟩ = some (.int .i64 (kk : Int)) := HQ5.out.cell 0
      have f0 : x5.frozen? ⟨p, 0, none⟩ = false := HQ5.out.frozen 0
      have r1 : x5.cell? ⟨p, 1, none⟩ = some (.int .i64 0) := HQ5.out.cell 1
      have f1 : x5.frozen? ⟨p, 1, none⟩ = false := HQ5.out.frozen 1
      have r2 : x5.cell? ⟨p, 2, none⟩ = some (.int .i64 0) := HQ5.out.cell 2
      have f2 : x5.frozen? ⟨p, 2, none⟩ = false := HQ5.out.frozen 2
      have r3 : x5.cell? ⟨p, 3, none⟩ = some (.string ⟨#[]⟩) := HQ5.out.cell 3
      have f3 : x5.frozen? ⟨p, 3, none⟩ = false := HQ5.out.frozen 3
      have hch : Chg (fun z => z = p) x5 x6 := by rw [← hx6]; exact Chg.setCell (S := fun z => z = p) _ ⟨p, 1, none⟩ _ rfl
      have HQ6 : Hid (Blk x6 p 30 #[.int .i64 (kk : Int), .int .i64 (nn : Int), .int .i64 0, .string ⟨#[]⟩]) := by rw [← hx6]; exact HQ5.out.set_ 1 (.int .i64 (nn : Int))
      have HO6 := Lib.hid (ownsRow_kept HO5.out (hch.kept (K := fun z => z ≠ p) (fun z h => h)) (fun g hg => HNP.out g hg))
      have HE6 : Hid (Below D w x6) := HE5.out.trans (hch.to_below (fun z h => by have := HPD.out; omega) (by have := HZ5.out; omega))
      have HZ6 : Hid (D + 2 ≤ x6.heap.size) := by have := HZ5.out; have := hch.size; show _ ≤ _; omega
      have HT6 := Lib.hid (HT5.out.stab hch (by have := HPD.out; omega) (by have := HPD.out; omega))
      clear hch
      have q0 : x6.cell? ⟨p, 0, none⟩ = some (.int .i64 (kk : Int)) := HQ6.out.cell 0
      have g0 : x6.frozen? ⟨p, 0, none⟩ = false := HQ6.out.frozen 0
      have q1 : x6.cell? ⟨p, 1, none⟩ = some (.int .i64 (nn : Int)) := HQ6.out.cell 1
      have g1 : x6.frozen? ⟨p, 1, none⟩ = false := HQ6.out.frozen 1
      have q2 : x6.cell? ⟨p, 2, none⟩ = some (.int .i64 0) := HQ6.out.cell 2
      have g2 : x6.frozen? ⟨p, 2, none⟩ = false := HQ6.out.frozen 2
      have q3 : x6.cell? ⟨p, 3, none⟩ = some (.string ⟨#[]⟩) := HQ6.out.cell 3
      have g3 : x6.frozen? ⟨p, 3, none⟩ = false := HQ6.out.frozen 3
      obtain ⟨nd, hnd⟩ : ∃ nd : Nd, (⟨(kk : Int), (nn : Int), 0, ⟨#[]⟩⟩ : Nd) = nd := ⟨_, rfl⟩
      have hst4 : st4 st = Snn := by
        unfold st4 st3 st2 st1
        rw [HKN.out, HE1.out, HE2.out, HE3.out]
        simp only [sN_t, sN_f, sS_t, sS_f]
        rw [HSJ.out, HS3.out, HSnn.out]
      have hndt : ndT st = nd := by
        rw [← hnd]
        unfold ndT st3 st2 st1
        rw [HKN.out, HE1.out, HE2.out, HE3.out]
        simp only [sN_t, sN_f, nN_t, nN_f, nS_t, nS_f]
        rw [HSJ.out, HS3.out]
        all_goals simp only [HSnn.out, Hnn.out]
        all_goals rfl
      have hnv : nodeV nd = [.int .i64 (kk : Int), .int .i64 (nn : Int), .int .i64 0, .string ⟨#[]⟩] := by rw [← hnd]; rfl
      have HST4 := Lib.hid hst4
      have HNDT := Lib.hid hndt
      have HNV := Lib.hid hnv
      clear hst4 hndt hnv hnd
      have HA1 : Hid ((x6.alloc (.cells #[.int .i64 (kk : Int), .int .i64 (nn : Int), .int .i64 0, .string ⟨#[]⟩] 30)).ownsRow (D + 2) 30 4 (.slice ao L.length co) L.length (L.flatMap nodeV)) := ownsRow_below HO6.out ((Below.refl _ _).alloc (Nat.le_refl _) _) (fun g hg => (HO6.out.lt g hg).2)
      have HA2 : Hid (RowAt (x6.alloc (.cells #[.int .i64 (kk : Int), .int .i64 (nn : Int), .int .i64 0, .string ⟨#[]⟩] 30)) 4 (.slice (some ⟨x6.heap.size, 0, none⟩) 1 1) 1 (nodeV nd)) := by
        show RowAt _ _ _ _ _
        rw [HNV.out]
        have h := RowAt.lit (size := 4) x6 30 #[.int .i64 (kk : Int), .int .i64 (nn : Int), .int .i64 0, .string ⟨#[]⟩] 1 rfl (by unfold maxLen; omega)
        skip
        exact h
      have HA3 : Hid (∀ u, u ∈ nodeV nd → u.oneCell' = true) := nodeV_each nd
      have hA4 : (L.length + 1) * 40 ≤ 140737488355328 := by have := HLL.out; omega
      have hA5 : L.length + 1 ≤ maxLen := by have := HLL.out; unfold maxLen; omega
      have hA6 : D + 2 ≤ (x6.alloc (.cells #[.int .i64 (kk : Int), .int .i64 (nn : Int), .int .i64 0, .string ⟨#[]⟩] 30)).heap.size := by have := HZ6.out; simp; omega
      go_wp2_with (at_builtin; go_must (refine wpList_append_row rfl (.tmp 56) (.tmp 58) 22 rfl (D + 2) 30 i0 (.agg #[.int .i64 0, .int .i64 0, .int .i64 0, .string ByteArray.empty]) 4 40 Tryd.underlying22 hi jz0 jz1 jz2 rfl (by decide) (.slice ao L.length co) L.length (L.flatMap nodeV) rfl HA1.out (.slice (some ⟨x6.heap.size, 0, none⟩) 1 1) 1 (nodeV nd) rfl HA2.out HA3.out hA4 hA5 hA6 ?_); intro v5 w5 hown5 hg5 hat5; obtain ⟨a5, c5, rfl, _⟩ := (RowAt.of_own hown5).form; have HST5 := Lib.hid hown5; have HG5 := Lib.hid hg5; clear hown5 hg5 hat5)
      go_roundw
      case rel => exact dec_next hlt (by go_num) HDN1.out HST4.out HNDT.out HSL.out HT6.out ((Below.refl _ _).alloc (Nat.le_refl _) _) HO6.out HST5.out HG5.out HE6.out HZ6.out
      case measure => simp [intOf]; omega
    · have tok : True := trivial
      have hmk : maskB kk = 4 := by unfold maskB; rw [e1, e2, e3]; rfl
      have HE1 := Lib.hid e1
      have HE2 := Lib.hid e2
      have HE3 := Lib.hid e3
      clear e1 e2 e3
      have r4 := HMK.out
      have r5 := HM3.out
      rw [hmk] at r4 r5
      clear hmk
      go_wp2_with fail
      rw [HX4.out, HP.out]
      clear r4 r5
      refine (take_lit (D + 1) D S3 1 _ (by first | rfl | omega) (by omega) _ HT4.out).mono ?_
      rintro e x5 ⟨t5, rfl, ht5, htk5, hch5⟩
      obtain ⟨o1, o2, o3⟩ := dec_step hch5 HO4.out HE4.out HZ4.out
      have HO5 := Lib.hid o1
      have HE5 := Lib.hid o2
      have HZ5 := Lib.hid o3
      have HQ5 := Lib.hid (dec_node hch5 HQ4.out HPD.out)
      obtain ⟨Sa, hSa⟩ : ∃ x, tkS S3 1 = x := ⟨_, rfl⟩
      rw [hSa] at htk5
      have HSa := Lib.hid hSa
      have HT5 := Lib.hid htk5
      clear o1 o2 o3 htk5 hch5 hSa
      obtain ⟨ss, hss⟩ : ∃ x, num (tkV S3 1) = x := ⟨_, rfl⟩
      have Hss := Lib.hid hss
      have ss9 : ss ≤ 255 := by rw [← hss]; exact num_le1 (tkV_len _ _)
      go_wp2_with fail
      refine (number_any t5 (by rw [size_of_toList ht5]; have := tkV_len S3 1; omega) _).mono ?_
      rintro e y ⟨rfl, rfl⟩
      rw [ht5, hss]
      clear ht5 hss
      go_wp2_with fail
      refine (take_lit (D + 1) D Sa ss _ (by first | rfl | omega) (by omega) _ HT5.out).mono ?_
      rintro e x6 ⟨t6, rfl, ht6, htk6, hch6⟩
      obtain ⟨o1, o2, o3⟩ := dec_step hch6 HO5.out HE5.out HZ5.out
      have HO6 := Lib.hid o1
      have HE6 := Lib.hid o2
      have HZ6 := Lib.hid o3
      have HQ6 := Lib.hid (dec_node hch6 HQ5.out HPD.out)
      obtain ⟨Sb, hSb⟩ : ∃ x, tkS Sa ss = x := ⟨_, rfl⟩
      rw [hSb] at htk6
      have HSb := Lib.hid hSb
      have HT6 := Lib.hid htk6
      clear o1 o2 o3 htk6 hch6 hSb
      have HTX := Lib.hid (text_eq ht6)
      clear ht6
      obtain ⟨x7, hx7⟩ : ∃ x, x6.setCell ⟨p, 3, none⟩ (.string t6) = x := ⟨_, rfl⟩
      have r0 : x6.cell? ⟨p, 0, none⟩ = some (.int .i64 (kk : Int)) := HQ6.out.cell 0
      have f0 : x6.frozen? ⟨p, 0, none⟩ = false := HQ6.out.frozen 0
      have r1 : x6.cell? ⟨p, 1, none⟩ = some (.int .i64 0) := HQ6.out.cell 1
      have f1 : x6.frozen? ⟨p, 1, none⟩ = false := HQ6.out.frozen 1
      have r2 : x6.cell? ⟨p, 2, none⟩ = some (.int .i64 0) := HQ6.out.cell 2
      have f2 : x6.frozen? ⟨p, 2, none⟩ = false := HQ6.out.frozen 2
      have r3 : x6.cell? ⟨p, 3, none⟩ = some (.string ⟨#[]⟩) := HQ6.out.cell 3
      have f3 : x6.frozen? ⟨p, 3, none⟩ = false := HQ6.out.frozen 3
      have hch : Chg (fun z => z = p) x6 x7 := by rw [← hx7]; exact Chg.setCell (S := fun z => z = p) _ ⟨p, 3, none⟩ _ rfl
      have HQ7 : Hid (Blk x7 p 30 #[.int .i64 (kk : Int), .int .i64 0, .int .i64 0, .string t6]) := by rw [← hx7]; exact HQ6.out.set_ 3 (.string t6)
      have HO7 := Lib.hid (ownsRow_kept HO6.out (hch.kept (K := fun z => z ≠ p) (fun z h => h)) (fun g hg => HNP.out g hg))
      have HE7 : Hid (Below D w x7) := HE6.out.trans (hch.to_below (fun z h => by have := HPD.out; omega) (by have := HZ6.out; omega))
      have HZ7 : Hid (D + 2 ≤ x7.heap.size) := by have := HZ6.out; have := hch.size; show _ ≤ _; omega
      have HT7 := Lib.hid (HT6.out.stab hch (by have := HPD.out; omega) (by have := HPD.out; omega))
      clear hch
      have q0 : x7.cell? ⟨p, 0, none⟩ = some (.int .i64 (kk : Int)) := HQ7.out.cell 0
      have g0 : x7.frozen? ⟨p, 0, none⟩ = false := HQ7.out.frozen 0
      have q1 : x7.cell? ⟨p, 1, none⟩ = some (.int .i64 0) := HQ7.out.cell 1
      have g1 : x7.frozen? ⟨p, 1, none⟩ = false := HQ7.out.frozen 1
      have q2 : x7.cell? ⟨p, 2, none⟩ = some (.int .i64 0) := HQ7.out.cell 2
      have g2 : x7.frozen? ⟨p, 2, none⟩ = false := HQ7.out.frozen 2
      have q3 : x7.cell? ⟨p, 3, none⟩ = some (.string t6) := HQ7.out.cell 3
      have g3 : x7.frozen? ⟨p, 3, none⟩ = false := HQ7.out.frozen 3
      obtain ⟨nd, hnd⟩ : ∃ nd : Nd, (⟨(kk : Int), 0, 0, t6⟩ : Nd) = nd := ⟨_, rfl⟩
      have hst4 : st4 st = Sb := by
        unfold st4 st3 st2 st1
        rw [HKN.out, HE1.out, HE2.out, HE3.out]
        simp only [sN_t, sN_f, sS_t, sS_f]
        rw [HSJ.out, HS3.out, HSa.out, Hss.out, HSb.out]
      have hndt : ndT st = nd := by
        rw [← hnd]
        unfold ndT st3 st2 st1
        rw [HKN.out, HE1.out, HE2.out, HE3.out]
        simp only [sN_t, sN_f, nN_t, nN_f, nS_t, nS_f]
        rw [HSJ.out, HS3.out]
        all_goals simp only [HSa.out, Hss.out, HSb.out, Hss.out, HSa.out, HTX.out]
        all_goals rfl
      have hnv : nodeV nd = [.int .i64 (kk : Int), .int .i64 0, .int .i64 0, .string t6] := by rw [← hnd]; rfl
      have HST4 := Lib.hid hst4
      have HNDT := Lib.hid hndt
      have HNV := Lib.hid hnv
      clear hst4 hndt hnv hnd
      have HA1 : Hid ((x7.alloc (.cells #[.int .i64 (kk : Int), .int .i64 0, .int .i64 0, .string t6] 30)).ownsRow (D + 2) 30 4 (.slice ao L.length co) L.length (L.flatMap nodeV)) := ownsRow_below HO7.out ((Below.refl _ _).alloc (Nat.le_refl _) _) (fun g hg => (HO7.out.lt g hg).2)
      have HA2 : Hid (RowAt (x7.alloc (.cells #[.int .i64 (kk : Int), .int .i64 0, .int .i64 0, .string t6] 30)) 4 (.slice (some ⟨x7.heap.size, 0, none⟩) 1 1) 1 (nodeV nd)) := by
        show RowAt _ _ _ _ _
        rw [HNV.out]
        have h := RowAt.lit (size := 4) x7 30 #[.int .i64 (kk : Int), .int .i64 0, .int .i64 0, .string t6] 1 rfl (by unfold maxLen; omega)
        skip
        exact h
      have HA3 : Hid (∀ u, u ∈ nodeV nd → u.oneCell' = true) := nodeV_each nd
      have hA4 : (L.length + 1) * 40 ≤ 140737488355328 := by have := HLL.out; omega
      have hA5 : L.length + 1 ≤ maxLen := by have := HLL.out; unfold maxLen; omega
      have hA6 : D + 2 ≤ (x7.alloc (.cells #[.int .i64 (kk : Int), .int .i64 0, .int .i64 0, .string t6] 30)).heap.size := by have := HZ7.out; simp; omega
      go_wp2_with (at_builtin; go_must (refine wpList_append_row rfl (.tmp 56) (.tmp 58) 22 rfl (D + 2) 30 i0 (.agg #[.int .i64 0, .int .i64 0, .int .i64 0, .string ByteArray.empty]) 4 40 Tryd.underlying22 hi jz0 jz1 jz2 rfl (by decide) (.slice ao L.length co) L.length (L.flatMap nodeV) rfl HA1.out (.slice (some ⟨x7.heap.size, 0, none⟩) 1 1) 1 (nodeV nd) rfl HA2.out HA3.out hA4 hA5 hA6 ?_); intro v5 w5 hown5 hg5 hat5; obtain ⟨a5, c5, rfl, _⟩ := (RowAt.of_own hown5).form; have HST5 := Lib.hid hown5; have HG5 := Lib.hid hg5; clear hown5 hg5 hat5)
      go_roundw
      case rel => exact dec_next hlt (by go_num) HDN1.out HST4.out HNDT.out HSL.out HT7.out ((Below.refl _ _).alloc (Nat.le_refl _) _) HO7.out HST5.out HG5.out HE7.out HZ7.out
      case measure => simp [intOf]; omega
    · have tok : True := trivial
      have hmk : maskB kk = 0 := by unfold maskB; rw [e1, e2, e3]; rfl
      have HE1 := Lib.hid e1
      have HE2 := Lib.hid e2
      have HE3 := Lib.hid e3
      clear e1 e2 e3
      have r4 := HMK.out
      have r5 := HM3.out
      rw [hmk] at r4 r5
      clear hmk
      rw [← HX4.out] at HO4 HE4 HZ4 HT4
      obtain ⟨nd, hnd⟩ : ∃ nd : Nd, (⟨(kk : Int), 0, 0, ⟨#[]⟩⟩ : Nd) = nd := ⟨_, rfl⟩
      have hst4 : st4 st = S3 := by
        unfold st4 st3 st2 st1
        rw [HKN.out, HE1.out, HE2.out, HE3.out]
        simp only [sN_t, sN_f, sS_t, sS_f]
        rw [HSJ.out, HS3.out]
      have hndt : ndT st = nd := by
        rw [← hnd]
        unfold ndT st3 st2 st1
        rw [HKN.out, HE1.out, HE2.out, HE3.out]
        rfl
      have hnv : nodeV nd = [.int .i64 (kk : Int), .int .i64 0, .int .i64 0, .string ⟨#[]⟩] := by rw [← hnd]; rfl
      have HST4 := Lib.hid hst4
      have HNDT := Lib.hid hndt
      have HNV := Lib.hid hnv
      clear hst4 hndt hnv hnd
      have HA1 : Hid (((x3.alloc (.cells #[.int .i64 (kk : Int), .int .i64 0, .int .i64 0, .string ⟨#[]⟩] 30)).alloc (.cells #[.int .i64 (kk : Int), .int .i64 0, .int .i64 0, .string ⟨#[]⟩] 30)).ownsRow (D + 2) 30 4 (.slice ao L.length co) L.length (L.flatMap nodeV)) := ownsRow_below HO4.out ((Below.refl _ _).alloc (Nat.le_refl _) _) (fun g hg => (HO4.out.lt g hg).2)
      have HA2 : Hid (RowAt ((x3.alloc (.cells #[.int .i64 (kk : Int), .int .i64 0, .int .i64 0, .string ⟨#[]⟩] 30)).alloc (.cells #[.int .i64 (kk : Int), .int .i64 0, .int .i64 0, .string ⟨#[]⟩] 30)) 4 (.slice (some ⟨x3.heap.size + 1, 0, none⟩) 1 1) 1 (nodeV nd)) := by
        show RowAt _ _ _ _ _
        rw [HNV.out]
        have h := RowAt.lit (size := 4) (x3.alloc (.cells #[.int .i64 (kk : Int), .int .i64 0, .int .i64 0, .string ⟨#[]⟩] 30)) 30 #[.int .i64 (kk : Int), .int .i64 0, .int .i64 0, .string ⟨#[]⟩] 1 rfl (by unfold maxLen; omega)
        rw [World.size_alloc] at h
        exact h
      have HA3 : Hid (∀ u, u ∈ nodeV nd → u.oneCell' = true) := nodeV_each nd
      have hA4 : (L.length + 1) * 40 ≤ 140737488355328 := by have := HLL.out; omega
      have hA5 : L.length + 1 ≤ maxLen := by have := HLL.out; unfold maxLen; omega
      have hA6 : D + 2 ≤ ((x3.alloc (.cells #[.int .i64 (kk : Int), .int .i64 0, .int .i64 0, .string ⟨#[]⟩] 30)).alloc (.cells #[.int .i64 (kk : Int), .int .i64 0, .int .i64 0, .string ⟨#[]⟩] 30)).heap.size := by have := HZ3.out; simp; omega
      go_wp2_with (at_builtin; go_must (refine wpList_append_row rfl (.tmp 56) (.tmp 58) 22 rfl (D + 2) 30 i0 (.agg #[.int .i64 0, .int .i64 0, .int .i64 0, .string ByteArray.empty]) 4 40 Tryd.underlying22 hi jz0 jz1 jz2 rfl (by decide) (.slice ao L.length co) L.length (L.flatMap nodeV) rfl HA1.out (.slice (some ⟨x3.heap.size + 1, 0, none⟩) 1 1) 1 (nodeV nd) rfl HA2.out HA3.out hA4 hA5 hA6 ?_); intro v5 w5 hown5 hg5 hat5; obtain ⟨a5, c5, rfl, _⟩ := (RowAt.of_own hown5).form; have HST5 := Lib.hid hown5; have HG5 := Lib.hid hg5; clear hown5 hg5 hat5)
      go_roundw
      case rel => exact dec_next hlt (by go_num) HDN1.out HST4.out HNDT.out HSL.out HT4.out ((Below.refl _ _).alloc (Nat.le_refl _) _) HO4.out HST5.out HG5.out HE4.out HZ4.out
      case measure => simp [intOf]; omega
    · have tok : True := trivial
      have hmk : maskB kk = 7 := by unfold maskB; rw [e1, e2, e3]; rfl
      have HE1 := Lib.hid e1
      have HE2 := Lib.hid e2
      have HE3 := Lib.hid e3
      clear e1 e2 e3
      have r4 := HMK.out
      have r5 := HM3.out
      rw [hmk] at r4 r5
      clear hmk
      go_wp2_with fail
      rw [HX4.out, HP.out]
      clear r4 r5
      refine (take_lit (D + 1) D S3 1 _ (by first | rfl | omega) (by omega) _ HT4.out).mono ?_
      rintro e x5 ⟨t5, rfl, ht5, htk5, hch5⟩
      obtain ⟨o1, o2, o3⟩ := dec_step hch5 HO4.out HE4.out HZ4.out
      have HO5 := Lib.hid o1
      have HE5 := Lib.hid o2
      have HZ5 := Lib.hid o3
      have HQ5 := Lib.hid (dec_node hch5 HQ4.out HPD.out)
      obtain ⟨Snn, hSnn⟩ : ∃ x, tkS S3 1 = x := ⟨_, rfl⟩
      rw [hSnn] at htk5
      have HSnn := Lib.hid hSnn
      have HT5 := Lib.hid htk5
      clear o1 o2 o3 htk5 hch5 hSnn
      obtain ⟨nn, hnn⟩ : ∃ x, num (tkV S3 1) = x := ⟨_, rfl⟩
      have Hnn := Lib.hid hnn
      have nn9 : nn ≤ 255 := by rw [← hnn]; exact num_le1 (tkV_len _ _)
      go_wp2_with fail
      refine (number_any t5 (by rw [size_of_toList ht5]; have := tkV_len S3 1; omega) _).mono ?_
      rintro e y ⟨rfl, rfl⟩
      rw [ht5, hnn]
      clear ht5 hnn
      obtain ⟨x6, hx6⟩ : ∃ x, x5.setCell ⟨p, 1, none⟩ (.int .i64 (nn : Int)) = x := ⟨_, rfl⟩
      have r0 : x5.cell? ⟨p, 0, none⟩ = some (.int .i64 (kk : Int)) := HQ5.out.cell 0
      have f0 : x5.frozen? ⟨p, 0, none⟩ = false := HQ5.out.frozen 0
      have r1 : x5.cell? ⟨p, 1, none⟩ = some (.int .i64 0) := HQ5.out.cell 1
      have f1 : x5.frozen? ⟨p, 1, none⟩ = false := HQ5.out.frozen 1
      have r2 : x5.cell? ⟨p, 2, none⟩ = some (.int .i64 0) := HQ5.out.cell 2
      have f2 : x5.frozen? ⟨p, 2, none⟩ = false := HQ5.out.frozen 2
      have r3 : x5.cell? ⟨p, 3, none⟩ = some (.string ⟨#[]⟩) := HQ5.out.cell 3
      have f3 : x5.frozen? ⟨p, 3, none⟩ = false := HQ5.out.frozen 3
      have hch : Chg (fun z => z = p) x5 x6 := by rw [← hx6]; exact Chg.setCell (S := fun z => z = p) _ ⟨p, 1, none⟩ _ rfl
      have HQ6 : Hid (Blk x6 p 30 #[.int .i64 (kk : Int), .int .i64 (nn : Int), .int .i64 0, .string ⟨#[]⟩]) := by rw [← hx6]; exact HQ5.out.set_ 1 (.int .i64 (nn : Int))
      have HO6 := Lib.hid (ownsRow_kept HO5.out (hch.kept (K := fun z => z ≠ p) (fun z h => h)) (fun g hg => HNP.out g hg))
      have HE6 : Hid (Below D w x6) := HE5.out.trans (hch.to_below (fun z h => by have := HPD.out; omega) (by have := HZ5.out; omega))
      have HZ6 : Hid (D + 2 ≤ x6.heap.size) := by have := HZ5.out; have := hch.size; show _ ≤ _; omega
      have HT6 := Lib.hid (HT5.out.stab hch (by have := HPD.out; omega) (by have := HPD.out; omega))
      clear hch
      go_wp2_with fail
      clear r0 f0 r1 f1 r2 f2 r3 f3 hx6
      refine (take_lit (D + 1) D Snn 1 _ (by first | rfl | omega) (by omega) _ HT6.out).mono ?_
      rintro e x7 ⟨t7, rfl, ht7, htk7, hch7⟩
      obtain ⟨o1, o2, o3⟩ := dec_step hch7 HO6.out HE6.out HZ6.out
      have HO7 := Lib.hid o1
      have HE7 := Lib.hid o2
      have HZ7 := Lib.hid o3
      have HQ7 := Lib.hid (dec_node hch7 HQ6.out HPD.out)
      obtain ⟨Smm, hSmm⟩ : ∃ x, tkS Snn 1 = x := ⟨_, rfl⟩
      rw [hSmm] at htk7
      have HSmm := Lib.hid hSmm
      have HT7 := Lib.hid htk7
      clear o1 o2 o3 htk7 hch7 hSmm
      obtain ⟨mm, hmm⟩ : ∃ x, num (tkV Snn 1) = x := ⟨_, rfl⟩
      have Hmm := Lib.hid hmm
      have mm9 : mm ≤ 255 := by rw [← hmm]; exact num_le1 (tkV_len _ _)
      go_wp2_with fail
      refine (number_any t7 (by rw [size_of_toList ht7]; have := tkV_len Snn 1; omega) _).mono ?_
      rintro e y ⟨rfl, rfl⟩
      rw [ht7, hmm]
      clear ht7 hmm
      obtain ⟨x8, hx8⟩ : ∃ x, x7.setCell ⟨p, 2, none⟩ (.int .i64 (mm : Int)) = x := ⟨_, rfl⟩
      have r0 : x7.cell? ⟨p, 0, none⟩ = some (.int .i64 (kk : Int)) := HQ7.out.cell 0
      have f0 : x7.frozen? ⟨p, 0, none⟩ = false := HQ7.out.frozen 0
      have r1 : x7.cell? ⟨p, 1, none⟩ = some (.int .i64 (nn : Int)) := HQ7.out.cell 1
      have f1 : x7.frozen? ⟨p, 1, none⟩ = false := HQ7.out.frozen 1
      have r2 : x7.cell? ⟨p, 2, none⟩ = some (.int .i64 0) := HQ7.out.cell 2
      have f2 : x7.frozen? ⟨p, 2, none⟩ = false := HQ7.out.frozen 2
      have r3 : x7.cell? ⟨p, 3, none⟩ = some (.string ⟨#[]⟩) := HQ7.out.cell 3
      have f3 : x7.frozen? ⟨p, 3, none⟩ = false := HQ7.out.frozen 3
      have hch : Chg (fun z => z = p) x7 x8 := by rw [← hx8]; exact Chg.setCell (S := fun z => z = p) _ ⟨p, 2, none⟩ _ rfl
      have HQ8 : Hid (Blk x8 p 30 #[.int .i64 (kk : Int), .int .i64 (nn : Int), .int .i64 (mm : Int), .string ⟨#[]⟩]) := by rw [← hx8]; exact HQ7.out.set_ 2 (.int .i64 (mm : Int))
      have HO8 := Lib.hid (ownsRow_kept HO7.out (hch.kept (K := fun z => z ≠ p) (fun z h => h)) (fun g hg => HNP.out g hg))
      have HE8 : Hid (Below D w x8) := HE7.out.trans (hch.to_below (fun z h => by have := HPD.out; omega) (by have := HZ7.out; omega))
      have HZ8 : Hid (D + 2 ≤ x8.heap.size) := by have := HZ7.out; have := hch.size; show _ ≤ _; omega
      have HT8 := Lib.hid (HT7.out.stab hch (by have := HPD.out; omega) (by have := HPD.out; omega))
      clear hch
      go_wp2_with fail
      clear r0 f0 r1 f1 r2 f2 r3 f3 hx8
      refine (take_lit (D + 1) D Smm 1 _ (by first | rfl | omega) (by omega) _ HT8.out).mono ?_
      rintro e x9 ⟨t9, rfl, ht9, htk9, hch9⟩
      obtain ⟨o1, o2, o3⟩ := dec_step hch9 HO8.out HE8.out HZ8.out
      have HO9 := Lib.hid o1
      have HE9 := Lib.hid o2
      have HZ9 := Lib.hid o3
      have HQ9 := Lib.hid (dec_node hch9 HQ8.out HPD.out)
      obtain ⟨Sa, hSa⟩ : ∃ x, tkS Smm 1 = x := ⟨_, rfl⟩
      rw [hSa] at htk9
      have HSa := Lib.hid hSa
      have HT9 := Lib.hid htk9
      clear o1 o2 o3 htk9 hch9 hSa
      obtain ⟨ss, hss⟩ : ∃ x, num (tkV Smm 1) = x := ⟨_, rfl⟩
      have Hss := Lib.hid hss
      have ss9 : ss ≤ 255 := by rw [← hss]; exact num_le1 (tkV_len _ _)
      go_wp2_with fail
      refine (number_any t9 (by rw [size_of_toList ht9]; have := tkV_len Smm 1; omega) _).mono ?_
      rintro e y ⟨rfl, rfl⟩
      rw [ht9, hss]
      clear ht9 hss
      go_wp2_with fail
      refine (take_lit (D + 1) D Sa ss _ (by first | rfl | omega) (by omega) _ HT9.out).mono ?_
      rintro e x10 ⟨t10, rfl, ht10, htk10, hch10⟩
      obtain ⟨o1, o2, o3⟩ := dec_step hch10 HO9.out HE9.out HZ9.out
      have HO10 := Lib.hid o1
      have HE10 := Lib.hid o2
      have HZ10 := Lib.hid o3
      have HQ10 := Lib.hid (dec_node hch10 HQ9.out HPD.out)
      obtain ⟨Sb, hSb⟩ : ∃ x, tkS Sa ss = x := ⟨_, rfl⟩
      rw [hSb] at htk10
      have HSb := Lib.hid hSb
      have HT10 := Lib.hid htk10
      clear o1 o2 o3 htk10 hch10 hSb
      have HTX := Lib.hid (text_eq ht10)
      clear ht10
      obtain ⟨x11, hx11⟩ : ∃ x, x10.setCell ⟨p, 3, none⟩ (.string t10) = x := ⟨_, rfl⟩
      have r0 : x10.cell? ⟨p, 0, none⟩ = some (.int .i64 (kk : Int)) := HQ10.out.cell 0
      have f0 : x10.frozen? ⟨p, 0, none⟩ = false := HQ10.out.frozen 0
      have r1 : x10.cell? ⟨p, 1, none⟩ = some (.int .i64 (nn : Int)) := HQ10.out.cell 1
      have f1 : x10.frozen? ⟨p, 1, none⟩ = false := HQ10.out.frozen 1
      have r2 : x10.cell? ⟨p, 2, none⟩ = some (.int .i64 (mm : Int)) := HQ10.out.cell 2
      have f2 : x10.frozen? ⟨p, 2, none⟩ = false := HQ10.out.frozen 2
      have r3 : x10.cell? ⟨p, 3, none⟩ = some (.string ⟨#[]⟩) := HQ10.out.cell 3
      have f3 : x10.frozen? ⟨p, 3, none⟩ = false := HQ10.out.frozen 3
      have hch : Chg (fun z => z = p) x10 x11 := by rw [← hx11]; exact Chg.setCell (S := fun z => z = p) _ ⟨p, 3, none⟩ _ rfl
      have HQ11 : Hid (Blk x11 p 30 #[.int .i64 (kk : Int), .int .i64 (nn : Int), .int .i64 (mm : Int), .string t10]) := by rw [← hx11]; exact HQ10.out.set_ 3 (.string t10)
      have HO11 := Lib.hid (ownsRow_kept HO10.out (hch.kept (K := fun z => z ≠ p) (fun z h => h)) (fun g hg => HNP.out g hg))
      have HE11 : Hid (Below D w x11) := HE10.out.trans (hch.to_below (fun z h => by have := HPD.out; omega) (by have := HZ10.out; omega))
      have HZ11 : Hid (D + 2 ≤ x11.heap.size) := by have := HZ10.out; have := hch.size; show _ ≤ _; omega
      have HT11 := Lib.hid (HT10.out.stab hch (by have := HPD.out; omega) (by have := HPD.out; omega))
      clear hch
      have q0 : x11.cell? ⟨p, 0, none⟩ = some (.int .i64 (kk : Int)) := HQ11.out.cell 0
      have g0 : x11.frozen? ⟨p, 0, none⟩ = false := HQ11.out.frozen 0
      have q1 : x11.cell? ⟨p, 1, none⟩ = some (.int .i64 (nn : Int)) := HQ11.out.cell 1
      have g1 : x11.frozen? ⟨p, 1, none⟩ = false := HQ11.out.frozen 1
      have q2 : x11.cell? ⟨p, 2, none⟩ = some (.int .i64 (mm : Int)) := HQ11.out.cell 2
      have g2 : x11.frozen? ⟨p, 2, none⟩ = false := HQ11.out.frozen 2
      have q3 : x11.cell? ⟨p, 3, none⟩ = some (.string t10) := HQ11.out.cell 3
      have g3 : x11.frozen? ⟨p, 3, none⟩ = false := HQ11.out.frozen 3
      obtain ⟨nd, hnd⟩ : ∃ nd : Nd, (⟨(kk : Int), (nn : Int), (mm : Int), t10⟩ : Nd) = nd := ⟨_, rfl⟩
      have hst4 : st4 st = Sb := by
        unfold st4 st3 st2 st1
        rw [HKN.out, HE1.out, HE2.out, HE3.out]
        simp only [sN_t, sN_f, sS_t, sS_f]
        rw [HSJ.out, HS3.out, HSnn.out, HSmm.out, HSa.out, Hss.out, HSb.out]
      have hndt : ndT st = nd := by
        rw [← hnd]
        unfold ndT st3 st2 st1
        rw [HKN.out, HE1.out, HE2.out, HE3.out]
        simp only [sN_t, sN_f, nN_t, nN_f, nS_t, nS_f]
        rw [HSJ.out, HS3.out]
        all_goals simp only [HSnn.out, HSmm.out, HSa.out, Hss.out, HSb.out, Hnn.out, Hmm.out, Hss.out, HSa.out, HTX.out]
        all_goals rfl
      have hnv : nodeV nd = [.int .i64 (kk : Int), .int .i64 (nn : Int), .int .i64 (mm : Int), .string t10] := by rw [← hnd]; rfl
      have HST4 := Lib.hid hst4
      have HNDT := Lib.hid hndt
      have HNV := Lib.hid hnv
      clear hst4 hndt hnv hnd
      have HA1 : Hid ((x11.alloc (.cells #[.int .i64 (kk : Int), .int .i64 (nn : Int), .int .i64 (mm : Int), .string t10] 30)).ownsRow (D + 2) 30 4 (.slice ao L.length co) L.length (L.flatMap nodeV)) := ownsRow_below HO11.out ((Below.refl _ _).alloc (Nat.le_refl _) _) (fun g hg => (HO11.out.lt g hg).2)
      have HA2 : Hid (RowAt (x11.alloc (.cells #[.int .i64 (kk : Int), .int .i64 (nn : Int), .int .i64 (mm : Int), .string t10] 30)) 4 (.slice (some ⟨x11.heap.size, 0, none⟩) 1 1) 1 (nodeV nd)) := by
        show RowAt _ _ _ _ _
        rw [HNV.out]
        have h := RowAt.lit (size := 4) x11 30 #[.int .i64 (kk : Int), .int .i64 (nn : Int), .int .i64 (mm : Int), .string t10] 1 rfl (by unfold maxLen; omega)
        skip
        exact h
      have HA3 : Hid (∀ u, u ∈ nodeV nd → u.oneCell' = true) := nodeV_each nd
      have hA4 : (L.length + 1) * 40 ≤ 140737488355328 := by have := HLL.out; omega
      have hA5 : L.length + 1 ≤ maxLen := by have := HLL.out; unfold maxLen; omega
      have hA6 : D + 2 ≤ (x11.alloc (.cells #[.int .i64 (kk : Int), .int .i64 (nn : Int), .int .i64 (mm : Int), .string t10] 30)).heap.size := by have := HZ11.out; simp; omega
      go_wp2_with (at_builtin; go_must (refine wpList_append_row rfl (.tmp 56) (.tmp 58) 22 rfl (D + 2) 30 i0 (.agg #[.int .i64 0, .int .i64 0, .int .i64 0, .string ByteArray.empty]) 4 40 Tryd.underlying22 hi jz0 jz1 jz2 rfl (by decide) (.slice ao L.length co) L.length (L.flatMap nodeV) rfl HA1.out (.slice (some ⟨x11.heap.size, 0, none⟩) 1 1) 1 (nodeV nd) rfl HA2.out HA3.out hA4 hA5 hA6 ?_); intro v5 w5 hown5 hg5 hat5; obtain ⟨a5, c5, rfl, _⟩ := (RowAt.of_own hown5).form; have HST5 := Lib.hid hown5; have HG5 := Lib.hid hg5; clear hown5 hg5 hat5)
      go_roundw
      case rel => exact dec_next hlt (by go_num) HDN1.out HST4.out HNDT.out HSL.out HT11.out ((Below.refl _ _).alloc (Nat.le_refl _) _) HO11.out HST5.out HG5.out HE11.out HZ11.out
      case measure => simp [intOf]; omega
    · have tok : True := trivial
      have hmk : maskB kk = 6 := by unfold maskB; rw [e1, e2, e3]; rfl
      have HE1 := Lib.hid e1
      have HE2 := Lib.hid e2
      have HE3 := Lib.hid e3
      clear e1 e2 e3
      have r4 := HMK.out
      have r5 := HM3.out
      rw [hmk] at r4 r5
      clear hmk
      go_wp2_with fail
      rw [HX4.out, HP.out]
      clear r4 r5
      refine (take_lit (D + 1) D S3 1 _ (by first | rfl | omega) (by omega) _ HT4.out).mono ?_
      rintro e x5 ⟨t5, rfl, ht5, htk5, hch5⟩
      obtain ⟨o1, o2, o3⟩ := dec_step hch5 HO4.out HE4.out HZ4.out
      have HO5 := Lib.hid o1
      have HE5 := Lib.hid o2
      have HZ5 := Lib.hid o3
      have HQ5 := Lib.hid (dec_node hch5 HQ4.out HPD.out)
      obtain ⟨Smm, hSmm⟩ : ∃ x, tkS S3 1 = x := ⟨_, rfl⟩
      rw [hSmm] at htk5
      have HSmm := Lib.hid hSmm
      have HT5 := Lib.hid htk5
      clear o1 o2 o3 htk5 hch5 hSmm
      obtain ⟨mm, hmm⟩ : ∃ x, num (tkV S3 1) = x := ⟨_, rfl⟩
      have Hmm := Lib.hid hmm
      have mm9 : mm ≤ 255 := by rw [← hmm]; exact num_le1 (tkV_len _ _)
      go_wp2_with fail
      refine (number_any t5 (by rw [size_of_toList ht5]; have := tkV_len S3 1; omega) _).mono ?_
      rintro e y ⟨rfl, rfl⟩
      rw [ht5, hmm]
      clear ht5 hmm
      obtain ⟨x6, hx6⟩ : ∃ x, x5.setCell ⟨p, 2, none⟩ (.int .i64 (mm : Int)) = x := ⟨_, rfl⟩
      have r0 : x5.cell? ⟨p, 0, none⟩ = some (.int .i64 (kk : Int)) := HQ5.out.cell 0
      have f0 : x5.frozen? ⟨p, 0, none⟩ = false := HQ5.out.frozen 0
      have r1 : x5.cell? ⟨p, 1, none⟩ = some (.int .i64 0) := HQ5.out.cell 1
      have f1 : x5.frozen? ⟨p, 1, none⟩ = false := HQ5.out.frozen 1
      have r2 : x5.cell? ⟨p, 2, none⟩ = some (.int .i64 0) := HQ5.out.cell 2
      have f2 : x5.frozen? ⟨p, 2, none⟩ = false := HQ5.out.frozen 2
      have r3 : x5.cell? ⟨p, 3, none⟩ = some (.string ⟨#[]⟩) := HQ5.out.cell 3
      have f3 : x5.frozen? ⟨p, 3, none⟩ = false := HQ5.out.frozen 3
      have hch : Chg (fun z => z = p) x5 x6 := by rw [← hx6]; exact Chg.setCell (S := fun z => z = p) _ ⟨p, 2, none⟩ _ rfl
      have HQ6 : Hid (Blk x6 p 30 #[.int .i64 (kk : Int), .int .i64 0, .int .i64 (mm : Int), .string ⟨#[]⟩]) := by rw [← hx6]; exact HQ5.out.set_ 2 (.int .i64 (mm : Int))
      have HO6 := Lib.hid (ownsRow_kept HO5.out (hch.kept (K := fun z => z ≠ p) (fun z h => h)) (fun g hg => HNP.out g hg))
      have HE6 : Hid (Below D w x6) := HE5.out.trans (hch.to_below (fun z h => by have := HPD.out; omega) (by have := HZ5.out; omega))
      have HZ6 : Hid (D + 2 ≤ x6.heap.size) := by have := HZ5.out; have := hch.size; show _ ≤ _; omega
      have HT6 := Lib.hid (HT5.out.stab hch (by have := HPD.out; omega) (by have := HPD.out; omega))
      clear hch
      go_wp2_with fail
      clear r0 f0 r1 f1 r2 f2 r3 f3 hx6
      refine (take_lit (D + 1) D Smm 1 _ (by first | rfl | omega) (by omega) _ HT6.out).mono ?_
      rintro e x7 ⟨t7, rfl, ht7, htk7, hch7⟩
      obtain ⟨o1, o2, o3⟩ := dec_step hch7 HO6.out HE6.out HZ6.out
      have HO7 := Lib.hid o1
      have HE7 := Lib.hid o2
      have HZ7 := Lib.hid o3
      have HQ7 := Lib.hid (dec_node hch7 HQ6.out HPD.out)
      obtain ⟨Sa, hSa⟩ : ∃ x, tkS Smm 1 = x := ⟨_, rfl⟩
      rw [hSa] at htk7
      have HSa := Lib.hid hSa
      have HT7 := Lib.hid htk7
      clear o1 o2 o3 htk7 hch7 hSa
      obtain ⟨ss, hss⟩ : ∃ x, num (tkV Smm 1) = x := ⟨_, rfl⟩
      have Hss := Lib.hid hss
      have ss9 : ss ≤ 255 := by rw [← hss]; exact num_le1 (tkV_len _ _)
      go_wp2_with fail
      refine (number_any t7 (by rw [size_of_toList ht7]; have := tkV_len Smm 1; omega) _).mono ?_
      rintro e y ⟨rfl, rfl⟩
      rw [ht7, hss]
      clear ht7 hss
      go_wp2_with fail
      refine (take_lit (D + 1) D Sa ss _ (by first | rfl | omega) (by omega) _ HT7.out).mono ?_
      rintro e x8 ⟨t8, rfl, ht8, htk8, hch8⟩
      obtain ⟨o1, o2, o3⟩ := dec_step hch8 HO7.out HE7.out HZ7.out
      have HO8 := Lib.hid o1
      have HE8 := Lib.hid o2
      have HZ8 := Lib.hid o3
      have HQ8 := Lib.hid (dec_node hch8 HQ7.out HPD.out)
      obtain ⟨Sb, hSb⟩ : ∃ x, tkS Sa ss = x := ⟨_, rfl⟩
      rw [hSb] at htk8
      have HSb := Lib.hid hSb
      have HT8 := Lib.hid htk8
      clear o1 o2 o3 htk8 hch8 hSb
      have HTX := Lib.hid (text_eq ht8)
      clear ht8
      obtain ⟨x9, hx9⟩ : ∃ x, x8.setCell ⟨p, 3, none⟩ (.string t8) = x := ⟨_, rfl⟩
      have r0 : x8.cell? ⟨p, 0, none⟩ = some (.int .i64 (kk : Int)) := HQ8.out.cell 0
      have f0 : x8.frozen? ⟨p, 0, none⟩ = false := HQ8.out.frozen 0
      have r1 : x8.cell? ⟨p, 1, none⟩ = some (.int .i64 0) := HQ8.out.cell 1
      have f1 : x8.frozen? ⟨p, 1, none⟩ = false := HQ8.out.frozen 1
      have r2 : x8.cell? ⟨p, 2, none⟩ = some (.int .i64 (mm : Int)) := HQ8.out.cell 2
      have f2 : x8.frozen? ⟨p, 2, none⟩ = false := HQ8.out.frozen 2
      have r3 : x8.cell? ⟨p, 3, none⟩ = some (.string ⟨#[]⟩) := HQ8.out.cell 3
      have f3 : x8.frozen? ⟨p, 3, none⟩ = false := HQ8.out.frozen 3
      have hch : Chg (fun z => z = p) x8 x9 := by rw [← hx9]; exact Chg.setCell (S := fun z => z = p) _ ⟨p, 3, none⟩ _ rfl
      have HQ9 : Hid (Blk x9 p 30 #[.int .i64 (kk : Int), .int .i64 0, .int .i64 (mm : Int), .string t8]) := by rw [← hx9]; exact HQ8.out.set_ 3 (.string t8)
      have HO9 := Lib.hid (ownsRow_kept HO8.out (hch.kept (K := fun z => z ≠ p) (fun z h => h)) (fun g hg => HNP.out g hg))
      have HE9 : Hid (Below D w x9) := HE8.out.trans (hch.to_below (fun z h => by have := HPD.out; omega) (by have := HZ8.out; omega))
      have HZ9 : Hid (D + 2 ≤ x9.heap.size) := by have := HZ8.out; have := hch.size; show _ ≤ _; omega
      have HT9 := Lib.hid (HT8.out.stab hch (by have := HPD.out; omega) (by have := HPD.out; omega))
      clear hch
      have q0 : x9.cell? ⟨p, 0, none⟩ = some (.int .i64 (kk : Int)) := HQ9.out.cell 0
      have g0 : x9.frozen? ⟨p, 0, none⟩ = false := HQ9.out.frozen 0
      have q1 : x9.cell? ⟨p, 1, none⟩ = some (.int .i64 0) := HQ9.out.cell 1
      have g1 : x9.frozen? ⟨p, 1, none⟩ = false := HQ9.out.frozen 1
      have q2 : x9.cell? ⟨p, 2, none⟩ = some (.int .i64 (mm : Int)) := HQ9.out.cell 2
      have g2 : x9.frozen? ⟨p, 2, none⟩ = false := HQ9.out.frozen 2
      have q3 : x9.cell? ⟨p, 3, none⟩ = some (.string t8) := HQ9.out.cell 3
      have g3 : x9.frozen? ⟨p, 3, none⟩ = false := HQ9.out.frozen 3
      obtain ⟨nd, hnd⟩ : ∃ nd : Nd, (⟨(kk : Int), 0, (mm : Int), t8⟩ : Nd) = nd := ⟨_, rfl⟩
      have hst4 : st4 st = Sb := by
        unfold st4 st3 st2 st1
        rw [HKN.out, HE1.out, HE2.out, HE3.out]
        simp only [sN_t, sN_f, sS_t, sS_f]
        rw [HSJ.out, HS3.out, HSmm.out, HSa.out, Hss.out, HSb.out]
      have hndt : ndT st = nd := by
        rw [← hnd]
        unfold ndT st3 st2 st1
        rw [HKN.out, HE1.out, HE2.out, HE3.out]
        simp only [sN_t, sN_f, nN_t, nN_f, nS_t, nS_f]
        rw [HSJ.out, HS3.out]
        all_goals simp only [HSmm.out, HSa.out, Hss.out, HSb.out, Hmm.out, Hss.out, HSa.out, HTX.out]
        all_goals rfl
      have hnv : nodeV nd = [.int .i64 (kk : Int), .int .i64 0, .int .i64 (mm : Int), .string t8] := by rw [← hnd]; rfl
      have HST4 := Lib.hid hst4
      have HNDT := Lib.hid hndt
      have HNV := Lib.hid hnv
      clear hst4 hndt hnv hnd
      have HA1 : Hid ((x9.alloc (.cells #[.int .i64 (kk : Int), .int .i64 0, .int .i64 (mm : Int), .string t8] 30)).ownsRow (D + 2) 30 4 (.slice ao L.length co) L.length (L.flatMap nodeV)) := ownsRow_below HO9.out ((Below.refl _ _).alloc (Nat.le_refl _) _) (fun g hg => (HO9.out.lt g hg).2)
      have HA2 : Hid (RowAt (x9.alloc (.cells #[.int .i64 (kk : Int), .int .i64 0, .int .i64 (mm : Int), .string t8] 30)) 4 (.slice (some ⟨x9.heap.size, 0, none⟩) 1 1) 1 (nodeV nd)) := by
        show RowAt _ _ _ _ _
        rw [HNV.out]
        have h := RowAt.lit (size := 4) x9 30 #[.int .i64 (kk : Int), .int .i64 0, .int .i64 (mm : Int), .string t8] 1 rfl (by unfold maxLen; omega)
        skip
        exact h
      have HA3 : Hid (∀ u, u ∈ nodeV nd → u.oneCell' = true) := nodeV_each nd
      have hA4 : (L.length + 1) * 40 ≤ 140737488355328 := by have := HLL.out; omega
      have hA5 : L.length + 1 ≤ maxLen := by have := HLL.out; unfold maxLen; omega
      have hA6 : D + 2 ≤ (x9.alloc (.cells #[.int .i64 (kk : Int), .int .i64 0, .int .i64 (mm : Int), .string t8] 30)).heap.size := by have := HZ9.out; simp; omega
      go_wp2_with (at_builtin; go_must (refine wpList_append_row rfl (.tmp 56) (.tmp 58) 22 rfl (D + 2) 30 i0 (.agg #[.int .i64 0, .int .i64 0, .int .i64 0, .string ByteArray.empty]) 4 40 Tryd.underlying22 hi jz0 jz1 jz2 rfl (by decide) (.slice ao L.length co) L.length (L.flatMap nodeV) rfl HA1.out (.slice (some ⟨x9.heap.size, 0, none⟩) 1 1) 1 (nodeV nd) rfl HA2.out HA3.out hA4 hA5 hA6 ?_); intro v5 w5 hown5 hg5 hat5; obtain ⟨a5, c5, rfl, _⟩ := (RowAt.of_own hown5).form; have HST5 := Lib.hid hown5; have HG5 := Lib.hid hg5; clear hown5 hg5 hat5)
      go_roundw
      case rel => exact dec_next hlt (by go_num) HDN1.out HST4.out HNDT.out HSL.out HT9.out ((Below.refl _ _).alloc (Nat.le_refl _) _) HO9.out HST5.out HG5.out HE9.out HZ9.out
      case measure => simp [intOf]; omega

end Go.Proofs.YtoagedaohdkbdaaDoor
