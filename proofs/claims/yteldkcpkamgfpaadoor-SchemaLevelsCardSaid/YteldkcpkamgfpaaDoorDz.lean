/- cornicelaw17's theirs and great; conditions: the strings' sizes. -/
import Derived.Test.YteldkcpkamgfpaaDoorDy
namespace Go.Proofs.YteldkcpkamgfpaaDoor
set_option linter.unusedSimpArgs false
set_option linter.unusedVariables false
open Go.RowKit

theorem theirs_any (K E : Int) (S : ByteArray) (a1 a2 a3 : Option Addr) (p1 p2 p3 c1' c2' c3' : Nat) (w : World) :
    Calls Tryd.prog 18 #[.agg #[.int .i64 K, .int .i64 E, .string S, .slice a1 p1 c1', .slice a2 p2 c2', .slice a3 p3 c3']] w (RetB (.agg #[.int .i64 K, .int .i64 E, .string S, .slice a1 p1 c1', .slice a2 p2 c2', .slice a3 p3 c3']) w) := by
  obtain ⟨y0, hy0⟩ : ∃ y, w.heap.size = y := ⟨_, rfl⟩
  obtain ⟨W1, hW1⟩ : ∃ m, (w.alloc (.cells #[.int .i64 K, .int .i64 E, .string S, .slice a1 p1 c1', .slice a2 p2 c2', .slice a3 p3 c3'] 36)).alloc (.cells #[.int .i64 K, .int .i64 E, .string S, .slice a1 p1 c1', .slice a2 p2 c2', .slice a3 p3 c3'] 40) = m := ⟨_, rfl⟩
  have b1 : Blk W1 (w.heap.size + 1) 40 #[.int .i64 K, .int .i64 E, .string S, .slice a1 p1 c1', .slice a2 p2 c2', .slice a3 p3 c3'] := by
    rw [← hW1]
    have := Blk.new (w.alloc (.cells #[.int .i64 K, .int .i64 E, .string S, .slice a1 p1 c1', .slice a2 p2 c2', .slice a3 p3 c3'] 36)) 40 #[.int .i64 K, .int .i64 E, .string S, .slice a1 p1 c1', .slice a2 p2 c2', .slice a3 p3 c3']
    rw [World.size_alloc] at this
    exact this
  have hb : Below w.heap.size w W1 := by rw [← hW1]; exact ((Below.refl _ _).alloc (Nat.le_refl _) _).alloc (by simp) _
  have c0 := b1.cell 0
  have c1 := b1.cell 1
  have c2 := b1.cell 2
  have c3 := b1.cell 3
  have c4 := b1.cell 4
  have c5 := b1.cell 5
  simp only [List.getElem?_toArray, List.getElem?_cons_zero, List.getElem?_cons_succ] at c0 c1 c2 c3 c4 c5
  have C0 := Lib.hid c0
  have C1 := Lib.hid c1
  have C2 := Lib.hid c2
  have C3 := Lib.hid c3
  have C4 := Lib.hid c4
  have C5 := Lib.hid c5
  have HB := Lib.hid hb
  have HW1 := Lib.hid hW1
  clear b1 hb c0 c1 c2 c3 c4 c5 hW1 hy0
  go_enter Tryd.func18, Tryd.ntmps18
  go_wp2_with fail
  rw [HW1.out]
  have c0 := C0.out
  have c1 := C1.out
  have c2 := C2.out
  have c3 := C3.out
  have c4 := C4.out
  have c5 := C5.out
  exact bodyPost_ret (v := .agg #[.int .i64 K, .int .i64 E, .string S, .slice a1 p1 c1', .slice a2 p2 c2', .slice a3 p3 c3']) (by simp [results, Tryd.results18, go_sem, c0, c1, c2, c3, c4, c5]) rfl ⟨rfl, HB.out⟩

/-- what great says when it says no -/
def GreatPost (d : Dc) (w : World) (e : Ending) (w' : World) : Prop :=
  (∃ b, e = .returned (.bool b) ∧ (b = false → d.Cons.length ≤ 10 ∧ ∀ c, c ∈ d.Cons → c.length ≤ 10)) ∧ Below w.heap.size w w'

def SmallD (d : Dc) : Prop := SmallN d.Ty ∧ SmallN d.Bd ∧ d.Name.size ≤ maxLen ∧ ∀ c, c ∈ d.Cons → SmallNN c
theorem SmallD.terms {d : Dc} (h : SmallD d) : SmallNN (termsD d) := by
  obtain ⟨h1, h2, _, h3⟩ := h
  unfold termsD
  intro l hl
  split at hl
  · simp at hl
    rcases hl with rfl | rfl
    · exact h1
    · exact h2
  · split at hl
    · simp at hl; subst hl; exact h1
    · split at hl
      · obtain ⟨c, hc, hl⟩ := List.mem_flatten.1 hl
        exact h3 c hc l hl
      · cases hl

set_option maxRecDepth 20000 in
set_option maxHeartbeats 8000000 in
theorem great_any (d : Dc) (vt vb vc : Value) (w : World) (h : DeclV w d vt vb vc) (hs : SmallD d) :
    Calls Tryd.prog 15 #[declV d vt vb vc] w (GreatPost d w) := by
  obtain ⟨a1, c1, rfl⟩ := ReadN.len_slice h.ty
  obtain ⟨a2, c2, rfl⟩ := ReadN.len_slice h.bd
  obtain ⟨a3, n3, rfl⟩ := h.cons.form
  have HH1 : Hid (∀ w', Below w.heap.size w w' → Calls Tryd.prog 8 #[.slice a1 d.Ty.length c1] w' (HeavyPost d.Ty.length 100 w')) := Lib.hid (fun w' hb => heavy17_any d.Ty _ w' (h.ty.below hb) hs.1)
  have HH2 : Hid (∀ w', Below w.heap.size w w' → Calls Tryd.prog 8 #[.slice a2 d.Bd.length c2] w' (HeavyPost d.Bd.length 100 w')) := Lib.hid (fun w' hb => heavy17_any d.Bd _ w' (h.bd.below hb) hs.2.1)
  have HM := Lib.hid hs.2.2.2
  have hz : d.Name.size ≤ 9223372036854775807 := by have := hs.2.2.1; unfold maxLen at this; omega
  have HD := Lib.hid h
  have hm3 : d.Cons.length ≤ 9223372036854775807 := by have := h.cons.shape.1; unfold maxLen at this; omega
  unfold declV
  clear h hs
  obtain ⟨y0, hy0⟩ : ∃ y, w.heap.size = y := ⟨_, rfl⟩
  obtain ⟨W1, hW1⟩ : ∃ m, w.alloc (.cells #[.int .i64 d.Kind, .int .i64 d.Level, .string d.Name, .slice a1 d.Ty.length c1, .slice a2 d.Bd.length c2, .slice a3 d.Cons.length n3] 36) = m := ⟨_, rfl⟩
  have b0 : Blk W1 y0 36 #[.int .i64 d.Kind, .int .i64 d.Level, .string d.Name, .slice a1 d.Ty.length c1, .slice a2 d.Bd.length c2, .slice a3 d.Cons.length n3] := by rw [← hW1, ← hy0]; exact Blk.new _ _ _
  have hb1 : Below w.heap.size w W1 := by rw [← hW1]; exact (Below.refl _ _).alloc (Nat.le_refl _) _
  have k2 := b0.cell 2
  have k3 := b0.cell 3
  have k4 := b0.cell 4
  have k5 := b0.cell 5
  simp only [List.getElem?_toArray, List.getElem?_cons_zero, List.getElem?_cons_succ] at k2 k3 k4 k5
  have HB1 := Lib.hid hb1
  have HV : Hid (ReadNNN W1 (.slice a3 d.Cons.length n3) d.Cons) := HD.out.cons.below hb1
  have C1 := Lib.hid (HH1.out W1 hb1)
  have C2 := Lib.hid (HH2.out W1 hb1)
  clear b0 hb1 HH1 HH2 HD
  obtain ⟨T, hT⟩ : ∃ T, d.Cons = T := ⟨_, rfl⟩
  have HT := Lib.hid hT
  rw [hT] at hW1 k5 HV hm3 HM ⊢
  clear hT
  go_enter Tryd.func15, Tryd.ntmps15
  go_wp2_with (go_at_call 8; refine C1.out.mono ?_)
  rintro e w1 ⟨⟨g1, rfl, _⟩, rfl⟩
  cases g1
  rotate_left
  · go_wp2_with fail
    go_ret
    exact ⟨⟨true, rfl, fun h => by cases h⟩, HB1.out⟩
  go_wp2_with (go_at_call 8; refine C2.out.mono ?_)
  rintro e w1 ⟨⟨g2, rfl, _⟩, rfl⟩
  cases g2
  rotate_left
  · go_wp2_with fail
    go_ret
    exact ⟨⟨true, rfl, fun h => by cases h⟩, HB1.out⟩
  by_cases hn : d.Name.size > 100
  · have e1 : decide ((d.Name.size : Int) > 100) = true := by rw [decide_eq_true_eq]; omega
    go_wp2_with fail
    go_ret
    exact ⟨⟨true, rfl, fun h => by cases h⟩, HB1.out⟩
  have e1 : decide ((d.Name.size : Int) > 100) = false := by rw [decide_eq_false_iff_not]; omega
  by_cases hc : T.length > 10
  · have e2 : decide ((T.length : Int) > 10) = true := by rw [decide_eq_true_eq]; omega
    go_wp2_with fail
    go_ret
    exact ⟨⟨true, rfl, fun h => by cases h⟩, HB1.out⟩
  have e2 : decide ((T.length : Int) > 10) = false := by rw [decide_eq_false_iff_not]; omega
  go_wp2_with fail
  go_loopw [3] (fun x wr => (∃ i : Nat, i ≤ T.length ∧ x = .int .i64 (i : Int) ∧ ∀ c ∈ T.take i, c.length ≤ 10) ∧ wr = W1) (fun x _ => T.length - (intOf x).toNat)
  case atStart => exact ⟨⟨0, Nat.zero_le _, rfl, by simp⟩, rfl⟩
  case round =>
    obtain ⟨⟨i, hi, rfl, hz2⟩, rfl⟩ := hrel
    have HZ2 := Lib.hid hz2
    clear hz2
    by_cases hlt : i < T.length
    · obtain ⟨_, ⟨h0, _⟩ | ⟨b, off, cap, he, hbw⟩⟩ := HV.out.shape
      · subst h0; simp at hlt
      obtain ⟨rfl, rfl⟩ : a3 = some ⟨b, off, none⟩ ∧ n3 = cap := by simpa using he
      obtain ⟨a4, n4, f1, r1⟩ := HV.out.at hlt
      have hqm : (T[i]).length ≤ 9223372036854775807 := by have := r1.shape.1; unfold maxLen at this; omega
      have HM1 := Lib.hid (HM.out _ (List.getElem_mem hlt))
      have R1 := Lib.hid r1
      obtain ⟨ql, hql⟩ : ∃ x, (T[i]).length = x := ⟨_, rfl⟩
      have HQL := Lib.hid hql
      rw [hql] at f1 hqm
      clear r1 he hql
      by_cases hq : ql > 10
      · have e3 : decide ((ql : Int) > 10) = true := by rw [decide_eq_true_eq]; omega
        go_wp2_with fail
        go_ret
        exact ⟨⟨true, rfl, fun h => by cases h⟩, HB1.out⟩
      have e3 : decide ((ql : Int) > 10) = false := by rw [decide_eq_false_iff_not]; omega
      have hnx : ∀ c ∈ T.take (i + 1), c.length ≤ 10 := fun c hc => by
        rw [List.take_succ_eq_append_getElem hlt] at hc
        rcases List.mem_append.1 hc with h | h
        · exact HZ2.out c h
        · simp at h; rw [h, HQL.out]; omega
      have HNX := Lib.hid hnx
      clear hnx
      go_wp2_with fail
      go_loopw [4] (fun x wq => (∃ k : Nat, k ≤ ql ∧ x = .int .i64 (k : Int)) ∧ wq = wr) (fun x _ => ql - (intOf x).toNat)
      case atStart => exact ⟨⟨0, Nat.zero_le _, rfl⟩, rfl⟩
      case round =>
        obtain ⟨⟨k, hk, rfl⟩, rfl⟩ := hrel
        by_cases hkl : k < ql
        · have hkT : k < (T[i]).length := by rw [HQL.out]; exact hkl
          have r1 := R1.out
          obtain ⟨_, ⟨h0, _⟩ | ⟨b1, off1, cap1, he, hbw1⟩⟩ := r1.shape
          · rw [h0] at hkT; simp at hkT
          obtain ⟨rfl, rfl⟩ : a4 = some ⟨b1, off1, none⟩ ∧ n4 = cap1 := by simpa using he
          obtain ⟨a5, n5, f2, r2⟩ := r1.at hkT
          have hcall := heavy17_any (T[i])[k] _ _ r2 (HM1.out _ (List.getElem_mem hkT))
          have HCALL := Lib.hid hcall
          obtain ⟨tl, htl⟩ : ∃ x, ((T[i])[k]).length = x := ⟨_, rfl⟩
          rw [htl] at f2 HCALL
          clear r1 r2 he hcall htl
          go_wp2_with (go_at_call 8; refine HCALL.out.mono ?_)
          rintro e w1 ⟨⟨g3, rfl, _⟩, rfl⟩
          cases g3
          · go_wp2_with fail
            go_roundw
            case rel => exact ⟨⟨k + 1, by omega, by go_num⟩, trivial⟩
            case measure => simp [intOf]; omega
          · go_wp2_with fail
            go_ret
            exact ⟨⟨true, rfl, fun h => by cases h⟩, HB1.out⟩
        · obtain rfl : k = ql := by omega
          go_wp2_with fail
          go_roundw
          case rel => exact ⟨⟨i + 1, by omega, by go_num, HNX.out⟩, trivial⟩
          case measure => simp [intOf]; omega
    · obtain rfl : i = T.length := by omega
      go_wp2_with fail
      go_ret
      exact ⟨⟨false, rfl, fun _ => by rw [HT.out]; exact ⟨by omega, fun c hc => HZ2.out c (by rw [List.take_length]; exact hc)⟩⟩, HB1.out⟩

end Go.Proofs.YteldkcpkamgfpaaDoor
