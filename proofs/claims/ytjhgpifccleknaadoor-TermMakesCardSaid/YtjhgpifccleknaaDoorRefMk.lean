/- What the reference's Of and Make come to; conditions: the strings' sizes; Of: the nodes are at most a million. -/
import Derived.Test.YtjhgpifccleknaaDoorMake
namespace Go.Proofs.YtjhgpifccleknaaDoor
set_option linter.unusedSimpArgs false
set_option linter.unusedVariables false
open Go.RowKit

def OfPost (n : Nd) (L : List (List Nd)) (w : World) (e : Ending) (w' : World) : Prop := ∃ v, e = .returned v ∧ OwnN w.heap.size w' v (L.flatten ++ [n]) ∧ Below w.heap.size w w'

theorem nodeV_one (n : Nd) : ∀ u ∈ nodeV n, u.oneCell' = true := by
  intro u hu
  simp [nodeV] at hu
  rcases hu with rfl | rfl | rfl | rfl <;> rfl

def OfRel (w : World) (L : List (List Nd)) (out i : Value) (wr w0 : World) : Prop :=
  ∃ k : Nat, k ≤ L.length ∧ i = .int .i64 (k : Int) ∧ OwnN (w.heap.size + 1) wr out (L.take k).flatten ∧ Below (w.heap.size + 1) w0 wr

set_option maxRecDepth 20000 in
set_option maxHeartbeats 2000000 in
theorem refof_any (n : Nd) (L : List (List Nd)) (v : Value) (w : World) (hv : ReadNN w v L) (hn : L.flatten.length ≤ 1000000) :
    Calls Tryd.prog 78 #[.agg #[.int .i64 n.K, .int .i64 n.N, .int .i64 n.M, .string n.S], v] w (OfPost n L w) := by
  obtain ⟨i0, hi, hz0, hz1, hz2⟩ := info_parts Tryd.infoNode
  have hshape : ∃ ad cp, v = .slice ad L.length cp := by
    obtain ⟨vs, _, hr, _⟩ := hv
    obtain ⟨a, c, h, _⟩ := hr.form
    exact ⟨a, c, h⟩
  obtain ⟨ad, cp, rfl⟩ := hshape
  have hm9 : L.length ≤ 9223372036854775807 := by have := hv.shape.1; unfold maxLen at this; omega
  have HV := Lib.hid hv; clear hv
  obtain ⟨w0, hw0⟩ : ∃ w0, w.alloc (.cells #[.int .i64 n.K, .int .i64 n.N, .int .i64 n.M, .string n.S] 23) = w0 := ⟨_, rfl⟩
  have hbw0 : Below (w.heap.size + 1) (w.alloc (.cells #[.int .i64 n.K, .int .i64 n.N, .int .i64 n.M, .string n.S] 23)) w0 := by rw [hw0]; exact Below.refl _ _
  obtain ⟨b0, b1, b2, b3, hlt0⟩ := box_cells hbw0
  have hb0 := below_box hbw0
  have hsz0 : w0.heap.size = w.heap.size + 1 := by rw [← hw0]; simp
  have HB0 := Lib.hid hb0; clear hb0 hbw0
  have HSZ0 := Lib.hid hsz0; clear hsz0
  go_enter Tryd.func78, Tryd.ntmps78
  go_wp2_with fail
  go_loopw [5, 6] (fun out i wr => OfRel w L out i wr w0) (fun _ i _ => L.length - (intOf i).toNat)
  case atStart =>
    refine ⟨0, Nat.zero_le _, rfl, ?_, ?_⟩
    · exact World.ownsRow_lit w0 #[] 0 (by have := HSZ0.out; omega) (by unfold maxLen; omega) rfl
    · exact (Below.refl _ _).alloc (by have := HSZ0.out; omega) _
  case round =>
    rename World => wr
    obtain ⟨k, hk, rfl, ho, hb⟩ := hrel
    have HO := Lib.hid ho; clear ho
    have hbw : Below w.heap.size w wr := HB0.out.trans (hb.mono (by omega))
    have HBW := Lib.hid hbw; clear hbw
    have HB := Lib.hid hb
    have hszr : w.heap.size + 1 ≤ wr.heap.size := by have := hb.size; have := HSZ0.out; omega
    obtain ⟨ao, co, rfl, _⟩ := (RowAt.of_own HO.out).form
    by_cases hlt : k < L.length
    · have hvr := HV.out.below HBW.out
      obtain ⟨b, off, cap, he, _⟩ : ∃ b off cap, ad = some ⟨b, off, none⟩ ∧ cap = cp := by
        obtain ⟨_, ⟨h0, _⟩ | ⟨b, off, cap, he, _⟩⟩ := ReadNN.shape hvr
        · rw [h0] at hlt; simp at hlt
        · simp at he; exact ⟨b, off, cap, he.1, he.2.symm⟩
      subst he
      obtain ⟨a1, c1, g1, r1⟩ := hvr.at hlt
      have R1 := Lib.hid r1; clear r1 hvr hb
      have hft := flat_take hlt
      have hle2 := flat_le L (k + 1)
      rw [hft, List.length_append] at hle2
      have HFT := Lib.hid hft; clear hft b0 b1 b2 b3 hw0
      go_wp2_with (at_builtin; go_must (refine wpList_append_row rfl (.tmp 14) (.tmp 18) 30 rfl (w.heap.size + 1) 23 i0 (.agg #[.int .i64 0, .int .i64 0, .int .i64 0, .string ByteArray.empty]) 4 40 Tryd.underlying30 hi hz0 hz1 hz2 rfl (by decide) (.slice ao (L.take k).flatten.length co) (L.take k).flatten.length ((L.take k).flatten.flatMap nodeV) rfl HO.out (.slice a1 L[k].length c1) L[k].length (L[k].flatMap nodeV) rfl R1.out (nodes_one _) (by omega) (by unfold maxLen; omega) hszr ?_); intro v5 w5 hown5 hg5 hat5)
      have hb5 : Below (w.heap.size + 1) w0 w5 := HB.out.grown hg5 (by omega) (fun g hg => (HO.out.lt g hg).1)
      have HO5 := Lib.hid hown5; clear hown5 hg5 hat5
      have HB5 := Lib.hid hb5; clear hb5
      go_wp2_with fail
      refine ⟨⟨k + 1, by omega, by go_num, ?_, HB5.out⟩, by simp [intOf]; omega⟩
      unfold OwnN
      rw [HFT.out, List.length_append, List.flatMap_append]
      exact HO5.out
    · obtain rfl : k = L.length := by omega
      rw [List.take_length] at HO ⊢
      obtain ⟨fl, hfl⟩ : ∃ fl, L.flatten = fl := ⟨_, rfl⟩
      rw [hfl] at HO hn ⊢
      have HFL := Lib.hid hfl; clear hfl
      have c0 := (hb.cell (p := ⟨w.heap.size, 0, none⟩) (by simp)).trans b0
      have c1 := (hb.cell (p := ⟨w.heap.size, 1, none⟩) (by simp)).trans b1
      have c2 := (hb.cell (p := ⟨w.heap.size, 2, none⟩) (by simp)).trans b2
      have c3 := (hb.cell (p := ⟨w.heap.size, 3, none⟩) (by simp)).trans b3
      clear b0 b1 b2 b3 hw0 hb
      go_wp2_with (at_builtin; go_must (refine wpList_append_row rfl (.tmp 20) (.tmp 22) 30 rfl (w.heap.size + 1) 23 i0 (.agg #[.int .i64 0, .int .i64 0, .int .i64 0, .string ByteArray.empty]) 4 40 Tryd.underlying30 hi hz0 hz1 hz2 rfl (by decide) (.slice ao fl.length co) fl.length (fl.flatMap nodeV) rfl (HO.out.alloc _) (.slice (some ⟨wr.heap.size, 0, none⟩) 1 1) 1 (nodeV n) rfl (RowAt.lit (size := 4) wr _ #[.int .i64 n.K, .int .i64 n.N, .int .i64 n.M, .string n.S] 1 rfl (by unfold maxLen; omega)) (nodeV_one n) (by omega) (by unfold maxLen; omega) (by simp; omega) ?_); intro v5 w5 hown5 hg5 hat5)
      have hb5 : Below w.heap.size w w5 := (HBW.out.alloc HBW.out.size _).grown hg5 (by have := HBW.out.size; simp; omega) (fun g hg => by have := (HO.out.lt g hg).1; omega)
      have HO5 := Lib.hid hown5; clear hown5 hg5 hat5
      have HB5 := Lib.hid hb5; clear hb5
      go_wp2_with fail
      go_ret
      refine ⟨v5, rfl, ?_, HB5.out⟩
      rw [HFL.out]
      unfold OwnN
      rw [List.length_append, List.flatMap_append]
      have h := ownsRow_base HO5.out (show w.heap.size ≤ w.heap.size + 1 by omega)
      simpa using h

theorem chain2 {W a b : World} (h : Hid (Below W.heap.size W a)) (hb : Below a.heap.size a b) : Hid (Below W.heap.size W b) := h.out.trans (hb.mono h.out.size)

set_option maxRecDepth 20000 in
set_option maxHeartbeats 4000000 in
theorem refmake_any (n : Nd) (L : List (List Nd)) (v : Value) (w : World) (hns : n.S.size ≤ maxLen) (hv : ReadNN w v L) (hs : SmallNN L) :
    Calls Tryd.prog 46 #[.agg #[.int .i64 n.K, .int .i64 n.N, .int .i64 n.M, .string n.S], v] w (MakePost n L w) := by
  obtain ⟨i0, hi, hz0, hz1, hz2⟩ := info_parts Tryd.infoNode
  have HSM := Lib.hid hs; clear hs
  have hshape : ∃ ad cp, v = .slice ad L.length cp := by
    obtain ⟨vs, _, hr, _⟩ := hv
    obtain ⟨a, c, h, _⟩ := hr.form
    exact ⟨a, c, h⟩
  obtain ⟨ad, cp, rfl⟩ := hshape
  have hm9 : L.length ≤ 9223372036854775807 := by have := hv.shape.1; unfold maxLen at this; omega
  have HV := Lib.hid hv; clear hv
  go_enter Tryd.func46, Tryd.ntmps46
  go_wp2_with fail
  obtain ⟨w0, hw0⟩ : ∃ w0, w.alloc (.cells #[.int .i64 n.K, .int .i64 n.N, .int .i64 n.M, .string n.S] 23) = w0 := ⟨_, rfl⟩
  have hbw0 : Below (w.heap.size + 1) (w.alloc (.cells #[.int .i64 n.K, .int .i64 n.N, .int .i64 n.M, .string n.S] 23)) w0 := by rw [hw0]; exact Below.refl _ _
  obtain ⟨b0, b1, b2, b3, hlt0⟩ := box_cells hbw0
  have hb0 := below_box hbw0
  rw [hw0]
  have HB0 := Lib.hid hb0; clear hb0 hbw0
  have HW0 := Lib.hid hw0; clear hw0
  go_loopw [6] (fun i wr => ∃ k : Nat, k ≤ L.length ∧ i = .int .i64 (k : Int) ∧ (∀ i (hi : i < k) (hl : i < L.length), chk L[i] = 0) ∧ Below w0.heap.size w0 wr) (fun i _ => L.length - (intOf i).toNat)
  case atStart => exact ⟨0, Nat.zero_le _, rfl, (fun i hi => by omega), Below.refl _ _⟩
  case round =>
    rename World => wr
    obtain ⟨k, hk, rfl, hall, hb⟩ := hrel
    have HALL := Lib.hid hall; clear hall
    have hbw : Below w.heap.size w wr := HB0.out.trans (hb.mono HB0.out.size)
    have HBW := Lib.hid hbw; clear hbw
    have HB := Lib.hid hb
    by_cases hlt : k < L.length
    · have hvr := HV.out.below HBW.out
      obtain ⟨b, off, cap, he, _⟩ : ∃ b off cap, ad = some ⟨b, off, none⟩ ∧ cap = cp := by
        obtain ⟨_, ⟨h0, _⟩ | ⟨b, off, cap, he, _⟩⟩ := ReadNN.shape hvr
        · rw [h0] at hlt; simp at hlt
        · simp at he; exact ⟨b, off, cap, he.1, he.2.symm⟩
      subst he
      obtain ⟨a1, c1, g1, r1⟩ := hvr.at hlt
      have hck := refcheck2_any L[k] _ wr r1 (HSM.out _ (List.getElem_mem hlt))
      obtain ⟨c, hc⟩ : ∃ c, chk L[k] = c := ⟨_, rfl⟩
      have hfa := fst_at hlt (fun i hi => HALL.out i hi (by omega))
      rw [hc] at hck hfa
      have HCK := Lib.hid hck; clear hck
      have HFA := Lib.hid hfa; clear hfa
      have HC := Lib.hid hc; clear hc r1 hvr hb b0 b1 b2 b3
      go_wp2_with fail
      refine HCK.out.mono ?_
      rintro e w3 ⟨rfl, hb3⟩
      have HB3 : Hid (Below w.heap.size w w3) := HBW.out.trans (hb3.mono HBW.out.size)
      have HBB3 : Hid (Below w0.heap.size w0 w3) := HB.out.trans (hb3.mono HB.out.size)
      clear hb3
      by_cases h0 : c = 0
      · subst h0
        clear HFA
        go_wp2_with fail
        refine ⟨⟨k + 1, by omega, by go_num, fun i hi hl => ?_, HBB3.out⟩, by simp [intOf]; omega⟩
        by_cases e : i = k
        · subst e; exact HC.out
        · exact HALL.out i (by omega) hl
      · have hcb : (c != 0) = true := by simpa using h0
        have hfin := Lib.hid (makeE_fst (n := n) (HFA.out h0) h0)
        go_wp2_with fail
        go_ret2
        exact MakePost.nil hfin.out h0 HB3.out
    · obtain rfl : k = L.length := by omega
      have hf0 := fst_none (fun i hi => HALL.out i hi hi)
      have HF0 := Lib.hid hf0; clear hf0
      have c0 := (hb.cell (p := ⟨w.heap.size, 0, none⟩) hlt0).trans b0
      have c1 := (hb.cell (p := ⟨w.heap.size, 1, none⟩) hlt0).trans b1
      have c2 := (hb.cell (p := ⟨w.heap.size, 2, none⟩) hlt0).trans b2
      have c3 := (hb.cell (p := ⟨w.heap.size, 3, none⟩) hlt0).trans b3
      have hltr : w.heap.size < wr.heap.size := by have := hb.size; omega
      clear b0 b1 b2 b3 hb hk
      go_wp2_with fail
      refine (refbinds_any n _ hns).mono ?_
      rintro e w3 ⟨vb, lb, rfl, hvb, hlb, hb3⟩
      obtain ⟨ab, cb, rfl⟩ := ReadI.len_slice hvb
      have d0 := (hb3.cell (p := ⟨w.heap.size, 0, none⟩) hltr).trans c0
      have d1 := (hb3.cell (p := ⟨w.heap.size, 1, none⟩) hltr).trans c1
      have d2 := (hb3.cell (p := ⟨w.heap.size, 2, none⟩) hltr).trans c2
      have d3 := (hb3.cell (p := ⟨w.heap.size, 3, none⟩) hltr).trans c3
      have HB3 : Hid (Below w.heap.size w w3) := HBW.out.trans (hb3.mono HBW.out.size)
      clear hb3 c0 c1 c2 c3 hvb
      cases hr : rightB n
      · have hfin := Lib.hid (makeE_no (n := n) HF0.out (by rw [hr]; rintro ⟨h, _⟩; cases h))
        clear hr hlb
        go_wp2_with fail
        go_ret2
        exact MakePost.nil hfin.out (by omega) HB3.out
      · have ha10 := arity_ten hr
        have hll : lb.length = arity n := by rw [hlb hr]; simp [arity]
        rw [hll]
        by_cases ha : arity n = L.length
        · have hme := Lib.hid (makeE_yes HF0.out hr ha)
          rw [ha]
          have hl10 : L.length ≤ 10 := by omega
          have hfb := flat_bound L (fun l hl => by
            obtain ⟨i, hi, rfl⟩ := List.mem_iff_getElem.1 hl
            exact (chk_ok (HALL.out i hi hi)).1)
          have HOF := Lib.hid (refof_any n L (.slice ad L.length cp) w3 (HV.out.below HB3.out) (by omega))
          clear ha ha10 hr hlb hll hfb
          go_wp2_with fail
          refine HOF.out.mono ?_
          rintro e w9 ⟨v9, rfl, ho, hb9⟩
          have HB9 := chain2 HB3 hb9
          clear hb9
          have hsm : SmallN (L.flatten ++ [n]) := by
            intro x hx
            rcases List.mem_append.1 hx with hx | hx
            · obtain ⟨l, hl, hxl⟩ := List.mem_flatten.1 hx
              exact HSM.out l hl x hxl
            · simp at hx; subst hx; exact hns
          obtain ⟨g, hg⟩ : ∃ g, L.flatten ++ [n] = g := ⟨_, rfl⟩
          rw [hg] at ho hme hsm
          have HG := Lib.hid hg; clear hg
          obtain ⟨a9, c9, rfl, _⟩ := (RowAt.of_own ho).form
          have hck := refcheck2_any g _ w9 ho.read hsm
          obtain ⟨c, hc⟩ : ∃ c, chk g = c := ⟨_, rfl⟩
          rw [hc] at hck hme
          have HCK := Lib.hid hck; clear hck hc
          have HO := Lib.hid ho; clear ho d0 d1 d2 d3
          by_cases h0 : c = 0
          · subst h0
            go_wp2_with fail
            refine HCK.out.mono ?_
            rintro e w10 ⟨rfl, hb10⟩
            have HB10 : Hid (Below w.heap.size w w10) := HB9.out.trans (hb10.mono HB9.out.size)
            have HR10 : Hid (ReadN w10 (.slice a9 g.length c9) g) := HO.out.read.below hb10
            clear hb10
            go_wp2_with fail
            go_ret2
            exact ⟨_, by rw [hme.out]; rfl, by rw [hme.out, if_pos rfl, HG.out]; exact HR10.out, HB10.out⟩
          · have hcb : (c != 0) = true := by simpa using h0
            go_wp2_with fail
            refine HCK.out.mono ?_
            rintro e w10 ⟨rfl, hb10⟩
            have HB10 : Hid (Below w.heap.size w w10) := HB9.out.trans (hb10.mono HB9.out.size)
            clear hb10
            go_wp2_with fail
            go_ret2
            exact MakePost.nil hme.out h0 HB10.out
        · have hfin := Lib.hid (makeE_no (n := n) HF0.out (fun h => ha h.2))
          have hab : ((arity n : Int) == (L.length : Int)) = false := by rw [beq_eq_false_iff_ne]; omega
          clear ha hr hlb hll ha10
          go_wp2_with fail
          go_ret2
          exact MakePost.nil hfin.out (by omega) HB3.out

end Go.Proofs.YtjhgpifccleknaaDoor
