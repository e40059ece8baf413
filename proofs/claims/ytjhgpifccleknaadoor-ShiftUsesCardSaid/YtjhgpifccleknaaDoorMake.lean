/- What term.Make comes to, for every root and parts, where the table of shapes lies as it is laid; conditions: the strings' sizes. -/
import Derived.Test.YtjhgpifccleknaaDoorConcat
namespace Go.Proofs.YtjhgpifccleknaaDoor
set_option linter.unusedSimpArgs false
set_option linter.unusedVariables false
open Go.RowKit

/-- the error of what a root and parts make -/
def makeE (n : Nd) (L : List (List Nd)) : Int :=
  if fstE (L.map chk) = 0 then (if rightB n = true ∧ arity n = L.length then chk (L.flatten ++ [n]) else 20) else fstE (L.map chk)

theorem fst_at {L : List (List Nd)} {k : Nat} (hk : k < L.length) (h : ∀ i (hi : i < k), chk (L[i]'(by omega)) = 0) (hc : chk L[k] ≠ 0) : fstE (L.map chk) = chk L[k] := by
  have e : L = L.take k ++ L[k] :: L.drop (k + 1) := by rw [← List.drop_eq_getElem_cons hk, List.take_append_drop]
  have h0 : fstE ((L.take k).map chk) = 0 := by
    rw [fstE_zero]
    intro x hx
    obtain ⟨l, hl, rfl⟩ := List.mem_map.1 hx
    obtain ⟨i, hi, rfl⟩ := List.mem_iff_getElem.1 hl
    have hik : i < k := by simp at hi; omega
    have := h i hik
    simpa using this
  have e2 : L.map chk = (L.take k).map chk ++ chk L[k] :: (L.drop (k + 1)).map chk := by
    have h1 := congrArg (List.map chk) e
    rw [List.map_append, List.map_cons] at h1
    exact h1
  rw [e2, fstE_append, if_pos h0, fstE, if_neg hc]
theorem fst_none {L : List (List Nd)} (h : ∀ i (hi : i < L.length), chk L[i] = 0) : fstE (L.map chk) = 0 := by
  rw [fstE_zero]
  intro x hx
  obtain ⟨l, hl, rfl⟩ := List.mem_map.1 hx
  obtain ⟨i, hi, rfl⟩ := List.mem_iff_getElem.1 hl
  exact h i hi
theorem makeE_fst {n : Nd} {L : List (List Nd)} {c : Int} (h : fstE (L.map chk) = c) (hc : c ≠ 0) : makeE n L = c := by unfold makeE; rw [h, if_neg hc]
theorem makeE_no {n : Nd} {L : List (List Nd)} (h : fstE (L.map chk) = 0) (hn : ¬ (rightB n = true ∧ arity n = L.length)) : makeE n L = 20 := by unfold makeE; rw [if_pos h, if_neg hn]
theorem makeE_yes {n : Nd} {L : List (List Nd)} (h : fstE (L.map chk) = 0) (hr : rightB n = true) (ha : arity n = L.length) : makeE n L = chk (L.flatten ++ [n]) := by unfold makeE; rw [if_pos h, if_pos ⟨hr, ha⟩]
theorem flat_bound (L : List (List Nd)) (h : ∀ l, l ∈ L → l.length ≤ 4000) : L.flatten.length ≤ L.length * 4000 := by
  induction L with
  | nil => simp
  | cons l r ih =>
    have h1 := h l (by simp)
    have h2 := ih (fun x hx => h x (by simp [hx]))
    simp only [List.flatten_cons, List.length_append, List.length_cons]
    omega
theorem arity_ten {nd : Nd} (hr : rightB nd = true) : arity nd ≤ 10 := by
  obtain ⟨kk, hK, hkk⟩ := right_kind hr
  unfold arity bnds
  split
  · have := right_M hr (.inl (by assumption)); simp; omega
  · split
    · have := right_M hr (.inr (by assumption)); simp; omega
    · have := shp_len kk hkk; rw [hK]; simp; omega

theorem ownsRow_base {w : World} {b b' : Nat} {e : TypeId} {size : Nat} {v : Value} {n : Nat} {xs : List Value} (h : w.ownsRow b e size v n xs) (hb : b' ≤ b) : w.ownsRow b' e size v n xs := by
  refine ⟨h.1, ?_⟩
  rcases h.2 with hn | ⟨g, cap, cur, h1, h2, h3⟩
  · exact .inl hn
  · exact .inr ⟨g, cap, cur, h1, Nat.le_trans hb h2, h3⟩

def MakePost (n : Nd) (L : List (List Nd)) (w : World) (e : Ending) (w' : World) : Prop :=
  ∃ v, e = .returned (.tuple #[v, .int .i64 (makeE n L)]) ∧ ReadN w' v (if makeE n L = 0 then L.flatten ++ [n] else []) ∧ Below w.heap.size w w'

theorem MakePost.nil {n : Nd} {L : List (List Nd)} {c : Int} {w w' : World} (h : makeE n L = c) (hc : c ≠ 0) (hb : Below w.heap.size w w') : MakePost n L w (.returned (.tuple #[.slice none 0 0, .int .i64 c])) w' :=
  ⟨_, by rw [h], by rw [h, if_neg hc]; exact ReadN.nil _, hb⟩

set_option maxRecDepth 20000 in
set_option maxHeartbeats 4000000 in
theorem tmake_any (n : Nd) (L : List (List Nd)) (v : Value) (w : World) (hS : ShapesAt w) (hns : n.S.size ≤ maxLen) (hv : ReadNN w v L) (hs : SmallNN L) :
    Calls Tryd.prog 31 #[.agg #[.int .i64 n.K, .int .i64 n.N, .int .i64 n.M, .string n.S], v] w (MakePost n L w) := by
  obtain ⟨i0, hi, hz0, hz1, hz2⟩ := info_parts Tryd.infoNode
  have HS := Lib.hid hS; clear hS
  have HSM := Lib.hid hs; clear hs
  have hshape : ∃ ad cp, v = .slice ad L.length cp := by
    obtain ⟨vs, _, hr, _⟩ := hv
    obtain ⟨a, c, h, _⟩ := hr.form
    exact ⟨a, c, h⟩
  obtain ⟨ad, cp, rfl⟩ := hshape
  have hm9 : L.length ≤ 9223372036854775807 := by have := hv.shape.1; unfold maxLen at this; omega
  have HV := Lib.hid hv; clear hv
  go_enter Tryd.func31, Tryd.ntmps31
  go_wp2_with fail
  obtain ⟨w0, hw0⟩ : ∃ w0, w.alloc (.cells #[.int .i64 n.K, .int .i64 n.N, .int .i64 n.M, .string n.S] 23) = w0 := ⟨_, rfl⟩
  have hbw0 : Below (w.heap.size + 1) (w.alloc (.cells #[.int .i64 n.K, .int .i64 n.N, .int .i64 n.M, .string n.S] 23)) w0 := by rw [hw0]; exact Below.refl _ _
  obtain ⟨b0, b1, b2, b3, hlt0⟩ := box_cells hbw0
  have hb0 := below_box hbw0
  rw [hw0]
  have HB0 := Lib.hid hb0; clear hb0 hbw0
  have HW0 := Lib.hid hw0; clear hw0
  go_loopw [13] (fun i wr => ∃ k : Nat, k ≤ L.length ∧ i = .int .i64 (k : Int) ∧ (∀ i (hi : i < k) (hl : i < L.length), chk L[i] = 0) ∧ Below w0.heap.size w0 wr) (fun i _ => L.length - (intOf i).toNat)
  case atStart => exact ⟨0, Nat.zero_le _, rfl, (fun i hi => by omega), Below.refl _ _⟩
  case round =>
    rename World => wr
    obtain ⟨k, hk, rfl, hall, hb⟩ := hrel
    have HALL := Lib.hid hall; clear hall
    have hbw : Below w.heap.size w wr := HB0.out.trans (hb.mono HB0.out.size)
    have HBW := Lib.hid hbw; clear hbw
    have HB := Lib.hid hb
    by_cases hlt : k < L.length
    · have hvr := HV.out.below HBW.out
      obtain ⟨b, off, cap, he, _⟩ : ∃ b off cap, ad = some ⟨b, off, none⟩ ∧ cap = cp := by
        obtain ⟨_, ⟨h0, _⟩ | ⟨b, off, cap, he, _⟩⟩ := ReadNN.shape hvr
        · rw [h0] at hlt; simp at hlt
        · simp at he; exact ⟨b, off, cap, he.1, he.2.symm⟩
      subst he
      obtain ⟨a1, c1, g1, r1⟩ := hvr.at hlt
      have hck := tcheck_any L[k] _ wr (HS.out.below HBW.out) r1 (HSM.out _ (List.getElem_mem hlt))
      obtain ⟨c, hc⟩ : ∃ c, chk L[k] = c := ⟨_, rfl⟩
      have hfa := fst_at hlt (fun i hi => HALL.out i hi (by omega))
      rw [hc] at hck hfa
      have HCK := Lib.hid hck; clear hck
      have HFA := Lib.hid hfa; clear hfa
      have HC := Lib.hid hc; clear hc r1 hvr hb b0 b1 b2 b3
      go_wp2_with fail
      refine HCK.out.mono ?_
      rintro e w3 ⟨rfl, hb3⟩
      have HB3 : Hid (Below w.heap.size w w3) := HBW.out.trans (hb3.mono HBW.out.size)
      have HBB3 : Hid (Below w0.heap.size w0 w3) := HB.out.trans (hb3.mono HB.out.size)
      clear hb3
      by_cases h0 : c = 0
      · subst h0
        clear HFA
        go_wp2_with fail
        refine ⟨⟨k + 1, by omega, by go_num, fun i hi hl => ?_, HBB3.out⟩, by simp [intOf]; omega⟩
        by_cases e : i = k
        · subst e; exact HC.out
        · exact HALL.out i (by omega) hl
      · have hcb : (c != 0) = true := by simpa using h0
        have hfin := Lib.hid (makeE_fst (n := n) (HFA.out h0) h0)
        go_wp2_with fail
        go_ret2
        exact MakePost.nil hfin.out h0 HB3.out
    · obtain rfl : k = L.length := by omega
      have hf0 := fst_none (fun i hi => HALL.out i hi hi)
      have HF0 := Lib.hid hf0; clear hf0
      have c0 := (hb.cell (p := ⟨w.heap.size, 0, none⟩) hlt0).trans b0
      have c1 := (hb.cell (p := ⟨w.heap.size, 1, none⟩) hlt0).trans b1
      have c2 := (hb.cell (p := ⟨w.heap.size, 2, none⟩) hlt0).trans b2
      have c3 := (hb.cell (p := ⟨w.heap.size, 3, none⟩) hlt0).trans b3
      have hltr : w.heap.size < wr.heap.size := by have := hb.size; omega
      have hSr := HS.out.below HBW.out
      have HSR := Lib.hid hSr; clear hSr
      clear b0 b1 b2 b3 hb hk
      cases hr : rightB n
      · have hfin := Lib.hid (makeE_no (n := n) HF0.out (by rw [hr]; rintro ⟨h, _⟩; cases h))
        go_wp2_with fail
        refine (right_any n _ HSR.out hns).mono ?_
        rintro e w3 ⟨rfl, hb3⟩
        rw [hr]
        clear hr c0 c1 c2 c3
        have HB3 : Hid (Below w.heap.size w w3) := HBW.out.trans (hb3.mono HBW.out.size)
        clear hb3
        go_wp2_with fail
        go_ret2
        exact MakePost.nil hfin.out (by omega) HB3.out
      · have ha10 := arity_ten hr
        have HR := Lib.hid hr
        go_wp2_with fail
        refine (right_any n _ HSR.out hns).mono ?_
        rintro e w3 ⟨rfl, hb3⟩
        rw [hr]
        have d0 := (hb3.cell (p := ⟨w.heap.size, 0, none⟩) hltr).trans c0
        have d1 := (hb3.cell (p := ⟨w.heap.size, 1, none⟩) hltr).trans c1
        have d2 := (hb3.cell (p := ⟨w.heap.size, 2, none⟩) hltr).trans c2
        have d3 := (hb3.cell (p := ⟨w.heap.size, 3, none⟩) hltr).trans c3
        have hlt3 : w.heap.size < w3.heap.size := by have := hb3.size; omega
        have HB3 : Hid (Below w.heap.size w w3) := HBW.out.trans (hb3.mono HBW.out.size)
        clear hb3 c0 c1 c2 c3
        have HS3 := Lib.hid (HS.out.below HB3.out)
        go_wp2_with fail
        refine (many_any n _ HS3.out HR.out).mono ?_
        rintro e w4 ⟨rfl, hb4⟩
        have e0 := (hb4.cell (p := ⟨w.heap.size, 0, none⟩) hlt3).trans d0
        have e1 := (hb4.cell (p := ⟨w.heap.size, 1, none⟩) hlt3).trans d1
        have e2 := (hb4.cell (p := ⟨w.heap.size, 2, none⟩) hlt3).trans d2
        have e3 := (hb4.cell (p := ⟨w.heap.size, 3, none⟩) hlt3).trans d3
        have hlt4 : w.heap.size < w4.heap.size := by have := hb4.size; omega
        have HB4 : Hid (Below w.heap.size w w4) := HB3.out.trans (hb4.mono HB3.out.size)
        clear hb4 d0 d1 d2 d3 hr
        by_cases ha : arity n = L.length
        · have hme := Lib.hid (makeE_yes HF0.out HR.out ha)
          rw [ha]
          have hl10 : L.length ≤ 10 := by omega
          have hfb := flat_bound L (fun l hl => by
            obtain ⟨i, hi, rfl⟩ := List.mem_iff_getElem.1 hl
            exact (chk_ok (HALL.out i hi hi)).1)
          have HHA := Lib.hid ha; clear ha ha10
          have HNN : Hid (ReadNN w4 (.slice ad L.length cp) L) := HV.out.below HB4.out
          obtain ⟨fl, hfl⟩ : ∃ fl, L.flatten = fl := ⟨_, rfl⟩
          rw [hfl] at hfb hme
          have hfb4 : fl.length ≤ 40000 := by omega
          have HFL := Lib.hid hfl; clear hfl hfb
          have HCC : Hid (∀ w', Below w.heap.size w w' → Calls Tryd.prog 66 #[.slice ad L.length cp] w' fun e w9 => ∃ a c, e = .returned (.slice a fl.length c) ∧ OwnN w'.heap.size w9 (.slice a fl.length c) fl ∧ Below w'.heap.size w' w9) := by
            show ∀ w', _
            intro w' hb
            refine (concat_any L _ w' (HV.out.below hb) (by rw [HFL.out]; omega)).mono ?_
            rintro e w9 ⟨u, rfl, hu, hb9⟩
            rw [HFL.out] at hu
            obtain ⟨a, c, rfl, _⟩ := (RowAt.of_own hu).form
            exact ⟨a, c, rfl, hu, hb9⟩
          have hbd : Hid (Below w.heap.size w w4.drew) := HB4.out.drew
          have hbd2 : Hid (Below w.heap.size w (w4.alloc (.cells #[.int .i64 n.K, .int .i64 n.N, .int .i64 n.M, .string n.S] 23)).drew) := (HB4.out.alloc HB4.out.size _).drew
          go_wp2_with fail
          have HONE : Hid (∀ u ∈ nodeV n, u.oneCell' = true) := by
            show ∀ u ∈ nodeV n, _
            intro u hu
            simp [nodeV] at hu
            rcases hu with rfl | rfl | rfl | rfl <;> rfl
          go_region_law (first
            | (refine step_append_row rfl (.tmp 34) (.tmp 36) 30 rfl w.heap.size 23 i0 (.agg #[.int .i64 0, .int .i64 0, .int .i64 0, .string ByteArray.empty]) 4 40 Tryd.underlying30 hi hz0 hz1 hz2 rfl (by decide) (.slice au fl.length cu) fl.length (fl.flatMap nodeV) (by rfl) (HUX.out.alloc _) (.slice (some ⟨w5.heap.size, 0, none⟩) 1 1) 1 (nodeV n) (by rfl) (RowAt.lit (size := 4) w5 _ #[.int .i64 n.K, .int .i64 n.N, .int .i64 n.M, .string n.S] 1 rfl (by unfold maxLen; omega)) HONE.out (by omega) (by unfold maxLen; omega) (by have := HBX.out.size; simp; omega) ?_; intro v9 w9 hown9 hg9 hat9
               have HO9 := Lib.hid hown9; clear hown9
               have hb9 : Below w.heap.size w w9 := (HBX.out.alloc HBX.out.size _).grown hg9 (by have := HBX.out.size; simp; omega) (fun g hg => (HUX.out.lt g hg).1)
               have HB9 := Lib.hid hb9; clear hb9 hg9 hat9)
            | (refine step_append_row rfl (.tmp 34) (.tmp 36) 30 rfl w.heap.size 23 i0 (.agg #[.int .i64 0, .int .i64 0, .int .i64 0, .string ByteArray.empty]) 4 40 Tryd.underlying30 hi hz0 hz1 hz2 rfl (by decide) (.slice au fl.length cu) fl.length (fl.flatMap nodeV) (by rfl) HUX.out (.slice (some ⟨w4.heap.size, 0, none⟩) 1 1) 1 (nodeV n) (by rfl) (RowAt.below (RowAt.lit (size := 4) w4 _ #[.int .i64 n.K, .int .i64 n.N, .int .i64 n.M, .string n.S] 1 rfl (by unfold maxLen; omega)) ⟨HB5.out.os, HB5.out.tape, HB5.out.output, HB5.out.size, HB5.out.block⟩) HONE.out (by omega) (by unfold maxLen; omega) (by have := HBX.out.size; simp; omega) ?_; intro v9 w9 hown9 hg9 hat9
               have HO9 := Lib.hid hown9; clear hown9
               have hb9 : Below w.heap.size w w9 := HBX.out.grown hg9 (by have := HBX.out.size; omega) (fun g hg => (HUX.out.lt g hg).1)
               have HB9 := Lib.hid hb9; clear hb9 hg9 hat9)
            | (go_simp; go_at_call 66; refine (HCC.out _ (by first | exact hbd.out | exact hbd2.out)).mono ?_; rintro e w5 ⟨au, cu, rfl, hu, hb5⟩
               have HU := Lib.hid hu; clear hu
               have HB5 := Lib.hid hb5; clear hb5
               have f0 : w5.cell? ⟨w.heap.size, 0, none⟩ = some (.int .i64 n.K) := (HB5.out.cell (p := ⟨w.heap.size, 0, none⟩) (by simp; omega)).trans (by first | exact e0 | exact (((Below.refl _ w4).alloc (Nat.le_refl _) _).cell (p := ⟨w.heap.size, 0, none⟩) hlt4).trans e0)
               have f1 : w5.cell? ⟨w.heap.size, 1, none⟩ = some (.int .i64 n.N) := (HB5.out.cell (p := ⟨w.heap.size, 1, none⟩) (by simp; omega)).trans (by first | exact e1 | exact (((Below.refl _ w4).alloc (Nat.le_refl _) _).cell (p := ⟨w.heap.size, 1, none⟩) hlt4).trans e1)
               have f2 : w5.cell? ⟨w.heap.size, 2, none⟩ = some (.int .i64 n.M) := (HB5.out.cell (p := ⟨w.heap.size, 2, none⟩) (by simp; omega)).trans (by first | exact e2 | exact (((Below.refl _ w4).alloc (Nat.le_refl _) _).cell (p := ⟨w.heap.size, 2, none⟩) hlt4).trans e2)
               have f3 : w5.cell? ⟨w.heap.size, 3, none⟩ = some (.string n.S) := (HB5.out.cell (p := ⟨w.heap.size, 3, none⟩) (by simp; omega)).trans (by first | exact e3 | exact (((Below.refl _ w4).alloc (Nat.le_refl _) _).cell (p := ⟨w.heap.size, 3, none⟩) hlt4).trans e3)
               have HBX : Hid (Below w.heap.size w w5) := by first | exact hbd.out.trans (HB5.out.mono hbd.out.size) | exact hbd2.out.trans (HB5.out.mono hbd2.out.size)
               have HUX : Hid (w5.ownsRow w.heap.size 23 4 (.slice au fl.length cu) fl.length (fl.flatMap nodeV)) := ownsRow_base HU.out (by first | exact hbd.out.size | exact hbd2.out.size)
               clear hbd hbd2))
          all_goals
            have ho : OwnN w.heap.size w9 v9 (fl ++ [n]) := by
              unfold OwnN
              rw [List.length_append, List.flatMap_append]
              simpa using HO9.out
            clear f0 f1 f2 f3 HU HUX HBX HB5 HO9
            have hsm : SmallN (fl ++ [n]) := by
              intro x hx
              rcases List.mem_append.1 hx with hx | hx
              · rw [← HFL.out] at hx
                obtain ⟨l, hl, hxl⟩ := List.mem_flatten.1 hx
                exact HSM.out l hl x hxl
              · simp at hx; subst hx; exact hns
            have HFG := Lib.hid (congrArg (· ++ [n]) HFL.out)
            obtain ⟨g, hg⟩ : ∃ g, fl ++ [n] = g := ⟨_, rfl⟩
            rw [hg] at ho hme hsm
            have HG := Lib.hid hg; clear hg
            obtain ⟨a9, c9, rfl, _⟩ := (RowAt.of_own ho).form
            have hck := tcheck_any g _ w9 (HS.out.below HB9.out) ho.read hsm
            obtain ⟨c, hc⟩ : ∃ c, chk g = c := ⟨_, rfl⟩
            rw [hc] at hck hme
            have HCK := Lib.hid hck; clear hck hc
            have HO := Lib.hid ho; clear ho
            by_cases h0 : c = 0
            · subst h0
              go_wp2_with fail
              refine HCK.out.mono ?_
              rintro e w10 ⟨rfl, hb10⟩
              have HB10 : Hid (Below w.heap.size w w10) := HB9.out.trans (hb10.mono HB9.out.size)
              have HR10 : Hid (ReadN w10 (.slice a9 g.length c9) g) := HO.out.read.below hb10
              clear hb10
              go_wp2_with fail
              go_ret2
              exact ⟨_, by rw [hme.out]; rfl, by rw [hme.out, if_pos rfl, HFL.out, HG.out]; exact HR10.out, HB10.out⟩
            · have hcb : (c != 0) = true := by simpa using h0
              go_wp2_with fail
              refine HCK.out.mono ?_
              rintro e w10 ⟨rfl, hb10⟩
              have HB10 : Hid (Below w.heap.size w w10) := HB9.out.trans (hb10.mono HB9.out.size)
              clear hb10
              go_wp2_with fail
              go_ret2
              exact MakePost.nil hme.out h0 HB10.out
        · have hfin := Lib.hid (makeE_no (n := n) HF0.out (fun h => ha h.2))
          have hab : ((arity n : Int) == (L.length : Int)) = false := by rw [beq_eq_false_iff_ne]; omega
          clear ha
          go_wp2_with fail
          go_ret2
          exact MakePost.nil hfin.out (by omega) HB4.out

end Go.Proofs.YtjhgpifccleknaaDoor
