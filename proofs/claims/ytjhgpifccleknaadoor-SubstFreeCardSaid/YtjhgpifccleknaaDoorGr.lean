/- What slices.Grow (of nothing) and slices.Concat of slices of nodes come to: a row of the call's own; condition: the nodes are at most a million. What term.Make comes to, for every root and parts, where the table of shapes lies as it is laid; conditions: the strings' sizes. TermGrows' walk, and its plain law. What the reference's Of and Make come to; conditions: the strings' sizes; Of: the nodes are at most a million. -/
import Derived.Test.YtjhgpifccleknaaDoorPa
import Derived.Test.YtjhgpifccleknaaDoorBa
import Derived.Test.YtjhgpifccleknaaDoorRh
namespace Go.Proofs.YtjhgpifccleknaaDoor
set_option linter.unusedSimpArgs false
set_option linter.unusedVariables false
open Go.RowKit

def OwnN (base : Nat) (w : World) (v : Value) (l : List Nd) : Prop := w.ownsRow base 23 4 v l.length (l.flatMap nodeV)
theorem OwnN.read {base : Nat} {w : World} {v : Value} {l : List Nd} (h : OwnN base w v l) : ReadN w v l := RowAt.of_own h

def GrowPost (w : World) (e : Ending) (w' : World) : Prop := ∃ v, e = .returned v ∧ OwnN w.heap.size w' v [] ∧ Below w.heap.size w w'

set_option maxRecDepth 20000 in
set_option maxHeartbeats 1000000 in
theorem grow_any (n : Nat) (w : World) (hn : n ≤ 1000000) :
    Calls Tryd.prog 88 #[.slice none 0 0, .int .i64 (n : Int)] w (GrowPost w) := by
  obtain ⟨i0, hi, hz0, hz1, hz2⟩ := info_parts Tryd.infoNode
  by_cases h0 : n = 0
  · subst h0
    go_enter Tryd.func88, Tryd.ntmps88
    go_wp2_with fail
    go_ret
    exact ⟨_, rfl, World.ownsRow_nil _ _ _ _, Below.refl _ _⟩
  · have hp : 0 < n := by omega
    obtain ⟨zc, hzc⟩ : ∃ zc, (Builtin.zeroCells (Value.agg #[.int .i64 0, .int .i64 0, .int .i64 0, .string ByteArray.empty]).cells n) = zc := ⟨_, rfl⟩
    obtain ⟨v', w', hrun, hown, hg, _⟩ := run_append_zero_row (P := Tryd.prog) w w.heap.size 30 3 30 23 i0 (.agg #[.int .i64 0, .int .i64 0, .int .i64 0, .string ByteArray.empty]) 4 40 Tryd.underlying30 Tryd.underlying3 hi hz0 hz1 hz2 rfl (by decide) (.slice none 0 0) 0 [] (World.ownsRow_nil _ _ _ _) n hp (by
      intro u hu
      rw [Array.mem_toList_iff] at hu
      unfold Builtin.zeroCells at hu
      obtain ⟨i, _, rfl⟩ := Array.mem_map.1 hu
      have h4 : i % 4 < 4 := by omega
      show ((#[Value.int .i64 0, .int .i64 0, .int .i64 0, .string ByteArray.empty] : Array Value)[i % 4]!).oneCell' = true
      generalize i % 4 = j at h4
      match j, h4 with
      | 0, _ => rfl
      | 1, _ => rfl
      | 2, _ => rfl
      | 3, _ => rfl) (by unfold maxLen; omega) (by omega) (Nat.le_refl _)
    obtain ⟨a, cap, rfl, hcap, hcut⟩ := ownsRow_cut hown (k := 0) (by omega)
    have hb : Below w.heap.size w w' := (Below.refl _ w).grown hg (Nat.le_refl _) (fun g h => by cases h)
    have HRUN := Lib.hid hrun; clear hrun
    have HCUT := Lib.hid hcut; clear hcut
    have HB := Lib.hid hb; clear hb hg hown hzc
    have hn1 : ((n : Int) == 0) = false := by simp; omega
    go_enter Tryd.func88, Tryd.ntmps88
    go_wp2_with (at_builtin; go_must (refine wpList_append_run rfl (.tmp 20) (.tmp 21) 30 3 rfl _ _ rfl rfl HRUN.out ?_))
    go_ret
    exact ⟨_, rfl, by simpa [OwnN] using HCUT.out, HB.out⟩

def ConcatPost (L : List (List Nd)) (w : World) (e : Ending) (w' : World) : Prop := ∃ v, e = .returned v ∧ OwnN w.heap.size w' v L.flatten ∧ Below w.heap.size w w'

theorem flat_take {L : List (List Nd)} {k : Nat} (h : k < L.length) : (L.take (k + 1)).flatten = (L.take k).flatten ++ L[k] := by
  rw [List.take_add_one, List.getElem?_eq_getElem h]
  show (L.take k ++ [L[k]]).flatten = _
  rw [List.flatten_append]
  congr 1
  exact List.append_nil _
theorem flat_le (L : List (List Nd)) (k : Nat) : (L.take k).flatten.length ≤ L.flatten.length := by
  have h : L.flatten = (L.take k).flatten ++ (L.drop k).flatten := by rw [← List.flatten_append, List.take_append_drop]
  rw [h, List.length_append]
  omega

set_option maxRecDepth 20000 in
set_option maxHeartbeats 2000000 in
theorem concat_any (L : List (List Nd)) (v : Value) (w : World) (hv : ReadNN w v L) (hn : L.flatten.length ≤ 1000000) :
    Calls Tryd.prog 66 #[v] w (ConcatPost L w) := by
  obtain ⟨i0, hi, hz0, hz1, hz2⟩ := info_parts Tryd.infoNode
  obtain ⟨hm, ⟨h0, a, cap, rfl⟩ | ⟨b, off, cap, rfl, hbw⟩⟩ := hv.shape
  · subst h0
    go_enter Tryd.func66, Tryd.ntmps66
    go_wp2_with fail
    go_loopw [3, 11] (fun n i wr => n = .int .i64 0 ∧ i = .int .i64 0 ∧ wr = w) (fun _ _ _ => 0)
    case atStart => exact ⟨rfl, rfl, rfl⟩
    case round =>
      obtain ⟨rfl, rfl, rfl⟩ := hrel
      go_wp2_with fail
      refine (grow_any 0 _ (by omega)).mono ?_
      rintro e w1 ⟨u, rfl, hu, hb⟩
      have HU := Lib.hid hu; clear hu
      have HB := Lib.hid hb; clear hb
      go_wp2_with fail
      go_loopw [6, 27] (fun x i wr => x = u ∧ i = .int .i64 0 ∧ wr = w1) (fun _ _ _ => 0)
      case atStart => exact ⟨rfl, rfl, rfl⟩
      case round =>
        obtain ⟨rfl, rfl, rfl⟩ := hrel
        go_wp2_with fail
        go_ret
        exact ⟨_, rfl, HU.out, HB.out⟩
  have HV := Lib.hid hv; clear hv
  have hm9 : L.length ≤ 9223372036854775807 := by unfold maxLen at hm; omega
  clear hm
  go_enter Tryd.func66, Tryd.ntmps66
  go_wp2_with fail
  go_loopw [3, 11] (fun n i wr => (∃ k : Nat, k ≤ L.length ∧ i = .int .i64 (k : Int) ∧ n = .int .i64 ((L.take k).flatten.length : Int)) ∧ wr = w) (fun _ i _ => L.length - (intOf i).toNat)
  case atStart => exact ⟨⟨0, Nat.zero_le _, rfl, rfl⟩, rfl⟩
  case round =>
    obtain ⟨⟨k, hk, rfl, rfl⟩, rfl⟩ := hrel
    have hle := flat_le L k
    by_cases hlt : k < L.length
    · obtain ⟨a1, c1, g1, r1⟩ := HV.out.at hlt
      have hft := flat_take hlt
      have hle2 := flat_le L (k + 1)
      rw [hft, List.length_append] at hle2
      have hln : (L.take (k + 1)).flatten.length = (L.take k).flatten.length + L[k].length := by rw [hft, List.length_append]
      have HLN := Lib.hid hln
      obtain ⟨p, hp⟩ : ∃ p, (L.take k).flatten.length = p := ⟨_, rfl⟩
      obtain ⟨q, hq⟩ : ∃ q, L[k].length = q := ⟨_, rfl⟩
      rw [hp, hq] at hle2 HLN
      rw [hp] at hle ⊢
      rw [hq] at g1
      clear r1 hft hln hp hq
      have hp6 : p ≤ 1000000 := by omega
      have hq6 : q ≤ 1000000 := by omega
      go_wp2_with fail
      refine ⟨⟨⟨k + 1, by omega, by go_num, by rw [HLN.out]; go_num⟩, trivial⟩, by simp [intOf]; omega⟩
    · obtain rfl : k = L.length := by omega
      rw [List.take_length]
      obtain ⟨p, hp⟩ : ∃ p, L.flatten.length = p := ⟨_, rfl⟩
      have hp6 : p ≤ 1000000 := by omega
      rw [hp]
      clear hp
      go_wp2_with fail
      refine (grow_any p _ hp6).mono ?_
      rintro e w1 ⟨u, rfl, hu, hb⟩
      have HU := Lib.hid hu; clear hu
      have HB := Lib.hid hb; clear hb
      clear hle
      go_wp2_with fail
      go_loopw [6, 27] (fun x i wq => ∃ k : Nat, k ≤ L.length ∧ i = .int .i64 (k : Int) ∧ OwnN wr.heap.size wq x (L.take k).flatten ∧ Below wr.heap.size wr wq) (fun _ i _ => L.length - (intOf i).toNat)
      case atStart => exact ⟨0, Nat.zero_le _, rfl, by simpa using HU.out, HB.out⟩
      case round =>
        rename World => wq
        obtain ⟨k, hk, rfl, ho, hb⟩ := hrel
        have HO := Lib.hid ho; clear ho
        have HBB := Lib.hid hb; clear hb
        by_cases hlt : k < L.length
        · obtain ⟨a1, c1, g1, r1⟩ := (HV.out.below HBB.out).at hlt
          have R1 := Lib.hid r1; clear r1
          have hft := flat_take hlt
          have hle2 := flat_le L (k + 1)
          rw [hft, List.length_append] at hle2
          obtain ⟨ao, co, rfl, _⟩ := (RowAt.of_own HO.out).form
          have HFT := Lib.hid hft; clear hft
          go_wp2_with (at_builtin; go_must (refine wpList_append_row rfl (.tmp 31) (.tmp 32) 30 rfl wr.heap.size 23 i0 (.agg #[.int .i64 0, .int .i64 0, .int .i64 0, .string ByteArray.empty]) 4 40 Tryd.underlying30 hi hz0 hz1 hz2 rfl (by decide) (.slice ao (L.take k).flatten.length co) (L.take k).flatten.length ((L.take k).flatten.flatMap nodeV) rfl HO.out (.slice a1 L[k].length c1) L[k].length (L[k].flatMap nodeV) rfl R1.out (nodes_one _) (by omega) (by unfold maxLen; omega) (by have := HBB.out.size; omega) ?_); intro v5 w5 hown5 hg5 hat5)
          have hb5 : Below wr.heap.size wr w5 := HBB.out.grown hg5 (by have := HBB.out.size; omega) (fun g hg => (HO.out.lt g hg).1)
          have HO5 := Lib.hid hown5; clear hown5 hg5 hat5
          have HB5 := Lib.hid hb5; clear hb5
          go_wp2_with fail
          refine ⟨⟨k + 1, by omega, by go_num, ?_, HB5.out⟩, by simp [intOf]; omega⟩
          unfold OwnN
          rw [HFT.out, List.length_append, List.flatMap_append]
          exact HO5.out
        · obtain rfl : k = L.length := by omega
          rw [List.take_length] at HO
          go_wp2_with fail
          go_ret
          exact ⟨_, rfl, HO.out, HBB.out⟩

end Go.Proofs.YtjhgpifccleknaaDoor

namespace Go.Proofs.YtjhgpifccleknaaDoor
set_option linter.unusedSimpArgs false
set_option linter.unusedVariables false
open Go.RowKit

/-- the error of what a root and parts make -/
def makeE (n : Nd) (L : List (List Nd)) : Int :=
  if fstE (L.map chk) = 0 then (if rightB n = true ∧ arity n = L.length then chk (L.flatten ++ [n]) else 20) else fstE (L.map chk)

theorem fst_at {L : List (List Nd)} {k : Nat} (hk : k < L.length) (h : ∀ i (hi : i < k), chk (L[i]'(by omega)) = 0) (hc : chk L[k] ≠ 0) : fstE (L.map chk) = chk L[k] := by
  have e : L = L.take k ++ L[k] :: L.drop (k + 1) := by rw [← List.drop_eq_getElem_cons hk, List.take_append_drop]
  have h0 : fstE ((L.take k).map chk) = 0 := by
    rw [fstE_zero]
    intro x hx
    obtain ⟨l, hl, rfl⟩ := List.mem_map.1 hx
    obtain ⟨i, hi, rfl⟩ := List.mem_iff_getElem.1 hl
    have hik : i < k := by simp at hi; omega
    have := h i hik
    simpa using this
  have e2 : L.map chk = (L.take k).map chk ++ chk L[k] :: (L.drop (k + 1)).map chk := by
    have h1 := congrArg (List.map chk) e
    rw [List.map_append, List.map_cons] at h1
    exact h1
  rw [e2, fstE_append, if_pos h0, fstE, if_neg hc]
theorem fst_none {L : List (List Nd)} (h : ∀ i (hi : i < L.length), chk L[i] = 0) : fstE (L.map chk) = 0 := by
  rw [fstE_zero]
  intro x hx
  obtain ⟨l, hl, rfl⟩ := List.mem_map.1 hx
  obtain ⟨i, hi, rfl⟩ := List.mem_iff_getElem.1 hl
  exact h i hi
theorem makeE_fst {n : Nd} {L : List (List Nd)} {c : Int} (h : fstE (L.map chk) = c) (hc : c ≠ 0) : makeE n L = c := by unfold makeE; rw [h, if_neg hc]
theorem makeE_no {n : Nd} {L : List (List Nd)} (h : fstE (L.map chk) = 0) (hn : ¬ (rightB n = true ∧ arity n = L.length)) : makeE n L = 20 := by unfold makeE; rw [if_pos h, if_neg hn]
theorem makeE_yes {n : Nd} {L : List (List Nd)} (h : fstE (L.map chk) = 0) (hr : rightB n = true) (ha : arity n = L.length) : makeE n L = chk (L.flatten ++ [n]) := by unfold makeE; rw [if_pos h, if_pos ⟨hr, ha⟩]
theorem flat_bound (L : List (List Nd)) (h : ∀ l, l ∈ L → l.length ≤ 4000) : L.flatten.length ≤ L.length * 4000 := by
  induction L with
  | nil => simp
  | cons l r ih =>
    have h1 := h l (by simp)
    have h2 := ih (fun x hx => h x (by simp [hx]))
    simp only [List.flatten_cons, List.length_append, List.length_cons]
    omega
theorem arity_ten {nd : Nd} (hr : rightB nd = true) : arity nd ≤ 10 := by
  obtain ⟨kk, hK, hkk⟩ := right_kind hr
  unfold arity bnds
  split
  · have := right_M hr (.inl (by assumption)); simp; omega
  · split
    · have := right_M hr (.inr (by assumption)); simp; omega
    · have := shp_len kk hkk; rw [hK]; simp; omega

theorem ownsRow_base {w : World} {b b' : Nat} {e : TypeId} {size : Nat} {v : Value} {n : Nat} {xs : List Value} (h : w.ownsRow b e size v n xs) (hb : b' ≤ b) : w.ownsRow b' e size v n xs := by
  refine ⟨h.1, ?_⟩
  rcases h.2 with hn | ⟨g, cap, cur, h1, h2, h3⟩
  · exact .inl hn
  · exact .inr ⟨g, cap, cur, h1, Nat.le_trans hb h2, h3⟩

def MakePost (n : Nd) (L : List (List Nd)) (w : World) (e : Ending) (w' : World) : Prop :=
  ∃ v, e = .returned (.tuple #[v, .int .i64 (makeE n L)]) ∧ ReadN w' v (if makeE n L = 0 then L.flatten ++ [n] else []) ∧ Below w.heap.size w w'

theorem MakePost.nil {n : Nd} {L : List (List Nd)} {c : Int} {w w' : World} (h : makeE n L = c) (hc : c ≠ 0) (hb : Below w.heap.size w w') : MakePost n L w (.returned (.tuple #[.slice none 0 0, .int .i64 c])) w' :=
  ⟨_, by rw [h], by rw [h, if_neg hc]; exact ReadN.nil _, hb⟩

set_option maxRecDepth 20000 in
set_option maxHeartbeats 4000000 in
theorem tmake_any (n : Nd) (L : List (List Nd)) (v : Value) (w : World) (hS : ShapesAt w) (hns : n.S.size ≤ maxLen) (hv : ReadNN w v L) (hs : SmallNN L) :
    Calls Tryd.prog 31 #[.agg #[.int .i64 n.K, .int .i64 n.N, .int .i64 n.M, .string n.S], v] w (MakePost n L w) := by
  obtain ⟨i0, hi, hz0, hz1, hz2⟩ := info_parts Tryd.infoNode
  have HS := Lib.hid hS; clear hS
  have HSM := Lib.hid hs; clear hs
  have hshape : ∃ ad cp, v = .slice ad L.length cp := by
    obtain ⟨vs, _, hr, _⟩ := hv
    obtain ⟨a, c, h, _⟩ := hr.form
    exact ⟨a, c, h⟩
  obtain ⟨ad, cp, rfl⟩ := hshape
  have hm9 : L.length ≤ 9223372036854775807 := by have := hv.shape.1; unfold maxLen at this; omega
  have HV := Lib.hid hv; clear hv
  go_enter Tryd.func31, Tryd.ntmps31
  go_wp2_with fail
  obtain ⟨w0, hw0⟩ : ∃ w0, w.alloc (.cells #[.int .i64 n.K, .int .i64 n.N, .int .i64 n.M, .string n.S] 23) = w0 := ⟨_, rfl⟩
  have hbw0 : Below (w.heap.size + 1) (w.alloc (.cells #[.int .i64 n.K, .int .i64 n.N, .int .i64 n.M, .string n.S] 23)) w0 := by rw [hw0]; exact Below.refl _ _
  obtain ⟨b0, b1, b2, b3, hlt0⟩ := box_cells hbw0
  have hb0 := below_box hbw0
  rw [hw0]
  have HB0 := Lib.hid hb0; clear hb0 hbw0
  have HW0 := Lib.hid hw0; clear hw0
  go_loopw [13] (fun i wr => ∃ k : Nat, k ≤ L.length ∧ i = .int .i64 (k : Int) ∧ (∀ i (hi : i < k) (hl : i < L.length), chk L[i] = 0) ∧ Below w0.heap.size w0 wr) (fun i _ => L.length - (intOf i).toNat)
  case atStart => exact ⟨0, Nat.zero_le _, rfl, (fun i hi => by omega), Below.refl _ _⟩
  case round =>
    rename World => wr
    obtain ⟨k, hk, rfl, hall, hb⟩ := hrel
    have HALL := Lib.hid hall; clear hall
    have hbw : Below w.heap.size w wr := HB0.out.trans (hb.mono HB0.out.size)
    have HBW := Lib.hid hbw; clear hbw
    have HB := Lib.hid hb
    by_cases hlt : k < L.length
    · have hvr := HV.out.below HBW.out
      obtain ⟨b, off, cap, he, _⟩ : ∃ b off cap, ad = some ⟨b, off, none⟩ ∧ cap = cp := by
        obtain ⟨_, ⟨h0, _⟩ | ⟨b, off, cap, he, _⟩⟩ := ReadNN.shape hvr
        · rw [h0] at hlt; simp at hlt
        · simp at he; exact ⟨b, off, cap, he.1, he.2.symm⟩
      subst he
      obtain ⟨a1, c1, g1, r1⟩ := hvr.at hlt
      have hck := tcheck_any L[k] _ wr (HS.out.below HBW.out) r1 (HSM.out _ (List.getElem_mem hlt))
      obtain ⟨c, hc⟩ : ∃ c, chk L[k] = c := ⟨_, rfl⟩
      have hfa := fst_at hlt (fun i hi => HALL.out i hi (by omega))
      rw [hc] at hck hfa
      have HCK := Lib.hid hck; clear hck
      have HFA := Lib.hid hfa; clear hfa
      have HC := Lib.hid hc; clear hc r1 hvr hb b0 b1 b2 b3
      go_wp2_with fail
      refine HCK.out.mono ?_
      rintro e w3 ⟨rfl, hb3⟩
      have HB3 : Hid (Below w.heap.size w w3) := HBW.out.trans (hb3.mono HBW.out.size)
      have HBB3 : Hid (Below w0.heap.size w0 w3) := HB.out.trans (hb3.mono HB.out.size)
      clear hb3
      by_cases h0 : c = 0
      · subst h0
        clear HFA
        go_wp2_with fail
        refine ⟨⟨k + 1, by omega, by go_num, fun i hi hl => ?_, HBB3.out⟩, by simp [intOf]; omega⟩
        by_cases e : i = k
        · subst e; exact HC.out
        · exact HALL.out i (by omega) hl
      · have hcb : (c != 0) = true := by simpa using h0
        have hfin := Lib.hid (makeE_fst (n := n) (HFA.out h0) h0)
        go_wp2_with fail
        go_ret2
        exact MakePost.nil hfin.out h0 HB3.out
    · obtain rfl : k = L.length := by omega
      have hf0 := fst_none (fun i hi => HALL.out i hi hi)
      have HF0 := Lib.hid hf0; clear hf0
      have c0 := (hb.cell (p := ⟨w.heap.size, 0, none⟩) hlt0).trans b0
      have c1 := (hb.cell (p := ⟨w.heap.size, 1, none⟩) hlt0).trans b1
      have c2 := (hb.cell (p := ⟨w.heap.size, 2, none⟩) hlt0).trans b2
      have c3 := (hb.cell (p := ⟨w.heap.size, 3, none⟩) hlt0).trans b3
      have hltr : w.heap.size < wr.heap.size := by have := hb.size; omega
      have hSr := HS.out.below HBW.out
      have HSR := Lib.hid hSr; clear hSr
      clear b0 b1 b2 b3 hb hk
      cases hr : rightB n
      · have hfin := Lib.hid (makeE_no (n := n) HF0.out (by rw [hr]; rintro ⟨h, _⟩; cases h))
        go_wp2_with fail
        refine (right_any n _ HSR.out hns).mono ?_
        rintro e w3 ⟨rfl, hb3⟩
        rw [hr]
        clear hr c0 c1 c2 c3
        have HB3 : Hid (Below w.heap.size w w3) := HBW.out.trans (hb3.mono HBW.out.size)
        clear hb3
        go_wp2_with fail
        go_ret2
        exact MakePost.nil hfin.out (by omega) HB3.out
      · have ha10 := arity_ten hr
        have HR := Lib.hid hr
        go_wp2_with fail
        refine (right_any n _ HSR.out hns).mono ?_
        rintro e w3 ⟨rfl, hb3⟩
        rw [hr]
        have d0 := (hb3.cell (p := ⟨w.heap.size, 0, none⟩) hltr).trans c0
        have d1 := (hb3.cell (p := ⟨w.heap.size, 1, none⟩) hltr).trans c1
        have d2 := (hb3.cell (p := ⟨w.heap.size, 2, none⟩) hltr).trans c2
        have d3 := (hb3.cell (p := ⟨w.heap.size, 3, none⟩) hltr).trans c3
        have hlt3 : w.heap.size < w3.heap.size := by have := hb3.size; omega
        have HB3 : Hid (Below w.heap.size w w3) := HBW.out.trans (hb3.mono HBW.out.size)
        clear hb3 c0 c1 c2 c3
        have HS3 := Lib.hid (HS.out.below HB3.out)
        go_wp2_with fail
        refine (many_any n _ HS3.out HR.out).mono ?_
        rintro e w4 ⟨rfl, hb4⟩
        have e0 := (hb4.cell (p := ⟨w.heap.size, 0, none⟩) hlt3).trans d0
        have e1 := (hb4.cell (p := ⟨w.heap.size, 1, none⟩) hlt3).trans d1
        have e2 := (hb4.cell (p := ⟨w.heap.size, 2, none⟩) hlt3).trans d2
        have e3 := (hb4.cell (p := ⟨w.heap.size, 3, none⟩) hlt3).trans d3
        have hlt4 : w.heap.size < w4.heap.size := by have := hb4.size; omega
        have HB4 : Hid (Below w.heap.size w w4) := HB3.out.trans (hb4.mono HB3.out.size)
        clear hb4 d0 d1 d2 d3 hr
        by_cases ha : arity n = L.length
        · have hme := Lib.hid (makeE_yes HF0.out HR.out ha)
          rw [ha]
          have hl10 : L.length ≤ 10 := by omega
          have hfb := flat_bound L (fun l hl => by
            obtain ⟨i, hi, rfl⟩ := List.mem_iff_getElem.1 hl
            exact (chk_ok (HALL.out i hi hi)).1)
          have HHA := Lib.hid ha; clear ha ha10
          have HNN : Hid (ReadNN w4 (.slice ad L.length cp) L) := HV.out.below HB4.out
          obtain ⟨fl, hfl⟩ : ∃ fl, L.flatten = fl := ⟨_, rfl⟩
          rw [hfl] at hfb hme
          have hfb4 : fl.length ≤ 40000 := by omega
          have HFL := Lib.hid hfl; clear hfl hfb
          have HCC : Hid (∀ w', Below w.heap.size w w' → Calls Tryd.prog 66 #[.slice ad L.length cp] w' fun e w9 => ∃ a c, e = .returned (.slice a fl.length c) ∧ OwnN w'.heap.size w9 (.slice a fl.length c) fl ∧ Below w'.heap.size w' w9) := by
            show ∀ w', _
            intro w' hb
            refine (concat_any L _ w' (HV.out.below hb) (by rw [HFL.out]; omega)).mono ?_
            rintro e w9 ⟨u, rfl, hu, hb9⟩
            rw [HFL.out] at hu
            obtain ⟨a, c, rfl, _⟩ := (RowAt.of_own hu).form
            exact ⟨a, c, rfl, hu, hb9⟩
          have hbd : Hid (Below w.heap.size w w4.drew) := HB4.out.drew
          have hbd2 : Hid (Below w.heap.size w (w4.alloc (.cells #[.int .i64 n.K, .int .i64 n.N, .int .i64 n.M, .string n.S] 23)).drew) := (HB4.out.alloc HB4.out.size _).drew
          go_wp2_with fail
          have HONE : Hid (∀ u ∈ nodeV n, u.oneCell' = true) := by
            show ∀ u ∈ nodeV n, _
            intro u hu
            simp [nodeV] at hu
            rcases hu with rfl | rfl | rfl | rfl <;> rfl
          go_region_law (first
            | (refine step_append_row rfl (.tmp 34) (.tmp 36) 30 rfl w.heap.size 23 i0 (.agg #[.int .i64 0, .int .i64 0, .int .i64 0, .string ByteArray.empty]) 4 40 Tryd.underlying30 hi hz0 hz1 hz2 rfl (by decide) (.slice au fl.length cu) fl.length (fl.flatMap nodeV) (by rfl) (HUX.out.alloc _) (.slice (some ⟨w5.heap.size, 0, none⟩) 1 1) 1 (nodeV n) (by rfl) (RowAt.lit (size := 4) w5 _ #[.int .i64 n.K, .int .i64 n.N, .int .i64 n.M, .string n.S] 1 rfl (by unfold maxLen; omega)) HONE.out (by omega) (by unfold maxLen; omega) (by have := HBX.out.size; simp; omega) ?_; intro v9 w9 hown9 hg9 hat9
               have HO9 := Lib.hid hown9; clear hown9
               have hb9 : Below w.heap.size w w9 := (HBX.out.alloc HBX.out.size _).grown hg9 (by have := HBX.out.size; simp; omega) (fun g hg => (HUX.out.lt g hg).1)
               have HB9 := Lib.hid hb9; clear hb9 hg9 hat9)
            | (refine step_append_row rfl (.tmp 34) (.tmp 36) 30 rfl w.heap.size 23 i0 (.agg #[.int .i64 0, .int .i64 0, .int .i64 0, .string ByteArray.empty]) 4 40 Tryd.underlying30 hi hz0 hz1 hz2 rfl (by decide) (.slice au fl.length cu) fl.length (fl.flatMap nodeV) (by rfl) HUX.out (.slice (some ⟨w4.heap.size, 0, none⟩) 1 1) 1 (nodeV n) (by rfl) (RowAt.below (RowAt.lit (size := 4) w4 _ #[.int .i64 n.K, .int .i64 n.N, .int .i64 n.M, .string n.S] 1 rfl (by unfold maxLen; omega)) ⟨HB5.out.os, HB5.out.tape, HB5.out.output, HB5.out.size, HB5.out.block⟩) HONE.out (by omega) (by unfold maxLen; omega) (by have := HBX.out.size; simp; omega) ?_; intro v9 w9 hown9 hg9 hat9
               have HO9 := Lib.hid hown9; clear hown9
               have hb9 : Below w.heap.size w w9 := HBX.out.grown hg9 (by have := HBX.out.size; omega) (fun g hg => (HUX.out.lt g hg).1)
               have HB9 := Lib.hid hb9; clear hb9 hg9 hat9)
            | (go_simp; go_at_call 66; refine (HCC.out _ (by first | exact hbd.out | exact hbd2.out)).mono ?_; rintro e w5 ⟨au, cu, rfl, hu, hb5⟩
               have HU := Lib.hid hu; clear hu
               have HB5 := Lib.hid hb5; clear hb5
               have f0 : w5.cell? ⟨w.heap.size, 0, none⟩ = some (.int .i64 n.K) := (HB5.out.cell (p := ⟨w.heap.size, 0, none⟩) (by simp; omega)).trans (by first | exact e0 | exact (((Below.refl _ w4).alloc (Nat.le_refl _) _).cell (p := ⟨w.heap.size, 0, none⟩) hlt4).trans e0)
               have f1 : w5.cell? ⟨w.heap.size, 1, none⟩ = some (.int .i64 n.N) := (HB5.out.cell (p := ⟨w.heap.size, 1, none⟩) (by simp; omega)).trans (by first | exact e1 | exact (((Below.refl _ w4).alloc (Nat.le_refl _) _).cell (p := ⟨w.heap.size, 1, none⟩) hlt4).trans e1)
               have f2 : w5.cell? ⟨w.heap.size, 2, none⟩ = some (.int .i64 n.M) := (HB5.out.cell (p := ⟨w.heap.size, 2, none⟩) (by simp; omega)).trans (by first | exact e2 | exact (((Below.refl _ w4).alloc (Nat.le_refl _) _).cell (p := ⟨w.heap.size, 2, none⟩) hlt4).trans e2)
               have f3 : w5.cell? ⟨w.heap.size, 3, none⟩ = some (.string n.S) := (HB5.out.cell (p := ⟨w.heap.size, 3, none⟩) (by simp; omega)).trans (by first | exact e3 | exact (((Below.refl _ w4).alloc (Nat.le_refl _) _).cell (p := ⟨w.heap.size, 3, none⟩) hlt4).trans e3)
               have HBX : Hid (Below w.heap.size w w5) := by first | exact hbd.out.trans (HB5.out.mono hbd.out.size) | exact hbd2.out.trans (HB5.out.mono hbd2.out.size)
               have HUX : Hid (w5.ownsRow w.heap.size 23 4 (.slice au fl.length cu) fl.length (fl.flatMap nodeV)) := ownsRow_base HU.out (by first | exact hbd.out.size | exact hbd2.out.size)
               clear hbd hbd2))
          all_goals
            have ho : OwnN w.heap.size w9 v9 (fl ++ [n]) := by
              unfold OwnN
              rw [List.length_append, List.flatMap_append]
              simpa using HO9.out
            clear f0 f1 f2 f3 HU HUX HBX HB5 HO9
            have hsm : SmallN (fl ++ [n]) := by
              intro x hx
              rcases List.mem_append.1 hx with hx | hx
              · rw [← HFL.out] at hx
                obtain ⟨l, hl, hxl⟩ := List.mem_flatten.1 hx
                exact HSM.out l hl x hxl
              · simp at hx; subst hx; exact hns
            have HFG := Lib.hid (congrArg (· ++ [n]) HFL.out)
            obtain ⟨g, hg⟩ : ∃ g, fl ++ [n] = g := ⟨_, rfl⟩
            rw [hg] at ho hme hsm
            have HG := Lib.hid hg; clear hg
            obtain ⟨a9, c9, rfl, _⟩ := (RowAt.of_own ho).form
            have hck := tcheck_any g _ w9 (HS.out.below HB9.out) ho.read hsm
            obtain ⟨c, hc⟩ : ∃ c, chk g = c := ⟨_, rfl⟩
            rw [hc] at hck hme
            have HCK := Lib.hid hck; clear hck hc
            have HO := Lib.hid ho; clear ho
            by_cases h0 : c = 0
            · subst h0
              go_wp2_with fail
              refine HCK.out.mono ?_
              rintro e w10 ⟨rfl, hb10⟩
              have HB10 : Hid (Below w.heap.size w w10) := HB9.out.trans (hb10.mono HB9.out.size)
              have HR10 : Hid (ReadN w10 (.slice a9 g.length c9) g) := HO.out.read.below hb10
              clear hb10
              go_wp2_with fail
              go_ret2
              exact ⟨_, by rw [hme.out]; rfl, by rw [hme.out, if_pos rfl, HFL.out, HG.out]; exact HR10.out, HB10.out⟩
            · have hcb : (c != 0) = true := by simpa using h0
              go_wp2_with fail
              refine HCK.out.mono ?_
              rintro e w10 ⟨rfl, hb10⟩
              have HB10 : Hid (Below w.heap.size w w10) := HB9.out.trans (hb10.mono HB9.out.size)
              clear hb10
              go_wp2_with fail
              go_ret2
              exact MakePost.nil hme.out h0 HB10.out
        · have hfin := Lib.hid (makeE_no (n := n) HF0.out (fun h => ha h.2))
          have hab : ((arity n : Int) == (L.length : Int)) = false := by rw [beq_eq_false_iff_ne]; omega
          clear ha
          go_wp2_with fail
          go_ret2
          exact MakePost.nil hfin.out (by omega) HB4.out

end Go.Proofs.YtjhgpifccleknaaDoor

namespace Go.Proofs.YtjhgpifccleknaaDoor
set_option linter.unusedSimpArgs false
set_option linter.unusedVariables false
open Go.RowKit

def sucN : Nd := ⟨12, 0, 0, ByteArray.empty⟩
def appN : Nd := ⟨5, 0, 0, ByteArray.empty⟩
theorem sucN_right : rightB sucN = true := by decide +kernel
theorem sucN_arity : arity sucN = 1 := by decide +kernel

theorem whole_suc {l : List Nd} {T : Tm} (h : whole l = some T) : whole (l ++ [sucN]) = some (Tm.mk sucN [T]) := by
  obtain ⟨hw, rfl⟩ := whole_some h
  have hwf : (Tm.mk sucN [T]).wf = true := wf_iff.2 ⟨sucN_right, by rw [sucN_arity]; rfl, fun t ht => by simp at ht; subst ht; exact hw⟩
  have := whole_flat hwf
  rwa [flat_mk, flatL_one] at this
theorem chk_suc {l : List Nd} {T : Tm} (h : whole l = some T) (hl : l.length ≤ 4000) (hd : T.dep ≤ 60) : chk (l ++ [sucN]) = if l.length = 4000 then 21 else if T.dep = 60 then 22 else 0 := by
  have hw := whole_suc h
  have hdep : (Tm.mk sucN [T]).dep = T.dep + 1 := by rw [dep_mk, depL_cons, depL_nil]; omega
  have hlen : (l ++ [sucN]).length = l.length + 1 := by simp
  unfold chk
  rw [hlen, hw]
  simp only [hdep]
  by_cases h1 : l.length = 4000
  · rw [if_pos (by omega), if_pos h1]
  · rw [if_neg (by omega), if_neg h1]
    by_cases h2 : T.dep = 60
    · rw [if_pos (by omega), if_pos h2]
    · rw [if_neg (by omega), if_neg h2]
theorem dpt_suc {l : List Nd} {T : Tm} (h : whole l = some T) (hc : chk (l ++ [sucN]) = 0) : dpt (l ++ [sucN]) = (T.dep : Int) + 1 := by
  unfold dpt
  rw [if_pos hc, whole_suc h]
  have hdep : (Tm.mk sucN [T]).dep = T.dep + 1 := by rw [dep_mk, depL_cons, depL_nil]; omega
  simp only [hdep]
  omega
theorem makeE_suc (l : List Nd) : makeE sucN [l] = if chk l = 0 then chk (l ++ [sucN]) else chk l := by
  unfold makeE
  simp only [List.map_cons, List.map_nil, fstE, List.flatten_cons, List.flatten_nil, List.append_nil, sucN_right, sucN_arity, List.length_cons, List.length_nil]
  by_cases h : chk l = 0
  · simp [h]
  · simp [h]

theorem chain {W a b : World} (h : Hid (Below W.heap.size W a)) (hb : Below a.heap.size a b) : Hid (Below W.heap.size W b) := h.out.trans (hb.mono h.out.size)

/-- a literal slice of slices -/
theorem ReadNN.lit1 {w : World} {t : TypeId} {v : Value} {l : List Nd} (h : ReadN w v l) : ReadNN (w.alloc (.cells #[v] t)) (.slice (some ⟨w.heap.size, 0, none⟩) 1 1) [l] := by
  refine ⟨[v], rfl, RowAt.lit (size := 1) w t #[v] 1 rfl (by unfold maxLen; omega), fun i hi u hu => ?_⟩
  obtain rfl : i = 0 := by simp at hi; omega
  simp at hu
  subst hu
  exact h.alloc _
theorem ReadNN.lit2 {w : World} {t : TypeId} {v u : Value} {l k : List Nd} (h : ReadN w v l) (h2 : ReadN w u k) : ReadNN (w.alloc (.cells #[v, u] t)) (.slice (some ⟨w.heap.size, 0, none⟩) 2 2) [l, k] := by
  refine ⟨[v, u], rfl, RowAt.lit (size := 1) w t #[v, u] 2 rfl (by unfold maxLen; omega), fun i hi x hx => ?_⟩
  match i, hi with
  | 0, _ => simp at hx; subst hx; exact h.alloc _
  | 1, _ => simp at hx; subst hx; exact h2.alloc _

set_option maxRecDepth 20000 in
set_option maxHeartbeats 4000000 in
theorem grows_walk (W : World) (t : List Nd) (vt : Value) (ht : ReadN W vt t) (hst : SmallN t) (u : List Nd) (vu : Value) (hu : ReadN W vu u) (hsu : SmallN u) (hS : ShapesAt W) :
    Calls Tryd.prog 5 #[vt, vu] W fun e W' => e = .returned (.bool true) ∧ Below W.heap.size W W' := by
  have HS := Lib.hid hS; clear hS
  obtain ⟨at_, ct, rfl⟩ := ReadN.len_slice ht
  obtain ⟨au, cu, rfl⟩ := ReadN.len_slice hu
  have HT := Lib.hid ht; clear ht
  have HU := Lib.hid hu; clear hu
  have HST := Lib.hid hst; clear hst
  have HSU := Lib.hid hsu; clear hsu
  have HSH : Hid (∀ w', Below W.heap.size W w' → Calls Tryd.prog 21 #[] w' fun e w9 => e = .returned (.bool true) ∧ Below w'.heap.size w' w9) := fun w' hb => shown2_any w' (HS.out.below hb)
  have HB0 : Hid (Below W.heap.size W W) := Below.refl _ _
  obtain ⟨lt, hlt⟩ : ∃ n, t.length = n := ⟨_, rfl⟩
  obtain ⟨lu, hlu⟩ : ∃ n, u.length = n := ⟨_, rfl⟩
  have HLT := Lib.hid hlt
  have HLU := Lib.hid hlu
  have hvt := heavy2_any t _ W HT.out
  have hvu := heavy2_any u _ W HU.out
  rw [hlt] at hvt ⊢
  rw [hlu] at hvu ⊢
  have HVT := Lib.hid hvt; clear hvt
  have HVU := Lib.hid hvu; clear hvu hlt hlu
  go_enter Tryd.func5, Tryd.ntmps5
  go_wp2_with fail
  refine HVT.out.mono ?_
  rintro e w1 ⟨⟨b1, rfl, hn1⟩, rfl⟩
  cases b1
  rotate_left
  · go_wp2_with fail
    refine (HSH.out _ HB0.out).mono ?_
    rintro e w2 ⟨rfl, hb2⟩
    go_wp2_with fail
    go_ret
    exact ⟨rfl, hb2⟩
  have hlt8 := hn1 rfl
  clear hn1
  go_wp2_with fail
  refine HVU.out.mono ?_
  rintro e w1 ⟨⟨b1, rfl, hn1⟩, rfl⟩
  cases b1
  rotate_left
  · go_wp2_with fail
    refine (HSH.out _ HB0.out).mono ?_
    rintro e w2 ⟨rfl, hb2⟩
    go_wp2_with fail
    go_ret
    exact ⟨rfl, hb2⟩
  have hlu8 := hn1 rfl
  clear hn1
  go_wp2_with fail
  refine (HSH.out _ HB0.out).mono ?_
  rintro e w2 ⟨rfl, hb2⟩
  have HB2 := chain HB0 hb2
  clear hb2
  have HTL : Hid (ReadN W (.slice at_ lt ct) t) := by show ReadN _ _ _; rw [← HLT.out]; exact HT.out
  have HUL : Hid (ReadN W (.slice au lu cu) u) := by show ReadN _ _ _; rw [← HLU.out]; exact HU.out
  have hme := makeE_suc t
  obtain ⟨c, hc⟩ : ∃ c, chk t = c := ⟨_, rfl⟩
  have HDP : Hid (∀ w', Below W.heap.size W w' → Calls Tryd.prog 29 #[.slice at_ lt ct] w' fun e w9 => e = .returned (.tuple #[.int .i64 (dpt t), .int .i64 c]) ∧ Below w'.heap.size w' w9) := by
    show ∀ w', _
    intro w' hb
    rw [← hc]
    exact tdepth_any t _ w' (HS.out.below hb) (HTL.out.below hb) HST.out
  have HCK : Hid (∀ w', Below W.heap.size W w' → Calls Tryd.prog 32 #[.slice at_ lt ct] w' fun e w9 => e = .returned (.int .i64 c) ∧ Below w'.heap.size w' w9) := by
    show ∀ w', _
    intro w' hb
    rw [← hc]
    exact refcheck2_any t _ w' (HTL.out.below hb) HST.out
  have HMK : Hid (∀ w', Below W.heap.size W w' → Calls Tryd.prog 31 #[.agg #[.int .i64 12, .int .i64 0, .int .i64 0, .string ByteArray.empty], .slice (some ⟨w'.heap.size, 0, none⟩) 1 1] (w'.alloc (.cells #[.slice at_ lt ct] 30)) (MakePost sucN [t] (w'.alloc (.cells #[.slice at_ lt ct] 30)))) := by
    show ∀ w', _
    intro w' hb
    exact tmake_any sucN [t] _ _ (HS.out.below (hb.alloc hb.size _)) (by show (0 : Nat) ≤ maxLen; omega) (ReadNN.lit1 (HTL.out.below hb)) (fun l hl => by simp at hl; subst hl; exact HST.out)
  have HMA : Hid (∀ w', Below W.heap.size W w' → Calls Tryd.prog 31 #[.agg #[.int .i64 5, .int .i64 0, .int .i64 0, .string ByteArray.empty], .slice (some ⟨w'.heap.size, 0, none⟩) 2 2] (w'.alloc (.cells #[.slice at_ lt ct, .slice au lu cu] 30)) (MakePost appN [t, u] (w'.alloc (.cells #[.slice at_ lt ct, .slice au lu cu] 30)))) := by
    show ∀ w', _
    intro w' hb
    exact tmake_any appN [t, u] _ _ (HS.out.below (hb.alloc hb.size _)) (by show (0 : Nat) ≤ maxLen; omega) (ReadNN.lit2 (HTL.out.below hb) (HUL.out.below hb)) (fun l hl => by simp at hl; rcases hl with rfl | rfl; exact HST.out; exact HSU.out)
  have HHC := Lib.hid hc
  rw [hc] at hme
  obtain ⟨me, hmeq⟩ : ∃ me, makeE sucN [t] = me := ⟨_, rfl⟩
  rw [hmeq] at hme
  obtain ⟨dp, hdp⟩ : ∃ dp, dpt t = dp := ⟨_, rfl⟩
  rw [hdp] at HDP
  have HDPQ := Lib.hid hdp
  have HMEQ := Lib.hid hmeq
  clear hc hmeq hdp
  go_wp2_with fail
  refine (HMK.out _ HB2.out).mono ?_
  rintro e w3 ⟨s, rfl, hs, hb3⟩
  rw [HMEQ.out] at hs ⊢
  have HB3 : Hid (Below W.heap.size W w3) := (HB2.out.alloc HB2.out.size _).trans (hb3.mono (by have := HB2.out.size; simp; omega))
  clear hb3
  by_cases h0 : c = 0
  rotate_left
  · rw [if_neg h0] at hme
    subst hme
    rw [if_neg h0] at hs
    obtain ⟨sa, sc, rfl⟩ := ReadN.len_slice hs
    have hcb : (me != 0) = true := by simpa using h0
    clear hs
    go_wp2_with fail
    refine (HDP.out _ HB3.out).mono ?_
    rintro e w4 ⟨rfl, hb4⟩
    have HB4 := chain HB3 hb4
    clear hb4
    go_wp2_with fail
    refine (HCK.out _ HB4.out).mono ?_
    rintro e w5 ⟨rfl, hb5⟩
    have HB5 := chain HB4 hb5
    clear hb5
    go_wp2_with fail
    go_ret
    exact ⟨by simp, HB5.out⟩
  rw [if_pos h0] at hme
  obtain ⟨hl4, T, hw, hd6⟩ := chk_ok (HHC.out.trans h0)
  rw [chk_suc hw hl4 hd6] at hme
  rw [HLT.out] at hme hl4
  have hdq : dp = (T.dep : Int) := by rw [← HDPQ.out]; unfold dpt; rw [if_pos (HHC.out.trans h0), hw]
  have hds := dpt_suc hw
  have hpos := dep_pos T
  subst h0
  subst hdq
  by_cases hbig : T.dep = 60 ∨ lt = 4000
  · have hme0 : me ≠ 0 := by
      rw [hme]
      rcases hbig with h | h
      · rw [h]; split <;> simp
      · rw [if_pos h]; simp
    rw [if_neg hme0] at hs
    obtain ⟨sa, sc, rfl⟩ := ReadN.len_slice hs
    have hcb : (me != 0) = true := by simpa using hme0
    have HSS := Lib.hid hs
    have HME := Lib.hid hme
    clear hs hme hds hw
    have hdc : (T.dep = 60 ∧ ((T.dep : Int) == 60) = true) ∨ (((T.dep : Int) == 60) = false ∧ ((lt : Int) == 4000) = true) := by
      by_cases h : T.dep = 60
      · exact .inl ⟨h, by rw [h]; rfl⟩
      · have h2 : lt = 4000 := by rcases hbig with h' | h'; exact absurd h' h; exact h'
        exact .inr ⟨by rw [beq_eq_false_iff_ne]; omega, by rw [h2]; rfl⟩
    clear hbig
    go_wp2_with fail
    refine (HDP.out _ HB3.out).mono ?_
    rintro e w4 ⟨rfl, hb4⟩
    have HB4 := chain HB3 hb4
    have HSS4 := Lib.hid (HSS.out.below hb4)
    clear hb4
    go_wp2_with fail
    refine (HCK.out _ HB4.out).mono ?_
    rintro e w5 ⟨rfl, hb5⟩
    have HB5 := chain HB4 hb5
    have HSS5 := Lib.hid (HSS4.out.below hb5)
    clear hb5
    go_wp2_with fail
    refine (tdepth_any [] _ _ (HS.out.below HB5.out) HSS5.out (fun n hn => by cases hn)).mono ?_
    rintro e w6 ⟨rfl, hb6⟩
    have HB6 := chain HB5 hb6
    clear hb6
    obtain ⟨x1, hx1⟩ : ∃ x, dpt [] = x := ⟨_, rfl⟩
    obtain ⟨x2, hx2⟩ : ∃ x, chk [] = x := ⟨_, rfl⟩
    rw [hx1, hx2]
    clear hx1 hx2
    rcases hdc with ⟨_, h1⟩ | ⟨h1, h2⟩
    · go_wp2_with fail
      go_ret
      exact ⟨by simp, HB6.out⟩
    · go_wp2_with fail
      go_ret
      exact ⟨by simp, HB6.out⟩
  · have hb1 : T.dep ≠ 60 := fun h => hbig (.inl h)
    have hb2 : lt ≠ 4000 := fun h => hbig (.inr h)
    rw [if_neg hb2, if_neg hb1] at hme
    subst hme
    rw [if_pos rfl] at hs
    have h1 : ((T.dep : Int) == 60) = false := by rw [beq_eq_false_iff_ne]; omega
    have h2 : ((lt : Int) == 4000) = false := by rw [beq_eq_false_iff_ne]; omega
    have hcs : chk (t ++ [sucN]) = 0 := by rw [chk_suc hw (by rw [HLT.out]; exact hl4) hd6, HLT.out, if_neg hb2, if_neg hb1]
    have hdd := hds hcs
    have hfl : [t].flatten ++ [sucN] = t ++ [sucN] := by simp
    rw [hfl] at hs
    have hll : (t ++ [sucN]).length = lt + 1 := by simp [HLT.out]
    have hsm : SmallN (t ++ [sucN]) := by
      intro n hn
      rcases List.mem_append.1 hn with hn | hn
      · exact HST.out n hn
      · simp at hn; subst hn; show (0 : Nat) ≤ maxLen; omega
    obtain ⟨g, hg⟩ : ∃ g, t ++ [sucN] = g := ⟨_, rfl⟩
    rw [hg] at hs hcs hdd hll hsm
    obtain ⟨sa, sc, rfl⟩ := ReadN.len_slice hs
    rw [hll] at hs ⊢
    have HSS := Lib.hid hs
    have HDD := Lib.hid hdd
    have HCS := Lib.hid hcs
    have HAPP : Hid (∀ w' : World, ∀ x, ReadN w' x (if makeE appN [t, u] = 0 then [t, u].flatten ++ [appN] else []) → makeE appN [t, u] = 0 → ∃ a c, x = .slice a (lt + lu + 1) c) := by
      show ∀ w' : World, _
      intro w' x hx he
      rw [if_pos he] at hx
      obtain ⟨a, c, h⟩ := ReadN.len_slice hx
      have : ([t, u].flatten ++ [appN]).length = lt + lu + 1 := by simp [HLT.out, HLU.out]; omega
      rw [this] at h
      exact ⟨a, c, h⟩
    clear hs hdd hcs hfl hll hg hds hw hbig hb1 hb2
    go_wp2_with fail
    refine (HDP.out _ HB3.out).mono ?_
    rintro e w4 ⟨rfl, hb4⟩
    have HB4 := chain HB3 hb4
    have HSS4 := Lib.hid (HSS.out.below hb4)
    clear hb4
    go_wp2_with fail
    refine (HCK.out _ HB4.out).mono ?_
    rintro e w5 ⟨rfl, hb5⟩
    have HB5 := chain HB4 hb5
    have HSS5 := Lib.hid (HSS4.out.below hb5)
    clear hb5
    go_wp2_with fail
    refine (tdepth_any g _ _ (HS.out.below HB5.out) HSS5.out hsm).mono ?_
    rintro e w6 ⟨rfl, hb6⟩
    rw [HDD.out, HCS.out]
    have HB6 := chain HB5 hb6
    clear hb6
    go_wp2_with fail
    refine (HMA.out _ HB6.out).mono ?_
    rintro e w7 ⟨x, rfl, hx, hb7⟩
    have HB7 : Hid (Below W.heap.size W w7) := (HB6.out.alloc HB6.out.size _).trans (hb7.mono (by have := HB6.out.size; simp; omega))
    have hax := HAPP.out _ x hx
    clear hb7 hx
    obtain ⟨h, hh⟩ : ∃ h, makeE appN [t, u] = h := ⟨_, rfl⟩
    rw [hh] at hax ⊢
    clear hh HAPP HMA
    by_cases hz : h = 0
    · obtain ⟨ax, cx, rfl⟩ := hax hz
      subst hz
      clear hax
      go_wp2_with fail
      go_ret
      exact ⟨by simp, HB7.out⟩
    · have hzb : (h != 0) = true := by simpa using hz
      clear hax
      go_wp2_with fail
      go_ret
      exact ⟨by simp, HB7.out⟩

end Go.Proofs.YtjhgpifccleknaaDoor

namespace Go.Proofs.YtjhgpifccleknaaDoor
set_option linter.unusedSimpArgs false
set_option linter.unusedVariables false
open Go.RowKit

def OfPost (n : Nd) (L : List (List Nd)) (w : World) (e : Ending) (w' : World) : Prop := ∃ v, e = .returned v ∧ OwnN w.heap.size w' v (L.flatten ++ [n]) ∧ Below w.heap.size w w'

theorem nodeV_one (n : Nd) : ∀ u ∈ nodeV n, u.oneCell' = true := by
  intro u hu
  simp [nodeV] at hu
  rcases hu with rfl | rfl | rfl | rfl <;> rfl

def OfRel (w : World) (L : List (List Nd)) (out i : Value) (wr w0 : World) : Prop :=
  ∃ k : Nat, k ≤ L.length ∧ i = .int .i64 (k : Int) ∧ OwnN (w.heap.size + 1) wr out (L.take k).flatten ∧ Below (w.heap.size + 1) w0 wr

set_option maxRecDepth 20000 in
set_option maxHeartbeats 2000000 in
theorem refof_any (n : Nd) (L : List (List Nd)) (v : Value) (w : World) (hv : ReadNN w v L) (hn : L.flatten.length ≤ 1000000) :
    Calls Tryd.prog 78 #[.agg #[.int .i64 n.K, .int .i64 n.N, .int .i64 n.M, .string n.S], v] w (OfPost n L w) := by
  obtain ⟨i0, hi, hz0, hz1, hz2⟩ := info_parts Tryd.infoNode
  have hshape : ∃ ad cp, v = .slice ad L.length cp := by
    obtain ⟨vs, _, hr, _⟩ := hv
    obtain ⟨a, c, h, _⟩ := hr.form
    exact ⟨a, c, h⟩
  obtain ⟨ad, cp, rfl⟩ := hshape
  have hm9 : L.length ≤ 9223372036854775807 := by have := hv.shape.1; unfold maxLen at this; omega
  have HV := Lib.hid hv; clear hv
  obtain ⟨w0, hw0⟩ : ∃ w0, w.alloc (.cells #[.int .i64 n.K, .int .i64 n.N, .int .i64 n.M, .string n.S] 23) = w0 := ⟨_, rfl⟩
  have hbw0 : Below (w.heap.size + 1) (w.alloc (.cells #[.int .i64 n.K, .int .i64 n.N, .int .i64 n.M, .string n.S] 23)) w0 := by rw [hw0]; exact Below.refl _ _
  obtain ⟨b0, b1, b2, b3, hlt0⟩ := box_cells hbw0
  have hb0 := below_box hbw0
  have hsz0 : w0.heap.size = w.heap.size + 1 := by rw [← hw0]; simp
  have HB0 := Lib.hid hb0; clear hb0 hbw0
  have HSZ0 := Lib.hid hsz0; clear hsz0
  go_enter Tryd.func78, Tryd.ntmps78
  go_wp2_with fail
  go_loopw [5, 6] (fun out i wr => OfRel w L out i wr w0) (fun _ i _ => L.length - (intOf i).toNat)
  case atStart =>
    refine ⟨0, Nat.zero_le _, rfl, ?_, ?_⟩
    · exact World.ownsRow_lit w0 #[] 0 (by have := HSZ0.out; omega) (by unfold maxLen; omega) rfl
    · exact (Below.refl _ _).alloc (by have := HSZ0.out; omega) _
  case round =>
    rename World => wr
    obtain ⟨k, hk, rfl, ho, hb⟩ := hrel
    have HO := Lib.hid ho; clear ho
    have hbw : Below w.heap.size w wr := HB0.out.trans (hb.mono (by omega))
    have HBW := Lib.hid hbw; clear hbw
    have HB := Lib.hid hb
    have hszr : w.heap.size + 1 ≤ wr.heap.size := by have := hb.size; have := HSZ0.out; omega
    obtain ⟨ao, co, rfl, _⟩ := (RowAt.of_own HO.out).form
    by_cases hlt : k < L.length
    · have hvr := HV.out.below HBW.out
      obtain ⟨b, off, cap, he, _⟩ : ∃ b off cap, ad = some ⟨b, off, none⟩ ∧ cap = cp := by
        obtain ⟨_, ⟨h0, _⟩ | ⟨b, off, cap, he, _⟩⟩ := ReadNN.shape hvr
        · rw [h0] at hlt; simp at hlt
        · simp at he; exact ⟨b, off, cap, he.1, he.2.symm⟩
      subst he
      obtain ⟨a1, c1, g1, r1⟩ := hvr.at hlt
      have R1 := Lib.hid r1; clear r1 hvr hb
      have hft := flat_take hlt
      have hle2 := flat_le L (k + 1)
      rw [hft, List.length_append] at hle2
      have HFT := Lib.hid hft; clear hft b0 b1 b2 b3 hw0
      go_wp2_with (at_builtin; go_must (refine wpList_append_row rfl (.tmp 14) (.tmp 18) 30 rfl (w.heap.size + 1) 23 i0 (.agg #[.int .i64 0, .int .i64 0, .int .i64 0, .string ByteArray.empty]) 4 40 Tryd.underlying30 hi hz0 hz1 hz2 rfl (by decide) (.slice ao (L.take k).flatten.length co) (L.take k).flatten.length ((L.take k).flatten.flatMap nodeV) rfl HO.out (.slice a1 L[k].length c1) L[k].length (L[k].flatMap nodeV) rfl R1.out (nodes_one _) (by omega) (by unfold maxLen; omega) hszr ?_); intro v5 w5 hown5 hg5 hat5)
      have hb5 : Below (w.heap.size + 1) w0 w5 := HB.out.grown hg5 (by omega) (fun g hg => (HO.out.lt g hg).1)
      have HO5 := Lib.hid hown5; clear hown5 hg5 hat5
      have HB5 := Lib.hid hb5; clear hb5
      go_wp2_with fail
      refine ⟨⟨k + 1, by omega, by go_num, ?_, HB5.out⟩, by simp [intOf]; omega⟩
      unfold OwnN
      rw [HFT.out, List.length_append, List.flatMap_append]
      exact HO5.out
    · obtain rfl : k = L.length := by omega
      rw [List.take_length] at HO ⊢
      obtain ⟨fl, hfl⟩ : ∃ fl, L.flatten = fl := ⟨_, rfl⟩
      rw [hfl] at HO hn ⊢
      have HFL := Lib.hid hfl; clear hfl
      have c0 := (hb.cell (p := ⟨w.heap.size, 0, none⟩) (by simp)).trans b0
      have c1 := (hb.cell (p := ⟨w.heap.size, 1, none⟩) (by simp)).trans b1
      have c2 := (hb.cell (p := ⟨w.heap.size, 2, none⟩) (by simp)).trans b2
      have c3 := (hb.cell (p := ⟨w.heap.size, 3, none⟩) (by simp)).trans b3
      clear b0 b1 b2 b3 hw0 hb
      go_wp2_with (at_builtin; go_must (refine wpList_append_row rfl (.tmp 20) (.tmp 22) 30 rfl (w.heap.size + 1) 23 i0 (.agg #[.int .i64 0, .int .i64 0, .int .i64 0, .string ByteArray.empty]) 4 40 Tryd.underlying30 hi hz0 hz1 hz2 rfl (by decide) (.slice ao fl.length co) fl.length (fl.flatMap nodeV) rfl (HO.out.alloc _) (.slice (some ⟨wr.heap.size, 0, none⟩) 1 1) 1 (nodeV n) rfl (RowAt.lit (size := 4) wr _ #[.int .i64 n.K, .int .i64 n.N, .int .i64 n.M, .string n.S] 1 rfl (by unfold maxLen; omega)) (nodeV_one n) (by omega) (by unfold maxLen; omega) (by simp; omega) ?_); intro v5 w5 hown5 hg5 hat5)
      have hb5 : Below w.heap.size w w5 := (HBW.out.alloc HBW.out.size _).grown hg5 (by have := HBW.out.size; simp; omega) (fun g hg => by have := (HO.out.lt g hg).1; omega)
      have HO5 := Lib.hid hown5; clear hown5 hg5 hat5
      have HB5 := Lib.hid hb5; clear hb5
      go_wp2_with fail
      go_ret
      refine ⟨v5, rfl, ?_, HB5.out⟩
      rw [HFL.out]
      unfold OwnN
      rw [List.length_append, List.flatMap_append]
      have h := ownsRow_base HO5.out (show w.heap.size ≤ w.heap.size + 1 by omega)
      simpa using h

theorem chain2 {W a b : World} (h : Hid (Below W.heap.size W a)) (hb : Below a.heap.size a b) : Hid (Below W.heap.size W b) := h.out.trans (hb.mono h.out.size)

set_option maxRecDepth 20000 in
set_option maxHeartbeats 4000000 in
theorem refmake_any (n : Nd) (L : List (List Nd)) (v : Value) (w : World) (hns : n.S.size ≤ maxLen) (hv : ReadNN w v L) (hs : SmallNN L) :
    Calls Tryd.prog 46 #[.agg #[.int .i64 n.K, .int .i64 n.N, .int .i64 n.M, .string n.S], v] w (MakePost n L w) := by
  obtain ⟨i0, hi, hz0, hz1, hz2⟩ := info_parts Tryd.infoNode
  have HSM := Lib.hid hs; clear hs
  have hshape : ∃ ad cp, v = .slice ad L.length cp := by
    obtain ⟨vs, _, hr, _⟩ := hv
    obtain ⟨a, c, h, _⟩ := hr.form
    exact ⟨a, c, h⟩
  obtain ⟨ad, cp, rfl⟩ := hshape
  have hm9 : L.length ≤ 9223372036854775807 := by have := hv.shape.1; unfold maxLen at this; omega
  have HV := Lib.hid hv; clear hv
  go_enter Tryd.func46, Tryd.ntmps46
  go_wp2_with fail
  obtain ⟨w0, hw0⟩ : ∃ w0, w.alloc (.cells #[.int .i64 n.K, .int .i64 n.N, .int .i64 n.M, .string n.S] 23) = w0 := ⟨_, rfl⟩
  have hbw0 : Below (w.heap.size + 1) (w.alloc (.cells #[.int .i64 n.K, .int .i64 n.N, .int .i64 n.M, .string n.S] 23)) w0 := by rw [hw0]; exact Below.refl _ _
  obtain ⟨b0, b1, b2, b3, hlt0⟩ := box_cells hbw0
  have hb0 := below_box hbw0
  rw [hw0]
  have HB0 := Lib.hid hb0; clear hb0 hbw0
  have HW0 := Lib.hid hw0; clear hw0
  go_loopw [6] (fun i wr => ∃ k : Nat, k ≤ L.length ∧ i = .int .i64 (k : Int) ∧ (∀ i (hi : i < k) (hl : i < L.length), chk L[i] = 0) ∧ Below w0.heap.size w0 wr) (fun i _ => L.length - (intOf i).toNat)
  case atStart => exact ⟨0, Nat.zero_le _, rfl, (fun i hi => by omega), Below.refl _ _⟩
  case round =>
    rename World => wr
    obtain ⟨k, hk, rfl, hall, hb⟩ := hrel
    have HALL := Lib.hid hall; clear hall
    have hbw : Below w.heap.size w wr := HB0.out.trans (hb.mono HB0.out.size)
    have HBW := Lib.hid hbw; clear hbw
    have HB := Lib.hid hb
    by_cases hlt : k < L.length
    · have hvr := HV.out.below HBW.out
      obtain ⟨b, off, cap, he, _⟩ : ∃ b off cap, ad = some ⟨b, off, none⟩ ∧ cap = cp := by
        obtain ⟨_, ⟨h0, _⟩ | ⟨b, off, cap, he, _⟩⟩ := ReadNN.shape hvr
        · rw [h0] at hlt; simp at hlt
        · simp at he; exact ⟨b, off, cap, he.1, he.2.symm⟩
      subst he
      obtain ⟨a1, c1, g1, r1⟩ := hvr.at hlt
      have hck := refcheck2_any L[k] _ wr r1 (HSM.out _ (List.getElem_mem hlt))
      obtain ⟨c, hc⟩ : ∃ c, chk L[k] = c := ⟨_, rfl⟩
      have hfa := fst_at hlt (fun i hi => HALL.out i hi (by omega))
      rw [hc] at hck hfa
      have HCK := Lib.hid hck; clear hck
      have HFA := Lib.hid hfa; clear hfa
      have HC := Lib.hid hc; clear hc r1 hvr hb b0 b1 b2 b3
      go_wp2_with fail
      refine HCK.out.mono ?_
      rintro e w3 ⟨rfl, hb3⟩
      have HB3 : Hid (Below w.heap.size w w3) := HBW.out.trans (hb3.mono HBW.out.size)
      have HBB3 : Hid (Below w0.heap.size w0 w3) := HB.out.trans (hb3.mono HB.out.size)
      clear hb3
      by_cases h0 : c = 0
      · subst h0
        clear HFA
        go_wp2_with fail
        refine ⟨⟨k + 1, by omega, by go_num, fun i hi hl => ?_, HBB3.out⟩, by simp [intOf]; omega⟩
        by_cases e : i = k
        · subst e; exact HC.out
        · exact HALL.out i (by omega) hl
      · have hcb : (c != 0) = true := by simpa using h0
        have hfin := Lib.hid (makeE_fst (n := n) (HFA.out h0) h0)
        go_wp2_with fail
        go_ret2
        exact MakePost.nil hfin.out h0 HB3.out
    · obtain rfl : k = L.length := by omega
      have hf0 := fst_none (fun i hi => HALL.out i hi hi)
      have HF0 := Lib.hid hf0; clear hf0
      have c0 := (hb.cell (p := ⟨w.heap.size, 0, none⟩) hlt0).trans b0
      have c1 := (hb.cell (p := ⟨w.heap.size, 1, none⟩) hlt0).trans b1
      have c2 := (hb.cell (p := ⟨w.heap.size, 2, none⟩) hlt0).trans b2
      have c3 := (hb.cell (p := ⟨w.heap.size, 3, none⟩) hlt0).trans b3
      have hltr : w.heap.size < wr.heap.size := by have := hb.size; omega
      clear b0 b1 b2 b3 hb hk
      go_wp2_with fail
      refine (refbinds_any n _ hns).mono ?_
      rintro e w3 ⟨vb, lb, rfl, hvb, hlb, hb3⟩
      obtain ⟨ab, cb, rfl⟩ := ReadI.len_slice hvb
      have d0 := (hb3.cell (p := ⟨w.heap.size, 0, none⟩) hltr).trans c0
      have d1 := (hb3.cell (p := ⟨w.heap.size, 1, none⟩) hltr).trans c1
      have d2 := (hb3.cell (p := ⟨w.heap.size, 2, none⟩) hltr).trans c2
      have d3 := (hb3.cell (p := ⟨w.heap.size, 3, none⟩) hltr).trans c3
      have HB3 : Hid (Below w.heap.size w w3) := HBW.out.trans (hb3.mono HBW.out.size)
      clear hb3 c0 c1 c2 c3 hvb
      cases hr : rightB n
      · have hfin := Lib.hid (makeE_no (n := n) HF0.out (by rw [hr]; rintro ⟨h, _⟩; cases h))
        clear hr hlb
        go_wp2_with fail
        go_ret2
        exact MakePost.nil hfin.out (by omega) HB3.out
      · have ha10 := arity_ten hr
        have hll : lb.length = arity n := by rw [hlb hr]; simp [arity]
        rw [hll]
        by_cases ha : arity n = L.length
        · have hme := Lib.hid (makeE_yes HF0.out hr ha)
          rw [ha]
          have hl10 : L.length ≤ 10 := by omega
          have hfb := flat_bound L (fun l hl => by
            obtain ⟨i, hi, rfl⟩ := List.mem_iff_getElem.1 hl
            exact (chk_ok (HALL.out i hi hi)).1)
          have HOF := Lib.hid (refof_any n L (.slice ad L.length cp) w3 (HV.out.below HB3.out) (by omega))
          clear ha ha10 hr hlb hll hfb
          go_wp2_with fail
          refine HOF.out.mono ?_
          rintro e w9 ⟨v9, rfl, ho, hb9⟩
          have HB9 := chain2 HB3 hb9
          clear hb9
          have hsm : SmallN (L.flatten ++ [n]) := by
            intro x hx
            rcases List.mem_append.1 hx with hx | hx
            · obtain ⟨l, hl, hxl⟩ := List.mem_flatten.1 hx
              exact HSM.out l hl x hxl
            · simp at hx; subst hx; exact hns
          obtain ⟨g, hg⟩ : ∃ g, L.flatten ++ [n] = g := ⟨_, rfl⟩
          rw [hg] at ho hme hsm
          have HG := Lib.hid hg; clear hg
          obtain ⟨a9, c9, rfl, _⟩ := (RowAt.of_own ho).form
          have hck := refcheck2_any g _ w9 ho.read hsm
          obtain ⟨c, hc⟩ : ∃ c, chk g = c := ⟨_, rfl⟩
          rw [hc] at hck hme
          have HCK := Lib.hid hck; clear hck hc
          have HO := Lib.hid ho; clear ho d0 d1 d2 d3
          by_cases h0 : c = 0
          · subst h0
            go_wp2_with fail
            refine HCK.out.mono ?_
            rintro e w10 ⟨rfl, hb10⟩
            have HB10 : Hid (Below w.heap.size w w10) := HB9.out.trans (hb10.mono HB9.out.size)
            have HR10 : Hid (ReadN w10 (.slice a9 g.length c9) g) := HO.out.read.below hb10
            clear hb10
            go_wp2_with fail
            go_ret2
            exact ⟨_, by rw [hme.out]; rfl, by rw [hme.out, if_pos rfl, HG.out]; exact HR10.out, HB10.out⟩
          · have hcb : (c != 0) = true := by simpa using h0
            go_wp2_with fail
            refine HCK.out.mono ?_
            rintro e w10 ⟨rfl, hb10⟩
            have HB10 : Hid (Below w.heap.size w w10) := HB9.out.trans (hb10.mono HB9.out.size)
            clear hb10
            go_wp2_with fail
            go_ret2
            exact MakePost.nil hme.out h0 HB10.out
        · have hfin := Lib.hid (makeE_no (n := n) HF0.out (fun h => ha h.2))
          have hab : ((arity n : Int) == (L.length : Int)) = false := by rw [beq_eq_false_iff_ne]; omega
          clear ha hr hlb hll ha10
          go_wp2_with fail
          go_ret2
          exact MakePost.nil hfin.out (by omega) HB3.out

end Go.Proofs.YtjhgpifccleknaaDoor
