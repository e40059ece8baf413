/- What the reference's whole comes to, for every row of nodes; condition: the strings' sizes, and at most 4000 nodes. What the reference's from comes to: where a term begins that ends at a place; for every term that is one, wherever it stands in a row of nodes; condition: the strings' sizes, and at most 4000 nodes. What the reference's Parts and Deep come to, for every term that is one; condition: the strings' sizes, and at most 4000 nodes. What the reference's Deep comes to, for every term that is one; condition: the strings' sizes, and at most 4000 nodes. What the reference's deeper, Check and Depth come to; condition: the strings' sizes. What the reference's Root and Same, and chapter 2's heavy and lists come to. What the reference's Depth and Args, and chapter 2's lists come to; condition: the strings' sizes. -/
import Derived.Test.YtoagedaohdkbdaaDoorRi
import Derived.Test.YtoagedaohdkbdaaDoorRh
namespace Go.Proofs.YtoagedaohdkbdaaDoor
set_option linter.unusedSimpArgs false
set_option linter.unusedVariables false
open Go.RowKit

theorem whole_isSome {l : List Nd} {st : List Tm} (h : prun [] l = some st) : (whole l).isSome = ((st.length : Int) == 1) := by
  unfold whole
  rw [h]
  match st with
  | [] => rfl
  | [t] => rfl
  | t :: u :: r =>
    have : (((t :: u :: r).length : Int) == 1) = false := by rw [beq_eq_false_iff_ne]; simp; omega
    rw [this]
    rfl
theorem step_len {l : List Nd} {k : Nat} {st : List Tm} (hk : k < l.length) (h : prun [] (l.take k) = some st) (h1 : rightB l[k] = true) (h2 : arity l[k] ≤ st.length) :
    ∃ st', prun [] (l.take (k + 1)) = some st' ∧ (st'.length : Int) = (st.length : Int) - (arity l[k] : Int) + 1 := by
  rw [prun_take hk h]
  unfold pstep
  rw [if_pos ⟨h1, h2⟩]
  exact ⟨_, rfl, by simp; omega⟩

set_option maxRecDepth 20000 in
set_option maxHeartbeats 2000000 in
theorem refwhole_any (l : List Nd) (v : Value) (w : World) (hv : ReadN w v l) (hs : SmallN l) (hl : l.length ≤ 4000) :
    Calls Tryd.prog 27 #[v] w fun e w' => e = .returned (.bool (whole l).isSome) ∧ Below w.heap.size w w' := by
  obtain ⟨_, ⟨h0, a, cap, rfl⟩ | ⟨b, off, cap, rfl, hcap1, hcap2, hbw, hc⟩⟩ := hv.cases
  · subst h0
    go_enter Tryd.func27, Tryd.ntmps27
    go_wp2_with fail
    go_loopw [3, 4] (fun d i wr => d = .int .i64 0 ∧ i = .int .i64 0 ∧ wr = w) (fun _ _ _ => 0)
    case atStart => exact ⟨rfl, rfl, rfl⟩
    case round =>
      obtain ⟨rfl, rfl, rfl⟩ := hrel
      go_wp2_with fail
      go_ret
      exact ⟨rfl, Below.refl _ _⟩
  have HC := Lib.hid hc; clear hc
  have HV := Lib.hid hv; clear hv
  have HSM := Lib.hid hs; clear hs
  go_enter Tryd.func27, Tryd.ntmps27
  go_wp2_with fail
  go_loopw [3, 4] (fun d i wr => ∃ (k : Nat) (st : List Tm), k ≤ l.length ∧ i = .int .i64 (k : Int) ∧ d = .int .i64 (st.length : Int) ∧ prun [] (l.take k) = some st ∧ Below w.heap.size w wr) (fun _ i _ => l.length - (intOf i).toNat)
  case atStart => exact ⟨0, [], Nat.zero_le _, rfl, rfl, by simp [prun], Below.refl _ _⟩
  case round =>
    rename World => wa
    obtain ⟨k, st, hk, rfl, rfl, hp, hb⟩ := hrel
    have HB := Lib.hid hb
    have hst := stack_le hp hk
    by_cases hlt : k < l.length
    · obtain ⟨g0, g1, g2, g3⟩ := HC.out k hlt
      have c0 := (hb.cell (p := ⟨b, off + k * 4, none⟩) hbw).trans g0
      have c1 := (hb.cell (p := ⟨b, off + k * 4 + 1, none⟩) hbw).trans g1
      have c2 := (hb.cell (p := ⟨b, off + k * 4 + 2, none⟩) hbw).trans g2
      have c3 := (hb.cell (p := ⟨b, off + k * 4 + 3, none⟩) hbw).trans g3
      clear g0 g1 g2 g3 hb
      have hsz : (l[k]).S.size ≤ maxLen := HSM.out _ (List.getElem_mem hlt)
      have hno := whole_none_of hlt hp
      have hyes := step_len hlt hp
      obtain ⟨nd, hnd⟩ : ∃ nd, l[k] = nd := ⟨_, rfl⟩
      rw [hnd] at c0 c1 c2 c3 hsz hno hyes
      have HNO := Lib.hid hno; clear hno
      have HYES := Lib.hid hyes; clear hyes hnd
      have HP := Lib.hid hp; clear hp
      go_wp2_with fail
      refine (refbinds_any nd _ hsz).mono ?_
      rintro e w1 ⟨vb, lb, rfl, hvb, hlb, hb1⟩
      obtain ⟨a, cb, rfl⟩ := ReadI.len_slice hvb
      have hb2 := HB.out.trans (hb1.mono HB.out.size)
      have HB2 := Lib.hid hb2; clear hb2 hb1
      clear c0 c1 c2 c3 hvb
      cases hr : rightB nd
      · have hn : Hid (whole l = none) := HNO.out (fun h => by rw [hr] at h; cases h.1)
        clear hr hlb
        go_wp2_with fail
        go_ret
        exact ⟨by rw [hn.out]; rfl, HB2.out⟩
      · have hll : lb.length = arity nd := by rw [hlb hr]; simp [arity]
        rw [hll]
        clear hll hlb
        by_cases har : arity nd ≤ st.length
        · obtain ⟨st', hp', hl'⟩ := HYES.out hr har
          have HP' := Lib.hid hp'; clear hp'
          have HL' := Lib.hid hl'; clear hl'
          obtain ⟨ar, hA⟩ : ∃ ar, arity nd = ar := ⟨_, rfl⟩
          rw [hA] at har HL' ⊢
          clear hr hA
          go_wp2_with fail
          go_roundw
          case rel => exact ⟨k + 1, st', by omega, by go_num, by rw [HL'.out], HP'.out, HB2.out⟩
          case measure => simp [intOf]; omega
        · have hn : Hid (whole l = none) := HNO.out (fun h => har h.2)
          have har' : st.length < arity nd := by omega
          have ha6 : arity nd ≤ 100000 := by
            obtain ⟨kk, hK, hkk⟩ := right_kind hr
            unfold arity bnds
            split
            · have := right_M hr (.inl (by assumption)); simp; omega
            · split
              · have := right_M hr (.inr (by assumption)); simp; omega
              · have := shp_len kk hkk; rw [hK]; simp; omega
          obtain ⟨ar, hA⟩ : ∃ ar, arity nd = ar := ⟨_, rfl⟩
          rw [hA] at har' ha6 ⊢
          clear hr hA har
          go_wp2_with fail
          go_ret
          exact ⟨by rw [hn.out]; rfl, HB2.out⟩
    · obtain rfl : k = l.length := by omega
      rw [List.take_length] at hp
      have hw := whole_isSome hp
      have HW := Lib.hid hw; clear hw hp hb
      go_wp2_with fail
      go_ret
      exact ⟨by rw [HW.out]; rfl, HB.out⟩

end Go.Proofs.YtoagedaohdkbdaaDoor

namespace Go.Proofs.YtoagedaohdkbdaaDoor
set_option linter.unusedSimpArgs false
set_option linter.unusedVariables false
open Go.RowKit

theorem cs_split (cs : List Tm) {k : Nat} (h : k < cs.length) : flatL cs = flatL (cs.take k) ++ cs[k].flat ++ flatL (cs.drop (k + 1)) := by
  have e : cs = cs.take k ++ [cs[k]] ++ cs.drop (k + 1) := by simp
  conv => lhs; rw [e]
  rw [flatL_append, flatL_append, flatL_one]

end Go.Proofs.YtoagedaohdkbdaaDoor

namespace Go.Proofs.YtoagedaohdkbdaaDoor
set_option linter.unusedSimpArgs false
set_option linter.unusedVariables false
open Go.RowKit
def PartsPost (cs : List Tm) (w : World) (e : Ending) (w' : World) : Prop := ∃ a cap, e = .returned (.slice a cs.length cap) ∧ ReadNN w' (.slice a cs.length cap) (cs.map Tm.flat) ∧ Below w.heap.size w w'

end Go.Proofs.YtoagedaohdkbdaaDoor

namespace Go.Proofs.YtoagedaohdkbdaaDoor
set_option linter.unusedSimpArgs false
set_option linter.unusedVariables false
open Go.RowKit

theorem part_small {nd : Nd} {cs : List Tm} (hs : SmallN (Tm.mk nd cs).flat) {k : Nat} (hk : k < cs.length) : SmallN (cs[k]).flat := by
  intro n hn
  refine hs n ?_
  rw [flat_mk, cs_split cs hk]
  simp [hn]
theorem part_len {nd : Nd} {cs : List Tm} {k : Nat} (hk : k < cs.length) : (cs[k]).flat.length + 1 ≤ (Tm.mk nd cs).flat.length := by
  rw [flat_mk, cs_split cs hk]
  simp
  omega
theorem depL_step {cs : List Tm} {k : Nat} (hk : k < cs.length) : depL (cs.take (k + 1)) = max (depL (cs.take k)) (cs[k]).dep := by
  rw [List.take_add_one, List.getElem?_eq_getElem hk]
  show depL (cs.take k ++ [cs[k]]) = _
  rw [depL_append, depL_cons, depL_nil, Nat.max_zero]

/-- an element of a slice of slices -/
theorem ReadNN.at {w : World} {b off cap : Nat} {L : List (List Nd)} (h : ReadNN w (.slice (some ⟨b, off, none⟩) L.length cap) L) {i : Nat} (hi : i < L.length) :
    ∃ a c, w.cell? ⟨b, off + i, none⟩ = some (.slice a (L[i]).length c) ∧ ReadN w (.slice a (L[i]).length c) (L[i]) := by
  obtain ⟨vs, hl, hr, he⟩ := h
  obtain ⟨b', off', cap', h1, _, _, _, hc⟩ := RowAt.pos hr (by omega)
  obtain ⟨⟨rfl, rfl⟩, rfl⟩ : (b = b' ∧ off = off') ∧ cap = cap' := by simpa using h1
  have hv : vs[i]? = some vs[i] := List.getElem?_eq_getElem (by omega)
  have hn := he i hi _ hv
  have hcell := hc _ _ hv
  obtain ⟨a, c, hu, _⟩ := RowAt.form hn
  rw [hu] at hn hcell
  exact ⟨a, c, hcell, hn⟩
theorem ReadNN.shape {w : World} {v : Value} {L : List (List Nd)} (h : ReadNN w v L) : L.length ≤ maxLen ∧ ((L = [] ∧ ∃ a cap, v = .slice a 0 cap) ∨ ∃ b off cap, v = .slice (some ⟨b, off, none⟩) L.length cap ∧ b < w.heap.size) := by
  obtain ⟨vs, hl, hr, he⟩ := h
  refine ⟨hr.small, ?_⟩
  by_cases h0 : L = []
  · subst h0
    obtain ⟨a, cap, rfl, _⟩ := hr.form
    exact .inl ⟨rfl, a, cap, rfl⟩
  · obtain ⟨b, off, cap, rfl, _, _, hb, _⟩ := RowAt.pos hr (List.length_pos_iff.2 h0)
    exact .inr ⟨b, off, cap, rfl, hb⟩
theorem ReadNN.below {w w' : World} {v : Value} {L : List (List Nd)} (h : ReadNN w v L) (hb : Below w.heap.size w w') : ReadNN w' v L := by
  obtain ⟨vs, hl, hr, he⟩ := h
  exact ⟨vs, hl, hr.below hb, fun i hi u hu => (he i hi u hu).below hb⟩

end Go.Proofs.YtoagedaohdkbdaaDoor

namespace Go.Proofs.YtoagedaohdkbdaaDoor
set_option linter.unusedSimpArgs false
set_option linter.unusedVariables false
open Go.RowKit

theorem depL_rev (l : List Tm) : depL l.reverse = depL l := by
  induction l with
  | nil => rfl
  | cons t r ih => rw [List.reverse_cons, depL_append, ih, depL_cons, depL_cons, depL_nil]; omega

/-- the depths of a stack, the top one last -/
def depsV (st : List Tm) : List Value := st.reverse.map fun t => .int .i64 (t.dep : Int)
theorem depsV_length (st : List Tm) : (depsV st).length = st.length := by simp [depsV]
theorem depsV_take (st : List Tm) (q : Nat) (hq : q ≤ st.length) : (depsV st).take ((st.length - q) * 1) = depsV (st.drop q) := by
  unfold depsV
  rw [← List.map_take, Nat.mul_one]
  congr 1
  have h : st.reverse = (st.drop q).reverse ++ (st.take q).reverse := by rw [← List.reverse_append, List.take_append_drop]
  rw [h, show st.length - q = (st.drop q).reverse.length from by simp, List.take_left]
theorem depsV_top (st : List Tm) (q : Nat) (hq : q < st.length) : (depsV (st.drop q))[st.length - q - 1]? = some (.int .i64 ((st[q]).dep : Int)) := by
  unfold depsV
  rw [List.drop_eq_getElem_cons hq, List.reverse_cons, List.map_append, List.getElem?_append_right (by simp; omega)]
  have e : st.length - q - 1 - ((st.drop (q + 1)).reverse.map fun t => Value.int .i64 (t.dep : Int)).length = 0 := by simp; omega
  rw [e]
  rfl
theorem depsV_push (t : Tm) (st : List Tm) : depsV (t :: st) = depsV st ++ [.int .i64 (t.dep : Int)] := by simp [depsV]

/-- a deeper one among the terms that wait tells of the whole -/
theorem dep_of_wait {l : List Nd} {t x : Tm} {k : Nat} {st : List Tm} (hw : whole l = some t) (h : prun [] (l.take k) = some st) (hx : x ∈ st) : x.dep ≤ t.dep := by
  obtain ⟨hwf, hfl⟩ := whole_some hw
  have hall : prun [] l = some [t] := by rw [← hfl]; exact prun_flat t hwf []
  have e : l = l.take k ++ l.drop k := (List.take_append_drop k l).symm
  rw [e, prun_append, h] at hall
  obtain ⟨t', ht', hle⟩ := prun_dep (l := l.drop k) hall x hx
  simp at ht'
  subst ht'
  exact hle

theorem arity_small {nd : Nd} (hr : rightB nd = true) : arity nd ≤ 100000 := by
  obtain ⟨kk, hK, hkk⟩ := right_kind hr
  unfold arity bnds
  split
  · have := right_M hr (.inl (by assumption)); simp; omega
  · split
    · have := right_M hr (.inr (by assumption)); simp; omega
    · have := shp_len kk hkk; rw [hK]; simp; omega

def DpRel (w : World) (l : List Nd) (lv i : Value) (wr : World) : Prop :=
  ∃ (k : Nat) (st : List Tm), k ≤ l.length ∧ i = .int .i64 (k : Int) ∧ prun [] (l.take k) = some st ∧ wr.ownsRow w.heap.size 3 1 lv st.length (depsV st) ∧ (∀ x, x ∈ st → x.dep ≤ 60) ∧ Below w.heap.size w wr

set_option maxRecDepth 20000 in
set_option maxHeartbeats 4000000 in
theorem refdeeper_any (l : List Nd) (t : Tm) (v : Value) (w : World) (hw : whole l = some t) (hv : ReadN w v l) (hs : SmallN l) (hl : l.length ≤ 4000) :
    Calls Tryd.prog 28 #[v] w fun e w' => e = .returned (.bool (decide (60 < t.dep))) ∧ Below w.heap.size w w' := by
  obtain ⟨m, hm⟩ := whole_pos hw
  obtain ⟨i0, hi, hz0, hz1, hz2⟩ := info_parts Tryd.infoInt
  obtain ⟨_, ⟨h0, a, cap, rfl⟩ | ⟨b, off, cap, rfl, hcap1, hcap2, hbw, hc⟩⟩ := hv.cases
  · subst h0; simp at hm
  have HC := Lib.hid hc; clear hc
  have HV := Lib.hid hv; clear hv
  have HSM := Lib.hid hs; clear hs
  have HWH := Lib.hid hw; clear hw hm hcap2
  go_enter Tryd.func28, Tryd.ntmps28
  go_wp2_with fail
  go_loopw [3, 4] (fun lv i wr => DpRel w l lv i wr) (fun _ i _ => l.length - (intOf i).toNat)
  case atStart => exact ⟨0, [], Nat.zero_le _, rfl, by simp [prun], World.ownsRow_lit w #[] 0 (Nat.le_refl _) (by unfold maxLen; omega) rfl, (fun x h => by cases h), (Below.refl _ _).alloc (Nat.le_refl _) _⟩
  case round =>
    rename World => wa
    obtain ⟨k, st, hk, rfl, hp, hown, hdeps, hb⟩ := hrel
    have HB := Lib.hid hb
    have hst := stack_le hp hk
    have HO := Lib.hid hown; clear hown
    have HDEPS := Lib.hid hdeps; clear hdeps
    by_cases hlt : k < l.length
    · obtain ⟨g0, g1, g2, g3⟩ := HC.out k hlt
      have c0 := (hb.cell (p := ⟨b, off + k * 4, none⟩) hbw).trans g0
      have c1 := (hb.cell (p := ⟨b, off + k * 4 + 1, none⟩) hbw).trans g1
      have c2 := (hb.cell (p := ⟨b, off + k * 4 + 2, none⟩) hbw).trans g2
      have c3 := (hb.cell (p := ⟨b, off + k * 4 + 3, none⟩) hbw).trans g3
      clear g0 g1 g2 g3 hb
      have hsz : (l[k]).S.size ≤ maxLen := HSM.out _ (List.getElem_mem hlt)
      have hno := whole_none_of hlt hp
      obtain ⟨hr, har⟩ : rightB l[k] = true ∧ arity l[k] ≤ st.length := by
        by_cases h : rightB l[k] = true ∧ arity l[k] ≤ st.length
        · exact h
        · have := hno h; rw [HWH.out] at this; cases this
      obtain ⟨_, hp2, _⟩ := topm_step hlt hp hr har
      obtain ⟨nd, hnd⟩ : ∃ nd, l[k] = nd := ⟨_, rfl⟩
      rw [hnd] at c0 c1 c2 c3 hsz hr har hp2
      have HP2 := Lib.hid hp2; clear hp2 hno hnd
      have HP := Lib.hid hp; clear hp
      go_wp2_with fail
      refine (refbinds_any nd _ hsz).mono ?_
      rintro e w1 ⟨vb, lb, rfl, hvb, hlb, hb1⟩
      obtain ⟨a, cb, rfl⟩ := ReadI.len_slice hvb
      have HB2 : Hid (Below w.heap.size w w1) := HB.out.trans (hb1.mono HB.out.size)
      have HO1 := Lib.hid (ownsRow_below HO.out hb1 (fun g hg => (HO.out.lt g hg).2))
      have hll : lb.length = arity nd := by rw [hlb hr]; simp [arity]
      have ha6 := arity_small hr
      rw [hll]
      obtain ⟨ar, hA⟩ : ∃ ar, arity nd = ar := ⟨_, rfl⟩
      rw [hA] at har ha6 HP2 ⊢
      clear c0 c1 c2 c3 hvb hb1 hll hlb hr hA HO
      go_wp2_with fail
      go_loopw [3, 7, 8] (fun lv n q wr => ∃ (j : Nat), j ≤ ar ∧ q = .int .i64 (j : Int) ∧ n = .int .i64 ((depL (st.take j) : Nat) : Int) ∧ wr.ownsRow w.heap.size 3 1 lv (st.length - j) (depsV (st.drop j)) ∧ wr = w1) (fun _ _ q _ => ar - (intOf q).toNat)
      case atStart => exact ⟨0, Nat.zero_le _, rfl, by simp [depL_nil], by simpa using HO1.out, rfl⟩
      case round =>
        obtain ⟨j, hj, rfl, rfl, hown, rfl⟩ := hrel
        have HO := Lib.hid hown; clear hown
        have hdj : depL (st.take j) ≤ 60 := by
          have : ∀ l : List Tm, (∀ x, x ∈ l → x.dep ≤ 60) → depL l ≤ 60 := by
            intro l
            induction l with
            | nil => intro _; simp [depL_nil]
            | cons t r ih => intro h; rw [depL_cons]; have := h t (by simp); have := ih (fun x hx => h x (by simp [hx])); omega
          exact this _ (fun x hx => HDEPS.out x (List.mem_of_mem_take hx))
        by_cases hlj : j < ar
        · obtain ⟨g, cp, rfl, hg1, hg2, hg3, hg4, _, hcell, _⟩ := ownsRow_open HO.out (by omega)
          have htop := (hcell (st.length - j - 1) (by omega)).trans (depsV_top st j (by omega))
          obtain ⟨a', cp', hcut0, hcut1, hcut⟩ := ownsRow_cut HO.out (k := st.length - (j + 1)) (by omega)
          obtain ⟨rfl, rfl⟩ : a' = some ⟨g, 0, none⟩ ∧ cp' = cp := by simp at hcut0; exact ⟨hcut0.1.symm, hcut0.2.symm⟩
          have hx6 : (st[j]).dep ≤ 60 := HDEPS.out _ (List.getElem_mem (by omega))
          have hnx : depL (st.take (j + 1)) = max (depL (st.take j)) (st[j]).dep := depL_step (by omega)
          have hdr : (depsV (st.drop j)).take ((st.length - (j + 1)) * 1) = depsV (st.drop (j + 1)) := by
            have := depsV_take (st.drop j) 1 (by simp; omega)
            rw [List.drop_drop, List.length_drop] at this
            rw [show st.length - (j + 1) = st.length - j - 1 from by omega]
            exact this
          rw [hdr] at hcut
          obtain ⟨x, hx⟩ : ∃ x, (st[j]).dep = x := ⟨_, rfl⟩
          obtain ⟨p, hp⟩ : ∃ p, depL (st.take j) = p := ⟨_, rfl⟩
          obtain ⟨s, hs⟩ : ∃ s, st.length - j = s + 1 := ⟨st.length - j - 1, by omega⟩
          rw [hx] at htop hx6 hnx
          rw [hp] at hnx hdj ⊢
          rw [hs] at htop ⊢
          rw [show st.length - (j + 1) = s from by omega] at hcut
          have hs4 : s + 1 ≤ 4000 := by omega
          have hscp : s + 1 ≤ cp' := by omega
          have hcp9 : cp' ≤ 9223372036854775807 := by unfold maxLen at hg4; omega
          rw [show s + 1 - 1 = s from rfl] at htop
          have HCUT := Lib.hid hcut; clear hcut hcut0 hcut1
          have HNX := Lib.hid hnx; clear hnx hdr
          have HSS := Lib.hid hs
          clear hx hp hs hcell HO hg3 hg4
          go_wp2_with fail
          have hs := HSS.out
          refine ⟨⟨j + 1, by omega, by go_num, by rw [HNX.out]; congr 1; omega, by rw [show st.length - (j + 1) = s from by omega]; exact HCUT.out, trivial⟩, by simp [intOf]; omega⟩
        · obtain rfl : j = ar := by omega
          obtain ⟨p, hp⟩ : ∃ p, depL (st.take j) = p := ⟨_, rfl⟩
          obtain ⟨X, hX⟩ : ∃ X, Tm.mk nd (st.take j).reverse = X := ⟨_, rfl⟩
          have hXd : X.dep = p + 1 := by rw [← hX, dep_mk, depL_rev, hp]
          rw [hX] at HP2
          rw [hp] at hdj ⊢
          have HXD := Lib.hid hXd
          clear hX hp hXd
          by_cases h60 : 60 < p + 1
          · have hbig : Hid (decide (60 < t.dep) = true) := by
              show _ = _
              have := dep_of_wait HWH.out HP2.out List.mem_cons_self
              have := HXD.out
              simp; omega
            clear hlj hj
            go_wp2_with fail
            go_ret
            exact ⟨by rw [hbig.out]; rfl, HB2.out⟩
          · obtain ⟨ao, co, rfl, _⟩ := (RowAt.of_own HO.out).form
            have h61 : p + 1 ≤ 60 := by omega
            clear h60 hlj hj
            go_wp2_with (at_builtin; go_must (refine wpList_append_row rfl (.tmp 46) (.tmp 49) 67 rfl w.heap.size 3 i0 (.int .i64 0) 1 8 Tryd.underlying67 hi hz0 hz1 hz2 rfl (by decide) (.slice ao (st.length - j) co) (st.length - j) (depsV (st.drop j)) rfl (HO.out.alloc _) (.slice (some ⟨wr.heap.size, 0, none⟩) 1 1) 1 [.int .i64 ((p : Int) + 1)] rfl (RowAt.lit wr _ #[.int .i64 ((p : Int) + 1)] 1 rfl (by unfold maxLen; omega)) (by intro u hu; simp at hu; subst hu; rfl) (by omega) (by unfold maxLen; omega) (by have := HB2.out.size; simp; omega) ?_); intro v5 w5 hown5 hg5 hat5)
            have hb5 : Below w.heap.size w w5 := (HB2.out.alloc HB2.out.size _).grown hg5 (by have := HB2.out.size; simp; omega) (fun g hg => by have := (HO.out.lt g hg).1; omega)
            have HO5 := Lib.hid hown5; clear hown5 hg5 hat5
            have HB5 := Lib.hid hb5; clear hb5
            go_wp2_with fail
            refine ⟨⟨k + 1, X :: st.drop j, by omega, by go_num, HP2.out, ?_, ?_, HB5.out⟩, by simp [intOf]; omega⟩
            · rw [depsV_push, HXD.out]
              have h := HO5.out
              rw [show (X :: st.drop j).length = st.length - j + 1 from by simp]
              exact h
            · intro x hx
              rcases List.mem_cons.1 hx with rfl | hx
              · have := HXD.out; omega
              · exact HDEPS.out x (List.mem_of_mem_drop hx)
    · obtain rfl : k = l.length := by omega
      rw [List.take_length] at hp
      have hall : st = [t] := by
        obtain ⟨hwf, hfl⟩ := whole_some HWH.out
        have h2 : prun [] l = some [t] := by rw [← hfl]; exact prun_flat t hwf []
        rw [hp] at h2
        exact Option.some.inj h2
      have hd : t.dep ≤ 60 := HDEPS.out t (by rw [hall]; simp)
      have hfin : Hid (decide (60 < t.dep) = false) := by show _ = _; simp; omega
      clear hall hd hp hb
      go_wp2_with fail
      go_ret
      exact ⟨by rw [hfin.out]; rfl, HB.out⟩

set_option maxRecDepth 20000 in
set_option maxHeartbeats 1000000 in
theorem refcheck2_any (l : List Nd) (v : Value) (w : World) (hv : ReadN w v l) (hs : SmallN l) :
    Calls Tryd.prog 12 #[v] w fun e w' => e = .returned (.int .i64 (chk l)) ∧ Below w.heap.size w w' := by
  obtain ⟨ad, cap, rfl⟩ : ∃ a cap, v = .slice a l.length cap := by obtain ⟨a, cap, h, _⟩ := hv.form; exact ⟨a, cap, h⟩
  have HV := Lib.hid hv; clear hv
  have HSM := Lib.hid hs; clear hs
  by_cases hbig : 4000 < l.length
  · have h1 := Lib.hid (chk_big hbig)
    go_enter Tryd.func12, Tryd.ntmps12
    go_wp2_with fail
    go_ret
    exact ⟨by rw [h1.out]; rfl, Below.refl _ _⟩
  have HW := refwhole_any l _ w HV.out HSM.out (by omega)
  cases hw : whole l with
  | none =>
    have h1 := Lib.hid (chk_none hbig hw)
    rw [hw] at HW
    have HW := Lib.hid HW
    clear hw
    go_enter Tryd.func12, Tryd.ntmps12
    go_wp2_with fail
    refine HW.out.mono ?_
    rintro e w1 ⟨rfl, hb⟩
    go_wp2_with fail
    go_ret
    exact ⟨by rw [h1.out]; rfl, hb⟩
  | some t =>
    have hch : chk l = if 60 < t.dep then 22 else 0 := by
      by_cases hd : 60 < t.dep
      · rw [if_pos hd]; exact chk_deep hbig hw hd
      · rw [if_neg hd]; exact chk_fine hbig hw hd
    have HCH := Lib.hid hch; clear hch
    have HDP : Hid (∀ w', Below w.heap.size w w' → Calls Tryd.prog 28 #[.slice ad l.length cap] w' fun e w9 => e = .returned (.bool (decide (60 < t.dep))) ∧ Below w'.heap.size w' w9) :=
      fun w' hb => refdeeper_any l t _ w' hw (HV.out.below hb) HSM.out (by omega)
    rw [hw] at HW
    have HW := Lib.hid HW
    clear hw
    by_cases hd : 60 < t.dep
    · have hb1 : decide (60 < t.dep) = true := by simpa using hd
      rw [hb1] at HDP
      have hfin : Hid (chk l = 22) := by show _ = _; rw [HCH.out, if_pos hd]
      clear hd hb1
      go_enter Tryd.func12, Tryd.ntmps12
      go_wp2_with fail
      refine HW.out.mono ?_
      rintro e w1 ⟨rfl, hb⟩
      have HB := Lib.hid hb; clear hb
      go_wp2_with fail
      refine (HDP.out _ HB.out).mono ?_
      rintro e w2 ⟨rfl, hb2⟩
      have HB2 : Hid (Below w.heap.size w w2) := HB.out.trans (hb2.mono HB.out.size)
      clear hb2
      go_wp2_with fail
      go_ret
      exact ⟨by rw [hfin.out]; rfl, HB2.out⟩
    · have hb1 : decide (60 < t.dep) = false := by simpa using hd
      rw [hb1] at HDP
      have hfin : Hid (chk l = 0) := by show _ = _; rw [HCH.out, if_neg hd]
      clear hd hb1
      go_enter Tryd.func12, Tryd.ntmps12
      go_wp2_with fail
      refine HW.out.mono ?_
      rintro e w1 ⟨rfl, hb⟩
      have HB := Lib.hid hb; clear hb
      go_wp2_with fail
      refine (HDP.out _ HB.out).mono ?_
      rintro e w2 ⟨rfl, hb2⟩
      have HB2 : Hid (Below w.heap.size w w2) := HB.out.trans (hb2.mono HB.out.size)
      clear hb2
      go_wp2_with fail
      go_ret
      exact ⟨by rw [hfin.out]; rfl, HB2.out⟩

end Go.Proofs.YtoagedaohdkbdaaDoor

namespace Go.Proofs.YtoagedaohdkbdaaDoor
set_option linter.unusedSimpArgs false
set_option linter.unusedVariables false
open Go.RowKit

set_option maxRecDepth 20000 in
set_option maxHeartbeats 1000000 in
theorem same_yes (l : List Nd) (va vb : Value) (w : World) (ha : ReadN w va l) (hb : ReadN w vb l) :
    Calls Tryd.prog 15 #[va, vb] w fun e w' => e = .returned (.bool true) ∧ ∃ n, w' = w.drewN n := by
  obtain ⟨hm, ⟨h0, a, cap, rfl⟩ | ⟨b, off, cap, rfl, _, _, _, hc⟩⟩ := ha.cases
  · subst h0
    obtain ⟨a', cap', rfl⟩ := hb.len_slice
    go_enter Tryd.func15, Tryd.ntmps15
    go_wp2_with fail
    go_loopw [5] (fun i wr => i = .int .i64 0 ∧ wr = w) (fun _ _ => 0)
    case atStart => exact ⟨rfl, rfl⟩
    case round =>
      obtain ⟨rfl, rfl⟩ := hrel
      go_wp2_with fail
      go_ret
      exact ⟨rfl, 0, rfl⟩
  obtain ⟨_, ⟨h0, a, cap', rfl⟩ | ⟨b', off', cap', rfl, _, _, _, hc'⟩⟩ := hb.cases
  · subst h0
    go_enter Tryd.func15, Tryd.ntmps15
    go_wp2_with fail
    go_loopw [5] (fun i wr => i = .int .i64 0 ∧ wr = w) (fun _ _ => 0)
    case atStart => exact ⟨rfl, rfl⟩
    case round =>
      obtain ⟨rfl, rfl⟩ := hrel
      go_wp2_with fail
      go_ret
      exact ⟨rfl, 0, rfl⟩
  have HC := Lib.hid hc; clear hc
  have HC' := Lib.hid hc'; clear hc'
  have HA := Lib.hid ha; clear ha
  have HB := Lib.hid hb; clear hb
  have hm9 : l.length ≤ 9223372036854775807 := by unfold maxLen at hm; omega
  clear hm
  go_enter Tryd.func15, Tryd.ntmps15
  go_wp2_with fail
  go_loopw [5] (fun i wr => (∃ k : Nat, k ≤ l.length ∧ i = .int .i64 (k : Int)) ∧ ∃ n, wr = w.drewN n) (fun i _ => l.length - (intOf i).toNat)
  case atStart => exact ⟨⟨0, Nat.zero_le _, rfl⟩, 0, rfl⟩
  case round =>
    obtain ⟨⟨k, hk, rfl⟩, n, rfl⟩ := hrel
    by_cases hlt : k < l.length
    · obtain ⟨g0, g1, g2, g3⟩ := HC.out k hlt
      obtain ⟨f0, f1, f2, f3⟩ := HC'.out k hlt
      obtain ⟨nd, hnd⟩ : ∃ nd, l[k] = nd := ⟨_, rfl⟩
      rw [hnd] at g0 g1 g2 g3 f0 f1 f2 f3
      clear hnd
      go_wp2_with fail
      go_quiet (fail)
      go_wp2_with fail
      go_roundw
      case rel => exact ⟨⟨k + 1, by omega, by go_num⟩, ⟨_, rfl⟩⟩
      case measure => simp [intOf]; omega
    · go_wp2_with fail
      go_ret
      exact ⟨rfl, _, rfl⟩

end Go.Proofs.YtoagedaohdkbdaaDoor

namespace Go.Proofs.YtoagedaohdkbdaaDoor
set_option linter.unusedSimpArgs false
set_option linter.unusedVariables false
open Go.RowKit
end Go.Proofs.YtoagedaohdkbdaaDoor

