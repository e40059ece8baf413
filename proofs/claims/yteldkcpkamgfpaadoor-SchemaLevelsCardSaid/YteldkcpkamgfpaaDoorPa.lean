/- What the reference's whole comes to, for every row of nodes; condition: the strings' sizes, and at most 4000 nodes. What the reference's from comes to: where a term begins that ends at a place; for every term that is one, wherever it stands in a row of nodes; condition: the strings' sizes, and at most 4000 nodes. What the reference's Parts and Deep come to, for every term that is one; condition: the strings' sizes, and at most 4000 nodes. What the reference's Deep comes to, for every term that is one; condition: the strings' sizes, and at most 4000 nodes. What the reference's deeper, Check and Depth come to; condition: the strings' sizes. What the reference's Root and Same, and chapter 2's heavy and lists come to. What the reference's Depth and Args, and chapter 2's lists come to; condition: the strings' sizes. -/
import Derived.Test.YteldkcpkamgfpaaDoorRi
import Derived.Test.YteldkcpkamgfpaaDoorRh
import Derived.Test.YteldkcpkamgfpaaDoorRg
namespace Go.Proofs.YteldkcpkamgfpaaDoor
set_option linter.unusedSimpArgs false
set_option linter.unusedVariables false
open Go.RowKit

theorem whole_isSome {l : List Nd} {st : List Tm} (h : prun [] l = some st) : (whole l).isSome = ((st.length : Int) == 1) := by
  unfold whole
  rw [h]
  match st with
  | [] => rfl
  | [t] => rfl
  | t :: u :: r =>
    have : (((t :: u :: r).length : Int) == 1) = false := by rw [beq_eq_false_iff_ne]; simp; omega
    rw [this]
    rfl
theorem step_len {l : List Nd} {k : Nat} {st : List Tm} (hk : k < l.length) (h : prun [] (l.take k) = some st) (h1 : rightB l[k] = true) (h2 : arity l[k] ≤ st.length) :
    ∃ st', prun [] (l.take (k + 1)) = some st' ∧ (st'.length : Int) = (st.length : Int) - (arity l[k] : Int) + 1 := by
  rw [prun_take hk h]
  unfold pstep
  rw [if_pos ⟨h1, h2⟩]
  exact ⟨_, rfl, by simp; omega⟩

set_option maxRecDepth 20000 in
set_option maxHeartbeats 2000000 in
theorem refwhole_any (l : List Nd) (v : Value) (w : World) (hv : ReadN w v l) (hs : SmallN l) (hl : l.length ≤ 4000) :
    Calls Tryd.prog 27 #[v] w fun e w' => e = .returned (.bool (whole l).isSome) ∧ Below w.heap.size w w' := by
  obtain ⟨_, ⟨h0, a, cap, rfl⟩ | ⟨b, off, cap, rfl, hcap1, hcap2, hbw, hc⟩⟩ := hv.cases
  · subst h0
    go_enter Tryd.func27, Tryd.ntmps27
    go_wp2_with fail
    go_loopw [3, 4] (fun d i wr => d = .int .i64 0 ∧ i = .int .i64 0 ∧ wr = w) (fun _ _ _ => 0)
    case atStart => exact ⟨rfl, rfl, rfl⟩
    case round =>
      obtain ⟨rfl, rfl, rfl⟩ := hrel
      go_wp2_with fail
      go_ret
      exact ⟨rfl, Below.refl _ _⟩
  have HC := Lib.hid hc; clear hc
  have HV := Lib.hid hv; clear hv
  have HSM := Lib.hid hs; clear hs
  go_enter Tryd.func27, Tryd.ntmps27
  go_wp2_with fail
  go_loopw [3, 4] (fun d i wr => ∃ (k : Nat) (st : List Tm), k ≤ l.length ∧ i = .int .i64 (k : Int) ∧ d = .int .i64 (st.length : Int) ∧ prun [] (l.take k) = some st ∧ Below w.heap.size w wr) (fun _ i _ => l.length - (intOf i).toNat)
  case atStart => exact ⟨0, [], Nat.zero_le _, rfl, rfl, by simp [prun], Below.refl _ _⟩
  case round =>
    rename World => wa
    obtain ⟨k, st, hk, rfl, rfl, hp, hb⟩ := hrel
    have HB := Lib.hid hb
    have hst := stack_le hp hk
    by_cases hlt : k < l.length
    · obtain ⟨g0, g1, g2, g3⟩ := HC.out k hlt
      have c0 := (hb.cell (p := ⟨b, off + k * 4, none⟩) hbw).trans g0
      have c1 := (hb.cell (p := ⟨b, off + k * 4 + 1, none⟩) hbw).trans g1
      have c2 := (hb.cell (p := ⟨b, off + k * 4 + 2, none⟩) hbw).trans g2
      have c3 := (hb.cell (p := ⟨b, off + k * 4 + 3, none⟩) hbw).trans g3
      clear g0 g1 g2 g3 hb
      have hsz : (l[k]).S.size ≤ maxLen := HSM.out _ (List.getElem_mem hlt)
      have hno := whole_none_of hlt hp
      have hyes := step_len hlt hp
      obtain ⟨nd, hnd⟩ : ∃ nd, l[k] = nd := ⟨_, rfl⟩
      rw [hnd] at c0 c1 c2 c3 hsz hno hyes
      have HNO := Lib.hid hno; clear hno
      have HYES := Lib.hid hyes; clear hyes hnd
      have HP := Lib.hid hp; clear hp
      go_wp2_with fail
      refine (refbinds_any nd _ hsz).mono ?_
      rintro e w1 ⟨vb, lb, rfl, hvb, hlb, hb1⟩
      obtain ⟨a, cb, rfl⟩ := ReadI.len_slice hvb
      have hb2 := HB.out.trans (hb1.mono HB.out.size)
      have HB2 := Lib.hid hb2; clear hb2 hb1
      clear c0 c1 c2 c3 hvb
      cases hr : rightB nd
      · have hn : Hid (whole l = none) := HNO.out (fun h => by rw [hr] at h; cases h.1)
        clear hr hlb
        go_wp2_with fail
        go_ret
        exact ⟨by rw [hn.out]; rfl, HB2.out⟩
      · have hll : lb.length = arity nd := by rw [hlb hr]; simp [arity]
        rw [hll]
        clear hll hlb
        by_cases har : arity nd ≤ st.length
        · obtain ⟨st', hp', hl'⟩ := HYES.out hr har
          have HP' := Lib.hid hp'; clear hp'
          have HL' := Lib.hid hl'; clear hl'
          obtain ⟨ar, hA⟩ : ∃ ar, arity nd = ar := ⟨_, rfl⟩
          rw [hA] at har HL' ⊢
          clear hr hA
          go_wp2_with fail
          go_roundw
          case rel => exact ⟨k + 1, st', by omega, by go_num, by rw [HL'.out], HP'.out, HB2.out⟩
          case measure => simp [intOf]; omega
        · have hn : Hid (whole l = none) := HNO.out (fun h => har h.2)
          have har' : st.length < arity nd := by omega
          have ha6 : arity nd ≤ 100000 := by
            obtain ⟨kk, hK, hkk⟩ := right_kind hr
            unfold arity bnds
            split
            · have := right_M hr (.inl (by assumption)); simp; omega
            · split
              · have := right_M hr (.inr (by assumption)); simp; omega
              · have := shp_len kk hkk; rw [hK]; simp; omega
          obtain ⟨ar, hA⟩ : ∃ ar, arity nd = ar := ⟨_, rfl⟩
          rw [hA] at har' ha6 ⊢
          clear hr hA har
          go_wp2_with fail
          go_ret
          exact ⟨by rw [hn.out]; rfl, HB2.out⟩
    · obtain rfl : k = l.length := by omega
      rw [List.take_length] at hp
      have hw := whole_isSome hp
      have HW := Lib.hid hw; clear hw hp hb
      go_wp2_with fail
      go_ret
      exact ⟨by rw [HW.out]; rfl, HB.out⟩

end Go.Proofs.YteldkcpkamgfpaaDoor

namespace Go.Proofs.YteldkcpkamgfpaaDoor
set_option linter.unusedSimpArgs false
set_option linter.unusedVariables false
open Go.RowKit

theorem cs_split (cs : List Tm) {k : Nat} (h : k < cs.length) : flatL cs = flatL (cs.take k) ++ cs[k].flat ++ flatL (cs.drop (k + 1)) := by
  have e : cs = cs.take k ++ [cs[k]] ++ cs.drop (k + 1) := by simp
  conv => lhs; rw [e]
  rw [flatL_append, flatL_append, flatL_one]

def FromIt (t : Tm) : Prop := t.wf = true → ∀ (l pre post : List Nd) (v : Value) (w : World) (en : Nat), l = pre ++ t.flat ++ post → pre.length + t.flat.length = en + 1 → ReadN w v l → SmallN l → l.length ≤ 4000 →
    Calls Tryd.prog 46 #[v, .int .i64 (en : Int)] w fun e w' => e = .returned (.int .i64 (pre.length : Int)) ∧ Below w.heap.size w w'

set_option maxRecDepth 20000 in
set_option maxHeartbeats 2000000 in
theorem reffrom_all : ∀ t : Tm, FromIt t := by
  refine Tm.ind ?_
  intro nd cs ih hwf l pre post v w en hl hen hv hs hlen
  obtain ⟨hr, har, hks⟩ := wf_iff.1 hwf
  have hfl : (Tm.mk nd cs).flat.length = (flatL cs).length + 1 := by rw [flat_mk, List.length_append]; rfl
  have hen2 : en = pre.length + (flatL cs).length := by omega
  have hll : l.length = pre.length + (flatL cs).length + 1 + post.length := by rw [hl]; simp [hfl]; omega
  have hlast : l[en]? = some nd := by
    rw [hl, flat_mk, List.append_assoc, List.append_assoc, List.getElem?_append_right (by omega), List.getElem?_append_right (by omega)]
    rw [show en - pre.length - (flatL cs).length = 0 from by omega]
    rfl
  obtain ⟨hclt, hcn⟩ := List.getElem?_eq_some_iff.1 hlast
  have hsz : nd.S.size ≤ maxLen := hs _ (by rw [← hcn]; exact List.getElem_mem hclt)
  obtain ⟨_, ⟨he, _⟩ | ⟨b, off, cap, he, hcap1, hcap2, hblt, hcell⟩⟩ := ReadN.cases hv
  · rw [he] at hclt; simp at hclt
  subst he
  have hcell0 := hcell en hclt
  rw [hcn] at hcell0
  obtain ⟨r0, r1, r2, r3⟩ := hcell0
  obtain ⟨p, hp⟩ : ∃ p, pre.length = p := ⟨_, rfl⟩
  have hstart : en = p + startP cs cs.length := by rw [startP_all]; omega
  have hm4 : cs.length ≤ 4000 := by have := flatL_ge cs; omega
  have hp4 : p ≤ 4000 := by omega
  rw [hp]
  have HIH : Hid (∀ (k : Nat) (hk : k < cs.length) (w' : World) (e1 : Nat), p + startP cs (k + 1) = e1 + 1 → Below w.heap.size w w' → Calls Tryd.prog 46 #[.slice (some ⟨b, off, none⟩) l.length cap, .int .i64 (e1 : Int)] w' fun e w9 => e = .returned (.int .i64 ((p + startP cs k : Nat) : Int)) ∧ Below w'.heap.size w' w9) := by
    show ∀ (k : Nat) (hk : k < cs.length) (w' : World) (e1 : Nat), _
    intro k hk w' e1 he1 hbw
    have hs1 := startP_succ cs hk
    have hsp := cs_split cs hk
    have := ih cs[k] (List.getElem_mem hk) (hks _ (List.getElem_mem hk)) l (pre ++ flatL (cs.take k)) (flatL (cs.drop (k + 1)) ++ [nd] ++ post) (.slice (some ⟨b, off, none⟩) l.length cap) w' e1
      (by rw [hl, flat_mk, hsp]; simp) (by rw [List.length_append, hp]; show p + startP cs k + _ = _; omega) (hv.below hbw) hs hlen
    rw [List.length_append, hp] at this
    exact this
  have HAR := Lib.hid har
  have hcap3 : cap ≤ 9223372036854775807 := by unfold maxLen at hcap2; omega
  have HST := Lib.hid hstart; clear hstart
  clear ih hlast hcn hcell hv hs hks hl hfl hen hen2 hcap2 hll hp har
  go_enter Tryd.func46, Tryd.ntmps46
  go_wp2_with fail
  refine (refbinds_any nd _ hsz).mono ?_
  rintro e w1 ⟨vb, lb, rfl, hvb, hlb, hb1⟩
  obtain ⟨a, cb, rfl⟩ := ReadI.len_slice hvb
  have hll : lb.length = cs.length := by rw [hlb hr, HAR.out]; simp [arity]
  rw [hll, hr]
  have HB1 := Lib.hid hb1; clear hb1
  clear r0 r1 r2 r3 hvb hlb hll
  go_wp2_with fail
  go_loopw [7, 8] (fun at_ i wr => ∃ j, j ≤ cs.length ∧ i = .int .i64 (j : Int) ∧ at_ = .int .i64 ((p + startP cs (cs.length - j) : Nat) : Int) ∧ Below w.heap.size w wr) (fun _ i _ => cs.length - (intOf i).toNat)
  case atStart => exact ⟨0, Nat.zero_le _, rfl, by rw [HST.out]; rfl, HB1.out⟩
  case round =>
    rename World => wa
    obtain ⟨j, hj, rfl, rfl, hb⟩ := hrel
    have HB := Lib.hid hb; clear hb
    by_cases hlt : j < cs.length
    · obtain ⟨k, hk⟩ : ∃ k, cs.length = k + 1 + j := ⟨cs.length - 1 - j, by omega⟩
      have hkl : k < cs.length := by omega
      have e2 : cs.length - j = k + 1 := by omega
      rw [e2]
      have hs1 := startP_succ cs hkl
      have hpos := flat_pos cs[k]
      obtain ⟨e1, he1⟩ : ∃ e1, p + startP cs (k + 1) = e1 + 1 := ⟨p + startP cs (k + 1) - 1, by omega⟩
      have hle := startP_le cs (k + 1)
      have hcall := HIH.out k hkl
      rw [he1]
      have he4 : e1 ≤ 100000 := by have := startP_le cs (k+1); have := startP_all cs; have := HST.out; omega
      obtain ⟨q, hq⟩ : ∃ q, p + startP cs k = q := ⟨_, rfl⟩
      rw [hq] at hcall
      have hq4 : q ≤ 100000 := by omega
      have HCALL := Lib.hid hcall; clear hcall
      have HE1 := Lib.hid he1
      have HQ := Lib.hid hq
      have HKK := Lib.hid hk
      clear he1 hq hs1 hle e2 hk
      go_wp2_with fail
      refine (HCALL.out _ e1 HE1.out HB.out).mono ?_
      rintro e w3 ⟨rfl, hb3⟩
      have HB3 : Hid (Below w.heap.size w w3) := HB.out.trans (hb3.mono HB.out.size)
      clear hb3
      go_wp2_with fail
      go_roundw
      case rel =>
        have hk := HKK.out
        exact ⟨j + 1, by omega, by go_num, by rw [show cs.length - (j + 1) = k from by omega, HQ.out], HB3.out⟩
      case measure => simp [intOf]; omega
    · obtain rfl : j = cs.length := by omega
      rw [Nat.sub_self]
      have e0 : p + startP cs 0 = p := by unfold startP; simp [flatL_nil]
      rw [e0]
      clear e0
      go_wp2_with fail
      go_ret
      exact ⟨rfl, HB.out⟩

end Go.Proofs.YteldkcpkamgfpaaDoor

namespace Go.Proofs.YteldkcpkamgfpaaDoor
set_option linter.unusedSimpArgs false
set_option linter.unusedVariables false
open Go.RowKit

/-- the parts from number i on, as the program hands them on -/
def partsFrom (b off cap : Nat) (cs : List Tm) (i : Nat) : List Value := ((List.range cs.length).drop i).map (partV b off cap cs)
theorem partsFrom_all (b off cap : Nat) (cs : List Tm) : partsFrom b off cap cs cs.length = [] := by unfold partsFrom; rw [List.drop_of_length_le (by simp)]; rfl
theorem partsFrom_step (b off cap : Nat) (cs : List Tm) {k : Nat} (h : k < cs.length) : partsFrom b off cap cs k = partV b off cap cs k :: partsFrom b off cap cs (k + 1) := by
  unfold partsFrom
  rw [List.drop_eq_getElem_cons (by simpa using h)]
  simp
theorem partsFrom_one (b off cap : Nat) (cs : List Tm) (i : Nat) : ∀ u, u ∈ partsFrom b off cap cs i → u.oneCell' = true := by
  intro u hu
  obtain ⟨x, _, rfl⟩ := List.mem_map.1 hu
  rfl
theorem partsFrom_read {w : World} {b off cap base : Nat} {e : TypeId} {nd : Nd} {cs : List Tm} {u : Value} (h : ReadN w (.slice (some ⟨b, off, none⟩) (Tm.mk nd cs).flat.length cap) (Tm.mk nd cs).flat) (ho : w.ownsRow base e 1 u cs.length (partsFrom b off cap cs 0)) : ReadNN w u (cs.map Tm.flat) := by
  have hl : (cs.map Tm.flat).length = cs.length := by simp
  refine ⟨partsFrom b off cap cs 0, by simp [partsFrom], by rw [hl]; exact RowAt.of_own ho, fun i hi x hx => ?_⟩
  rw [hl] at hi
  have e : x = partV b off cap cs i := by
    simp [partsFrom, hi] at hx
    exact hx.symm
  subst e
  simpa using part_read h hi

def PartsPost (cs : List Tm) (w : World) (e : Ending) (w' : World) : Prop := ∃ a cap, e = .returned (.slice a cs.length cap) ∧ ReadNN w' (.slice a cs.length cap) (cs.map Tm.flat) ∧ Below w.heap.size w w'

def PartsRel (w : World) (b off cap : Nat) (cs : List Tm) (en out i : Value) (wr : World) : Prop :=
  ∃ j, j ≤ cs.length ∧ i = .int .i64 (j : Int) ∧ en = .int .i64 ((startP cs (cs.length - j) : Nat) : Int) ∧ wr.ownsRow w.heap.size 22 1 out j (partsFrom b off cap cs (cs.length - j)) ∧ Below w.heap.size w wr

set_option maxRecDepth 20000 in
set_option maxHeartbeats 2000000 in
theorem refparts_any (nd : Nd) (cs : List Tm) (v : Value) (w : World) (hwf : (Tm.mk nd cs).wf = true) (hv : ReadN w v (Tm.mk nd cs).flat) (hs : SmallN (Tm.mk nd cs).flat) (hlen : (Tm.mk nd cs).flat.length ≤ 4000) :
    Calls Tryd.prog 29 #[v] w (PartsPost cs w) := by
  obtain ⟨hr, har, hks⟩ := wf_iff.1 hwf
  obtain ⟨c, hc⟩ : ∃ c, (flatL cs).length = c := ⟨_, rfl⟩
  have hl : (Tm.mk nd cs).flat.length = c + 1 := by rw [flat_mk, List.length_append, hc]; rfl
  have hlast : (Tm.mk nd cs).flat[c]? = some nd := by rw [flat_mk, List.getElem?_append_right (by omega), hc]; simp
  obtain ⟨hclt, hcn⟩ := List.getElem?_eq_some_iff.1 hlast
  have hsz : nd.S.size ≤ maxLen := by have h := List.getElem_mem hclt; rw [hcn] at h; exact hs _ h
  obtain ⟨_, ⟨he, _⟩ | ⟨b, off, cap, he, hcap1, hcap2, hblt, hcell⟩⟩ := ReadN.cases hv
  · rw [he] at hclt; simp at hclt
  subst he
  have hcell0 := hcell c hclt
  rw [hcn] at hcell0
  obtain ⟨r0, r1, r2, r3⟩ := hcell0
  have hm4 : cs.length ≤ 4000 := by have := flatL_ge cs; omega
  have hcap3 : cap ≤ 9223372036854775807 := by unfold maxLen at hcap2; omega
  obtain ⟨i0, hi, hz0, hz1, hz2⟩ := info_parts Tryd.infoNodes
  have HFROM : Hid (∀ (k : Nat) (hk : k < cs.length) (w' : World) (e1 : Nat), startP cs (k + 1) = e1 + 1 → Below w.heap.size w w' → Calls Tryd.prog 46 #[.slice (some ⟨b, off, none⟩) (c + 1) cap, .int .i64 (e1 : Int)] w' fun e w9 => e = .returned (.int .i64 ((startP cs k : Nat) : Int)) ∧ Below w'.heap.size w' w9) := by
    show ∀ (k : Nat) (hk : k < cs.length) (w' : World) (e1 : Nat), _
    intro k hk w' e1 he1 hbw
    have hs1 := startP_succ cs hk
    have hsp := cs_split cs hk
    have := reffrom_all cs[k] (hks _ (List.getElem_mem hk)) (Tm.mk nd cs).flat (flatL (cs.take k)) (flatL (cs.drop (k + 1)) ++ [nd]) (.slice (some ⟨b, off, none⟩) (Tm.mk nd cs).flat.length cap) w' e1
      (by rw [flat_mk, hsp]; simp) (by show startP cs k + _ = _; omega) (hv.below hbw) hs hlen
    rw [hl] at this
    exact this
  have HV := Lib.hid hv; clear hv
  have HAR := Lib.hid har
  have HC := Lib.hid hc
  have HHL := Lib.hid hl
  rw [hl] at hcap1 hlen ⊢
  clear hlast hcn hcell hs hks hl hc hcap2 har hwf hclt
  go_enter Tryd.func29, Tryd.ntmps29
  go_wp2_with fail
  refine (refbinds_any nd _ hsz).mono ?_
  rintro e w1 ⟨vb, lb, rfl, hvb, hlb, hb1⟩
  obtain ⟨a, cb, rfl⟩ := ReadI.len_slice hvb
  have hll : lb.length = cs.length := by rw [hlb hr, HAR.out]; simp [arity]
  rw [hll, hr]
  have HB1 := Lib.hid hb1; clear hb1
  clear r0 r1 r2 r3 hvb hlb hll
  go_wp2_with fail
  go_loopw [3, 6, 7] (fun en out i wr => PartsRel w b off cap cs en out i wr) (fun _ _ i _ => cs.length - (intOf i).toNat)
  case atStart =>
    refine ⟨0, Nat.zero_le _, rfl, by rw [Nat.sub_zero, startP_all, HC.out], ?_, HB1.out.alloc HB1.out.size _⟩
    rw [Nat.sub_zero, partsFrom_all]
    exact World.ownsRow_lit w1 #[] 0 HB1.out.size (by unfold maxLen; omega) rfl
  case round =>
    rename World => wa
    obtain ⟨j, hj, rfl, rfl, hown, hb⟩ := hrel
    have HB := Lib.hid hb; clear hb
    have HO := Lib.hid hown; clear hown
    by_cases hlt : j < cs.length
    · obtain ⟨k, hk⟩ : ∃ k, cs.length = k + 1 + j := ⟨cs.length - 1 - j, by omega⟩
      have hkl : k < cs.length := by omega
      have e2 : cs.length - j = k + 1 := by omega
      rw [e2] at HO ⊢
      have hs1 := startP_succ cs hkl
      have hpos := flat_pos cs[k]
      have hle := startP_le cs (k + 1)
      rw [HC.out] at hle
      obtain ⟨q, hq⟩ : ∃ q, startP cs k = q := ⟨_, rfl⟩
      obtain ⟨e1, he1⟩ : ∃ e1, startP cs (k + 1) = e1 + 1 := ⟨startP cs (k + 1) - 1, by omega⟩
      have hcall := HFROM.out k hkl
      have hpv : partV b off cap cs k = .slice (some ⟨b, off + q * 4, none⟩) (e1 + 1 - q) (cap - q) := by unfold partV; rw [hq, he1]
      have hqe : q ≤ e1 := by omega
      rw [hq] at hcall
      rw [he1] at hle ⊢
      have HCALL := Lib.hid hcall; clear hcall
      have HE1 := Lib.hid he1
      have HQ := Lib.hid hq
      have HKK := Lib.hid hk
      have HPV := Lib.hid hpv
      obtain ⟨ao, co, rfl, _⟩ := (RowAt.of_own HO.out).form
      clear he1 hq hs1 e2 hk hpv hpos
      go_wp2_with fail
      refine (HCALL.out _ e1 HE1.out HB.out).mono ?_
      rintro e w3 ⟨rfl, hb3⟩
      have HB3 : Hid (Below w.heap.size w w3) := HB.out.trans (hb3.mono HB.out.size)
      have HO3 : Hid (w3.ownsRow w.heap.size 22 1 (.slice ao j co) j (partsFrom b off cap cs (k + 1))) := ownsRow_below HO.out hb3 (fun g hg => (HO.out.lt g hg).2)
      clear hb3
      go_wp2_with (at_builtin; go_must (refine wpList_append_row rfl (.tmp 37) (.tmp 38) 42 rfl w.heap.size 22 i0 (.slice none 0 0) 1 24 Tryd.underlying42 hi hz0 hz1 hz2 rfl (by decide) (.slice (some ⟨w3.heap.size, 0, none⟩) 1 1) 1 [.slice (some ⟨b, off + q * 4, none⟩) (e1 + 1 - q) (cap - q)] rfl (World.ownsRow_lit w3 #[.slice (some ⟨b, off + q * 4, none⟩) (e1 + 1 - q) (cap - q)] 1 HB3.out.size (by unfold maxLen; omega) rfl) (.slice ao j co) j (partsFrom b off cap cs (k + 1)) rfl ((RowAt.of_own HO3.out).alloc _) (partsFrom_one _ _ _ _ _) (by omega) (by unfold maxLen; omega) (by have := HB3.out.size; simp; omega) ?_); intro v5 w5 hown5 hg5 hat5)
      have hb5 : Below w.heap.size w w5 := (HB3.out.alloc HB3.out.size _).grown hg5 (by have := HB3.out.size; simp; omega) (fun g hg => by simp [Value.ownBlock] at hg; have := HB3.out.size; omega)
      have HO5 := Lib.hid hown5; clear hown5 hg5 hat5
      have HB5 := Lib.hid hb5; clear hb5
      go_wp2_with fail
      have hk := HKK.out
      refine ⟨⟨j + 1, by omega, by go_num, by rw [show cs.length - (j + 1) = k from by omega, HQ.out], ?_, HB5.out⟩, by simp [intOf]; omega⟩
      rw [show cs.length - (j + 1) = k from by omega, partsFrom_step b off cap cs hkl, HPV.out, show j + 1 = 1 + j from by omega]
      exact HO5.out
    · obtain rfl : j = cs.length := by omega
      obtain ⟨ao, co, rfl, _⟩ := (RowAt.of_own HO.out).form
      go_wp2_with fail
      go_ret
      refine ⟨ao, co, rfl, partsFrom_read (HV.out.below HB.out) (by rw [← Nat.sub_self cs.length]; exact HO.out), HB.out⟩

end Go.Proofs.YteldkcpkamgfpaaDoor

namespace Go.Proofs.YteldkcpkamgfpaaDoor
set_option linter.unusedSimpArgs false
set_option linter.unusedVariables false
open Go.RowKit

theorem part_small {nd : Nd} {cs : List Tm} (hs : SmallN (Tm.mk nd cs).flat) {k : Nat} (hk : k < cs.length) : SmallN (cs[k]).flat := by
  intro n hn
  refine hs n ?_
  rw [flat_mk, cs_split cs hk]
  simp [hn]
theorem part_len {nd : Nd} {cs : List Tm} {k : Nat} (hk : k < cs.length) : (cs[k]).flat.length + 1 ≤ (Tm.mk nd cs).flat.length := by
  rw [flat_mk, cs_split cs hk]
  simp
  omega
theorem depL_step {cs : List Tm} {k : Nat} (hk : k < cs.length) : depL (cs.take (k + 1)) = max (depL (cs.take k)) (cs[k]).dep := by
  rw [List.take_add_one, List.getElem?_eq_getElem hk]
  show depL (cs.take k ++ [cs[k]]) = _
  rw [depL_append, depL_cons, depL_nil, Nat.max_zero]

/-- an element of a slice of slices -/
theorem ReadNN.at {w : World} {b off cap : Nat} {L : List (List Nd)} (h : ReadNN w (.slice (some ⟨b, off, none⟩) L.length cap) L) {i : Nat} (hi : i < L.length) :
    ∃ a c, w.cell? ⟨b, off + i, none⟩ = some (.slice a (L[i]).length c) ∧ ReadN w (.slice a (L[i]).length c) (L[i]) := by
  obtain ⟨vs, hl, hr, he⟩ := h
  obtain ⟨b', off', cap', h1, _, _, _, hc⟩ := RowAt.pos hr (by omega)
  obtain ⟨⟨rfl, rfl⟩, rfl⟩ : (b = b' ∧ off = off') ∧ cap = cap' := by simpa using h1
  have hv : vs[i]? = some vs[i] := List.getElem?_eq_getElem (by omega)
  have hn := he i hi _ hv
  have hcell := hc _ _ hv
  obtain ⟨a, c, hu, _⟩ := RowAt.form hn
  rw [hu] at hn hcell
  exact ⟨a, c, hcell, hn⟩
theorem ReadNN.shape {w : World} {v : Value} {L : List (List Nd)} (h : ReadNN w v L) : L.length ≤ maxLen ∧ ((L = [] ∧ ∃ a cap, v = .slice a 0 cap) ∨ ∃ b off cap, v = .slice (some ⟨b, off, none⟩) L.length cap ∧ b < w.heap.size) := by
  obtain ⟨vs, hl, hr, he⟩ := h
  refine ⟨hr.small, ?_⟩
  by_cases h0 : L = []
  · subst h0
    obtain ⟨a, cap, rfl, _⟩ := hr.form
    exact .inl ⟨rfl, a, cap, rfl⟩
  · obtain ⟨b, off, cap, rfl, _, _, hb, _⟩ := RowAt.pos hr (List.length_pos_iff.2 h0)
    exact .inr ⟨b, off, cap, rfl, hb⟩
theorem ReadNN.below {w w' : World} {v : Value} {L : List (List Nd)} (h : ReadNN w v L) (hb : Below w.heap.size w w') : ReadNN w' v L := by
  obtain ⟨vs, hl, hr, he⟩ := h
  exact ⟨vs, hl, hr.below hb, fun i hi u hu => (he i hi u hu).below hb⟩

def DeepIt (t : Tm) : Prop := t.wf = true → ∀ (v : Value) (w : World), ReadN w v t.flat → SmallN t.flat → t.flat.length ≤ 4000 →
    Calls Tryd.prog 12 #[v] w fun e w' => e = .returned (.int .i64 (t.dep : Int)) ∧ Below w.heap.size w w'

set_option maxRecDepth 20000 in
set_option maxHeartbeats 2000000 in
theorem refdeep_all : ∀ t : Tm, DeepIt t := by
  refine Tm.ind ?_
  intro nd cs ih hwf v w hv hs hlen
  obtain ⟨hr, har, hks⟩ := wf_iff.1 hwf
  obtain ⟨ad, cp, rfl⟩ : ∃ a c, v = .slice a (Tm.mk nd cs).flat.length c := by obtain ⟨a, cap, h, _⟩ := RowAt.form hv; exact ⟨a, cap, h⟩
  have hm4 : cs.length ≤ 4000 := by have := flatL_ge cs; rw [flat_mk, List.length_append] at hlen; omega
  have HIH : Hid (∀ (k : Nat) (hk : k < cs.length) (u : Value) (w' : World), ReadN w' u (cs[k]).flat → Calls Tryd.prog 12 #[u] w' fun e w9 => e = .returned (.int .i64 ((cs[k]).dep : Int)) ∧ Below w'.heap.size w' w9) := by
    show ∀ (k : Nat) (hk : k < cs.length) (u : Value) (w' : World), _
    intro k hk u w' hu
    have := part_len (nd := nd) hk
    exact ih cs[k] (List.getElem_mem hk) (hks _ (List.getElem_mem hk)) u w' hu (part_small hs hk) (by omega)
  have hd : ∀ k, depL (cs.take k) ≤ 4000 := by
    intro k
    have h1 := dep_le_flat (Tm.mk nd cs)
    rw [dep_mk] at h1
    have h2 : depL cs = max (depL (cs.take k)) (depL (cs.drop k)) := by rw [← depL_append, List.take_append_drop]
    omega
  have HD := Lib.hid hd; clear hd
  have hc := refparts_any nd cs _ w hwf hv hs hlen
  have HCALL := Lib.hid hc; clear hc
  have hdm : (Tm.mk nd cs).dep = depL cs + 1 := dep_mk nd cs
  rw [hdm]
  clear ih hks hdm hwf hv hs har hr
  obtain ⟨n, hn⟩ : ∃ n, (Tm.mk nd cs).flat.length = n := ⟨_, rfl⟩
  rw [hn] at HCALL hlen ⊢
  clear hn
  go_enter Tryd.func12, Tryd.ntmps12
  go_wp2_with fail
  refine HCALL.out.mono ?_
  rintro e w1 ⟨a1, c1, rfl, hnn, hb1⟩
  have HB1 := Lib.hid hb1; clear hb1
  have hl : (cs.map Tm.flat).length = cs.length := by simp
  obtain ⟨_, ⟨h0, _⟩ | ⟨b, off, cap, he, hblt⟩⟩ := ReadNN.shape hnn
  · have h1 : cs = [] := by simpa using h0
    subst h1
    clear h0 hnn hl HIH HD HCALL
    go_wp2_with fail
    go_loopw [4, 5] (fun d i wr => d = .int .i64 0 ∧ i = .int .i64 0 ∧ wr = w1) (fun _ _ _ => 0)
    case atStart => exact ⟨rfl, rfl, rfl⟩
    case round =>
      obtain ⟨rfl, rfl, rfl⟩ := hrel
      go_wp2_with fail
      go_ret
      exact ⟨by rw [depL_nil]; rfl, HB1.out⟩
  rw [hl] at he
  obtain ⟨rfl, rfl⟩ : a1 = some ⟨b, off, none⟩ ∧ c1 = cap := by simpa using he
  have HNN := Lib.hid hnn; clear hnn he
  have HL := Lib.hid hl; clear hl
  go_wp2_with fail
  go_loopw [4, 5] (fun d i wr => ∃ k, k ≤ cs.length ∧ i = .int .i64 (k : Int) ∧ d = .int .i64 ((depL (cs.take k) : Nat) : Int) ∧ Below w.heap.size w wr ∧ Below w1.heap.size w1 wr) (fun _ i _ => cs.length - (intOf i).toNat)
  case atStart => exact ⟨0, Nat.zero_le _, rfl, by simp [depL_nil], HB1.out, Below.refl _ _⟩
  case round =>
    rename World => wa
    obtain ⟨k, hk, rfl, rfl, hb, hb1⟩ := hrel
    have HB := Lib.hid hb; clear hb
    have HBB := Lib.hid hb1; clear hb1
    have hd1 := HD.out k
    by_cases hlt : k < cs.length
    · have hnk := HNN.out.below HBB.out
      have hnk' : ReadNN wa (.slice (some ⟨b, off, none⟩) (cs.map Tm.flat).length c1) (cs.map Tm.flat) := by rw [HL.out]; exact hnk
      obtain ⟨a, c, hcell, hrd⟩ := hnk'.at (i := k) (by rw [HL.out]; exact hlt)
      have e : (cs.map Tm.flat)[k]'(by rw [HL.out]; exact hlt) = (cs[k]).flat := by simp
      rw [e] at hcell hrd
      have HR := Lib.hid hrd; clear hrd hnk hnk' e
      have hst := depL_step hlt
      obtain ⟨p, hp⟩ : ∃ p, depL (cs.take k) = p := ⟨_, rfl⟩
      obtain ⟨q, hq⟩ : ∃ q, (cs[k]).dep = q := ⟨_, rfl⟩
      have hcall := HIH.out k hlt _ wa HR.out
      rw [hp, hq] at hst
      rw [hp] at hd1
      rw [hq] at hcall
      rw [hp]
      have HCL := Lib.hid hcall; clear hcall
      have HST := Lib.hid hst; clear hst hp hq HCALL
      go_wp2_with fail
      refine HCL.out.mono ?_
      rintro e w3 ⟨rfl, hb3⟩
      have HB3 : Hid (Below w.heap.size w w3) := HB.out.trans (hb3.mono HB.out.size)
      have HBB3 : Hid (Below w1.heap.size w1 w3) := HBB.out.trans (hb3.mono HBB.out.size)
      clear hb3
      go_wp2_with fail
      go_roundw
      case rel => exact ⟨k + 1, by omega, by go_num, by rw [HST.out]; congr 1; omega, HB3.out, HBB3.out⟩
      case measure => simp [intOf]; omega
    · obtain rfl : k = cs.length := by omega
      rw [List.take_length] at hd1 ⊢
      go_wp2_with fail
      go_ret
      exact ⟨by simp, HB.out⟩

end Go.Proofs.YteldkcpkamgfpaaDoor

namespace Go.Proofs.YteldkcpkamgfpaaDoor
set_option linter.unusedSimpArgs false
set_option linter.unusedVariables false
open Go.RowKit

theorem depL_rev (l : List Tm) : depL l.reverse = depL l := by
  induction l with
  | nil => rfl
  | cons t r ih => rw [List.reverse_cons, depL_append, ih, depL_cons, depL_cons, depL_nil]; omega

/-- the depths of a stack, the top one last -/
def depsV (st : List Tm) : List Value := st.reverse.map fun t => .int .i64 (t.dep : Int)
theorem depsV_length (st : List Tm) : (depsV st).length = st.length := by simp [depsV]
theorem depsV_take (st : List Tm) (q : Nat) (hq : q ≤ st.length) : (depsV st).take ((st.length - q) * 1) = depsV (st.drop q) := by
  unfold depsV
  rw [← List.map_take, Nat.mul_one]
  congr 1
  have h : st.reverse = (st.drop q).reverse ++ (st.take q).reverse := by rw [← List.reverse_append, List.take_append_drop]
  rw [h, show st.length - q = (st.drop q).reverse.length from by simp, List.take_left]
theorem depsV_top (st : List Tm) (q : Nat) (hq : q < st.length) : (depsV (st.drop q))[st.length - q - 1]? = some (.int .i64 ((st[q]).dep : Int)) := by
  unfold depsV
  rw [List.drop_eq_getElem_cons hq, List.reverse_cons, List.map_append, List.getElem?_append_right (by simp; omega)]
  have e : st.length - q - 1 - ((st.drop (q + 1)).reverse.map fun t => Value.int .i64 (t.dep : Int)).length = 0 := by simp; omega
  rw [e]
  rfl
theorem depsV_push (t : Tm) (st : List Tm) : depsV (t :: st) = depsV st ++ [.int .i64 (t.dep : Int)] := by simp [depsV]

/-- a deeper one among the terms that wait tells of the whole -/
theorem dep_of_wait {l : List Nd} {t x : Tm} {k : Nat} {st : List Tm} (hw : whole l = some t) (h : prun [] (l.take k) = some st) (hx : x ∈ st) : x.dep ≤ t.dep := by
  obtain ⟨hwf, hfl⟩ := whole_some hw
  have hall : prun [] l = some [t] := by rw [← hfl]; exact prun_flat t hwf []
  have e : l = l.take k ++ l.drop k := (List.take_append_drop k l).symm
  rw [e, prun_append, h] at hall
  obtain ⟨t', ht', hle⟩ := prun_dep (l := l.drop k) hall x hx
  simp at ht'
  subst ht'
  exact hle

theorem arity_small {nd : Nd} (hr : rightB nd = true) : arity nd ≤ 100000 := by
  obtain ⟨kk, hK, hkk⟩ := right_kind hr
  unfold arity bnds
  split
  · have := right_M hr (.inl (by assumption)); simp; omega
  · split
    · have := right_M hr (.inr (by assumption)); simp; omega
    · have := shp_len kk hkk; rw [hK]; simp; omega

def DpRel (w : World) (l : List Nd) (lv i : Value) (wr : World) : Prop :=
  ∃ (k : Nat) (st : List Tm), k ≤ l.length ∧ i = .int .i64 (k : Int) ∧ prun [] (l.take k) = some st ∧ wr.ownsRow w.heap.size 3 1 lv st.length (depsV st) ∧ (∀ x, x ∈ st → x.dep ≤ 60) ∧ Below w.heap.size w wr

set_option maxRecDepth 20000 in
set_option maxHeartbeats 4000000 in
theorem refdeeper_any (l : List Nd) (t : Tm) (v : Value) (w : World) (hw : whole l = some t) (hv : ReadN w v l) (hs : SmallN l) (hl : l.length ≤ 4000) :
    Calls Tryd.prog 28 #[v] w fun e w' => e = .returned (.bool (decide (60 < t.dep))) ∧ Below w.heap.size w w' := by
  obtain ⟨m, hm⟩ := whole_pos hw
  obtain ⟨i0, hi, hz0, hz1, hz2⟩ := info_parts Tryd.infoInt
  obtain ⟨_, ⟨h0, a, cap, rfl⟩ | ⟨b, off, cap, rfl, hcap1, hcap2, hbw, hc⟩⟩ := hv.cases
  · subst h0; simp at hm
  have HC := Lib.hid hc; clear hc
  have HV := Lib.hid hv; clear hv
  have HSM := Lib.hid hs; clear hs
  have HWH := Lib.hid hw; clear hw hm hcap2
  go_enter Tryd.func28, Tryd.ntmps28
  go_wp2_with fail
  go_loopw [3, 4] (fun lv i wr => DpRel w l lv i wr) (fun _ i _ => l.length - (intOf i).toNat)
  case atStart => exact ⟨0, [], Nat.zero_le _, rfl, by simp [prun], World.ownsRow_lit w #[] 0 (Nat.le_refl _) (by unfold maxLen; omega) rfl, (fun x h => by cases h), (Below.refl _ _).alloc (Nat.le_refl _) _⟩
  case round =>
    rename World => wa
    obtain ⟨k, st, hk, rfl, hp, hown, hdeps, hb⟩ := hrel
    have HB := Lib.hid hb
    have hst := stack_le hp hk
    have HO := Lib.hid hown; clear hown
    have HDEPS := Lib.hid hdeps; clear hdeps
    by_cases hlt : k < l.length
    · obtain ⟨g0, g1, g2, g3⟩ := HC.out k hlt
      have c0 := (hb.cell (p := ⟨b, off + k * 4, none⟩) hbw).trans g0
      have c1 := (hb.cell (p := ⟨b, off + k * 4 + 1, none⟩) hbw).trans g1
      have c2 := (hb.cell (p := ⟨b, off + k * 4 + 2, none⟩) hbw).trans g2
      have c3 := (hb.cell (p := ⟨b, off + k * 4 + 3, none⟩) hbw).trans g3
      clear g0 g1 g2 g3 hb
      have hsz : (l[k]).S.size ≤ maxLen := HSM.out _ (List.getElem_mem hlt)
      have hno := whole_none_of hlt hp
      obtain ⟨hr, har⟩ : rightB l[k] = true ∧ arity l[k] ≤ st.length := by
        by_cases h : rightB l[k] = true ∧ arity l[k] ≤ st.length
        · exact h
        · have := hno h; rw [HWH.out] at this; cases this
      obtain ⟨_, hp2, _⟩ := topm_step hlt hp hr har
      obtain ⟨nd, hnd⟩ : ∃ nd, l[k] = nd := ⟨_, rfl⟩
      rw [hnd] at c0 c1 c2 c3 hsz hr har hp2
      have HP2 := Lib.hid hp2; clear hp2 hno hnd
      have HP := Lib.hid hp; clear hp
      go_wp2_with fail
      refine (refbinds_any nd _ hsz).mono ?_
      rintro e w1 ⟨vb, lb, rfl, hvb, hlb, hb1⟩
      obtain ⟨a, cb, rfl⟩ := ReadI.len_slice hvb
      have HB2 : Hid (Below w.heap.size w w1) := HB.out.trans (hb1.mono HB.out.size)
      have HO1 := Lib.hid (ownsRow_below HO.out hb1 (fun g hg => (HO.out.lt g hg).2))
      have hll : lb.length = arity nd := by rw [hlb hr]; simp [arity]
      have ha6 := arity_small hr
      rw [hll]
      obtain ⟨ar, hA⟩ : ∃ ar, arity nd = ar := ⟨_, rfl⟩
      rw [hA] at har ha6 HP2 ⊢
      clear c0 c1 c2 c3 hvb hb1 hll hlb hr hA HO
      go_wp2_with fail
      go_loopw [3, 7, 8] (fun lv n q wr => ∃ (j : Nat), j ≤ ar ∧ q = .int .i64 (j : Int) ∧ n = .int .i64 ((depL (st.take j) : Nat) : Int) ∧ wr.ownsRow w.heap.size 3 1 lv (st.length - j) (depsV (st.drop j)) ∧ wr = w1) (fun _ _ q _ => ar - (intOf q).toNat)
      case atStart => exact ⟨0, Nat.zero_le _, rfl, by simp [depL_nil], by simpa using HO1.out, rfl⟩
      case round =>
        obtain ⟨j, hj, rfl, rfl, hown, rfl⟩ := hrel
        have HO := Lib.hid hown; clear hown
        have hdj : depL (st.take j) ≤ 60 := by
          have : ∀ l : List Tm, (∀ x, x ∈ l → x.dep ≤ 60) → depL l ≤ 60 := by
            intro l
            induction l with
            | nil => intro _; simp [depL_nil]
            | cons t r ih => intro h; rw [depL_cons]; have := h t (by simp); have := ih (fun x hx => h x (by simp [hx])); omega
          exact this _ (fun x hx => HDEPS.out x (List.mem_of_mem_take hx))
        by_cases hlj : j < ar
        · obtain ⟨g, cp, rfl, hg1, hg2, hg3, hg4, _, hcell, _⟩ := ownsRow_open HO.out (by omega)
          have htop := (hcell (st.length - j - 1) (by omega)).trans (depsV_top st j (by omega))
          obtain ⟨a', cp', hcut0, hcut1, hcut⟩ := ownsRow_cut HO.out (k := st.length - (j + 1)) (by omega)
          obtain ⟨rfl, rfl⟩ : a' = some ⟨g, 0, none⟩ ∧ cp' = cp := by simp at hcut0; exact ⟨hcut0.1.symm, hcut0.2.symm⟩
          have hx6 : (st[j]).dep ≤ 60 := HDEPS.out _ (List.getElem_mem (by omega))
          have hnx : depL (st.take (j + 1)) = max (depL (st.take j)) (st[j]).dep := depL_step (by omega)
          have hdr : (depsV (st.drop j)).take ((st.length - (j + 1)) * 1) = depsV (st.drop (j + 1)) := by
            have := depsV_take (st.drop j) 1 (by simp; omega)
            rw [List.drop_drop, List.length_drop] at this
            rw [show st.length - (j + 1) = st.length - j - 1 from by omega]
            exact this
          rw [hdr] at hcut
          obtain ⟨x, hx⟩ : ∃ x, (st[j]).dep = x := ⟨_, rfl⟩
          obtain ⟨p, hp⟩ : ∃ p, depL (st.take j) = p := ⟨_, rfl⟩
          obtain ⟨s, hs⟩ : ∃ s, st.length - j = s + 1 := ⟨st.length - j - 1, by omega⟩
          rw [hx] at htop hx6 hnx
          rw [hp] at hnx hdj ⊢
          rw [hs] at htop ⊢
          rw [show st.length - (j + 1) = s from by omega] at hcut
          have hs4 : s + 1 ≤ 4000 := by omega
          have hscp : s + 1 ≤ cp' := by omega
          have hcp9 : cp' ≤ 9223372036854775807 := by unfold maxLen at hg4; omega
          rw [show s + 1 - 1 = s from rfl] at htop
          have HCUT := Lib.hid hcut; clear hcut hcut0 hcut1
          have HNX := Lib.hid hnx; clear hnx hdr
          have HSS := Lib.hid hs
          clear hx hp hs hcell HO hg3 hg4
          go_wp2_with fail
          have hs := HSS.out
          refine ⟨⟨j + 1, by omega, by go_num, by rw [HNX.out]; congr 1; omega, by rw [show st.length - (j + 1) = s from by omega]; exact HCUT.out, trivial⟩, by simp [intOf]; omega⟩
        · obtain rfl : j = ar := by omega
          obtain ⟨p, hp⟩ : ∃ p, depL (st.take j) = p := ⟨_, rfl⟩
          obtain ⟨X, hX⟩ : ∃ X, Tm.mk nd (st.take j).reverse = X := ⟨_, rfl⟩
          have hXd : X.dep = p + 1 := by rw [← hX, dep_mk, depL_rev, hp]
          rw [hX] at HP2
          rw [hp] at hdj ⊢
          have HXD := Lib.hid hXd
          clear hX hp hXd
          by_cases h60 : 60 < p + 1
          · have hbig : Hid (decide (60 < t.dep) = true) := by
              show _ = _
              have := dep_of_wait HWH.out HP2.out List.mem_cons_self
              have := HXD.out
              simp; omega
            clear hlj hj
            go_wp2_with fail
            go_ret
            exact ⟨by rw [hbig.out]; rfl, HB2.out⟩
          · obtain ⟨ao, co, rfl, _⟩ := (RowAt.of_own HO.out).form
            have h61 : p + 1 ≤ 60 := by omega
            clear h60 hlj hj
            go_wp2_with (at_builtin; go_must (refine wpList_append_row rfl (.tmp 46) (.tmp 49) 45 rfl w.heap.size 3 i0 (.int .i64 0) 1 8 Tryd.underlying45 hi hz0 hz1 hz2 rfl (by decide) (.slice ao (st.length - j) co) (st.length - j) (depsV (st.drop j)) rfl (HO.out.alloc _) (.slice (some ⟨wr.heap.size, 0, none⟩) 1 1) 1 [.int .i64 ((p : Int) + 1)] rfl (RowAt.lit wr _ #[.int .i64 ((p : Int) + 1)] 1 rfl (by unfold maxLen; omega)) (by intro u hu; simp at hu; subst hu; rfl) (by omega) (by unfold maxLen; omega) (by have := HB2.out.size; simp; omega) ?_); intro v5 w5 hown5 hg5 hat5)
            have hb5 : Below w.heap.size w w5 := (HB2.out.alloc HB2.out.size _).grown hg5 (by have := HB2.out.size; simp; omega) (fun g hg => by have := (HO.out.lt g hg).1; omega)
            have HO5 := Lib.hid hown5; clear hown5 hg5 hat5
            have HB5 := Lib.hid hb5; clear hb5
            go_wp2_with fail
            refine ⟨⟨k + 1, X :: st.drop j, by omega, by go_num, HP2.out, ?_, ?_, HB5.out⟩, by simp [intOf]; omega⟩
            · rw [depsV_push, HXD.out]
              have h := HO5.out
              rw [show (X :: st.drop j).length = st.length - j + 1 from by simp]
              exact h
            · intro x hx
              rcases List.mem_cons.1 hx with rfl | hx
              · have := HXD.out; omega
              · exact HDEPS.out x (List.mem_of_mem_drop hx)
    · obtain rfl : k = l.length := by omega
      rw [List.take_length] at hp
      have hall : st = [t] := by
        obtain ⟨hwf, hfl⟩ := whole_some HWH.out
        have h2 : prun [] l = some [t] := by rw [← hfl]; exact prun_flat t hwf []
        rw [hp] at h2
        exact Option.some.inj h2
      have hd : t.dep ≤ 60 := HDEPS.out t (by rw [hall]; simp)
      have hfin : Hid (decide (60 < t.dep) = false) := by show _ = _; simp; omega
      clear hall hd hp hb
      go_wp2_with fail
      go_ret
      exact ⟨by rw [hfin.out]; rfl, HB.out⟩

set_option maxRecDepth 20000 in
set_option maxHeartbeats 1000000 in
theorem refcheck2_any (l : List Nd) (v : Value) (w : World) (hv : ReadN w v l) (hs : SmallN l) :
    Calls Tryd.prog 11 #[v] w fun e w' => e = .returned (.int .i64 (chk l)) ∧ Below w.heap.size w w' := by
  obtain ⟨ad, cap, rfl⟩ : ∃ a cap, v = .slice a l.length cap := by obtain ⟨a, cap, h, _⟩ := hv.form; exact ⟨a, cap, h⟩
  have HV := Lib.hid hv; clear hv
  have HSM := Lib.hid hs; clear hs
  by_cases hbig : 4000 < l.length
  · have h1 := Lib.hid (chk_big hbig)
    go_enter Tryd.func11, Tryd.ntmps11
    go_wp2_with fail
    go_ret
    exact ⟨by rw [h1.out]; rfl, Below.refl _ _⟩
  have HW := refwhole_any l _ w HV.out HSM.out (by omega)
  cases hw : whole l with
  | none =>
    have h1 := Lib.hid (chk_none hbig hw)
    rw [hw] at HW
    have HW := Lib.hid HW
    clear hw
    go_enter Tryd.func11, Tryd.ntmps11
    go_wp2_with fail
    refine HW.out.mono ?_
    rintro e w1 ⟨rfl, hb⟩
    go_wp2_with fail
    go_ret
    exact ⟨by rw [h1.out]; rfl, hb⟩
  | some t =>
    have hch : chk l = if 60 < t.dep then 22 else 0 := by
      by_cases hd : 60 < t.dep
      · rw [if_pos hd]; exact chk_deep hbig hw hd
      · rw [if_neg hd]; exact chk_fine hbig hw hd
    have HCH := Lib.hid hch; clear hch
    have HDP : Hid (∀ w', Below w.heap.size w w' → Calls Tryd.prog 28 #[.slice ad l.length cap] w' fun e w9 => e = .returned (.bool (decide (60 < t.dep))) ∧ Below w'.heap.size w' w9) :=
      fun w' hb => refdeeper_any l t _ w' hw (HV.out.below hb) HSM.out (by omega)
    rw [hw] at HW
    have HW := Lib.hid HW
    clear hw
    by_cases hd : 60 < t.dep
    · have hb1 : decide (60 < t.dep) = true := by simpa using hd
      rw [hb1] at HDP
      have hfin : Hid (chk l = 22) := by show _ = _; rw [HCH.out, if_pos hd]
      clear hd hb1
      go_enter Tryd.func11, Tryd.ntmps11
      go_wp2_with fail
      refine HW.out.mono ?_
      rintro e w1 ⟨rfl, hb⟩
      have HB := Lib.hid hb; clear hb
      go_wp2_with fail
      refine (HDP.out _ HB.out).mono ?_
      rintro e w2 ⟨rfl, hb2⟩
      have HB2 : Hid (Below w.heap.size w w2) := HB.out.trans (hb2.mono HB.out.size)
      clear hb2
      go_wp2_with fail
      go_ret
      exact ⟨by rw [hfin.out]; rfl, HB2.out⟩
    · have hb1 : decide (60 < t.dep) = false := by simpa using hd
      rw [hb1] at HDP
      have hfin : Hid (chk l = 0) := by show _ = _; rw [HCH.out, if_neg hd]
      clear hd hb1
      go_enter Tryd.func11, Tryd.ntmps11
      go_wp2_with fail
      refine HW.out.mono ?_
      rintro e w1 ⟨rfl, hb⟩
      have HB := Lib.hid hb; clear hb
      go_wp2_with fail
      refine (HDP.out _ HB.out).mono ?_
      rintro e w2 ⟨rfl, hb2⟩
      have HB2 : Hid (Below w.heap.size w w2) := HB.out.trans (hb2.mono HB.out.size)
      clear hb2
      go_wp2_with fail
      go_ret
      exact ⟨by rw [hfin.out]; rfl, HB2.out⟩

end Go.Proofs.YteldkcpkamgfpaaDoor

namespace Go.Proofs.YteldkcpkamgfpaaDoor
set_option linter.unusedSimpArgs false
set_option linter.unusedVariables false
open Go.RowKit
set_option maxRecDepth 20000 in
set_option maxHeartbeats 1000000 in
theorem root_any (l : List Nd) (nd : Nd) (v : Value) (w : World) (hv : ReadN w v l) (hl : l.getLast? = some nd) :
    Calls Tryd.prog 67 #[v] w fun e w' => e = .returned (.agg #[.int .i64 nd.K, .int .i64 nd.N, .int .i64 nd.M, .string nd.S]) ∧ Below w.heap.size w w' := by
  obtain ⟨_, ⟨h0, _⟩ | ⟨b, off, cap, rfl, hc1, hc2, hbw, hc⟩⟩ := ReadN.cases hv
  · subst h0; cases hl
  obtain ⟨c, hcl⟩ : ∃ c, l.length = c + 1 := ⟨l.length - 1, by have : l ≠ [] := (by rintro rfl; cases hl); have := List.length_pos_iff.2 this; omega⟩
  have hlast : l[c]? = some nd := by rw [List.getLast?_eq_getElem?, hcl] at hl; exact hl
  obtain ⟨hlt, hcn⟩ := List.getElem?_eq_some_iff.1 hlast
  obtain ⟨r0, r1, r2, r3⟩ := hc c hlt
  rw [hcn] at r0 r1 r2 r3
  rw [hcl] at hc1 ⊢
  have hc9 : cap ≤ 9223372036854775807 := by unfold maxLen at hc2; omega
  clear hc hv hl hlast hcn hlt hcl hc2
  go_enter Tryd.func67, Tryd.ntmps67
  go_wp2_with fail
  exact bodyPost_ret (v := .agg #[.int .i64 nd.K, .int .i64 nd.N, .int .i64 nd.M, .string nd.S]) (by simp [results, Tryd.results67, go_sem]) rfl ⟨rfl, (Below.refl _ _).alloc (Nat.le_refl _) _⟩

end Go.Proofs.YteldkcpkamgfpaaDoor

namespace Go.Proofs.YteldkcpkamgfpaaDoor
set_option linter.unusedSimpArgs false
set_option linter.unusedVariables false
open Go.RowKit
end Go.Proofs.YteldkcpkamgfpaaDoor

