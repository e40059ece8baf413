/- What the reference's whole comes to, for every row of nodes; condition: the strings' sizes, and at most 4000 nodes. -/
import Derived.Test.YtjhgpifccleknaaDoorLook
import Derived.Test.YtjhgpifccleknaaDoorRefH
namespace Go.Proofs.YtjhgpifccleknaaDoor
set_option linter.unusedSimpArgs false
set_option linter.unusedVariables false
open Go.RowKit

theorem whole_isSome {l : List Nd} {st : List Tm} (h : prun [] l = some st) : (whole l).isSome = ((st.length : Int) == 1) := by
  unfold whole
  rw [h]
  match st with
  | [] => rfl
  | [t] => rfl
  | t :: u :: r =>
    have : (((t :: u :: r).length : Int) == 1) = false := by rw [beq_eq_false_iff_ne]; simp; omega
    rw [this]
    rfl
theorem step_len {l : List Nd} {k : Nat} {st : List Tm} (hk : k < l.length) (h : prun [] (l.take k) = some st) (h1 : rightB l[k] = true) (h2 : arity l[k] ≤ st.length) :
    ∃ st', prun [] (l.take (k + 1)) = some st' ∧ (st'.length : Int) = (st.length : Int) - (arity l[k] : Int) + 1 := by
  rw [prun_take hk h]
  unfold pstep
  rw [if_pos ⟨h1, h2⟩]
  exact ⟨_, rfl, by simp; omega⟩

set_option maxRecDepth 20000 in
set_option maxHeartbeats 2000000 in
theorem refwhole_any (l : List Nd) (v : Value) (w : World) (hv : ReadN w v l) (hs : SmallN l) (hl : l.length ≤ 4000) :
    Calls Tryd.prog 67 #[v] w fun e w' => e = .returned (.bool (whole l).isSome) ∧ Below w.heap.size w w' := by
  obtain ⟨_, ⟨h0, a, cap, rfl⟩ | ⟨b, off, cap, rfl, hcap1, hcap2, hbw, hc⟩⟩ := hv.cases
  · subst h0
    go_enter Tryd.func67, Tryd.ntmps67
    go_wp2_with fail
    go_loopw [3, 4] (fun d i wr => d = .int .i64 0 ∧ i = .int .i64 0 ∧ wr = w) (fun _ _ _ => 0)
    case atStart => exact ⟨rfl, rfl, rfl⟩
    case round =>
      obtain ⟨rfl, rfl, rfl⟩ := hrel
      go_wp2_with fail
      go_ret
      exact ⟨rfl, Below.refl _ _⟩
  have HC := Lib.hid hc; clear hc
  have HV := Lib.hid hv; clear hv
  have HSM := Lib.hid hs; clear hs
  go_enter Tryd.func67, Tryd.ntmps67
  go_wp2_with fail
  go_loopw [3, 4] (fun d i wr => ∃ (k : Nat) (st : List Tm), k ≤ l.length ∧ i = .int .i64 (k : Int) ∧ d = .int .i64 (st.length : Int) ∧ prun [] (l.take k) = some st ∧ Below w.heap.size w wr) (fun _ i _ => l.length - (intOf i).toNat)
  case atStart => exact ⟨0, [], Nat.zero_le _, rfl, rfl, by simp [prun], Below.refl _ _⟩
  case round =>
    rename World => wa
    obtain ⟨k, st, hk, rfl, rfl, hp, hb⟩ := hrel
    have HB := Lib.hid hb
    have hst := stack_le hp hk
    by_cases hlt : k < l.length
    · obtain ⟨g0, g1, g2, g3⟩ := HC.out k hlt
      have c0 := (hb.cell (p := ⟨b, off + k * 4, none⟩) hbw).trans g0
      have c1 := (hb.cell (p := ⟨b, off + k * 4 + 1, none⟩) hbw).trans g1
      have c2 := (hb.cell (p := ⟨b, off + k * 4 + 2, none⟩) hbw).trans g2
      have c3 := (hb.cell (p := ⟨b, off + k * 4 + 3, none⟩) hbw).trans g3
      clear g0 g1 g2 g3 hb
      have hsz : (l[k]).S.size ≤ maxLen := HSM.out _ (List.getElem_mem hlt)
      have hno := whole_none_of hlt hp
      have hyes := step_len hlt hp
      obtain ⟨nd, hnd⟩ : ∃ nd, l[k] = nd := ⟨_, rfl⟩
      rw [hnd] at c0 c1 c2 c3 hsz hno hyes
      have HNO := Lib.hid hno; clear hno
      have HYES := Lib.hid hyes; clear hyes hnd
      have HP := Lib.hid hp; clear hp
      go_wp2_with fail
      refine (refbinds_any nd _ hsz).mono ?_
      rintro e w1 ⟨vb, lb, rfl, hvb, hlb, hb1⟩
      obtain ⟨a, cb, rfl⟩ := ReadI.len_slice hvb
      have hb2 := HB.out.trans (hb1.mono HB.out.size)
      have HB2 := Lib.hid hb2; clear hb2 hb1
      clear c0 c1 c2 c3 hvb
      cases hr : rightB nd
      · have hn : Hid (whole l = none) := HNO.out (fun h => by rw [hr] at h; cases h.1)
        clear hr hlb
        go_wp2_with fail
        go_ret
        exact ⟨by rw [hn.out]; rfl, HB2.out⟩
      · have hll : lb.length = arity nd := by rw [hlb hr]; simp [arity]
        rw [hll]
        clear hll hlb
        by_cases har : arity nd ≤ st.length
        · obtain ⟨st', hp', hl'⟩ := HYES.out hr har
          have HP' := Lib.hid hp'; clear hp'
          have HL' := Lib.hid hl'; clear hl'
          obtain ⟨ar, hA⟩ : ∃ ar, arity nd = ar := ⟨_, rfl⟩
          rw [hA] at har HL' ⊢
          clear hr hA
          go_wp2_with fail
          go_roundw
          case rel => exact ⟨k + 1, st', by omega, by go_num, by rw [HL'.out], HP'.out, HB2.out⟩
          case measure => simp [intOf]; omega
        · have hn : Hid (whole l = none) := HNO.out (fun h => har h.2)
          have har' : st.length < arity nd := by omega
          have ha6 : arity nd ≤ 100000 := by
            obtain ⟨kk, hK, hkk⟩ := right_kind hr
            unfold arity bnds
            split
            · have := right_M hr (.inl (by assumption)); simp; omega
            · split
              · have := right_M hr (.inr (by assumption)); simp; omega
              · have := shp_len kk hkk; rw [hK]; simp; omega
          obtain ⟨ar, hA⟩ : ∃ ar, arity nd = ar := ⟨_, rfl⟩
          rw [hA] at har' ha6 ⊢
          clear hr hA har
          go_wp2_with fail
          go_ret
          exact ⟨by rw [hn.out]; rfl, HB2.out⟩
    · obtain rfl : k = l.length := by omega
      rw [List.take_length] at hp
      have hw := whole_isSome hp
      have HW := Lib.hid hw; clear hw hp hb
      go_wp2_with fail
      go_ret
      exact ⟨by rw [HW.out]; rfl, HB.out⟩

end Go.Proofs.YtjhgpifccleknaaDoor
