/- What the reference's Part comes to, for every row of nodes and path; condition: the strings' sizes. -/
import Derived.Test.YtjhgpifccleknaaDoorPart
import Derived.Test.YtjhgpifccleknaaDoorRefA
namespace Go.Proofs.YtjhgpifccleknaaDoor
set_option linter.unusedSimpArgs false
set_option linter.unusedVariables false
open Go.RowKit

def RPartRel (w : World) (T : Tm) (p : List Int) (t i : Value) (wr : World) : Prop :=
  ∃ (k : Nat) (u : Tm), k ≤ p.length ∧ i = .int .i64 (k : Int) ∧ walkP T (p.take k) = some u ∧ ReadN wr t u.flat ∧ Below w.heap.size w wr

set_option maxRecDepth 20000 in
set_option maxHeartbeats 2000000 in
theorem refpart_any (l : List Nd) (p : List Int) (v vp : Value) (w : World) (hv : ReadN w v l) (hs : SmallN l) (hp : ReadI w vp p) :
    Calls Tryd.prog 28 #[v, vp] w (PartPost l p w) := by
  have HCK := refcheck2_any l v w hv hs
  by_cases hk : chk l = 0
  rotate_left
  · have hpe : partE l p = chk l := by unfold partE; rw [if_neg hk]
    have hpl : partL l p = [] := by unfold partL; rw [if_neg hk]
    obtain ⟨c, hc⟩ : ∃ c, chk l = c := ⟨_, rfl⟩
    rw [hc] at hk hpe HCK
    have HPE := Lib.hid hpe; clear hpe
    have HPL := Lib.hid hpl; clear hpl
    have HCK := Lib.hid HCK
    have hkb : (c != 0) = true := by simpa using hk
    clear hc hv hs hp
    go_enter Tryd.func28, Tryd.ntmps28
    go_wp2_with fail
    refine HCK.out.mono ?_
    rintro e w1 ⟨rfl, hb⟩
    have HB := Lib.hid hb; clear hb
    go_wp2_with fail
    go_ret2
    exact ⟨_, by rw [HPE.out]; rfl, by rw [HPL.out]; exact ReadN.nil _, HB.out⟩
  obtain ⟨hle, T, hw, _⟩ := chk_ok hk
  obtain ⟨hwf, hfl⟩ := whole_some hw
  obtain ⟨ap, cp, rfl⟩ := ReadI.len_slice hp
  obtain ⟨at_, ct, rfl⟩ := ReadN.len_slice hv
  rw [hk] at HCK
  have HCK := Lib.hid HCK
  have HV := Lib.hid hv; clear hv
  have HSM := Lib.hid hs; clear hs
  have HC := Lib.hid hk; clear hk
  have HWH := Lib.hid hw; clear hw
  have HP := Lib.hid hp; clear hp
  have HWF := Lib.hid hwf; clear hwf
  have HFL := Lib.hid hfl; clear hfl
  have HLE := Lib.hid hle; clear hle
  have hpl : p.length ≤ maxLen := HP.out.small
  have hp9 : p.length ≤ 9223372036854775807 := by unfold maxLen at hpl; omega
  clear hpl
  go_enter Tryd.func28, Tryd.ntmps28
  go_wp2_with fail
  refine HCK.out.mono ?_
  rintro e w1 ⟨rfl, hb⟩
  have HB := Lib.hid hb; clear hb HCK
  go_wp2_with fail
  go_loopw [0, 7] (fun t i wr => RPartRel w T p t i wr) (fun _ i _ => p.length - (intOf i).toNat)
  case atStart => exact ⟨0, T, Nat.zero_le _, rfl, rfl, by rw [HFL.out]; exact HV.out.below HB.out, HB.out⟩
  case round =>
    obtain ⟨k, u, hk, rfl, hwk, hrd, hbw⟩ := hrel
    obtain ⟨huw, hul, _, hum⟩ := walkP_wf HWF.out hwk
    have HWK := Lib.hid hwk; clear hwk
    have HBW := Lib.hid hbw; clear hbw
    by_cases hlt : k < p.length
    · obtain ⟨nd, cs⟩ := u
      obtain ⟨pk, hpk⟩ : ∃ x, p[k] = x := ⟨_, rfl⟩
      have hpr := HP.out.below HBW.out
      obtain ⟨bp, op, cpp, hpe, _, _, hpb, hpc⟩ := RowAt.pos hpr (by omega)
      obtain ⟨rfl, rfl⟩ : ap = some ⟨bp, op, none⟩ ∧ cp = cpp := by simpa using hpe
      have p0 : wr.cell? ⟨bp, op + k, none⟩ = some (.int .i64 pk) := hpc k _ (by simp [hlt, hpk])
      have hsm : SmallN (Tm.mk nd cs).flat := fun n hn => HSM.out n (by rw [← HFL.out]; exact hum n hn)
      have hl4 : (Tm.mk nd cs).flat.length ≤ 4000 := by have := HLE.out; rw [← HFL.out] at this; omega
      have hm4 : cs.length ≤ 4000 := by
        have h1 := flatL_ge cs
        have h2 : (Tm.mk nd cs).flat.length = (flatL cs).length + 1 := by (rw [flat_mk, List.length_append]; rfl)
        omega
      have HPARTS := Lib.hid (refparts_any nd cs _ wr huw hrd hsm hl4)
      clear hpc hpr hpe hsm hum hrd
      go_wp2_with fail
      refine HPARTS.out.mono ?_
      rintro e w3 ⟨a, cap, rfl, hnn, hb3⟩
      have p3 := (hb3.cell (p := ⟨bp, op + k, none⟩) hpb).trans p0
      have HNN := Lib.hid hnn; clear hnn
      have HB3 : Hid (Below w.heap.size w w3) := HBW.out.trans (hb3.mono HBW.out.size)
      clear hb3 p0 HPARTS
      by_cases hin : 0 ≤ pk ∧ pk < (cs.length : Int)
      · obtain ⟨i, rfl⟩ := Int.eq_ofNat_of_zero_le hin.1
        have hil : i < cs.length := by omega
        obtain ⟨_, ⟨h0, _⟩ | ⟨b, off, cap', hve, _⟩⟩ := HNN.out.shape
        · have := congrArg List.length h0
          simp at this
          subst this
          simp at hil
        obtain ⟨rfl, rfl⟩ : a = some ⟨b, off, none⟩ ∧ cap = cap' := by simpa using hve
        have hnn := HNN.out
        rw [show cs.length = (cs.map Tm.flat).length from by simp] at hnn
        obtain ⟨a1, c1, g1, r1⟩ := hnn.at (i := i) (by simpa using hil)
        have e1 : (cs.map Tm.flat)[i]'(by simpa using hil) = cs[i].flat := by simp
        rw [e1] at g1 r1
        have R1 := Lib.hid r1; clear r1 e1 hnn
        have d1 : decide ((i : Int) < 0) = false := by simp
        have d2 : decide ((i : Int) ≥ (cs.length : Int)) = false := by simp; omega
        go_wp2_with fail
        refine ⟨⟨k + 1, cs[i], by omega, by go_num, walk_ok hlt HWK.out hpk hil, R1.out, HB3.out⟩, by simp [intOf]; omega⟩
      · have hd : decide (pk < 0) = true ∨ (decide (pk < 0) = false ∧ decide (pk ≥ (cs.length : Int)) = true) := by
          by_cases h : pk < 0
          · exact .inl (by simpa using h)
          · exact .inr ⟨by simpa using h, by simp; omega⟩
        obtain ⟨e1, e2⟩ := partE_none HC.out HWH.out (walk_none hlt HWK.out (by rw [hpk]; exact hin))
        have E1 := Lib.hid e1; clear e1
        have E2 := Lib.hid e2; clear e2
        rcases hd with d1 | ⟨d1, d2⟩
        all_goals
          go_wp2_with fail
          go_ret2
          exact ⟨_, by rw [E1.out]; rfl, by rw [E2.out]; exact ReadN.nil _, HB3.out⟩
    · obtain rfl : k = p.length := by omega
      rw [List.take_length] at HWK
      obtain ⟨au, cu, rfl⟩ := ReadN.len_slice hrd
      have HRD := Lib.hid hrd; clear hrd
      obtain ⟨e1, e2⟩ := partE_ok HC.out HWH.out HWK.out
      have E1 := Lib.hid e1; clear e1
      have E2 := Lib.hid e2; clear e2
      go_wp2_with fail
      go_ret2
      exact ⟨_, by rw [E1.out]; rfl, by rw [E2.out]; exact HRD.out, HBW.out⟩

end Go.Proofs.YtjhgpifccleknaaDoor
