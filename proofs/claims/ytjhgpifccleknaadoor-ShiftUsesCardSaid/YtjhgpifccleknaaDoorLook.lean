/- What term.look, term.Check and term.Depth come to, for every row of nodes, where the table of shapes lies as it is laid. -/
import Derived.Test.YtjhgpifccleknaaDoorMeas
namespace Go.Proofs.YtjhgpifccleknaaDoor
set_option linter.unusedSimpArgs false
set_option linter.unusedVariables false
open Go.RowKit

def LookPost (l : List Nd) (w : World) (e : Ending) (w' : World) : Prop :=
  ∃ v, e = .returned (.tuple #[v, .int .i64 (chk l)]) ∧ (chk l = 0 → w'.ownsRow w.heap.size 83 2 v l.length (measL (tops l l.length))) ∧ Below w.heap.size w w'

theorem chk_big {l : List Nd} (h : 4000 < l.length) : chk l = 21 := by unfold chk; rw [if_pos h]
theorem chk_none {l : List Nd} (h : ¬ 4000 < l.length) (h2 : whole l = none) : chk l = 20 := by unfold chk; rw [if_neg h, h2]
theorem chk_deep {l : List Nd} {t : Tm} (h : ¬ 4000 < l.length) (h2 : whole l = some t) (h3 : 60 < t.dep) : chk l = 22 := by unfold chk; rw [if_neg h, h2]; exact if_pos h3
theorem chk_fine {l : List Nd} {t : Tm} (h : ¬ 4000 < l.length) (h2 : whole l = some t) (h3 : ¬ 60 < t.dep) : chk l = 0 := by unfold chk; rw [if_neg h, h2]; exact if_neg h3

theorem tops_last {l : List Nd} {t : Tm} (h : whole l = some t) {m : Nat} (hm : l.length = m + 1) : (measL (tops l (m + 1)))[m * 2]? = some (.int .i64 0) ∧ (measL (tops l (m + 1)))[m * 2 + 1]? = some (.int .i64 (t.dep : Int)) := by
  obtain ⟨hw, rfl⟩ := whole_some h
  have h1 := topm_root hw
  rw [show t.flat.length - 1 = m from by omega] at h1
  have h2 : (tops t.flat (m + 1))[m]'(by rw [tops_length]; omega) = (0, t.dep) := by
    simp [tops, h1]
  have g0 := measL_get (tops t.flat (m + 1)) m (by rw [tops_length]; omega) 0 (by omega)
  have g1 := measL_get (tops t.flat (m + 1)) m (by rw [tops_length]; omega) 1 (by omega)
  rw [h2] at g0 g1
  exact ⟨g0, g1⟩
theorem whole_pos {l : List Nd} {t : Tm} (h : whole l = some t) : ∃ m, l.length = m + 1 := by
  obtain ⟨hw, rfl⟩ := whole_some h
  have := flat_pos t
  exact ⟨t.flat.length - 1, by omega⟩

set_option maxRecDepth 20000 in
set_option maxHeartbeats 2000000 in
theorem look_any (l : List Nd) (v : Value) (w : World) (hS : ShapesAt w) (hv : ReadN w v l) (hs : SmallN l) :
    Calls Tryd.prog 64 #[v] w (LookPost l w) := by
  obtain ⟨ad, cap, rfl⟩ : ∃ a cap, v = .slice a l.length cap := by obtain ⟨a, cap, h, _⟩ := hv.form; exact ⟨a, cap, h⟩
  have HV := Lib.hid hv; clear hv
  have HS := Lib.hid hS; clear hS
  have HSM := Lib.hid hs; clear hs
  by_cases hbig : 4000 < l.length
  · have h1 := Lib.hid (chk_big hbig)
    go_enter Tryd.func64, Tryd.ntmps64
    go_wp2_with fail
    go_ret2
    exact ⟨_, by rw [h1.out]; rfl, (fun h => by rw [h1.out] at h; omega), Below.refl _ _⟩
  · cases hw : whole l with
    | none =>
      have h1 := Lib.hid (chk_none hbig hw)
      have h2 : Hid ((whole l).isSome = false) := by show _ = _; rw [hw]; rfl
      clear hw
      go_enter Tryd.func64, Tryd.ntmps64
      go_wp2_with fail
      refine (measured_any l _ w HS.out HV.out HSM.out (by omega)).mono ?_
      rintro e w1 ⟨u, rfl, _, hb⟩
      rw [h2.out]
      go_wp2_with fail
      go_ret2
      exact ⟨_, by rw [h1.out]; rfl, (fun h => by rw [h1.out] at h; omega), hb⟩
    | some t =>
      obtain ⟨m, hm⟩ := whole_pos hw
      have h2 : Hid ((whole l).isSome = true) := by show _ = _; rw [hw]; rfl
      have hl := tops_last hw hm
      by_cases hd : 60 < t.dep
      · have h1 := Lib.hid (chk_deep hbig hw hd)
        have hl := Lib.hid hl
        clear hw
        have HM := Lib.hid hm
        have hm4 : m < 4000 := by omega
        clear hm
        go_enter Tryd.func64, Tryd.ntmps64
        go_wp2_with fail
        refine (measured_any l _ w HS.out HV.out HSM.out (by omega)).mono ?_
        rintro e w1 ⟨u, rfl, hown0, hb⟩
        have hown := hown0 h2.out
        rw [h2.out]
        clear hown0
        rw [HM.out] at hown
        obtain ⟨g, cp, rfl, _, _, _, _, _, hcell, _⟩ := ownsRow_open hown (by omega)
        have c1 : w1.cell? ⟨g, m * 2 + 1, none⟩ = some (.int .i64 (t.dep : Int)) := (hcell (m * 2 + 1) (by omega)).trans hl.out.2
        have HO := Lib.hid hown; clear hown hcell
        go_wp2_with fail
        go_ret2
        exact ⟨_, by rw [h1.out]; rfl, (fun h => by rw [h1.out] at h; omega), hb⟩
      · have h1 := Lib.hid (chk_fine hbig hw hd)
        have hl := Lib.hid hl
        clear hw
        have HM := Lib.hid hm
        have hm4 : m < 4000 := by omega
        clear hm
        go_enter Tryd.func64, Tryd.ntmps64
        go_wp2_with fail
        refine (measured_any l _ w HS.out HV.out HSM.out (by omega)).mono ?_
        rintro e w1 ⟨u, rfl, hown0, hb⟩
        have hown := hown0 h2.out
        have HO := Lib.hid hown
        rw [h2.out]
        clear hown0
        rw [HM.out] at hown
        obtain ⟨g, cp, rfl, _, _, _, _, _, hcell, _⟩ := ownsRow_open hown (by omega)
        have c1 : w1.cell? ⟨g, m * 2 + 1, none⟩ = some (.int .i64 (t.dep : Int)) := (hcell (m * 2 + 1) (by omega)).trans hl.out.2
        clear hown hcell
        go_wp2_with fail
        go_ret2
        exact ⟨_, by rw [h1.out]; rfl, (fun _ => HO.out), hb⟩

set_option maxHeartbeats 1000000 in
theorem tcheck_any (l : List Nd) (v : Value) (w : World) (hS : ShapesAt w) (hv : ReadN w v l) (hs : SmallN l) :
    Calls Tryd.prog 33 #[v] w fun e w' => e = .returned (.int .i64 (chk l)) ∧ Below w.heap.size w w' := by
  have HV := Lib.hid hv; clear hv
  have HS := Lib.hid hS; clear hS
  have HSM := Lib.hid hs; clear hs
  go_enter Tryd.func33, Tryd.ntmps33
  go_wp2_with fail
  refine (look_any l _ w HS.out HV.out HSM.out).mono ?_
  rintro e w1 ⟨u, rfl, _, hb⟩
  go_wp2_with fail
  go_ret
  exact ⟨rfl, hb⟩

/-- how deep, or 0 -/
def dpt (l : List Nd) : Int := if chk l = 0 then (match whole l with | some t => (t.dep : Int) | none => 0) else 0

set_option maxRecDepth 20000 in
set_option maxHeartbeats 2000000 in
theorem tdepth_any (l : List Nd) (v : Value) (w : World) (hS : ShapesAt w) (hv : ReadN w v l) (hs : SmallN l) :
    Calls Tryd.prog 29 #[v] w fun e w' => e = .returned (.tuple #[.int .i64 (dpt l), .int .i64 (chk l)]) ∧ Below w.heap.size w w' := by
  have HV := Lib.hid hv; clear hv
  have HS := Lib.hid hS; clear hS
  have HSM := Lib.hid hs; clear hs
  by_cases hk : chk l = 0
  · obtain ⟨hle, t, hw, hd⟩ := chk_ok hk
    have hdp : dpt l = (t.dep : Int) := by unfold dpt; rw [if_pos hk, hw]
    obtain ⟨m, hm⟩ := whole_pos hw
    have hl := Lib.hid (tops_last hw hm)
    have HK := Lib.hid hk
    have HM := Lib.hid hm
    have hm4 : m < 4000 := by omega
    rw [hdp, hk]
    clear hdp hw hm hk hle
    go_enter Tryd.func29, Tryd.ntmps29
    go_wp2_with fail
    refine (look_any l _ w HS.out HV.out HSM.out).mono ?_
    rintro e w1 ⟨u, rfl, hown0, hb⟩
    have hown := hown0 HK.out
    rw [HK.out]
    clear hown0
    rw [HM.out] at hown
    obtain ⟨g, cp, rfl, _, _, _, _, _, hcell, _⟩ := ownsRow_open hown (by omega)
    have c1 : w1.cell? ⟨g, m * 2 + 1, none⟩ = some (.int .i64 (t.dep : Int)) := (hcell (m * 2 + 1) (by omega)).trans hl.out.2
    clear hown hcell
    go_wp2_with fail
    go_ret2
    exact ⟨rfl, hb⟩
  · have hdp : dpt l = 0 := by unfold dpt; rw [if_neg hk]
    obtain ⟨c, hc⟩ : ∃ c, chk l = c := ⟨_, rfl⟩
    rw [hdp, hc]
    rw [hc] at hk
    have HC := Lib.hid hc; clear hc hdp
    have hkb : (c != 0) = true := by simpa using hk
    go_enter Tryd.func29, Tryd.ntmps29
    go_wp2_with fail
    refine (look_any l _ w HS.out HV.out HSM.out).mono ?_
    rintro e w1 ⟨u, rfl, hown0, hb⟩
    rw [HC.out]
    clear hown0
    go_wp2_with fail
    go_ret2
    exact ⟨rfl, hb⟩

end Go.Proofs.YtjhgpifccleknaaDoor
