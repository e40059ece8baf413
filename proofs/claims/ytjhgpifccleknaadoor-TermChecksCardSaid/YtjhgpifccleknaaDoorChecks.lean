/- TermChecks' walk. -/
import Derived.Test.YtjhgpifccleknaaDoorRefPart
import Derived.Test.YtjhgpifccleknaaDoorGrows
namespace Go.Proofs.YtjhgpifccleknaaDoor
set_option linter.unusedSimpArgs false
set_option linter.unusedVariables false
open Go.RowKit

/-- the parts of what is a term -/
def argsL (l : List Nd) : List (List Nd) := if chk l = 0 then (match whole l with | some t => t.kids.map Tm.flat | none => []) else []
theorem ReadNN.nil (w : World) : ReadNN w (.slice none 0 0) [] := ⟨[], rfl, RowAt.nil w 1, fun i hi => by simp at hi⟩
theorem args_of {l : List Nd} {w w' : World} {e : Ending} (h : ArgsPost l w e w') : ∃ a c, e = .returned (.tuple #[.slice a (argsL l).length c, .int .i64 (chk l)]) ∧ ReadNN w' (.slice a (argsL l).length c) (argsL l) ∧ Below w.heap.size w w' := by
  obtain ⟨v, rfl, h1, h2, h3⟩ := h
  by_cases hk : chk l = 0
  · obtain ⟨nd, cs, hw, hr⟩ := h1 hk
    have e : argsL l = cs.map Tm.flat := by unfold argsL; rw [if_pos hk, hw]; rfl
    obtain ⟨vs, h4, h5, h6⟩ := hr
    obtain ⟨a, c, rfl, _⟩ := h5.form
    rw [e]
    exact ⟨a, c, rfl, ⟨vs, h4, h5, h6⟩, h3⟩
  · have e : argsL l = [] := by unfold argsL; rw [if_neg hk]
    rw [h2 hk, e]
    exact ⟨none, 0, rfl, ReadNN.nil _, h3⟩
theorem part_of {l : List Nd} {p : List Int} {w w' : World} {e : Ending} (h : PartPost l p w e w') : ∃ a c, e = .returned (.tuple #[.slice a (partL l p).length c, .int .i64 (partE l p)]) ∧ ReadN w' (.slice a (partL l p).length c) (partL l p) ∧ Below w.heap.size w w' := by
  obtain ⟨v, rfl, h1, h2⟩ := h
  obtain ⟨a, c, rfl⟩ := ReadN.len_slice h1
  exact ⟨a, c, rfl, h1, h2⟩

set_option maxRecDepth 20000 in
set_option maxHeartbeats 4000000 in
theorem checks_walk (W : World) (t : List Nd) (vt : Value) (ht : ReadN W vt t) (hst : SmallN t) (p : List Int) (vp : Value) (hp : ReadI W vp p) (hS : ShapesAt W) :
    Calls Tryd.prog 6 #[vt, vp] W fun e W' => e = .returned (.bool true) ∧ Below W.heap.size W W' := by
  obtain ⟨at_, ct, rfl⟩ := ReadN.len_slice ht
  obtain ⟨ap, cp, rfl⟩ := ReadI.len_slice hp
  have HSW : Hid (∀ x, Below W.heap.size W x → ShapesAt x) := fun x hb => hS.below hb
  have HTW : Hid (∀ x, Below W.heap.size W x → ReadN x (.slice at_ t.length ct) t) := fun x hb => ht.below hb
  have HPW : Hid (∀ x, Below W.heap.size W x → ReadI x (.slice ap p.length cp) p) := fun x hb => hp.below hb
  have HST := Lib.hid hst; clear hst
  have HSH : Hid (∀ w', Below W.heap.size W w' → Calls Tryd.prog 21 #[] w' fun e w9 => e = .returned (.bool true) ∧ Below w'.heap.size w' w9) := fun w' hb => shown2_any w' (HSW.out _ hb)
  have HB0 : Hid (Below W.heap.size W W) := Below.refl _ _
  have HVT := Lib.hid (heavy2_any t _ W ht)
  have hp9 : p.length ≤ 9223372036854775807 := by have := RowAt.small hp; unfold maxLen at this; omega
  obtain ⟨n, hn⟩ : ∃ n, p.length = n := ⟨_, rfl⟩
  rw [hn] at hp9 HPW ⊢
  clear ht hS hp hn
  go_enter Tryd.func6, Tryd.ntmps6
  go_wp2_with fail
  refine HVT.out.mono ?_
  rintro e w1 ⟨⟨b1, rfl, hn1⟩, rfl⟩
  clear hn1
  cases b1
  rotate_left
  · go_wp2_with fail
    refine (HSH.out _ HB0.out).mono ?_
    rintro e w2 ⟨rfl, hb2⟩
    go_wp2_with fail
    go_ret
    exact ⟨rfl, hb2⟩
  by_cases h100 : n > 100
  · have hd : decide ((n : Int) > 100) = true := by simp; omega
    go_wp2_with fail
    refine (HSH.out _ HB0.out).mono ?_
    rintro e w2 ⟨rfl, hb2⟩
    go_wp2_with fail
    go_ret
    exact ⟨rfl, hb2⟩
  have hd : decide ((n : Int) > 100) = false := by simp; omega
  go_wp2_with fail
  refine (HSH.out _ HB0.out).mono ?_
  rintro e w2 ⟨rfl, hb2⟩
  have HB2 := chain HB0 hb2
  clear hb2 hd
  obtain ⟨c, hc⟩ : ∃ c, chk t = c := ⟨_, rfl⟩
  obtain ⟨d, hdd⟩ : ∃ d, dpt t = d := ⟨_, rfl⟩
  have HC := Lib.hid hc; clear hc
  have HD := Lib.hid hdd; clear hdd
  go_wp2_with fail
  refine (tcheck_any t _ w2 (HSW.out _ HB2.out) (HTW.out _ HB2.out) HST.out).mono ?_
  rintro e w3 ⟨rfl, hb3⟩
  rw [HC.out]
  have HB3 := chain HB2 hb3
  clear hb3
  go_wp2_with fail
  refine (tdepth_any t _ w3 (HSW.out _ HB3.out) (HTW.out _ HB3.out) HST.out).mono ?_
  rintro e w4 ⟨rfl, hb4⟩
  rw [HC.out, HD.out]
  have HB4 := chain HB3 hb4
  clear hb4
  go_wp2_with fail
  refine (refdepth_any t _ w4 (HTW.out _ HB4.out) HST.out).mono ?_
  rintro e w5 ⟨rfl, hb5⟩
  rw [HC.out, HD.out]
  have HB5 := chain HB4 hb5
  clear hb5
  go_wp2_with fail
  refine (refcheck2_any t _ w5 (HTW.out _ HB5.out) HST.out).mono ?_
  rintro e w6 ⟨rfl, hb6⟩
  rw [HC.out]
  have HB6 := chain HB5 hb6
  clear hb6
  go_wp2_with fail
  refine (targs_any t _ w6 (HSW.out _ HB6.out) (HTW.out _ HB6.out) HST.out).mono ?_
  intro e w7 hpost
  obtain ⟨a1, c1, rfl, hr1, hb7⟩ := args_of hpost
  rw [HC.out]
  have HR1 := Lib.hid hr1
  have HB7 := chain HB6 hb7
  clear hr1 hb7 hpost
  go_wp2_with fail
  refine (refargs_any t _ w7 (HTW.out _ HB7.out) HST.out).mono ?_
  intro e w8 hpost
  obtain ⟨a2, c2, rfl, hr2, hb8⟩ := args_of hpost
  rw [HC.out]
  have HR1 := Lib.hid (HR1.out.below hb8)
  have HR2 := Lib.hid hr2
  have HB8 := chain HB7 hb8
  clear hr2 hb8 hpost
  obtain ⟨pe, hpe⟩ : ∃ c, partE t p = c := ⟨_, rfl⟩
  have HPE := Lib.hid hpe; clear hpe
  go_wp2_with fail
  refine (tpart_any t p _ _ w8 (HSW.out _ HB8.out) (HTW.out _ HB8.out) HST.out (HPW.out _ HB8.out)).mono ?_
  intro e w9 hpost
  obtain ⟨a3, c3, rfl, hr3, hb9⟩ := part_of hpost
  rw [HPE.out]
  have HR1 := Lib.hid (HR1.out.below hb9)
  have HR2 := Lib.hid (HR2.out.below hb9)
  have HR3 := Lib.hid hr3
  have HB9 := chain HB8 hb9
  clear hr3 hb9 hpost
  go_wp2_with fail
  refine (refpart_any t p _ _ w9 (HTW.out _ HB9.out) HST.out (HPW.out _ HB9.out)).mono ?_
  intro e w10 hpost
  obtain ⟨a4, c4, rfl, hr4, hb10⟩ := part_of hpost
  rw [HPE.out]
  have HL := Lib.hid (lists_yes _ _ _ _ (HR1.out.below hb10) (HR2.out.below hb10))
  have HSM : Hid (∀ m, Calls Tryd.prog 30 #[.slice a3 (partL t p).length c3, .slice a4 (partL t p).length c4] (w10.drewN m) fun e w' => e = .returned (.bool true) ∧ ∃ n, w' = (w10.drewN m).drewN n) := by
    show ∀ m, _
    intro m
    exact same_yes _ _ _ _ (RowAt.drewN (HR3.out.below hb10) m) (RowAt.drewN hr4 m)
  have HB10 := chain HB9 hb10
  clear hr4 hb10 hpost HR1 HR2 HR3
  go_wp2_with fail
  refine HL.out.mono ?_
  rintro e w11 ⟨rfl, n11, rfl⟩
  go_wp2_with fail
  refine (HSM.out n11).mono ?_
  rintro e w12 ⟨rfl, n12, rfl⟩
  go_wp2_with fail
  go_ret
  exact ⟨rfl, below_drewN HB10.out _⟩

end Go.Proofs.YtjhgpifccleknaaDoor
