/- TopTrees: for every input the Go function of the law returns true, and the argument reads afterwards as it read before. No condition but that the variables of the packages hold what their initialisers lay (the card ties that to the text of the program). -/
import Derived.Test.YticjebnbcnphkaaGreatDoorZTfTr
import Derived.Test.YticjebnbcnphkaaGreatDoorZTgTr
import Derived.Test.YticjebnbcnphkaaGreatDoorZKTRs
import Derived.OpenShut
import Derived.ShutString
import Derived.ChangeOld

namespace Go.Proofs.YticjebnbcnphkaaGreatDoor.topTrees
open Go Go.Ai Go.Conc Go.Proofs Go.ChangeShapes Go.WideShapes Go.ChangeAt Go.RowKit
set_option linter.unusedSimpArgs false
set_option linter.unusedVariables false

theorem own : ownKnob Tryz.prog.godebug = none := by kernel_rfl

theorem u8_range {a : Int} (h : (Lit.int .u8 a).wf = true) : 0 ≤ a ∧ a < 256 := by
  simp only [Lit.wf, Bool.and_eq_true, decide_eq_true_eq] at h
  have e1 : IntKind.u8.min = 0 := rfl
  have e2 : IntKind.u8.max = 255 := rfl
  rw [e1, e2] at h
  omega

set_option maxHeartbeats 100000000 in
set_option maxRecDepth 100000 in
theorem witness (os : Os) (H : Type) (enc : TypeId × Value → H) : ∃ (w : World) (tape : Tape) (i : Input), w.os = os ∧ (w.forCall tape i).Shaped Tryz.checked.prog ∧ i.vars = [] ∧ Input.okWide Tryz.checked.prog (w.forCall tape i) .any w.heap.size 4 i ∧
      ((Rows.topTreesSpec.pre enc Tryz.checked.prog Tryz.f4 [] false (w.forCall tape i).memory i.args ∧ laidMetH Tryz.prog Rows.topTreesRow.laid (w.forCall tape i).memory) ∧ sizedMet enc Tryz.checked.prog Tryz.f4 (OpenSpec.ofChange Rows.topTreesSpec) false (w.forCall tape i).memory i.args) ∧ ({} : Assume).holds Tryz.checked.prog (lone (Frame.enter Tryz.checked.prog 4 i.args .normal) [] (w.forCall tape i)) :=
  ChangeSpec.witness_shaped (enc := enc) (C := Tryz.checked) (os := os) (X := fun w _ => laidMetH Tryz.prog Rows.topTreesRow.laid w) false (World.doorLaid Tryz.prog doorSteps os) #[.int .u8 0] 8 rfl (World.shaped_of_RefB (by as_aux_lemma => kernel_rfl) (by as_aux_lemma => kernel_rfl)) (by as_aux_lemma => kernel_rfl) (by as_aux_lemma => kernel_rfl) (by as_aux_lemma => kernel_rfl) (door_met os _)

set_option maxHeartbeats 100000000 in
set_option maxRecDepth 100000 in
theorem lifted (os : Os) (started : os.Started) (H : Type) (enc : TypeId × Value → H) :
    ReturnsInLeavingWide {} Tryz.checked os 4 .any (fun w args => (Rows.topTreesSpec.pre enc Tryz.prog Tryz.f4 [] false w args ∧ laidMetH Tryz.prog Rows.topTreesRow.laid w) ∧ sizedMet enc Tryz.prog Tryz.f4 (OpenSpec.ofChange Rows.topTreesSpec) false w args)
      (Rows.topTreesSpec.post enc Tryz.prog Tryz.f4 false true false false) := by
  refine leaving_of_change_and (C := Tryz.checked) (X := fun w _ => laidMetH Tryz.prog Rows.topTreesRow.laid w) (fun _ _ _ hh h => h.of_heap hh) own started Tryz.func4 (witness os H enc) ?_
  intro W base args ds gs before hval0 hW hL
  have hval : ∀ (j : Nat) t v, Tryz.f4.params[j]? = some t → args[j]? = some v → Value.okWide Tryz.prog W .any base t v := hval0
  have hW' := hW
  obtain ⟨p, q, hA0, hV, rfl, hfz, hnd⟩ := hW
  have hA : DataW.TrodAll enc Tryz.prog W 0 (fun _ => true) true Tryz.f4.params.toList args.toList ds p := hA0
  rw [Tryz.params4] at hA hval
  obtain ⟨v0, vs0, d0, ds0, p0, q0, hargs, rfl, rfl, h0, r0⟩ := trodAll_cons hA
  obtain ⟨rfl, rfl, rfl⟩ := trodAll_nil r0
  obtain rfl : args = #[v0] := by cases args; simp_all
  obtain ⟨rfl, rfl⟩ := trodVars_none hV
  obtain ⟨a0, rfl, rfl, rfl, w0⟩ := open_int Tryz.underlying5 (hval 0 5 v0 rfl rfl) h0
  clear hA0 hval0
  have hK : ∀ (v : AV) (A : AH), TRK v A = true → v = .bool true := fun v A h => by
    unfold TRK at h
    cases v <;> first | (simp only at h; rw [h]) | cases h
  obtain ⟨n, hn, rfl⟩ : ∃ n : Nat, n < 256 ∧ a0 = Int.ofNat n := by
    obtain ⟨h1, h2⟩ := u8_range w0
    exact ⟨a0.toNat, by omega, by simp; omega⟩
  have hE : Lift.Ends Tryz.prog (Kept W) (solo (G (Frame.enter Tryz.prog 4 #[.int .u8 (Int.ofNat n)] .normal) []) W) #[] :=
    law_runs Tryz.func4 (r := 2) (by kernel_rfl) (by decide) hK (TRtop hn _) (fun σ => .nat .u8 n) hL
  obtain ⟨N, last, o, w', t', g1, g2, g3, g4⟩ := hE
  refine ⟨N, last, o, w', t', g1, g2, g3, g4.mono fun v hp => ?_⟩
  have hv := hp.1
  subst hv
  exact ⟨_, _, _, [], _, [], hW', trodAll_mk1 (shut_bool Tryz.underlying4 _), (trodAll_cons_mk (shut_int Tryz.underlying5 w0) trodAll_mk0), rfl, hp.frame _, fun h => by cases h⟩

theorem over : Rows.topTreesRow.holds Tryz.pinned (OpenSpec.ofChange Rows.topTreesSpec) :=
  OpenClaim.holds_of_wide_leaving 4 Tryz.f4 rfl rfl rfl rfl rfl rfl rfl ⟨rfl, rfl, rfl, rfl, rfl⟩ rfl rfl rfl rfl rfl named Tryz.func4 facts inst wrap (fun os started H enc _ => lifted os started H enc)

theorem plain (f : FuncId) (fn : Func) (hf : Tryz.pinned.checked.prog.funcNamed "cornice/cornicetop.TopTrees" = some f) (hfn : Tryz.pinned.checked.prog.funcs[f]? = some fn) :
    true = Tryz.pinned.checked.prog.looks [] ∧ ∀ (j : Nat) t, fn.params[j]? = some t → Tryz.pinned.checked.prog.wantsStandIn t = false := by
  obtain rfl : f = 4 := Option.some.inj (named.symm.trans hf) |>.symm
  obtain rfl : fn = Tryz.f4 := (Option.some.inj (Tryz.func4.symm.trans hfn)).symm
  refine ⟨looks, fun j t ht => ?_⟩
  rw [Tryz.params4] at ht
  have hm := Array.mem_of_getElem? ht
  have hc : t = 5 := by simp at hm; first | omega | exact hm
  rcases hc with rfl
  exact wants

/-- the card -/
theorem card : Rows.TopTreesCardSaid :=
  holds_tied_goes_at .later _ _ _ _ _ over textual topTrees_row_tie rfl ⟨rfl, rfl⟩ mains rfl plain starts
#print axioms card
end Go.Proofs.YticjebnbcnphkaaGreatDoor.topTrees
