/- A part of the proof that the abstract interpreter is sound, and of the two goroutines of the lexer. -/
import Derived.Test.YticjebnbcnphkaaGreatDoorZF22
import Derived.ProofKit
import Derived.WalkKit
import Derived.SizedLaws
import Derived.LaidHandle
import Derived.LaidLaws
import Derived.LaidMore
import Derived.SevenTiedAt

set_option linter.unusedSimpArgs false
set_option linter.unusedVariables false
set_option linter.unusedSectionVars false

namespace Go.Ai
open Go Go.Proofs Go.Proofs.YticjebnbcnphkaaGreatDoor Go.Conc

theorem leaving_of_change_and {H : Type} {enc : TypeId × Value → H} {a : Assume} {C : Checked} {os : Os} {f : FuncId} {fn : Func} {s : ChangeSpec} {conds : List PathCond} {apart fresh handsOn again : Bool} {X : World → Array Value → Prop}
    (hX : ∀ (w w' : World) (args : Array Value), w.heap = w'.heap → X w args → X w' args)
    (own : ownKnob C.prog.godebug = none) (started : os.Started) (hfn : C.prog.funcs[f]? = some fn)
    (witness : ∃ (w : World) (tape : Tape) (i : Input), w.os = os ∧ (w.forCall tape i).Shaped C.prog ∧ i.vars = [] ∧ Input.okWide C.prog (w.forCall tape i) .any w.heap.size f i ∧
      ((s.pre enc C.prog fn conds apart (w.forCall tape i).memory i.args ∧ X (w.forCall tape i).memory i.args) ∧ sizedMet enc C.prog fn (OpenSpec.ofChange s) apart (w.forCall tape i).memory i.args) ∧ a.holds C.prog (lone (Frame.enter C.prog f i.args .normal) [] (w.forCall tape i)))
    (runs : ∀ (W : World) (base : Nat) (args : Array Value) (ds gs : List (DataW H)) (before : List MemPlace),
      (∀ (j : Nat) t v, fn.params[j]? = some t → args[j]? = some v → Value.okWide C.prog W .any base t v) →
      DataW.Whole enc C.prog fn.params.toList s.vars apart W args.toList ds gs before → X W args →
      ∃ M last o w' t', runNT C.prog (M + 1) (solo (G (Frame.enter C.prog f args .normal) []) W) #[] = (.ended o w', t') ∧ runN C.prog M (solo (G (Frame.enter C.prog f args .normal) []) W) = .next last ∧
        step C.prog last = .ended o w' ∧ Conc.Good C.prog (fun v W' => s.post enc C.prog fn apart fresh handsOn again W args v W') last o w' t') :
    ReturnsInLeavingWide a C os f .any (fun w args => (s.pre enc C.prog fn conds apart w args ∧ X w args) ∧ sizedMet enc C.prog fn (OpenSpec.ofChange s) apart w args) (s.post enc C.prog fn apart fresh handsOn again) := by
  refine returnsInLeavingWide_of_good own started witness ?_
  intro w tape i _ _ _ hok hpre _
  obtain ⟨_, _, _, fn', hfn', _, _, _, _, hval⟩ := hok
  have e : fn' = fn := Option.some.inj (hfn'.symm.trans hfn)
  subst e
  obtain ⟨⟨⟨ds, gs, before, hw, _⟩, hx⟩, _⟩ := hpre
  have hw' := DataW.Whole.of_heap (w' := w.forCall tape i) (by rfl) hw
  obtain ⟨M, last, o, w', t', h1, h2, h3, h4⟩ := runs (w.forCall tape i) w.heap.size i.args ds gs before hval hw' (hX _ _ _ (by rfl) hx)
  exact ⟨M, last, o, w', t', h1, h2, h3, h4.mono fun v hp => ChangeSpec.post_blind hp⟩

def doorSteps : Nat := 115
set_option maxRecDepth 100000 in
theorem door_met (os : Os) (args : Array Value) : laidMetH Tryz.prog laidList ((World.doorLaid Tryz.prog doorSteps os).forCall (fun _ _ => 0) ⟨#[], args, []⟩).memory :=
  laidMetH_of_parts3 (fuel := 8) (laidMet_of_run' 8 (by kernel_rfl) (by kernel_rfl)) (by kernel_rfl) (by kernel_rfl)

theorem Kept.frame {W w' : World} {x : Value} (h : Kept W x w') (may : MemPlace → Prop) : W.keptBut w' may := by
  refine ⟨h.2.2.2.1, h.2.2.2.2, fun i hi => ?_⟩
  rw [h.2.1 i hi]
  split <;> simp_all

/-- a tied card of a call that starts goroutines -/
theorem holds_tied_goes_at (Lk : Looks) {p : Pinned} {s : OpenSpec} {c : OpenClaim} (kinds : List LaidKind) (tests : Bool) (har : Bool × String) (lk g : Bool)
    (hc : c.holds p s) (hw : c.wfByText s = true) (htie : c.laidByTextAt Lk p kinds tests)
    (hst : c.start = .entering) (hnb : c.noBlocks = false ∧ c.again = false) (hm : p.checked.prog.mainIs = some (har.1, har.2.toList)) (hn : (!har.1 && har.2.isEmpty && !lk) = false)
    (hl : ∀ f fn, p.checked.prog.funcNamed c.func = some f → p.checked.prog.funcs[f]? = some fn → lk = p.checked.prog.looks [] ∧ ∀ (j : Nat) t, fn.params[j]? = some t → p.checked.prog.wantsStandIn t = false)
    (hg : g = c.goesBy p.checked.prog) :
    Claim7.holds p (.plain s) { stood := { row := c, standIns := [], harness := har, looks := lk }, kinds := [], alts := [], goes := g, laidByText := true, laidKinds := kinds, laidTests := tests, laidLooks := Lk } := by
  have h6 : ∀ r : OpenClaim, Claim7.isSixth { stood := { row := r, standIns := [], harness := har, looks := lk }, kinds := [] } = false := fun r => by simpa [Claim7.isSixth] using hn
  exact ⟨Claim7.tied_new_at Lk kinds tests (Claim7.new_of_sixth hc har lk hst hnb hm (h6 c) hl) hw, (fun D hD => by cases hD), htie, (fun h => by cases h), hg⟩
end Go.Ai
