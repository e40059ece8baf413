/- A part of the proof that the abstract interpreter is sound, and of the two goroutines of the lexer. -/
import Derived.Test.YticjebnbcnphkaaGreatDoorZF20
import Derived.Test.YticjebnbcnphkaaGreatDoorZF21
import Derived.Conc.LeavingOf

set_option linter.unusedSimpArgs false
set_option linter.unusedVariables false
set_option linter.unusedSectionVars false

namespace Go.Ai
open Go Go.Proofs Go.Proofs.YticjebnbcnphkaaGreatDoor Go.Lift Go.Conc

/-- what is left of the world where the law's call ends -/
def Kept (W : World) (x : Value) (w' : World) : Prop := x = .bool true ∧ (∀ k, k < W.heap.size → w'.heap[k]? = W.heap[k]?) ∧ W.heap.size ≤ w'.heap.size ∧ w'.os = W.os ∧ w'.output = W.output

theorem done_lex {P : Program} {Post : Value → World → Prop} {a : Goroutine} {w : World} (h : AtDone P Post a w) : AtLex P Post a w :=
  ⟨h.1, fun _ τ d sl t hT hD => done_ends (gs := #[a]) (q := fun _ => 0) rfl ⟨fun i g hi hg => by
    have := (Array.getElem?_eq_some_iff.1 hg).1
    simp at this; omega, fun j hj => hD j (by simp at hj; omega)⟩ hT (h.on τ d)⟩

theorem rel0_kept {σ σ' : Ai.Sub} {A' : AH} {w w' : World} (hA : Rel σ A0 w) (hx : Ext σ A0 w σ' A' w') : ∀ k, k < w.heap.size → w'.heap[k]? = w.heap[k]? := fun k hk =>
  (hx.keep k hk fun b base sz hb => by
    cases hg : A0.get b with
    | none => exact .inl rfl
    | some o =>
      right
      by_cases hl : b.length = 5
      · rcases fold_get hl rows0 .lf (fun x hx => (ids_ok x hx).1) hg with h1 | ⟨x, h1, h2, _⟩
        · rw [HT.get_lf] at h1; cases h1
        · rw [h2]; exact (ids_ok x h1).2.1
      · rw [hA.four b hl] at hb; cases hb).1

theorem law_runs {g : FuncId} {fn : Func} {r : Tmp} (hf : Tryz.prog.funcs[g]? = some fn) (hres : fn.results = #[.tmp r]) (hg2 : ¬ 2 = g) {arg : AV} {v : Value} {K : KV} (hK : ∀ v A, K v A = true → v = .bool true) {W : World} (hT : TopS (GG (Kept W)) g [arg] A0 K) (hv : ∀ σ, VRel σ arg v) (hL : laidMetH Tryz.prog laidList W) :
    Lift.Ends Tryz.prog (Kept W) (solo (G (Frame.enter Tryz.prog g #[v] .normal) []) W) #[] := by
  obtain ⟨σ, hA⟩ := init_rel hL
  have hgood : Lift.Good (G (Frame.enter Tryz.prog g #[v] .normal) []) := ⟨⟨todo_enter g _ _, CallersOk.nil⟩, .inl rfl⟩
  refine lex_ends plain_prog hgood rfl fun τ d => ?_
  have hA2 : Rel σ A0 (on W τ d) := (hA.same (w2 := on W τ d) (fun _ _ => rfl) (Nat.le_refl _) rfl rfl).1
  have := hT σ (on W τ d) #[v] (.cons (hv σ) .nil) hA2 (fun u A' σ' x w' b t k fn' hu hx hA' hvx hb hbk hfn hr => ?_)
  · exact this
  · have hu := hK u A' hu
    subst hu
    have hxv : x = .bool true := by cases hvx; rfl
    rw [hf] at hfn; cases hfn
    have hxt : t.getD r undef = x := by
      have h2 := results_tmp hres t Tryz.prog w'
      rw [hr] at h2; cases h2; rfl
    have hdone : AtDone Tryz.prog (Kept W) (G { onF b t k [] with mode := .returning } []) w' := by
      refine ⟨rfl, x, fun τ2 d2 => ⟨?_, hxv, fun j hj => ?_, hx.size, hx.os, hx.out⟩⟩
      · have hrun := results_tmp hres t Tryz.prog (on w' τ2 d2)
        rw [hxt] at hrun
        have hev := events_results_tmp (P := Tryz.prog) (w := on w' τ2 d2) hres t #[]
        have hfb : Tryz.prog.funcs[b.fn]? = some fn := by rw [hb]; exact hf
        have h2 : ¬ 2 = b.fn := by rw [hb]; exact hg2
        simp [h2, G, stepG, unwind, doReturn, onF, hbk, hfb, hrun, hev, seen, GStep.after]
      · exact rel0_kept hA2 hx j hj
    show okG Tryz.prog (Kept W) A'.ph _
    refine ⟨0, _, w', rfl, ?_⟩
    cases A'.ph with
    | zero => exact done_lex hdone
    | succ _ => exact hdone
end Go.Ai
