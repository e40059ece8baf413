/- A part of the proof that the abstract interpreter is sound, and of the two goroutines of the lexer. -/
import Derived.Test.YticjebnbcnphkaaGreatDoorZF15
import Derived.Test.YticjebnbcnphkaaGreatDoorZF19
import Derived.Test.YticjebnbcnphkaaGreatDoorZLexM
import Derived.Test.YticjebnbcnphkaaGreatDoorZLiftPl
import Derived.Test.YticjebnbcnphkaaGreatDoorZAiKr

set_option linter.unusedSimpArgs false
set_option linter.unusedVariables false
set_option linter.unusedSectionVars false

namespace Go.Ai
open Go Go.Proofs
section gen
variable {P : Program} {G : Goal P}

/-- a call at the bottom -/
def TopS (G : Goal P) (g : FuncId) (args : List AV) (A : AH) (K : KV) : Prop :=
  ∀ σ w vs, VRels σ args vs.toList → Rel σ A w →
    (∀ v A' σ' x w' b t k fn, K v A' = true → Ext σ A w σ' A' w' → Rel σ' A' w' → VRel σ' v x → b.fn = g → b.kind = .normal → P.funcs[g]? = some fn → (results fn t).run P w' = .ok x w' →
      G.ok A'.ph (lone { onF b t k [] with mode := .returning } [] w')) → G.ok A.ph (lone (Frame.enter P g vs .normal) [] w)

theorem top_sound {ih : Tk → Bool} (IH : ∀ t, ih t = true → TaskS G t) (hop : ∀ n o run, cOp P o = some run → Sound P n o run) (hmix : MixS G ih)
    {g : FuncId} {F : CF} (hF : cFun P g = some F) {args : List AV} {A : AH} {K : KV} (hk : callBody ih F args A K (fun _ _ => false) = true) : TopS G g args A K := by
  obtain ⟨fn, c, hfn, hbody, rfl⟩ := cFun_t hF
  intro σ w vs hvs hA hK
  let b : Frame := { (default : Frame) with fn := g, kind := .normal }
  have henter : Frame.enter P g vs .normal = onF b (vs ++ Array.replicate (fn.ntmps - vs.size) undef) [.code c] [] := by
    simp [Frame.enter, onF, hfn, hbody, b]
    rfl
  rw [henter]
  have hro : b.roundOf = none := rfl
  have hkd : b.kind = .normal := rfl
  let X : Ctx := { b := b, k := [], cs := [], calm := noRange c, lo := w.heap.size, n := fn.ntmps }
  have out : ∀ e A' σ' t ds w' k2, resAll P fn.results.toList e A' K = true → Ext σ A w σ' A' w' → Rel σ' A' w' → RelE σ' X.n e t → DsOk X.calm X.lo σ' w' ds → G.ok A'.ph (lone { onF b t k2 ds with mode := .returning } [] w') := by
    intro e A' σ' t ds w' k2 hr hx hA' hE hds
    obtain ⟨u, hKu, hs⟩ := resAll_run (P := P) hr
    obtain ⟨rs, h1, rfl, h3⟩ := hds.marks
    refine unwind_ok (Nat.le_refl w.heap.size) rs w' h1 h3 hA' hx fun w2 hA2 hx2 => ?_
    obtain ⟨y, hy, hv⟩ := hs σ' fn.ntmps t w2 hE hA2
    exact hK u A' σ' y w2 b t k2 fn hKu hx2 hA2 hv rfl rfl hfn hy
  refine code_sound IH hop hmix (bif noRange c then (fun _ _ => false) else fun _ _ => false) c X (fun j e A => jRet ⟨noRange c, cCode P fn.ntmps c, resAll P fn.results.toList⟩ K j e A) (fun e A => resAll P fn.results.toList e A K) (initE 0 args env0) A σ _ [] w
    (fun h => h) hkd (.inr hro) hk (relE_init hvs fn.ntmps) hA (.nil _ _ _ _ (Nat.le_refl _)) ?_ ?_ ?_
  · intro e A' σ' t ds w' hr hx hA' hE hds
    exact G.back (st_end hro) (out e A' σ' t ds w' [] hr hx hA' hE hds)
  · intro j jc k2 e A' σ' t ds w' hr hj _ hx hA' hE hds
    cases j with
    | none => cases hj
    | exit i => cases hr
    | ret => cases hj; exact G.back (st_ret hro) (out e A' σ' t ds w' _ hr hx hA' hE hds)
  · intro v A' σ' x t k2 ds w' hh hx hA' hv hi hds
    cases hc : noRange c <;> (rw [hc] at hh; cases hh)
end gen

abbrev GG (Post : Value → World → Prop) : Goal Tryz.prog := Lift.goalG Tryz.prog Post

theorem noCount : ∀ (g : Nat) (fn : Func), Tryz.prog.funcs[g]? = some fn → fn.body.isNone = false → (fn.name == "runtime.NumGoroutine") = false := fun g fn h _ => Lift.plain_prog.count g fn h

/-- a piece that is shown -/
def Shown (x : Nat × Pa × Ora) : Prop := ∀ Post, oraD x.2.2 = true ∧ CallS (GG Post) x.1 x.2.2.args (oraA x.2.1 x.2.2) (fun v A => oraE x.2.2 v A) (fun _ _ => false)

theorem sums_of {L : List (Nat × Pa × Ora)} (hL : ∀ x ∈ L, Shown x) (Post : Value → World → Prop) : Sums (GG Post) (cfO L) where
  ora g nx o h := hL _ h Post
  join := join_sound
  ibs := ibs_sound
  lex args A K H h := Lift.lex_sound Lift.plain_prog args A K H h
  tr ih IH args A K H h := try_sound (cf := cfO L) rfl IH args A K H h

theorem piece {L : List (Nat × Pa × Ora)} (hL : ∀ x ∈ L, Shown x) {g : Nat} {nx : Pa} {o : Ora} {n : Nat} (hd : oraD o = true) (h : run Tryz.prog (cfO L) n (.call g o.args (oraA nx o) (fun v A => oraE o v A) (fun _ _ => false)) = true) : Shown (g, nx, o) := fun Post =>
  ⟨hd, run_sound Lift.mixed noCount (sums_of hL Post) n _ h⟩

theorem shown_nil : ∀ x ∈ ([] : List (Nat × Pa × Ora)), Shown x := fun x h => by cases h
theorem shown_cons {x : Nat × Pa × Ora} {L : List (Nat × Pa × Ora)} (h : Shown x) (hL : ∀ y ∈ L, Shown y) : ∀ y ∈ x :: L, Shown y := fun y hy => by
  rcases List.mem_cons.1 hy with rfl | hy
  · exact h
  · exact hL y hy

/-- the law's call -/
theorem top_of {L : List (Nat × Pa × Ora)} (hL : ∀ x ∈ L, Shown x) {g : Nat} {args : List AV} {A : AH} {K : KV} {n : Nat} (hno : findO g A.next L = none) (hg : (Nat.beq g 45 || Nat.beq g 195 || Nat.beq g 15 || Nat.beq g 48) = false)
    (h : run Tryz.prog (cfO L) n (.call g args A K (fun _ _ => false)) = true) (Post : Value → World → Prop) : TopS (GG Post) g args A K := by
  cases n with
  | zero => cases h
  | succ n =>
    have IH := run_sound (G := GG Post) Lift.mixed noCount (sums_of hL Post) n
    have hmix := mix_sound (G := GG Post) Lift.mixed IH hop_ok hopP_ok hopN_ok
    have h2 : callT Tryz.prog (cfO L) (run Tryz.prog (cfO L) n) g args A K (fun _ _ => false) = true := h
    unfold callT at h2
    have h3 : findO g A.next (cfO L).ora = none := hno
    rw [h3] at h2
    simp only [Bool.or_eq_false_iff] at hg
    have b1 : Nat.beq g (cfO L).join = false := hg.1.1.1
    have b2 : Nat.beq g (cfO L).ibs = false := hg.1.1.2
    have b3 : Nat.beq g (cfO L).lex = false := hg.1.2
    have b4 : Nat.beq g (cfO L).tr = false := hg.2
    simp only [b1, b2, b3, b4, cond_false] at h2
    split at h2
    · rename_i F hF
      exact top_sound IH hop_ok hmix hF h2
    · cases h2
end Go.Ai
