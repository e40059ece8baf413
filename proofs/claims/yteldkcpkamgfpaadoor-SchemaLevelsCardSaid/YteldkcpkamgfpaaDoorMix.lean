/- A region that draws its order, some of whose operations are CALM (no call: in every world of a class the same value, and the world as it was), the others SPECIAL (calls, memory), which come up alone: one walk of one order serves every order. No function of the program is named here. -/
import Derived.BigQuiet
import Derived.Deep.QuietTactic
namespace Go.Proofs.YteldkcpkamgfpaaDoor
set_option linter.unusedSimpArgs false
set_option linter.unusedVariables false


section
variable {P : Program} {ops : Array Oper} {C : World → Prop} {md : Region.Mode}

abbrev noQ : Exit → Act → World → Prop := fun _ _ _ => False

/-- in every world of the class one value, and the world as it was -/
def Calm (P : Program) (ops : Array Oper) (C : World → Prop) (o : Oper) (v : Value) (a : Act) : Prop :=
  (Region.wanted o (yielded ops a.tmps) = true ∧ ∀ w, C w → (execOp a.eval o).run P w = .ok (.value v) w) ∨ (Region.wanted o (yielded ops a.tmps) = false ∧ v = undef)

theorem Calm.wpOp {i : Nat} {o : Oper} {v : Value} {a : Act} {w : World} {Q : Exit → Act → World → Prop} (hi : ops[i]? = some o) (hy : Calm P ops C o v a) (hC : C w)
    {K : Act → World → Prop} (h : K (a.put o.dst v) w) : wpOp P ops Q i K a w := by
  unfold Go.wpOp
  simp only [hi]
  rcases hy with ⟨hw, hv⟩ | ⟨hw, rfl⟩
  · simp only [hw, if_true, Oper.wp, hv w hC, Oper.upon]; exact .inl h
  · simp only [hw, Bool.false_eq_true, if_false]; exact h

theorem Calm.of_same {o : Oper} {v : Value} {a a' : Act} (hy : Calm P ops C o v a) (he : execOp a'.eval o = execOp a.eval o)
    (hw : Region.wanted o (yielded ops a'.tmps) = Region.wanted o (yielded ops a.tmps)) : Calm P ops C o v a' := by
  unfold Calm at *
  rw [he, hw]
  exact hy

theorem calm_put {j : Nat} {oi oj : Oper} {v : Value} (hj : ops[j]? = some oj) (hap : oi.apart ops oj = true)
    (hsi : ∀ cs b, oi.op ≠ .select cs b) (hsj : ∀ cs b, oj.op ≠ .select cs b) {K : Act → World → Prop} {a : Act} {w : World}
    (hy : Calm P ops C oi v a) (h : wpOp P ops noQ j K (a.put oi.dst v) w) :
    wpOp P ops noQ j (fun a' w' => Calm P ops C oi v a' ∧ K (a'.put oi.dst v) w') a w := by
  obtain ⟨h1, h2, h3⟩ := Oper.apart_spec hap
  have keep : ∀ (a : Act), Calm P ops C oi v a → ∀ u, Calm P ops C oi v (a.put oj.dst u) := fun a hy u =>
    hy.of_same (execOp_put oi hsi a oj.dst u h3) (wanted_put oi a oj.dst u h3)
  have keepD : ∀ d, Calm P ops C oi v { a with defers := d :: a.defers } := fun d => hy.of_same rfl rfl
  unfold wpOp at *
  simp only [hj] at *
  rw [wanted_put oj a oi.dst v h1] at h
  split
  · rename_i hw
    simp only [hw, if_true] at h
    rcases h with h | ⟨hasks, hlets⟩
    case inr => obtain ⟨_, _, hf⟩ := hlets; exact hf.elim
    refine .inl ?_
    unfold Oper.wp at *
    rw [execOp_put oj hsj a oi.dst v h1] at h
    generalize (execOp a.eval oj).run P w = r at *
    cases r with
    | ok n w' =>
      cases n <;> simp only [Oper.upon] at h ⊢
      case value u => exact ⟨keep a hy u, by rw [← Act.put_comm a v u h2]; exact h⟩
      case skip => exact ⟨keep a hy _, by rw [← Act.put_comm a v undef h2]; exact h⟩
      case defer d =>
        refine ⟨keep _ (keepD d) _, ?_⟩
        rw [← Act.put_comm _ v undef h2, ← Act.put_defers]
        exact h
      case enter f args =>
        refine Calls.mono h fun e w'' he => ?_
        cases e with
        | returned u => exact ⟨keep a hy u, by rw [← Act.put_comm a v u h2]; exact he⟩
        | panicked c => exact he
        | outgrown => exact he
      case row row args => exact Rows.mono h fun u w'' he => ⟨keep a hy u, by rw [← Act.put_comm a v u h2]; exact he⟩
    | halt x w' => cases x <;> simp only [Oper.upon] at h ⊢ <;> exact h
  · rename_i hw
    simp only [hw] at h
    exact ⟨keep a hy _, by rw [← Act.put_comm a v undef h2]; exact h⟩

/-- whatever order is picked from here on -/
def wpMixA (P : Program) (md : Region.Mode) (ops : Array Oper) (C : World → Prop) (Q : Act → World → Prop) : Nat → Array Bool → Act → World → Prop
  | 0, listed, a, w => Region.ready md ops listed = [] ∧ Q a w
  | f + 1, listed, a, w => (Region.ready md ops listed = [] → Q a w) ∧
    ∀ i ∈ Region.ready md ops listed, wpOp P ops noQ i (fun a' w' => C w' ∧ wpMixA P md ops C Q f (listed.setIfInBounds i true) a' w') a w

theorem mix_first {Q : Act → World → Prop} {i : Nat} {oi : Oper} {v : Value} (hi : ops[i]? = some oi) (hsel : ∀ (j : Nat) (o : Oper) cs b, ops[j]? = some o → o.op ≠ .select cs b) :
    ∀ (fuel : Nat) (listed : Array Bool) (a : Act) (w : World), C w →
      (∀ j oj, ops[j]? = some oj → j ≠ i → listed.getD j true = false → (∀ e ∈ oj.after, Region.binds md e = true → e.on ≠ i) → oi.apart ops oj = true) →
      i ∈ Region.ready md ops listed → Calm P ops C oi v a →
      wpMixA P md ops C Q fuel (listed.setIfInBounds i true) (a.put oi.dst v) w → wpMixA P md ops C Q (fuel + 1) listed a w := by
  intro fuel
  induction fuel with
  | zero =>
    intro listed a w hC _ hr hy H
    refine ⟨fun h => (by rw [h] at hr; cases hr), fun j hj => ?_⟩
    by_cases hji : j = i
    · subst hji; exact hy.wpOp hi hC ⟨hC, H⟩
    · have := ready_mono hj hji
      rw [H.1] at this
      cases this
  | succ fuel ih =>
    intro listed a w hC hfree hr hy H
    refine ⟨fun h => (by rw [h] at hr; cases hr), fun j hj => ?_⟩
    by_cases hji : j = i
    · subst hji; exact hy.wpOp hi hC ⟨hC, H⟩
    · have h1 := H.2 j (ready_mono hj hji)
      obtain ⟨hjun, oj, hoj, hall⟩ := mem_ready.1 hj
      have hnot : ∀ e ∈ oj.after, Region.binds md e = true → e.on ≠ i := fun e he hb heq => by
        have h1 := hall e he hb
        have h0 := (mem_ready.1 hr).1
        rw [heq] at h1
        rcases Nat.lt_or_ge i listed.size with h' | h'
        · simp [h'] at h0 h1; rw [h0] at h1; cases h1
        · simp [Array.getElem?_eq_none h'] at h1
      have h2 := calm_put hoj (hfree j oj hoj hji hjun hnot) (fun cs b => hsel i oi cs b hi) (fun cs b => hsel j oj cs b hoj) hy h1
      have hfree' : ∀ k ok, ops[k]? = some ok → k ≠ i → (listed.setIfInBounds j true).getD k true = false →
          (∀ e ∈ ok.after, Region.binds md e = true → e.on ≠ i) → oi.apart ops ok = true := fun k ok hk hki hun hno => by
        refine hfree k ok hk hki ?_ hno
        by_cases hjk : j = k
        · subst hjk; exact hjun
        · rw [getD_set_ne true hjk] at hun; exact hun
      refine wpOp_mono (fun a' w' h3 => ⟨h3.2.1, ih (listed.setIfInBounds j true) a' w' h3.2.1 hfree' (ready_mono hr (Ne.symm hji)) h3.1 ?_⟩) h2
      rw [Array.setIfInBounds_comm _ _ hji]
      exact h3.2.2

/-- an order: calm operations (true), and special ones (false), which come up alone -/
def ordB (md : Region.Mode) (ops : Array Oper) : List (Bool × Nat) → Array Bool → Bool
  | [], listed => (Region.ready md ops listed).isEmpty
  | (true, i) :: r, listed => (Region.ready md ops listed).contains i && Region.free md ops listed i && ordB md ops r (listed.setIfInBounds i true)
  | (false, i) :: r, listed => decide (Region.ready md ops listed = [i]) && ordB md ops r (listed.setIfInBounds i true)
def mixB (md : Region.Mode) (ops : Array Oper) (l : List (Bool × Nat)) : Bool :=
  Region.noSelect ops && decide (l.length = ops.size) && ordB md ops l (Array.replicate ops.size false)

/-- the walk of that order -/
def wpMix (P : Program) (ops : Array Oper) (C : World → Prop) (Q : Act → World → Prop) : List (Bool × Nat) → Act → World → Prop
  | [], a, w => Q a w
  | (true, i) :: r, a, w => ∃ o v, ops[i]? = some o ∧ Calm P ops C o v a ∧ wpMix P ops C Q r (a.put o.dst v) w
  | (false, i) :: r, a, w => wpOp P ops noQ i (fun a' w' => C w' ∧ wpMix P ops C Q r a' w') a w

theorem mix_ord {Q : Act → World → Prop} (hsel : Region.noSelect ops = true) : ∀ (l : List (Bool × Nat)) (listed : Array Bool) (a : Act) (w : World), C w → ordB md ops l listed = true →
    wpMix P ops C Q l a w → wpMixA P md ops C Q l.length listed a w
  | [], listed, a, w, hC, hB, h => ⟨by simpa [ordB] using hB, h⟩
  | (true, i) :: r, listed, a, w, hC, hB, h => by
    simp only [ordB, Bool.and_eq_true] at hB
    obtain ⟨⟨hr, hf⟩, hB'⟩ := hB
    obtain ⟨o, v, ho, hy, h⟩ := h
    exact mix_first ho (Region.noSelect_spec hsel) r.length listed a w hC (Region.free_spec ho hf) (by simpa using hr) hy (mix_ord hsel r _ _ w hC hB' h)
  | (false, i) :: r, listed, a, w, hC, hB, h => by
    simp only [ordB, Bool.and_eq_true, decide_eq_true_eq] at hB
    refine ⟨fun h0 => (by rw [hB.1] at h0; cases h0), fun j hj => ?_⟩
    rw [hB.1] at hj
    obtain rfl : j = i := by simpa using hj
    exact wpOp_mono (fun a' w' h' => ⟨h'.1, mix_ord hsel r _ _ w' h'.1 hB.2 h'.2⟩) h

theorem wp_noQ {o : Oper} {a : Act} {w : World} {K : Act → World → Prop} {Q : Exit → Act → World → Prop} (h : o.wp P a w K noQ) : o.wp P a w K Q := by
  unfold Oper.wp at *
  generalize (execOp a.eval o).run P w = r at *
  cases r with
  | ok n w' =>
    cases n <;> simp only [Oper.upon] at h ⊢ <;>
      first
        | exact h
        | exact Calls.mono h (fun e w'' he => by
            cases e with
            | returned u => exact he
            | panicked c => exact he.elim
            | outgrown => exact absurd he (fun h => by obtain ⟨_, _, hf⟩ := h; exact hf))
  | halt x w' => cases x <;> simp only [Oper.upon] at h ⊢ <;> exact h.elim

theorem wpOp_noQ {i : Nat} {a : Act} {w : World} {K : Act → World → Prop} {Q : Exit → Act → World → Prop} (h : wpOp P ops noQ i K a w) : wpOp P ops Q i K a w := by
  unfold wpOp at *
  split
  · rename_i ho; simp only [ho] at h; exact h
  · rename_i o ho
    simp only [ho] at h
    split
    · rename_i hw
      simp only [hw, if_true] at h
      rcases h with h | ⟨_, hl⟩
      · exact .inl (wp_noQ h)
      · obtain ⟨_, _, hf⟩ := hl; exact hf.elim
    · rename_i hw; simp only [hw] at h; exact h

theorem any_of_mix {Q : Act → World → Prop} {Q' : Exit → Act → World → Prop} (hQ : ∀ a w, Q a w → Q' .normal a w) : ∀ (f : Nat) (listed : Array Bool) (a : Act) (w : World),
    wpMixA P md ops C Q f listed a w → wpAny P md ops Q' f listed a w
  | 0, _, _, _, h => ⟨h.1, hQ _ _ h.2⟩
  | f + 1, _, _, _, h => ⟨fun h0 => hQ _ _ (h.1 h0), fun i hi => wpOp_noQ (wpOp_mono (fun a' w' h' => any_of_mix hQ f _ a' w' h'.2) (h.2 i hi))⟩

/-- the law -/
theorem wp_region_mix {id : Nat} {Q : Exit → Act → World → Prop} {a : Act} {w : World} {l : List Oper} (C : World → Prop) (ord : List (Bool × Nat)) (hm : P.follows .mixedOrders = true) (hB : mixB .any l.toArray ord = true) (hC : C w.drew)
    (h : wpMix P l.toArray C (Q .normal) ord a w.drew) : (Code.region id l.toArray true).wp P Q a w := by
  simp only [mixB, Bool.and_eq_true, decide_eq_true_eq] at hB
  refine wp_region_any hm ?_
  have hx := any_of_mix (C := C) (Q' := Q) (fun _ _ h => h) _ _ _ _ (mix_ord hB.1.1 ord _ a _ hC hB.2 h)
  rw [hB.1.2] at hx
  exact hx

/-- calm operations: no calls but that of len -/
def calmB (o : Oper) : Bool :=
  match o.op with
  | .move _ | .assign _ | .pick .. | .load .. | .fieldAddr .. | .field .. | .binOp .. | .unOp .. | .extract .. | .index .. | .indexAddr .. => true
  | .call c => match c.callee with
    | .builtin .len => true
    | _ => false
  | _ => false

theorem andThen_value {x : Sem Value} {w w' : World} {n : Next} (h : ((do pure (.value (← x)) : Sem Next)).run P w = .ok n w') : ∃ v, n = .value v := by
  rw [Sem.run_bind] at h
  cases hx : x.run P w with
  | ok v w1 => rw [hx] at h; simp only [Result.andThen_ok, Sem.run_pure] at h; cases h; exact ⟨_, rfl⟩
  | halt e w1 => rw [hx] at h; cases h

theorem calm_no_enter {o : Oper} {ρ : Operand → Value} {w w' : World} {n : Next} (hb : calmB o = true) (h : (execOp ρ o).run P w = .ok n w') : ∃ v, n = .value v := by
  obtain ⟨dst, op, type, pos, after, guard⟩ := o
  cases op
  case call c =>
    obtain ⟨cal, args, tys⟩ := c
    cases cal <;> simp only [calmB] at hb <;> first | (cases hb; done) | skip
    case builtin b =>
      cases b <;> simp only at hb <;> first | (cases hb; done) | skip
      simp only [execOp, resolve, pure_bind, invoke, builtin] at h
      exact andThen_value h
  case move x => simp only [execOp, Sem.run_pure] at h; cases h; exact ⟨_, rfl⟩
  case assign x => simp only [execOp, Sem.run_pure] at h; cases h; exact ⟨_, rfl⟩
  case pick c x y =>
    simp only [execOp, Sem.run_bind] at h
    generalize (asBool (ρ c)).run P w = r at h
    cases r with
    | ok b w1 => simp only [Result.andThen_ok, Sem.run_pure] at h; cases h; exact ⟨_, rfl⟩
    | halt e w1 => cases h
  all_goals first
    | (simp only [calmB] at hb; cases hb; done)
    | (simp only [execOp] at h; exact andThen_value h)

theorem calm_of_quiet {o : Oper} {v : Value} {a : Act} (hb : calmB o = true) (hn : ∃ w, C w) (h : YieldsIn P ops C o v a) : Calm P ops C o v a := by
  rcases h with ⟨hw, h⟩ | ⟨hw, rfl⟩
  · refine .inl ⟨hw, fun w hC => ?_⟩
    have h := h w hC
    unfold Oper.quietAt at h
    cases hr : (execOp a.eval o).run P w with
    | ok n w' =>
      obtain ⟨u, rfl⟩ := calm_no_enter hb hr
      rw [hr] at h
      obtain ⟨rfl, rfl⟩ := h
      rfl
    | halt x w' => rw [hr] at h; exact h.elim
  · exact .inr ⟨hw, rfl⟩

/-- calm operations in a row: a walk of the quiet kind -/
theorem mix_calm {Q : Act → World → Prop} {w : World} (hn : ∃ w, C w) (r : List (Bool × Nat)) : ∀ (s : List Nat) (l : List Oper) (a : Act), s.map (fun i => ops[i]?) = l.map some → l.all calmB = true →
    wpQuiet P ops C (fun a' => wpMix P ops C Q r a' w) l a → wpMix P ops C Q (s.map (fun i => (true, i)) ++ r) a w
  | [], [], _, _, _, h => h
  | [], o :: l, _, he, _, _ => by simp at he
  | i :: s, [], _, he, _, _ => by simp at he
  | i :: s, o :: l, a, he, hb, h => by
    simp only [List.map_cons, List.cons.injEq] at he
    simp only [List.all_cons, Bool.and_eq_true] at hb
    have hq : qOp P ops C i (wpQuiet P ops C (fun a' => wpMix P ops C Q r a' w) l) a := by unfold qOp; simp only [he.1]; exact h
    obtain ⟨v, hy, hK⟩ := yieldsIn_of_qOp he.1 hq
    exact ⟨o, v, he.1, calm_of_quiet hb.1 hn hy, mix_calm hn r s l _ he.2 hb.2 hK⟩

/-- a special one -/
theorem mix_special {Q : Act → World → Prop} {w : World} {r : List (Bool × Nat)} {i : Nat} {o : Oper} {a : Act} (ho : ops[i]? = some o) (hg : o.guard = none)
    (h : o.wp P a w (fun a' w' => C w' ∧ wpMix P ops C Q r a' w') noQ) : wpMix P ops C Q ((false, i) :: r) a w := by
  unfold wpMix wpOp
  simp only [ho]
  rw [show Region.wanted o (yielded ops a.tmps) = true from by unfold Region.wanted; rw [hg], if_pos rfl]
  exact .inl h

theorem wp_only {o : Oper} {a : Act} {w : World} {K : Act → World → Prop} (h : o.wp P a w (fun a' w' => K a' w') (fun e a' w' => e = .normal ∧ K a' w')) : o.wp P a w K noQ := by
  unfold Oper.wp at *
  generalize (execOp a.eval o).run P w = r at *
  cases r with
  | ok n w' =>
    cases n <;> simp only [Oper.upon] at h ⊢ <;>
      first
        | exact h
        | exact Calls.mono h (fun e w'' he => by
            cases e with
            | returned u => exact he
            | panicked c => exact absurd he.1 (by simp)
            | outgrown => exact absurd he (fun h => by obtain ⟨_, _, hf⟩ := h; exact absurd hf.1 (by simp)))
  | halt x w' => cases x <;> simp only [Oper.upon] at h ⊢ <;> first | exact h.elim | exact absurd h.1 (by simp)

/-- behind a special one -/
structure Mx (P : Program) (ops : Array Oper) (C : World → Prop) (Q : Act → World → Prop) (r : List (Bool × Nat)) (a : Act) (w : World) : Prop where
  cls : C w
  rest : wpMix P ops C Q r a w

/-- a special one, walked as a list of one -/
theorem mix_one {Q : Act → World → Prop} {w : World} {r : List (Bool × Nat)} {i : Nat} {o : Oper} {a : Act} (ho : ops[i]? = some o)
    (h : wpList P ops (fun e a' w' => e = .normal ∧ Mx P ops C Q r a' w') [o] a w) : wpMix P ops C Q ((false, i) :: r) a w := by
  unfold wpMix wpOp
  simp only [ho]
  simp only [wpList] at h
  split
  · rename_i hw
    simp only [hw, if_true] at h
    rcases h with h | ⟨_, hl⟩
    · exact .inl (Oper.wp_mono (fun a' w' h' => ⟨h'.1, h'.2⟩) (wp_only (K := Mx P ops C Q r) (Oper.wp_mono (fun a' w' h' => h'.2) h)))
    · obtain ⟨_, _, hf⟩ := hl
      exact absurd hf.1 (by simp)
  · rename_i hw
    simp only [hw] at h
    exact ⟨h.2.1, h.2.2⟩

theorem mix_nil {Q : Act → World → Prop} {w : World} {a : Act} (h : Q a w) : wpMix P ops C Q [] a w := h
end
end Go.Proofs.YteldkcpkamgfpaaDoor
