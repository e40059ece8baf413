/- XMix's law within a fence (also in a round): a region that draws its order, some of whose operations are CALM, the others SPECIAL (calls, memory, a yield), which come up alone. No function of the program is named here. -/
import Derived.Test.YteldkcpkamgfpaaDoorMix
import Derived.Test.YteldkcpkamgfpaaDoorQuietM
namespace Go.Proofs.YteldkcpkamgfpaaDoor
set_option linter.unusedSimpArgs false
set_option linter.unusedVariables false

section
variable {F : Fence} {n : Nat} {P : Program} {ops : Array Oper} {C : World → Prop} {md : Region.Mode}

def CalmI (F : Fence) (P : Program) (ops : Array Oper) (C : World → Prop) (o : Oper) (v : Value) (a : Act) : Prop :=
  o.askedIn F P a C ∧ ((Region.wanted o (yielded ops a.tmps) = true ∧ ∀ w, C w → (execOp a.eval o).run P w = .ok (.value v) w) ∨ (Region.wanted o (yielded ops a.tmps) = false ∧ v = undef))

theorem CalmI.wpOpIn {i : Nat} {o : Oper} {v : Value} {a : Act} {w : World} {Q : Exit → Act → World → Prop} (hi : ops[i]? = some o) (hnd : ∀ c, o.op ≠ .defer c) (hy : CalmI F P ops C o v a) (hC : C w)
    {K : Act → World → Prop} (h : K (a.put o.dst v) w) : wpOpIn F n P ops Q i K a w := by
  unfold Go.wpOpIn
  simp only [hi]
  rcases hy.2 with ⟨hw, hv⟩ | ⟨hw, rfl⟩
  · simp only [hw, if_true]
    refine ⟨hy.1 w hC, ?_⟩
    rw [Oper.semAt_eq _ _ _ hnd, hv w hC]
    exact h
  · simp only [hw, Bool.false_eq_true, if_false]; exact ⟨hy.1 w hC, h⟩

theorem CalmI.of_same {o : Oper} {v : Value} {a a' : Act} (hy : CalmI F P ops C o v a) (he : execOp a'.eval o = execOp a.eval o)
    (hw : Region.wanted o (yielded ops a'.tmps) = Region.wanted o (yielded ops a.tmps)) (hb : ∀ w, o.about P w a'.eval = o.about P w a.eval) : CalmI F P ops C o v a' := by
  unfold CalmI Oper.askedIn at *
  rw [he, hw]
  exact ⟨fun w hc f hf => hy.1 w hc f (by rw [← hb w]; exact hf), hy.2⟩

theorem calm_putI {j : Nat} {oi oj : Oper} {v : Value} (hj : ops[j]? = some oj) (hap : oi.apart ops oj = true)
    (hsi : ∀ cs b, oi.op ≠ .select cs b) (hsj : ∀ cs b, oj.op ≠ .select cs b) (hnd : ∀ c, oj.op ≠ .defer c) {K : Act → World → Prop} {a : Act} {w : World}
    (hy : CalmI F P ops C oi v a) (h : wpOpIn F n P ops noQ j K (a.put oi.dst v) w) :
    wpOpIn F n P ops noQ j (fun a' w' => CalmI F P ops C oi v a' ∧ K (a'.put oi.dst v) w') a w := by
  obtain ⟨h1, h2, h3⟩ := Oper.apart_spec hap
  have keep : ∀ (a : Act), CalmI F P ops C oi v a → ∀ u, CalmI F P ops C oi v (a.put oj.dst u) := fun a hy u =>
    hy.of_same (execOp_put oi hsi a oj.dst u h3) (wanted_put oi a oj.dst u h3) (fun w => about_put oi w a oj.dst u h3)
  have keepD : ∀ d, CalmI F P ops C oi v { a with defers := d :: a.defers } := fun d => hy.of_same rfl rfl (fun _ => rfl)
  unfold wpOpIn at *
  simp only [hj] at *
  rw [wanted_put oj a oi.dst v h1] at h
  split
  · rename_i hw
    simp only [hw, if_true] at h
    unfold Oper.wpIn at *
    refine ⟨fun f hf => h.1 f (by rw [about_put oj w a oi.dst v h1]; exact hf), ?_⟩
    have h := h.2
    rw [Oper.semAt_eq _ _ _ hnd] at h ⊢
    rw [execOp_put oj hsj a oi.dst v h1] at h
    generalize (execOp a.eval oj).run P w = r at *
    cases r with
    | ok x w' =>
      cases x <;> simp only [Oper.uponIn] at h ⊢
      case value u => exact ⟨keep a hy u, by rw [← Act.put_comm a v u h2]; exact h⟩
      case skip => exact ⟨keep a hy _, by rw [← Act.put_comm a v undef h2]; exact h⟩
      case defer d =>
        refine ⟨keep _ (keepD d) _, ?_⟩
        rw [← Act.put_comm _ v undef h2, ← Act.put_defers]
        exact h
      case enter f args =>
        refine ⟨h.1, CallsIn.mono h.2 fun e w'' he => ?_⟩
        cases e with
        | returned u => exact ⟨keep a hy u, by rw [← Act.put_comm a v u h2]; exact he⟩
        | panicked c => exact he
        | outgrown => exact he
      case row row args => exact ⟨h.1, RowsIn.mono h.2 fun u w'' he => ⟨keep a hy u, by rw [← Act.put_comm a v u h2]; exact he⟩⟩
      case round l f tmps assign body =>
        refine ⟨h.1, RoundIn.mono h.2 fun e w'' he => ?_⟩
        cases e with
        | returned u => exact ⟨keep a hy u, by rw [← Act.put_comm a v u h2]; exact he⟩
        | panicked c => exact he
        | outgrown => exact he
    | halt x w' => cases x <;> simp only [Oper.uponIn] at h ⊢ <;> exact h
  · rename_i hw
    simp only [hw] at h
    exact ⟨fun f hf => h.1 f (by rw [about_put oj w a oi.dst v h1]; exact hf), keep a hy _, by rw [← Act.put_comm a v undef h2]; exact h.2⟩

def wpMixAI (F : Fence) (n : Nat) (P : Program) (md : Region.Mode) (ops : Array Oper) (C : World → Prop) (Q : Act → World → Prop) : Nat → Array Bool → Act → World → Prop
  | 0, listed, a, w => Region.ready md ops listed = [] ∧ Q a w
  | f + 1, listed, a, w => (Region.ready md ops listed = [] → Q a w) ∧
    ∀ i ∈ Region.ready md ops listed, wpOpIn F n P ops noQ i (fun a' w' => C w' ∧ wpMixAI F n P md ops C Q f (listed.setIfInBounds i true) a' w') a w

theorem mix_firstI {Q : Act → World → Prop} {i : Nat} {oi : Oper} {v : Value} (hi : ops[i]? = some oi) (hsel : ∀ (j : Nat) (o : Oper) cs b, ops[j]? = some o → o.op ≠ .select cs b)
    (hnd : ∀ (j : Nat) (o : Oper), ops[j]? = some o → ∀ c, o.op ≠ .defer c) :
    ∀ (fuel : Nat) (listed : Array Bool) (a : Act) (w : World), C w →
      (∀ j oj, ops[j]? = some oj → j ≠ i → listed.getD j true = false → (∀ e ∈ oj.after, Region.binds md e = true → e.on ≠ i) → oi.apart ops oj = true) →
      i ∈ Region.ready md ops listed → CalmI F P ops C oi v a →
      wpMixAI F n P md ops C Q fuel (listed.setIfInBounds i true) (a.put oi.dst v) w → wpMixAI F n P md ops C Q (fuel + 1) listed a w := by
  intro fuel
  induction fuel with
  | zero =>
    intro listed a w hC _ hr hy H
    refine ⟨fun h => (by rw [h] at hr; cases hr), fun j hj => ?_⟩
    by_cases hji : j = i
    · subst hji; exact hy.wpOpIn hi (hnd _ _ hi) hC ⟨hC, H⟩
    · have := ready_mono hj hji
      rw [H.1] at this
      cases this
  | succ fuel ih =>
    intro listed a w hC hfree hr hy H
    refine ⟨fun h => (by rw [h] at hr; cases hr), fun j hj => ?_⟩
    by_cases hji : j = i
    · subst hji; exact hy.wpOpIn hi (hnd _ _ hi) hC ⟨hC, H⟩
    · have h1 := H.2 j (ready_mono hj hji)
      obtain ⟨hjun, oj, hoj, hall⟩ := mem_ready.1 hj
      have hnot : ∀ e ∈ oj.after, Region.binds md e = true → e.on ≠ i := fun e he hb heq => by
        have h1 := hall e he hb
        have h0 := (mem_ready.1 hr).1
        rw [heq] at h1
        rcases Nat.lt_or_ge i listed.size with h' | h'
        · simp [h'] at h0 h1; rw [h0] at h1; cases h1
        · simp [Array.getElem?_eq_none h'] at h1
      have h2 := calm_putI hoj (hfree j oj hoj hji hjun hnot) (fun cs b => hsel i oi cs b hi) (fun cs b => hsel j oj cs b hoj) (hnd j oj hoj) hy h1
      have hfree' : ∀ k ok, ops[k]? = some ok → k ≠ i → (listed.setIfInBounds j true).getD k true = false →
          (∀ e ∈ ok.after, Region.binds md e = true → e.on ≠ i) → oi.apart ops ok = true := fun k ok hk hki hun hno => by
        refine hfree k ok hk hki ?_ hno
        by_cases hjk : j = k
        · subst hjk; exact hjun
        · rw [getD_set_ne true hjk] at hun; exact hun
      refine wpOpIn_mono (fun a' w' h3 => ⟨h3.2.1, ih (listed.setIfInBounds j true) a' w' h3.2.1 hfree' (ready_mono hr (Ne.symm hji)) h3.1 ?_⟩) h2
      rw [Array.setIfInBounds_comm _ _ hji]
      exact h3.2.2

def wpMixI (F : Fence) (n : Nat) (P : Program) (ops : Array Oper) (C : World → Prop) (Q : Act → World → Prop) : List (Bool × Nat) → Act → World → Prop
  | [], a, w => Q a w
  | (true, i) :: r, a, w => ∃ o v, ops[i]? = some o ∧ CalmI F P ops C o v a ∧ wpMixI F n P ops C Q r (a.put o.dst v) w
  | (false, i) :: r, a, w => wpOpIn F n P ops noQ i (fun a' w' => C w' ∧ wpMixI F n P ops C Q r a' w') a w

theorem mix_ordI {Q : Act → World → Prop} (hsel : Region.noSelect ops = true) (hnd : ∀ (j : Nat) (o : Oper), ops[j]? = some o → ∀ c, o.op ≠ .defer c) :
    ∀ (l : List (Bool × Nat)) (listed : Array Bool) (a : Act) (w : World), C w → ordB md ops l listed = true →
    wpMixI F n P ops C Q l a w → wpMixAI F n P md ops C Q l.length listed a w
  | [], listed, a, w, hC, hB, h => ⟨by simpa [ordB] using hB, h⟩
  | (true, i) :: r, listed, a, w, hC, hB, h => by
    simp only [ordB, Bool.and_eq_true] at hB
    obtain ⟨⟨hr, hf⟩, hB'⟩ := hB
    obtain ⟨o, v, ho, hy, h⟩ := h
    exact mix_firstI ho (Region.noSelect_spec hsel) hnd r.length listed a w hC (Region.free_spec ho hf) (by simpa using hr) hy (mix_ordI hsel hnd r _ _ w hC hB' h)
  | (false, i) :: r, listed, a, w, hC, hB, h => by
    simp only [ordB, Bool.and_eq_true, decide_eq_true_eq] at hB
    refine ⟨fun h0 => (by rw [hB.1] at h0; cases h0), fun j hj => ?_⟩
    rw [hB.1] at hj
    obtain rfl : j = i := by simpa using hj
    exact wpOpIn_mono (fun a' w' h' => ⟨h'.1, mix_ordI hsel hnd r _ _ w' h'.1 hB.2 h'.2⟩) h

theorem wpIn_noQ {o : Oper} {a : Act} {w : World} {K : Act → World → Prop} {Q : Exit → Act → World → Prop} (h : o.wpIn F n P a w K noQ) : o.wpIn F n P a w K Q := by
  unfold Oper.wpIn at *
  refine ⟨h.1, ?_⟩
  have h := h.2
  generalize (o.semAt F.round a.eval).run P w = r at *
  cases r with
  | ok x w' =>
    cases x <;> simp only [Oper.uponIn] at h ⊢ <;>
      first
        | exact h
        | exact ⟨h.1, CallsIn.mono h.2 (fun e w'' he => by
            cases e with
            | returned u => exact he
            | panicked c => exact he.elim
            | outgrown => exact absurd he (fun h => by obtain ⟨_, _, hf⟩ := h; exact hf))⟩
        | exact ⟨h.1, RoundIn.mono h.2 (fun e w'' he => by
            cases e with
            | returned u => exact he
            | panicked c => exact he.elim
            | outgrown => exact absurd he (fun h => by obtain ⟨_, _, hf⟩ := h; exact hf))⟩
  | halt x w' => cases x <;> simp only [Oper.uponIn] at h ⊢ <;> exact h.elim

theorem wpOpIn_noQ {i : Nat} {a : Act} {w : World} {K : Act → World → Prop} {Q : Exit → Act → World → Prop} (h : wpOpIn F n P ops noQ i K a w) : wpOpIn F n P ops Q i K a w := by
  unfold wpOpIn at *
  split
  · rename_i ho; simp only [ho] at h; exact h
  · rename_i o ho
    simp only [ho] at h
    split
    · rename_i hw
      simp only [hw, if_true] at h
      exact wpIn_noQ h
    · rename_i hw; simp only [hw] at h; exact h

theorem any_of_mixI {Q : Act → World → Prop} {Q' : Exit → Act → World → Prop} (hQ : ∀ a w, Q a w → Q' .normal a w) : ∀ (f : Nat) (listed : Array Bool) (a : Act) (w : World),
    wpMixAI F n P md ops C Q f listed a w → wpAnyIn F n P md ops Q' f listed a w
  | 0, _, _, _, h => ⟨h.1, hQ _ _ h.2⟩
  | f + 1, _, _, _, h => ⟨fun h0 => hQ _ _ (h.1 h0), fun i hi => wpOpIn_noQ (wpOpIn_mono (fun a' w' h' => any_of_mixI hQ f _ a' w' h'.2) (h.2 i hi))⟩

/-- the law -/
theorem wpIn_region_mix {id : Nat} {Q : Exit → Act → World → Prop} {a : Act} {w : World} {l : List Oper} (C : World → Prop) (ord : List (Bool × Nat)) (hd : noDefer l = true) (hm : P.follows .mixedOrders = true) (hB : mixB .any l.toArray ord = true) (hC : C w.drew)
    (h : wpMixI F n P l.toArray C (Q .normal) ord a w.drew) : (Code.region id l.toArray true).wpIn F n P Q a w := by
  simp only [mixB, Bool.and_eq_true, decide_eq_true_eq] at hB
  refine wpIn_region_any hm ?_
  have hx := any_of_mixI (C := C) (Q' := Q) (fun _ _ h => h) _ _ _ _ (mix_ordI hB.1.1 (noDefer_spec hd) ord _ a _ hC hB.2 h)
  rw [hB.1.2] at hx
  exact hx

theorem calmI_of_quiet {o : Oper} {v : Value} {a : Act} (hb : calmB o = true) (hn : ∃ w, C w) (h : YieldsQuiet F n P ops C o v a) : CalmI F P ops C o v a := by
  refine ⟨h.1, ?_⟩
  rcases h.2 with ⟨hw, h⟩ | ⟨hw, rfl⟩
  · refine .inl ⟨hw, fun w hC => ?_⟩
    have h := h w hC
    unfold Oper.quietAtIn at h
    cases hr : (execOp a.eval o).run P w with
    | ok x w' =>
      obtain ⟨u, rfl⟩ := calm_no_enter hb hr
      rw [hr] at h
      obtain ⟨rfl, rfl⟩ := h
      rfl
    | halt x w' => rw [hr] at h; exact h.elim
  · exact .inr ⟨hw, rfl⟩

/-- calm operations in a row: a walk of the quiet kind -/
theorem mixI_calm {Q : Act → World → Prop} {w : World} (hn : ∃ w, C w) (r : List (Bool × Nat)) : ∀ (s : List Nat) (l : List Oper) (a : Act), s.map (fun i => ops[i]?) = l.map some → l.all calmB = true →
    wpQuietIn F n P ops C (fun a' => wpMixI F n P ops C Q r a' w) l a → wpMixI F n P ops C Q (s.map (fun i => (true, i)) ++ r) a w
  | [], [], _, _, _, h => h
  | [], o :: l, _, he, _, _ => by simp at he
  | i :: s, [], _, he, _, _ => by simp at he
  | i :: s, o :: l, a, he, hb, h => by
    simp only [List.map_cons, List.cons.injEq] at he
    simp only [List.all_cons, Bool.and_eq_true] at hb
    have hq : qOpIn F n P ops C i (wpQuietIn F n P ops C (fun a' => wpMixI F n P ops C Q r a' w) l) a := by unfold qOpIn; simp only [he.1]; exact h
    obtain ⟨v, hy, hK⟩ := yieldsQuiet_of_qOpIn he.1 hq
    exact ⟨o, v, he.1, calmI_of_quiet hb.1 hn hy, mixI_calm hn r s l _ he.2 hb.2 hK⟩

theorem wpIn_only {o : Oper} {a : Act} {w : World} {K : Act → World → Prop} (h : o.wpIn F n P a w (fun a' w' => K a' w') (fun e a' w' => e = .normal ∧ K a' w')) : o.wpIn F n P a w K noQ := by
  unfold Oper.wpIn at *
  refine ⟨h.1, ?_⟩
  have h := h.2
  generalize (o.semAt F.round a.eval).run P w = r at *
  cases r with
  | ok x w' =>
    cases x <;> simp only [Oper.uponIn] at h ⊢ <;>
      first
        | exact h
        | exact ⟨h.1, CallsIn.mono h.2 (fun e w'' he => by
            cases e with
            | returned u => exact he
            | panicked c => exact absurd he.1 (by simp)
            | outgrown => exact absurd he (fun h => by obtain ⟨_, _, hf⟩ := h; exact absurd hf.1 (by simp)))⟩
        | exact ⟨h.1, RoundIn.mono h.2 (fun e w'' he => by
            cases e with
            | returned u => exact he
            | panicked c => exact absurd he.1 (by simp)
            | outgrown => exact absurd he (fun h => by obtain ⟨_, _, hf⟩ := h; exact absurd hf.1 (by simp)))⟩
  | halt x w' => cases x <;> simp only [Oper.uponIn] at h ⊢ <;> first | exact h.elim | exact absurd h.1 (by simp)

/-- behind a special one -/
structure MxI (F : Fence) (n : Nat) (P : Program) (ops : Array Oper) (C : World → Prop) (Q : Act → World → Prop) (r : List (Bool × Nat)) (a : Act) (w : World) : Prop where
  cls : C w
  rest : wpMixI F n P ops C Q r a w

/-- a special one, walked as a list of one -/
theorem mixI_one {Q : Act → World → Prop} {w : World} {r : List (Bool × Nat)} {i : Nat} {o : Oper} {a : Act} (ho : ops[i]? = some o)
    (h : wpListIn F n P ops (fun e a' w' => e = .normal ∧ MxI F n P ops C Q r a' w') [o] a w) : wpMixI F n P ops C Q ((false, i) :: r) a w := by
  unfold wpMixI wpOpIn
  simp only [ho]
  simp only [wpListIn] at h
  split
  · rename_i hw
    simp only [hw, if_true] at h
    exact Oper.wpIn_mono (fun a' w' h' => ⟨h'.1, h'.2⟩) (wpIn_only (K := MxI F n P ops C Q r) (Oper.wpIn_mono (fun a' w' h' => h'.2) h))
  · rename_i hw
    simp only [hw] at h
    exact ⟨h.1, h.2.2.1, h.2.2.2⟩

theorem mixI_nil {Q : Act → World → Prop} {w : World} {a : Act} (h : Q a w) : wpMixI F n P ops C Q [] a w := h
end
end Go.Proofs.YteldkcpkamgfpaaDoor
