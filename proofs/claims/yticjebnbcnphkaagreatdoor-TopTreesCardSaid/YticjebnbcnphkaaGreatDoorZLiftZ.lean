/- A part of the proof that the abstract interpreter is sound, and of the two goroutines of the lexer. -/
import Derived.Test.YticjebnbcnphkaaGreatDoorZLiftP
import Derived.Test.YticjebnbcnphkaaGreatDoorZLiftV
import Derived.Conc.CrowdTrace
import Derived.Conc.TokenWalk

set_option linter.unusedSimpArgs false
set_option linter.unusedVariables false
set_option linter.unusedSectionVars false

namespace Go.Lift
open Go.Conc
variable {P : Program}

/-- what a lone stretch leaves of the heap -/
structure Left (O : Own) (w : World) (O' : Own) (w' : World) : Prop where
  size : w.heap.size ≤ w'.heap.size
  keep : ∀ k, ¬ O k → k < w.heap.size → w'.heap[k]? = w.heap[k]?
  sub : ∀ k, O' k → O k ∨ w.heap.size ≤ k
  os : w'.os = w.os
  out : w'.output = w.output
theorem Left.refl (O : Own) (w : World) : Left O w O w := ⟨Nat.le_refl _, fun _ _ _ => rfl, fun _ h => .inl h, rfl, rfl⟩
theorem Left.of {O O1 O2 : Own} {w w1 w2 : World} {es : Array Event} (h : Guar O w w1 es) (e : O1 = Grow O w w1) (k : Left O1 w1 O2 w2) : Left O w O2 w2 := by
  subst e
  refine ⟨Nat.le_trans h.size k.size, fun i hi hlt => ?_, fun i hi => ?_, k.os.trans h.os, k.out.trans h.out⟩
  · have hs := h.size
    rw [k.keep i (fun hg => hg.elim hi fun hg => absurd hg.1 (by omega)) (by omega)]
    exact h.keep i hi hlt
  · have hs := h.size
    rcases k.sub i hi with hg | hg
    · rcases hg with hg | hg
      · exact .inl hg
      · exact .inr hg.1
    · exact .inr (by omega)

/-- ALONE, FinO comes to its stop. -/
theorem finO_solo {Stop : Own → Goroutine → World → Prop} {O : Own} {a : Goroutine} {w : World} (h : FinO P true Stop O a w) :
    ∀ w₁, Rely O w w₁ → (∀ k, k < w.heap.size → w₁.heap[k]? = w.heap[k]?) → w₁.heap.size = w.heap.size → ∀ (sl : Option (Nat × Nat)) (t : Trace), (∀ O g w, Stop O g w → g.status = .running) → PastE t → (∀ j, 0 < j → Deaf t j = 0) →
    ∃ N a' w' O' sl' t', runNT P N (crowd #[a] w₁ sl) t = (.next (crowd #[a'] w' sl'), t') ∧ Stop O' a' w' ∧ PastE t' ∧ (∀ j, 0 < j → Deaf t' j = 0) ∧ Left O w₁ O' w' := by
  induction h with
  | stop h => exact fun w₁ h₁ _ _ sl t _ hT hD => ⟨0, _, w₁, _, sl, t, rfl, h w₁ h₁, hT, hD, Left.refl _ _⟩
  | @step O a w hr nx h hf ih =>
    intro w₁ h₁ hsame hsz sl t hS hT hD
    obtain ⟨i, g, d1, sl', hi, hgr, hst⟩ := crowd_pick (P := P) (gs := #[a]) (w := w₁) (sl := sl) (fun g hg => by simp at hg; subst hg; exact awake_of (.inl hr)) ⟨0, a, rfl, hr⟩
    have hi0 : i = 0 := by
      have := (Array.getElem?_eq_some_iff.1 hi).1
      simp at this; omega
    subst hi0
    simp at hi
    subst hi
    have h1 : Rely O w (w₁.at d1) := h₁.trans (rely_at O w₁ d1)
    obtain ⟨hgo, hg⟩ := h (w₁.at d1) h1
    have hrunT := runT_crowd_go (P := P) (gs := #[a]) (sl := sl') (i := 0) (g := a) rfl (show stepG P (0 == 0) a (w₁.at d1) = _ from hgo)
    have e : ((#[a] : Array Goroutine).map (woken P a (nx (w₁.at d1)).1 (nx (w₁.at d1)).2.1)).setIfInBounds 0 (nx (w₁.at d1)).1 = #[(nx (w₁.at d1)).1] := by simp
    rw [e] at hrunT
    have hev : ∀ op ∈ MemOp.ofEvents 0 a.frame.fn a.frame.place (nx (w₁.at d1)).2.2, op.g = 0 := fun op hop => by obtain ⟨e, _, rfl⟩ := Conc.mem_ofEvents hop; rfl
    obtain ⟨N, a', w', O', sl2, t', g1, g2, g3, g4, g5⟩ := ih (w₁.at d1) h1 (nx (w₁.at d1)).2.1 (Rely.refl _ _) (fun _ _ => rfl) rfl sl' (t ++ MemOp.ofEvents 0 a.frame.fn a.frame.place (nx (w₁.at d1)).2.2) hS
      (hT.events fun d => evs_deaf hg.evs d) (fun j hj => by rw [Deaf_other t (g' := 0) (by omega) _ hev]; exact hD j hj)
    refine ⟨N + 1, a', w', O', sl2, t', ?_, g2, g3, g4, ?_⟩
    · simp only [runNT, hst, hrunT]; exact g1
    · exact Left.of (w1 := (nx (w₁.at d1)).2.1) ⟨hg.size, hg.keep, hg.os, hg.out, hg.evs⟩ rfl g5

/-- the go statement -/
theorem ti_fork {t : Trace} {w : World} {c : Nat} (hT : PastE t) (h1 : ∀ j, 0 < j → Deaf t j = 0) {x y : MemOp} (hx : x.g = 0 ∧ x.act = .go 1) (hy : y.g = 1 ∧ y.act = .start) : TI c (fun _ => False) (t ++ #[x, y]) w := by
  have hx' : PastE (t ++ #[x]) := hT.own (fun op h => by simp at h; rw [h]; exact hx.1) (by
    have : (#[x] : Array MemOp) = [x].toArray := rfl
    rw [this, Deaf_append]
    show deafStep 0 (Deaf t 0) x = _
    unfold deafStep
    rw [hx.2])
  obtain ⟨B, hB⟩ := hx'
  have hE : t ++ #[x, y] = (t ++ #[x]) ++ #[y] := by rw [Array.append_assoc]; rfl
  have hP : Past (fun _ => False) B (t ++ #[x, y]) := by
    rw [hE]
    exact hB.appMute (g := 1) (by omega) (fun op h => by simp at h; rw [h]; exact hy.1) (fun op h => by simp at h; rw [h, hy.2]; rfl) (fun op h => by simp at h; rw [h, hy.2]; trivial)
  obtain ⟨B0, h0⟩ := hT
  have hd1 : ∀ j, 0 < j → Deaf (t ++ #[x, y]) j = 0 := fun j hj => by
    have : (#[x, y] : Array MemOp) = [x, y].toArray := rfl
    rw [this, Deaf_append]
    show deafStep j (deafStep j (Deaf t j) x) y = 0
    rw [h1 j hj]
    simp [deafStep, hx.2, hy.2]
  have old : ∀ i a, touchAt (t ++ #[x, y]) i = some a → touchAt t i = some a := fun i a ha => by
    obtain ⟨op, ho, hox⟩ := touch_of ha
    rcases getElem?_append_cases ho with ⟨_, ho'⟩ | ⟨_, hm⟩
    · rw [touchAt_of ho']; exact hox
    · simp at hm
      rcases hm with rfl | rfl
      · rw [hx.2] at hox; cases hox
      · rw [hy.2] at hox; cases hox
  refine ⟨hP.clean, fun _ _ _ _ _ h => h.elim, fun i a k ha hk _ => ?_, fun i a k ha hk => .inr ?_, hP.hears, hd1⟩
  · rcases hP.known i a ha (by cases hl : a.loc <;> rw [hl] at hk <;> simp [blk] at hk <;> rfl) with h | h
    · exact h
    · exact h.1.elim
  · have hm : a.loc.isMemory = true := by cases hl : a.loc <;> rw [hl] at hk <;> simp [blk] at hk <;> rfl
    have hk0 : Knows t 0 i := by
      rcases h0.known i a (old i a ha) hm with h | h
      · exact h
      · exact h.1.elim
    exact ⟨hk0.app _, ConcN.fork_knows hx hy h0.hears (h1 1 (by omega)) hk0⟩

/-- the stop ahead of the go statement: the two are bound for the pipeline -/
def AtFork (P : Program) (c q : Nat) (z : Value) (Fi : World → Own → Goroutine → World → Prop) (vs : List Value) (O : Own) (g : Goroutine) (w : World) : Prop :=
  g.status = .running ∧ ∃ g' child es, stepG P true g w = .spawn g' child w es ∧ (∀ e ∈ es, EvO O w w e) ∧ c < w.heap.size ∧ q < w.heap.size ∧ q ≠ c ∧ (∃ s r tm, w.heap[c]? = some (.chan 0 #[] false s r tm)) ∧ (∃ s r tm, w.heap[q]? = some (.chan 0 #[] false s r tm)) ∧
    (∀ d, RecvsO P c z (Fi (w.at d)) vs (fun _ => False) g' (w.at d)) ∧ ∀ d, SendsO P c q vs (fun _ => False) child (w.at d)

theorem fork_reach {c q : Nat} {z : Value} {Fi : World → Own → Goroutine → World → Prop} {vs : List Value} {O : Own} {g : Goroutine} {w : World} {sl : Option (Nat × Nat)} {t : Trace} (hA : ∀ d, AtFork P c q z Fi vs O g (w.at d)) (hT : PastE t) (hD : ∀ j, 0 < j → Deaf t j = 0) :
    ∃ d, Reach P c w.heap.size (w.at d) (Fi (w.at d)) (crowd #[g] w sl) t := by
  have hr : g.status = .running := (hA 0).1
  obtain ⟨i, g0, d1, sl', hi, hgr, hst⟩ := crowd_pick (P := P) (gs := #[g]) (w := w) (sl := sl) (fun g hg => by simp at hg; subst hg; exact awake_of (.inl hr)) ⟨0, g, rfl, hr⟩
  have hi0 : i = 0 := by
    have := (Array.getElem?_eq_some_iff.1 hi).1
    simp at this; omega
  subst hi0
  simp at hi
  subst hi
  obtain ⟨_, g', child, es, hsp, hes, hc, hq, hqc, ⟨s, r, tm, hcc⟩, ⟨s2, r2, tm2, hqq⟩, hR, hS⟩ := hA d1
  have hrun := runT_crowd_spawn (P := P) (gs := #[g]) (sl := sl') (i := 0) (g := g) rfl (show stepG P (0 == 0) g (w.at d1) = _ from hsp)
  have e : ((#[g] : Array Goroutine).setIfInBounds 0 g').push child = #[g', child] := by simp
  rw [e] at hrun
  refine ⟨d1, Reach.step (hst.trans hrun) ?_⟩
  have hT1 : PastE (t ++ MemOp.ofEvents 0 g.frame.fn g.frame.place es) := hT.events fun d => evs_deaf hes d
  have hD1 : ∀ j, 0 < j → Deaf (t ++ MemOp.ofEvents 0 g.frame.fn g.frame.place es) j = 0 := fun j hj => by
    rw [Deaf_other t (g' := 0) (by omega) _ (fun op hop => by obtain ⟨e, _, rfl⟩ := Conc.mem_ofEvents hop; rfl)]; exact hD j hj
  have hTI := ti_fork (w := w.at d1) (c := c) hT1 hD1 (x := { g := 0, fn := g.frame.fn, pos := g.frame.place, act := .go 1 }) (y := { g := 1, fn := child.frame.fn, pos := g.frame.place, act := .start }) ⟨rfl, rfl⟩ ⟨rfl, rfl⟩
  have hE : Env c w.heap.size (w.at d1) (fun _ => False) (fun _ => False) (w.at d1) := ⟨fun _ h => h.elim, fun _ h => h.elim, fun _ h => h.elim, fun _ _ _ => rfl, Nat.le_refl _, rfl, rfl⟩
  have hp := pipeline_own (P := P) (c := c) (q := q) (base := w.heap.size) (z := z) (W0 := w.at d1) (Fi := Fi (w.at d1)) hc hq hqc hqq vs (fun _ => False) (fun _ => False) g' child (w.at d1) sl' _ s r tm (hR d1) (hS d1) hE hcc hTI
  have e2 : t ++ ((MemOp.ofEvents 0 g.frame.fn g.frame.place es).push { g := 0, fn := g.frame.fn, pos := g.frame.place, act := .go 1 } |>.push { g := 1, fn := child.frame.fn, pos := g.frame.place, act := .start }) =
      (t ++ MemOp.ofEvents 0 g.frame.fn g.frame.place es) ++ #[{ g := 0, fn := g.frame.fn, pos := g.frame.place, act := .go 1 }, { g := 1, fn := child.frame.fn, pos := g.frame.place, act := .start }] := by
    rw [Array.append_assoc]; congr 1
  show Reach P c w.heap.size (w.at d1) (Fi (w.at d1)) (crowd #[g', child] (w.at d1) sl') _
  have e3 : (#[g] : Array Goroutine).size = 1 := rfl
  rw [e3, e2]
  exact hp
end Go.Lift

namespace Go.Lift
open Go.Conc
variable {P : Program}

/-- goroutine 0 is about to hand back its answer -/
def AtDone (P : Program) (Post : Value → World → Prop) (g : Goroutine) (w : World) : Prop :=
  g.status = .running ∧ ∃ v, ∀ (τ : Tape) (d : Nat), stepG P true g (on w τ d) = .ended (.done v) (on w τ d) #[] ∧ Post v (on w τ d)

/-- the run ends well -/
def Ends (P : Program) (Post : Value → World → Prop) (m : Machine) (t : Trace) : Prop :=
  ∃ N last o w' t', runNT P (N + 1) m t = (.ended o w', t') ∧ runN P N m = .next last ∧ Go.step P last = .ended o w' ∧ Conc.Good P Post last o w' t'

theorem Ends.after {Post : Value → World → Prop} {m m1 : Machine} {t t1 : Trace} {N : Nat} (h : runNT P N m t = (.next m1, t1)) (k : Ends P Post m1 t1) : Ends P Post m t := by
  obtain ⟨N1, last, o, w', t', h1, h2, h3, h4⟩ := k
  refine ⟨N + N1, last, o, w', t', ?_, ?_, h3, h4⟩
  · rw [Nat.add_assoc, runNT_add, h]; exact h1
  · rw [runN_add, ← runNT_fst P N m t, h]; exact h2

theorem done_ends {Post : Value → World → Prop} {gs : Array Goroutine} {a : Goroutine} {w : World} {sl : Option (Nat × Nat)} {t : Trace} {q : Nat → Nat} (h0 : gs[0]? = some a) (hL : Leavers P t gs q) (hP : PastE t) (hA : AtDone P Post a w) : Ends P Post (crowd gs w sl) t := by
  obtain ⟨B, hB⟩ := hP
  obtain ⟨hr, v, hv⟩ := hA
  exact beside_ends (D := fun _ _ _ => False) (n := 0) (fun _ _ _ h => h.elim) h0 hL hB fun w₁ ⟨d, hd⟩ => by
    subst hd
    exact ⟨hr, v, #[], (hv w.tape d).1, fun e he => by simp at he, (hv w.tape d).2⟩

theorem AtDone.on {Post : Value → World → Prop} {g : Goroutine} {w : World} (h : AtDone P Post g w) (τ : Tape) (d : Nat) : AtDone P Post g (on w τ d) := ⟨h.1, h.2.choose, fun τ' d' => h.2.choose_spec τ' d'⟩

theorem fin_ends (hP : Plain P) {Post : Value → World → Prop} {gs : Array Goroutine} {a : Goroutine} {w : World} {sl : Option (Nat × Nat)} {t : Trace} {q : Nat → Nat} (h0 : gs[0]? = some a) (hL : Leavers P t gs q) (hT : PastE t) (hF : Fin P (AtDone P Post) a w) : Ends P Post (crowd gs w sl) t := by
  obtain ⟨N, gs', a', w', sl', t', q', h1, _, h2, h3, h4, h5⟩ := walk_fin (Stop := AtDone P Post) hP (fun g w τ d h => AtDone.on h τ d) (fun g w h => h.1) hF gs w.tape w.drawn sl t q h0 hL hT
  rw [on_self] at h1
  exact .after h1 (done_ends h2 h4 h5 h3)

theorem reach_ends (hP : Plain P) {Post : Value → World → Prop} {c base : Nat} {W0 : World} {Fi : Own → Goroutine → World → Prop} {m : Machine} {t : Trace} (hR : Reach P c base W0 Fi m t) (hFi : ∀ O0 O1 a w, Fi O0 a w → Env c base W0 O0 O1 w → Fin P (AtDone P Post) a w) : Ends P Post m t := by
  obtain ⟨N, a, b, w, sl, t', O0, O1, k, s, r, tm, h1, h2, h3, h4, h5, h6, _⟩ := hR
  have hL : Leavers P t' #[a, b] (fun _ => k) := ⟨fun i g hi hg => by
    have : i = 1 := by
      have := (Array.getElem?_eq_some_iff.1 hg).1
      simp at this; omega
    subst this
    simp at hg; subst hg
    rw [h6 1 (by omega)]
    exact QuitsD.of_quitsIn h4, fun j hj => h6 j (by simp at hj; omega)⟩
  exact .after h1 (fin_ends (gs := #[a, b]) (q := fun _ => k) hP rfl hL h5 (hFi O0 O1 a w h2 h3))

/-- alone, with no slice -/
theorem finO_lone {Stop : Own → Goroutine → World → Prop} {O : Own} {a : Goroutine} {w : World} (h : FinO P true Stop O a w) :
    ∀ w₁, Rely O w w₁ → ∃ N a' w' O', runN P N (solo a w₁) = .next (solo a' w') ∧ Stop O' a' w' ∧ Left O w₁ O' w' := by
  induction h with
  | stop h => exact fun w₁ h₁ => ⟨0, _, w₁, _, rfl, h w₁ h₁, Left.refl _ _⟩
  | @step O a w hr nx h hf ih =>
    intro w₁ h₁
    obtain ⟨hgo, hg⟩ := h w₁ h₁
    obtain ⟨N, a', w', O', g1, g2, g3⟩ := ih w₁ h₁ (nx w₁).2.1 (Rely.refl _ _)
    refine ⟨N + 1, a', w', O', ?_, g2, Left.of (w1 := (nx w₁).2.1) hg rfl g3⟩
    have hs : Go.step P (solo a w₁) = .next (solo (nx w₁).1 (nx w₁).2.1) := by
      unfold Go.step
      rw [stepT_solo hr, runT_solo_go hgo]
    rw [runN_step, hs]; exact g1

theorem runN_good (hP : Plain P) : ∀ (n : Nat) {gs : Array Goroutine} {w : World} {sl : Option (Nat × Nat)} {m' : Machine}, (∀ x ∈ gs, Lift.Good x) → runN P n (crowd gs w sl) = .next m' → ∃ gs' w' sl', m' = crowd gs' w' sl' ∧ ∀ x ∈ gs', Lift.Good x
  | 0, gs, w, sl, m', h, e => by cases e; exact ⟨gs, w, sl, rfl, h⟩
  | n + 1, gs, w, sl, m', h, e => by
    rw [runN_step] at e
    rcases crowd_keeps hP h w sl with ⟨o, w', e1⟩ | ⟨gs', w', sl', e1, _, h'⟩
    · rw [e1] at e; cases e
    · rw [e1] at e
      exact runN_good hP n h' e
theorem solo_good (hP : Plain P) {n : Nat} {a a' : Goroutine} {w w' : World} (h : Lift.Good a) (e : runN P n (solo a w) = .next (solo a' w')) : Lift.Good a' := by
  obtain ⟨gs', w2, sl', h1, h2⟩ := runN_good hP n (gs := #[a]) (w := w) (sl := none) (fun x hx => by simp at hx; subst hx; exact h) e
  have : gs' = #[a'] := congrArg Machine.gs h1.symm
  subst this
  exact h2 a' (by simp)

/-- lone runs to the stop, on every tape, end well -/
theorem runs_fin (hP : Plain P) {Post : Value → World → Prop} {a : Goroutine} {w : World} (hg : Lift.Good a) (hr : a.status = .running) (H : ∀ (τ : Tape) (d : Nat), ∃ n g' w', runN P n (solo a (on w τ d)) = .next (solo g' w') ∧ AtDone P Post g' w') : Fin P (AtDone P Post) a w :=
  fin_of_runs (Stop := AtDone P Post) hP (fun g w τ d h => AtDone.on h τ d) hg hr fun τ d => by
    obtain ⟨n, g', w', h1, h2⟩ := H τ d
    exact ⟨n, g', w', h1, h2.1, h2⟩

/-- the stop ahead of the pipeline -/
def AtLex (P : Program) (Post : Value → World → Prop) (g : Goroutine) (w : World) : Prop :=
  g.status = .running ∧ (Lift.Good g → ∀ (τ : Tape) (d : Nat) (sl : Option (Nat × Nat)) (t : Trace), PastE t → (∀ j, 0 < j → Deaf t j = 0) → Ends P Post (crowd #[g] (on w τ d) sl) t)
theorem AtLex.on {Post : Value → World → Prop} {g : Goroutine} {w : World} (h : AtLex P Post g w) (τ : Tape) (d : Nat) : AtLex P Post g (on w τ d) := ⟨h.1, fun hg τ' d' => h.2 hg τ' d'⟩

theorem lex_ends (hP : Plain P) {Post : Value → World → Prop} {a : Goroutine} {w : World} (hg : Lift.Good a) (hr : a.status = .running)
    (H : ∀ (τ : Tape) (d : Nat), ∃ n g' w', runN P n (solo a (on w τ d)) = .next (solo g' w') ∧ AtLex P Post g' w') : Ends P Post (solo a w) #[] := by
  have hF : Fin P (fun g w => AtLex P Post g w ∧ Lift.Good g) a w := fin_of_runs (Stop := fun g w => AtLex P Post g w ∧ Lift.Good g) hP (fun g w τ d h => ⟨AtLex.on h.1 τ d, h.2⟩) hg hr fun τ d => by
    obtain ⟨n, g', w', h1, h2⟩ := H τ d
    exact ⟨n, g', w', h1, h2.1, h2, solo_good hP hg h1⟩
  obtain ⟨N, gs', a', w', sl', t', q', h1, h2, h3, h4, h5, h6⟩ := walk_fin (Stop := fun g w => AtLex P Post g w ∧ Lift.Good g) hP (fun g w τ d h => ⟨AtLex.on h.1 τ d, h.2⟩) (fun g w h => h.1.1) hF #[a] w.tape w.drawn none #[] (fun _ => 0) rfl (leavers_one P a) ⟨0, past_nil⟩
  rw [on_self] at h1
  have e : gs' = #[a'] := by
    apply Array.ext_getElem?
    intro i
    rcases Nat.eq_zero_or_pos i with rfl | hi
    · rw [h3]; rfl
    · rw [Array.getElem?_eq_none (by simp at h2; omega), Array.getElem?_eq_none (by simp; omega)]
  subst e
  refine .after h1 ?_
  have := h4.1.2 h4.2 w'.tape w'.drawn sl' t' h6 fun j hj => h5.above j (by simp; omega)
  rw [on_self] at this
  exact this
end Go.Lift

namespace Go.Lift
open Go.Conc
variable {P : Program} {c q : Nat} {z : Value} {Fi : Own → Goroutine → World → Prop}

theorem SendsO.rely {vs : List Value} {O : Own} {g : Goroutine} {w w₁ : World} (h : SendsO P c q vs O g w) (hr : Rely O w w₁) : SendsO P c q vs O g w₁ := by
  cases vs <;> exact FinO.rely h hr
theorem RecvsO.rely {vs : List Value} {O : Own} {g : Goroutine} {w w₁ : World} (h : RecvsO P c z Fi vs O g w) (hr : Rely O w w₁) : RecvsO P c z Fi vs O g w₁ := by
  cases vs <;> exact FinO.rely h hr

section
variable {b : Frame} {a : Act} {k : List Item} {cs : List Frame} {ops : Array Oper} {i : Nat} {rest : List Nat} {o : Oper} {O : Own} {w : World} {vs : List Value} {v z' zq : Value}

theorem served_at (ho : ops[i]? = some o) (v : Value) : Conc.served (G (b.at a (.inRegion ops (i :: rest) :: k)) cs) v = G (b.at (a.put o.dst v) (.inRegion ops rest :: k)) cs := by
  unfold Conc.served G
  rw [Frame.finish_at, ho]; rfl

/-- the child at its select -/
theorem sends_select (ho : ops[i]? = some o) (hw : Region.wanted o (yielded ops a.tmps) = true) (hk : b.kind ≠ .early)
    (hr : ∀ w, (execOp a.eval o).run P w = .ok (.comm #[scase c v z', rcase q zq] true .select) w ∧ (execOp a.eval o).events P w #[] = #[])
    (h : SendsO P c q vs O (G (b.at (a.put o.dst (selRes zq)) (.inRegion ops rest :: k)) cs) w) :
    SendsO P c q (v :: vs) O (G (b.at a (.inRegion ops (i :: rest) :: k)) cs) w :=
  FinO.stop fun w₁ h₁ => ⟨rfl, _, z', zq, #[], by rw [stepG_comm ho hw hk (hr w₁).1, listed_none (hr w₁).2], fun e he => by simp at he, fun w₂ h₂ => by
    rw [served_at ho]; exact h.rely (h₁.trans h₂)⟩

/-- goroutine 0 at its receive -/
theorem recvs_recv (ho : ops[i]? = some o) (hw : Region.wanted o (yielded ops a.tmps) = true) (hk : b.kind ≠ .early)
    (hr : ∀ w, (execOp a.eval o).run P w = .ok (.comm #[rcase c z] true (.recv true)) w ∧ (execOp a.eval o).events P w #[] = #[])
    (h : ∀ w₂, Rely O w w₂ → RecvsO P c z Fi vs O (G (b.at (a.put o.dst (.tuple #[v, .bool true])) (.inRegion ops rest :: k)) cs) w₂) :
    RecvsO P c z Fi (v :: vs) O (G (b.at a (.inRegion ops (i :: rest) :: k)) cs) w :=
  FinO.stop fun w₁ h₁ => ⟨rfl, #[], by rw [stepG_comm ho hw hk (hr w₁).1, listed_none (hr w₁).2]; rfl, fun e he => by simp at he, fun w₂ h₂ => by
    show RecvsO P c z Fi vs O (Conc.served (G (b.at a (.inRegion ops (i :: rest) :: k)) cs) _) w₂
    rw [served_at ho]; exact h w₂ (h₁.trans h₂)⟩
theorem recvs_end (ho : ops[i]? = some o) (hw : Region.wanted o (yielded ops a.tmps) = true) (hk : b.kind ≠ .early)
    (hr : ∀ w, (execOp a.eval o).run P w = .ok (.comm #[rcase c z] true (.recv true)) w ∧ (execOp a.eval o).events P w #[] = #[])
    (h : ∀ w₂, Rely O w w₂ → Fi O (G (b.at (a.put o.dst (.tuple #[z, .bool false])) (.inRegion ops rest :: k)) cs) w₂) :
    RecvsO P c z Fi [] O (G (b.at a (.inRegion ops (i :: rest) :: k)) cs) w :=
  FinO.stop fun w₁ h₁ => ⟨rfl, #[], by rw [stepG_comm ho hw hk (hr w₁).1, listed_none (hr w₁).2]; rfl, fun e he => by simp at he, fun w₂ h₂ => by
    show Fi O (Conc.served (G (b.at a (.inRegion ops (i :: rest) :: k)) cs) _) w₂
    rw [served_at ho]; exact h w₂ (h₁.trans h₂)⟩

theorem sel_run {c1 c2 : Operand} {x : Operand} {e1 e2 : TypeId} {z1 z2 : Value} (ho : o.op = .select #[⟨c1, some x, e1⟩, ⟨c2, none, e2⟩] true) (h1 : a.eval c1 = .chan (some c)) (hx : a.eval x = v) (h2 : a.eval c2 = .chan (some q)) (hz1 : ∀ w, (zeroValue e1).run P w = .ok z1 w) (hz2 : ∀ w, (zeroValue e2).run P w = .ok z2 w)
    (w : World) : (execOp a.eval o).run P w = .ok (.comm #[scase c v z1, rcase q z2] true .select) w ∧ (execOp a.eval o).events P w #[] = #[] := by
  unfold execOp
  rw [ho]
  simp [h1, hx, h2, hz1, hz2, scase, rcase]

theorem recv_run {ct el : TypeId} {ch : Operand} {dir : ChanDir} (ho : o.op = .recv ct ch true) (hu : P.underlying ct = some (.chan dir el)) (h1 : a.eval ch = .chan (some c)) (hz : ∀ w, (zeroValue el).run P w = .ok z w) (w : World) :
    (execOp a.eval o).run P w = .ok (.comm #[rcase c z] true (.recv true)) w ∧ (execOp a.eval o).events P w #[] = #[] := by
  unfold execOp
  rw [ho]
  simp [run_underlying hu, events_underlying, h1, hz, rcase]
end

/-! the child's ends -/
def botG (P : Program) : Frame := { (default : Frame) with fn := P.funcs.size, defers := [], mode := .panicking [goexitEntry] }
def dShut (c : Nat) (ts : Array TypeId) (ty : TypeId) (cn : Array Bool) : Deferred := { target := .builtin .close ts ty cn, args := #[.chan (some c)] }

theorem born_step {f : FuncId} {fn : Func} {code : Code} {args : Array Value} (hf : P.funcs[f]? = some fn) (hb : fn.body = some code) (hname : (fn.name == "runtime.NumGoroutine") = false) (w : World) :
    stepG P false (born P (dcall f args)) w = .go (G ((baseD f).at { tmps := args ++ Array.replicate (fn.ntmps - args.size) undef, defers := [] } [.code code]) [botG P]) w #[] := by
  have h1 : ¬ fn.name = "runtime.NumGoroutine" := by simpa using hname
  rw [← enter_atD args hf hb]
  simp [born, dcall, stepG, unwind, callDeferred, invoke, callFunc, hf, h1, hb, seen, GStep.after, G, botG]

theorem atShut_deferred {f : FuncId} {fn : Func} {tmps : Array Value} {todo : List Item} {ts : Array TypeId} {ty : TypeId} {cn : Array Bool} {O : Own} {w : World} (hf : P.funcs[f]? = some fn) (hr : fn.results = #[]) (hq : (P.funcs[f]?).any (·.norace) = false) :
    AtShut P c O (G { (baseD f).at ⟨tmps, [dShut c ts ty cn]⟩ todo with mode := .returning } [botG P]) w := by
  refine ⟨rfl, ?_, fun s r tm hc => ⟨G { (baseD f).at ⟨tmps, []⟩ todo with mode := .returning } [botG P], #[], 2, ?_, fun e he => by simp at he, ?_⟩⟩
  · simp [mayWake, G, Frame.at, dShut]
  · have hrun : (Builtin.close_ ts ty #[.chan (some c)]).run P w = .ok (.tuple #[]) (w.shut c s r tm) := by
      rw [run_close_open _ _ hc]; rfl
    have hev : (Builtin.close_ ts ty #[.chan (some c)]).events P w #[] = #[⟨.obj c, false, true⟩, ⟨.obj c, true, true⟩] := by
      rw [events_close_open _ _ hc]; rfl
    have hs : seen P f #[⟨.obj c, false, true⟩, ⟨.obj c, true, true⟩] = #[⟨.obj c, false, true⟩, ⟨.obj c, true, true⟩] :=
      seen_eq hq (by intro e he f; simp only [List.mem_toArray, List.mem_cons, List.not_mem_nil, or_false] at he; rcases he with rfl | rfl <;> simp)
    simp [G, stepG, unwind, callDeferred, Frame.at, dShut, invoke, builtin, hrun, hev, hs, baseD, GStep.after]
  · refine .inr ⟨rfl, G (botG P) [], fun w => ?_, ?_⟩
    · simp [G, stepG, unwind, doReturn, results, Frame.at, baseD, botG, hf, hr, seen, GStep.after, goexitEntry]
    refine .inr ⟨rfl, { G (botG P) [] with status := .finished }, fun w => ?_, rfl⟩
    simp [G, stepG, unwind, botG, goexitEntry, Frame.catches]
    rfl
end Go.Lift
