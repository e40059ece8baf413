/- A part of the proof that the abstract interpreter is sound, and of the two goroutines of the lexer. -/
import Derived.Test.YticjebnbcnphkaaGreatDoorZLiftC
import Derived.Conc.Events

set_option linter.unusedSimpArgs false
set_option linter.unusedVariables false
set_option linter.unusedSectionVars false

namespace Go.Lift

/-- w with another tape and another count of draws. -/
def on (w : World) (τ : Tape) (d : Nat) : World := { w with tape := τ, drawn := d }

def onR {α : Type} (r : Result α) (τ : Tape) (d : Nat) : Result α :=
  match r with
  | .ok a w => .ok a (on w τ d)
  | .halt h w => .halt h (on w τ d)

/-- k answers from d on are those of the other tape from d' on. -/
def Same (τ τ' : Tape) (d d' k : Nat) : Prop := ∀ i, i < k → ∀ q, τ (d + i) q = τ' (d' + i) q

theorem Same.refl (τ : Tape) (d k : Nat) : Same τ τ d d k := fun _ _ _ => rfl
theorem Same.le {τ τ' : Tape} {d d' k j : Nat} (h : Same τ τ' d d' k) (hj : j ≤ k) : Same τ τ' d d' j := fun i hi => h i (by omega)
theorem Same.tail {τ τ' : Tape} {d d' k j : Nat} (h : Same τ τ' d d' (j + k)) : Same τ τ' (d + j) (d' + j) k := fun i hi q => by
  have := h (j + i) (by omega) q
  rwa [show d + (j + i) = d + j + i by omega, show d' + (j + i) = d' + j + i by omega] at this

/-- The run's end whatever comes behind: not the waiting for an initialiser. -/
def Dead (u : Unsupported) : Prop := ∀ g, u ≠ .initOrder g

/-- A question to the outside world that would wait ends the run. -/
def Still {α : Type} (P : Program) : Sem α → Prop
  | .pure _ => True
  | .load _ _ k => ∀ v, Still P (k v)
  | .store _ _ _ k => Still P k
  | .new _ k => ∀ r, Still P (k r)
  | .shape _ k => ∀ s, Still P (k s)
  | .freeze _ _ k => Still P k
  | .frozen _ k => ∀ b, Still P (k b)
  | .getObj _ k => ∀ o, Still P (k o)
  | .setObj _ _ k => Still P k
  | .choose _ k => ∀ n, Still P (k n)
  | .sys c k => (c = .env ∧ ∀ r, Still P (k r)) ∨ ((∀ r, r ≠ .wouldBlock → Still P (k r)) ∧ ∃ u, Dead u ∧ k .wouldBlock = .halt (.unsupported u))
  | .program k => Still P (k P)
  | .mark _ k => Still P k
  | .halt _ => True

theorem To.still {α : Type} {P : Program} {Q : α → Prop} {s : Sem α} (h : To P Q s) : Still P s := by
  induction s with
  | pure a => trivial
  | load m a k ih => exact fun v => ih v (h v)
  | store m a v k ih => exact ih h
  | new o k ih => exact fun v => ih v (h v)
  | shape r k ih => exact fun v => ih v (h v)
  | freeze a n k ih => exact ih h
  | frozen a k ih => exact fun v => ih v (h v)
  | getObj r k ih => exact fun v => ih v (h v)
  | setObj r o k ih => exact ih h
  | choose q k ih => exact fun v => ih v (h v)
  | sys c k ih => exact .inl ⟨h.1, fun r => ih r (h.2 r)⟩
  | program k ih => exact ih P h
  | mark m k ih => exact ih h.2
  | halt h => trivial

theorem Still.bind {α β : Type} {P : Program} {s : Sem α} {f : α → Sem β} (h : Still P s) (hf : ∀ a, Still P (f a)) : Still P (s >>= f) := by
  show Still P (Sem.bind s f)
  induction s with
  | pure a => exact hf a
  | load m a k ih => exact fun v => ih v (h v)
  | store m a v k ih => exact ih h
  | new o k ih => exact fun v => ih v (h v)
  | shape r k ih => exact fun v => ih v (h v)
  | freeze a n k ih => exact ih h
  | frozen a k ih => exact fun v => ih v (h v)
  | getObj r k ih => exact fun v => ih v (h v)
  | setObj r o k ih => exact ih h
  | choose q k ih => exact fun v => ih v (h v)
  | sys c k ih =>
    rcases h with ⟨rfl, h⟩ | ⟨h, u, hu, hk⟩
    · exact .inl ⟨rfl, fun r => ih r (h r)⟩
    · exact .inr ⟨fun r hr => ih r (h r hr), u, hu, by dsimp only; rw [hk]; rfl⟩
  | program k ih => exact ih P h
  | mark m k ih => exact ih h
  | halt h => trivial

theorem still_writeFd {P : Program} (fd : Nat) (b : ByteArray) : Still P (writeFd fd b) := by
  refine .inr ⟨fun r _ => ?_, _, ?_, rfl⟩
  · cases r <;> trivial
  · intro g h; cases h

theorem still_piece {P : Program} (a b : Array TypeId) (args : Array Value) : Still P (Extern.PrintPieces.piece a b args) := by
  unfold Extern.PrintPieces.piece
  have hheld : Still P Extern.PrintPieces.held := by
    unfold Extern.PrintPieces.held
    refine Still.bind trivial fun p => Still.bind (fun _ => trivial) fun v => ?_
    split <;> trivial
  split
  rotate_left
  · trivial
  split
  rotate_left
  · trivial
  rename_i first _ _ p _
  extract_lets -underBinder last jp
  have hj : ∀ y, Still P (jp y) := by
    intro y
    unfold jp
    extract_lets -underBinder jp2
    have h2 : ∀ y, Still P (jp2 y) := by
      intro y
      unfold jp2
      refine Still.bind (still_writeFd _ _) fun _ => ?_
      split
      · trivial
      · extract_lets -underBinder jp4
        have h4 : ∀ y, Still P (jp4 y) := fun _ => trivial
        clear_value jp4
        split
        · refine Still.bind trivial fun _ => Still.bind trivial fun _ => Still.bind trivial fun _ => Still.bind trivial fun _ => h4 _
        · exact h4 _
    clear_value jp2
    split
    · refine Still.bind trivial fun _ => Still.bind hheld fun _ => ?_
      extract_lets -underBinder jp5
      have h5 : ∀ y, Still P (jp5 y) := by
        intro y
        unfold jp5
        extract_lets -underBinder jp6
        have h6 : ∀ y, Still P (jp6 y) := fun _ => Still.bind trivial fun _ => h2 _
        clear_value jp6
        split
        · exact Still.bind trivial fun _ => Still.bind trivial fun _ => h6 _
        · exact h6 _
      clear_value jp5
      split
      · exact Still.bind trivial fun _ => h5 _
      · exact h5 _
    · exact h2 _
  clear_value jp
  split
  · exact Still.bind trivial fun _ => hj _
  · exact hj _

theorem Fit.still {P : Program} {s : Sem Next} (h : Fit P s) : Still P s := by
  induction h with
  | to h => exact h.still
  | piece args => exact still_piece _ _ _
  | bind t f h _ ih => exact Still.bind h.still ih

/-! the tape's locality -/

theorem on_on (w : World) (τ τ' : Tape) (d d' : Nat) : on (on w τ d) τ' d' = on w τ' d' := rfl
theorem on_self (w : World) : on w w.tape w.drawn = w := rfl

theorem viewStore_on (P : Program) (w : World) (τ : Tape) (d : Nat) (at_ : Addr) (u : TypeId) (a : Addr) (v : Value) (b : Bool) :
    (on w τ d).viewStore P at_ u a v b = (w.viewStore P at_ u a v b).map fun (w', l) => (on w' τ d, l) := by
  have e : (on w τ d).seen P at_ u a b = w.seen P at_ u a b := rfl
  unfold World.viewStore
  rw [e]
  simp only [bind, Except.bind, pure, Except.pure, Except.map]
  repeat' (first | rfl | split)
  all_goals simp_all [on]

theorem farStore_on (P : Program) (w : World) (τ : Tape) (d : Nat) (a : Addr) (v : Value) (b : Bool) :
    (on w τ d).farStore P a v b = (w.farStore P a v b).map fun (w', l) => (on w' τ d, l) := by
  have e : (on w τ d).heap = w.heap := rfl
  have e2 : ∀ x, (on w τ d).noCell a x = w.noCell a x := fun x => rfl
  unfold World.farStore
  rw [e]
  cases h : w.heap[a.block]? with
  | none => simp only [e2]; rfl
  | some o =>
    cases o with
    | view at_ u =>
      simp only [viewStore_on]
      cases w.viewStore P at_ u a v b <;> rfl
    | _ => simp only [e2]; rfl

theorem sysEnv (w : World) (τ : Tape) (d : Nat) : (on w τ d).sys .env = ((w.sys .env).1, on (w.sys .env).2 τ d) := by
  simp only [World.sys, Kernel.perform, Os.env]
  rfl

theorem local_ask {α : Type} (a : Ask α) : ∀ (w : World) (τ : Tape) (d : Nat), ∃ k x, ∀ (τ' : Tape) (d' : Nat), Same τ τ' d d' k → (on w τ' d').ask a = (x, on w τ' (d' + k)) := by
  induction a with
  | done a => exact fun w τ d => ⟨0, a, fun τ' d' _ => rfl⟩
  | ask what range k ih =>
    intro w τ d
    by_cases hf : (Question.extern what range).forced = true
    · obtain ⟨n, x, hn⟩ := ih 0 w τ d
      refine ⟨n, x, fun τ' d' hs => ?_⟩
      unfold World.ask
      simp only [hf, if_true]
      exact hn τ' d' hs
    · obtain ⟨n, x, hn⟩ := ih ((Question.extern what range).cut (τ d (.extern what range))) w τ (d + 1)
      refine ⟨1 + n, x, fun τ' d' hs => ?_⟩
      unfold World.ask
      simp only [if_neg hf]
      have h0 : τ d (.extern what range) = τ' d' (.extern what range) := hs 0 (by omega) _
      have := hn τ' (d' + 1) hs.tail
      rw [show d' + (1 + n) = d' + 1 + n by omega]
      simpa only [on, h0] using this

theorem local_sys (c : Sys) (w : World) (τ : Tape) (d : Nat) : (∃ k r os, r ≠ .wouldBlock ∧ ∀ (τ' : Tape) (d' : Nat), Same τ τ' d d' k → (on w τ' d').sys c = (r, on { w with os := os } τ' (d' + k))) ∨
    ∃ k, ∀ (τ' : Tape) (d' : Nat), Same τ τ' d d' k → (on w τ' d').sys c = (.wouldBlock, on w τ' d') := by
  obtain ⟨k, ⟨r, os⟩, h⟩ := local_ask (Kernel.perform c w.os) w τ d
  by_cases hr : r = .wouldBlock
  · subst hr
    refine .inr ⟨k, fun τ' d' hs => ?_⟩
    have e : (on w τ' d').os = w.os := rfl
    unfold World.sys
    rw [e, h τ' d' hs]
  · refine .inl ⟨k, r, os, hr, fun τ' d' hs => ?_⟩
    have e : (on w τ' d').os = w.os := rfl
    unfold World.sys
    rw [e, h τ' d' hs]
    cases r <;> first | rfl | exact absurd rfl hr

/-- THE STEP OF A TREE LOOKS AT THE TAPE BY ITS ANSWERS ALONE: k are looked at, c are used; fewer used only where the run ends. -/
theorem local_runT {α : Type} (P : Program) (s : Sem α) (hq : Still P s) : ∀ (w : World) (τ : Tape) (d : Nat) (es : Array Event),
    ∃ k c r es', c ≤ k ∧ (c < k → ∃ u w', Dead u ∧ r = .halt (.unsupported u) w') ∧ ∀ (τ' : Tape) (d' : Nat), Same τ τ' d d' k →
      s.runT P (on w τ' d') es = (onR r τ' (d' + c), es') := by
  induction s with
  | pure a => exact fun w τ d es => ⟨0, 0, .ok a w, es, by omega, by omega, fun τ' d' _ => rfl⟩
  | load m a k ih =>
    intro w τ d es
    simp only [Sem.runT]
    have e0 : ∀ τ d, (on w τ d).cell? a = w.cell? a := fun _ _ => rfl
    have f0 : ∀ τ d, (on w τ d).farLoad P a (m == .atomic) = w.farLoad P a (m == .atomic) := fun _ _ => rfl
    simp only [e0, f0]
    cases hc : w.cell? a with
    | some v => exact ih v (hq v) w τ d _
    | none =>
      cases hf : w.farLoad P a (m == .atomic) with
      | ok r => exact ih r.1 (hq r.1) w τ d _
      | error h => exact ⟨0, 0, .halt h w, es, by omega, by omega, fun τ' d' _ => rfl⟩
  | store m a v k ih =>
    intro w τ d es
    by_cases hv : ∃ x, v = .agg x ∨ v = .tuple x
    · obtain ⟨x, rfl | rfl⟩ := hv
      · exact ⟨0, 0, .halt _ w, es, by omega, by omega, fun τ' d' _ => rfl⟩
      · exact ⟨0, 0, .halt _ w, es, by omega, by omega, fun τ' d' _ => rfl⟩
    · have er : ∀ (u : World), (Sem.store m a v k).runT P u es = (match u.cell? a with
          | some _ =>
            if u.frozen? a then (.halt (.unsupported (.unsafePointer "a write to bytes that a string shares")) u, es)
            else k.runT P (u.setCell a v) (es.push ⟨.cell a, true, m == .atomic⟩)
          | none => match u.farStore P a v (m == .atomic) with
            | .ok (u, touched) => k.runT P u (es ++ touched.toArray.map (⟨.cell ·, true, m == .atomic⟩))
            | .error h => (.halt h u, es)) := by
        intro u
        cases v <;> first | rfl | exact absurd ⟨_, .inl rfl⟩ hv | exact absurd ⟨_, .inr rfl⟩ hv
      simp only [er]
      have e0 : ∀ τ d, (on w τ d).cell? a = w.cell? a := fun _ _ => rfl
      have e1 : ∀ τ d, (on w τ d).frozen? a = w.frozen? a := fun _ _ => rfl
      have e2 : ∀ τ d, (on w τ d).setCell a v = on (w.setCell a v) τ d := fun _ _ => rfl
      simp only [e0, e1, e2, farStore_on]
      cases hc : w.cell? a with
      | some _ =>
        dsimp only
        by_cases hfr : w.frozen? a = true
        · simp only [hfr, if_true]
          exact ⟨0, 0, .halt _ w, es, by omega, by omega, fun τ' d' _ => rfl⟩
        · simp only [if_neg hfr]
          exact ih hq _ τ d _
      | none =>
        cases hf : w.farStore P a v (m == .atomic) with
        | ok r => exact ih hq r.1 τ d _
        | error h => exact ⟨0, 0, .halt h w, es, by omega, by omega, fun τ' d' _ => rfl⟩
  | new o k ih => exact fun w τ d es => ih w.heap.size (hq _) { w with heap := w.heap.push o } τ d es
  | shape r k ih => exact fun w τ d es => ih (w.shape? r) (hq _) w τ d es
  | freeze a n k ih =>
    intro w τ d es
    have e : ∀ τ d, (on w τ d).freeze a n = on (w.freeze a n) τ d := by
      intro τ d; unfold World.freeze; split <;> rfl
    simp only [Sem.runT, e]
    exact ih hq (w.freeze a n) τ d es
  | frozen a k ih => exact fun w τ d es => ih (w.frozen? a) (hq _) w τ d es
  | getObj r k ih =>
    intro w τ d es
    simp only [Sem.runT]
    have e0 : ∀ τ d, (on w τ d).heap = w.heap := fun _ _ => rfl
    simp only [e0]
    cases h : w.heap[r]? with
    | none => exact ⟨0, 0, .halt _ w, es, by omega, by omega, fun τ' d' _ => rfl⟩
    | some o =>
      cases o with
      | cells a b c => exact ⟨0, 0, .halt _ w, es, by omega, by omega, fun τ' d' _ => rfl⟩
      | _ => exact ih _ (hq _) w τ d _
  | setObj r o k ih =>
    intro w τ d es
    simp only [Sem.runT]
    have e0 : ∀ τ d, (on w τ d).heap = w.heap := fun _ _ => rfl
    simp only [e0]
    cases h : w.heap[r]? with
    | none => exact ⟨0, 0, .halt _ w, es, by omega, by omega, fun τ' d' _ => rfl⟩
    | some o' =>
      cases o' with
      | cells a b c => exact ⟨0, 0, .halt _ w, es, by omega, by omega, fun τ' d' _ => rfl⟩
      | _ => exact ih hq { w with heap := w.heap.setIfInBounds r o } τ d _
  | choose q k ih =>
    intro w τ d es
    simp only [Sem.runT]
    by_cases hf : q.forced = true
    · simp only [hf, if_true]
      exact ih 0 (hq 0) w τ d es
    · simp only [if_neg hf]
      obtain ⟨n, c, r, es', hc, hl, hn⟩ := ih (q.cut (τ d q)) (hq _) w τ (d + 1) es
      refine ⟨1 + n, 1 + c, r, es', by omega, fun h => hl (by omega), fun τ' d' hs => ?_⟩
      have h0 : τ d q = τ' d' q := hs 0 (by omega) q
      have := hn τ' (d' + 1) hs.tail
      rw [show d' + (1 + c) = d' + 1 + c by omega]
      simpa only [on, h0] using this
  | sys c k ih =>
    intro w τ d es
    simp only [Sem.runT]
    rcases hq with ⟨rfl, hk⟩ | ⟨hk, u, hu, hb⟩
    · simp only [sysEnv]
      exact ih _ (hk _) _ τ d _
    · rcases local_sys c w τ d with ⟨j, r, os, hr, h⟩ | ⟨j, h⟩
      · obtain ⟨n, c', r', es', hc, hl, hn⟩ := ih r (hk r hr) { w with os := os } τ (d + j) (es.push ⟨.output, true, false⟩)
        refine ⟨j + n, j + c', r', es', by omega, fun h => hl (by omega), fun τ' d' hs => ?_⟩
        rw [h τ' d' (hs.le (by omega))]
        rw [show d' + (j + c') = d' + j + c' by omega]
        exact hn τ' (d' + j) hs.tail
      · refine ⟨j, 0, .halt (.unsupported u) w, es.push ⟨.output, true, false⟩, by omega, fun _ => ⟨u, w, hu, rfl⟩, fun τ' d' hs => ?_⟩
        rw [h τ' d' hs, hb]
        rfl
  | program k ih => exact fun w τ d es => ih P hq w τ d es
  | mark m k ih => exact fun w τ d es => ih hq w τ d _
  | halt h => exact fun w τ d es => ⟨0, 0, .halt h w, es, by omega, by omega, fun τ' d' _ => rfl⟩

end Go.Lift

namespace Go.Lift

def onG (s : GStep) (τ : Tape) (d : Nat) : GStep :=
  match s with
  | .go g w es => .go g (on w τ d) es
  | .comm g a b c w es => .comm g a b c (on w τ d) es
  | .spawn g c w es => .spawn g c (on w τ d) es
  | .count g w es => .count g (on w τ d) es
  | .timer g op w es => .timer g op (on w τ d) es
  | .alone g b w es => .alone g b (on w τ d) es
  | .newcoro g c e w es => .newcoro g c e (on w τ d) es
  | .coroswitch g c e w es => .coroswitch g c e (on w τ d) es
  | .collect g w es => .collect g (on w τ d) es
  | .watch g w es => .watch g (on w τ d) es
  | .ended o w es => .ended o (on w τ d) es

/-- The run's end otherwise than by a return. -/
def Bad (s : GStep) : Prop := ∃ o w es, s = .ended o w es ∧ ∀ v, o ≠ .done v

/-- What is done looks at the tape by its answers alone. -/
def LocalAt (F : World → GStep) (w : World) : Prop :=
  ∀ (τ : Tape) (d : Nat), ∃ k, (∀ (τ' : Tape) (d' : Nat), Same τ τ' d d' k → Bad (F (on w τ' d'))) ∨ ∃ s, ∀ (τ' : Tape) (d' : Nat), Same τ τ' d d' k → F (on w τ' d') = onG s τ' (d' + k)
def LocalG (F : World → GStep) : Prop := ∀ w, LocalAt F w

theorem onG_after (es : Array Event) (s : GStep) (τ : Tape) (d : Nat) : onG (GStep.after es s) τ d = GStep.after es (onG s τ d) := by cases s <;> rfl
theorem Bad.after {es : Array Event} {s : GStep} (h : Bad s) : Bad (GStep.after es s) := by
  obtain ⟨o, w, es', rfl, h⟩ := h
  exact ⟨o, w, _, rfl, h⟩

theorem LocalG.of (F : World → GStep) (h : ∀ w τ d, F (on w τ d) = onG (F w) τ d) : LocalG F := fun w τ d => ⟨0, .inr ⟨F w, fun τ' d' _ => h w τ' d'⟩⟩
theorem LocalG.go (g : Goroutine) (es : Array Event := #[]) : LocalG fun w => .go g w es := .of _ fun _ _ _ => rfl
theorem LocalG.ended (o : Outcome) (es : Array Event := #[]) : LocalG fun w => .ended o w es := .of _ fun _ _ _ => rfl
theorem LocalG.after {F : World → GStep} (es : Array Event) (h : LocalG F) : LocalG fun w => GStep.after es (F w) := by
  intro w τ d
  obtain ⟨k, hb | ⟨s, hn⟩⟩ := h w τ d
  · exact ⟨k, .inl fun τ' d' hs => (hb τ' d' hs).after⟩
  · exact ⟨k, .inr ⟨GStep.after es s, fun τ' d' hs => by dsimp only; rw [hn τ' d' hs, onG_after]⟩⟩

theorem LocalG.runR' {α : Type} {P : Program} {s : Sem α} {es0 : Array Event} {F : World → GStep} (hs : Still P s)
    (hr : ∀ r es, (∃ G, (∀ w u : World, s.runT P w es0 = ((match (r : α ⊕ Halt) with | .inl a => .ok a u | .inr h => .halt h u), es) → F w = G u) ∧ LocalG G) ∨
      (∀ w u : World, s.runT P w es0 = ((match (r : α ⊕ Halt) with | .inl a => .ok a u | .inr h => .halt h u), es) → Bad (F w)))
    (hd : ∀ u es, Dead u → ∀ w x, s.runT P w es0 = (.halt (.unsupported u) x, es) → Bad (F w)) : LocalG F := by
  intro w τ d
  obtain ⟨k, c, r, es', hc, hl, hn⟩ := local_runT P s hs w τ d es0
  by_cases hlt : c < k
  · obtain ⟨u, w', hu, rfl⟩ := hl hlt
    exact ⟨k, .inl fun τ' d' h => hd u es' hu _ _ (hn τ' d' h)⟩
  · obtain rfl : c = k := by omega
    have key : ∃ (x : α ⊕ Halt) (w' : World), ∀ τ' d', onR r τ' d' = (match x with | .inl a => .ok a (on w' τ' d') | .inr h => .halt h (on w' τ' d')) := by
      cases r with
      | ok a w' => exact ⟨.inl a, w', fun _ _ => rfl⟩
      | halt h w' => exact ⟨.inr h, w', fun _ _ => rfl⟩
    obtain ⟨x, w', hx⟩ := key
    rcases hr x es' with ⟨G, hG, hL⟩ | hB
    · obtain ⟨k2, hb | ⟨s2, hn2⟩⟩ := hL w' τ (d + c)
      · refine ⟨c + k2, .inl fun τ' d' h => ?_⟩
        rw [hG _ (on w' τ' (d' + c)) (by rw [hn τ' d' (h.le (by omega)), hx])]
        exact hb τ' (d' + c) h.tail
      · refine ⟨c + k2, .inr ⟨s2, fun τ' d' h => ?_⟩⟩
        rw [hG _ (on w' τ' (d' + c)) (by rw [hn τ' d' (h.le (by omega)), hx]), show d' + (c + k2) = d' + c + k2 by omega]
        exact hn2 τ' (d' + c) h.tail
    · exact ⟨c, .inl fun τ' d' h => hB _ (on w' τ' (d' + c)) (by rw [hn τ' d' h, hx])⟩

theorem LocalG.runR {α : Type} {P : Program} {s : Sem α} {es0 : Array Event} {F : World → GStep} (hs : Still P s)
    (hok : ∀ a es, ∃ G, (∀ w u, s.runT P w es0 = (.ok a u, es) → F w = G u) ∧ LocalG G)
    (hh : ∀ h es, ∃ G, (∀ w u, s.runT P w es0 = (.halt h u, es) → F w = G u) ∧ LocalG G)
    (hd : ∀ u es, Dead u → ∃ o es', (∀ v, o ≠ .done v) ∧ ∀ w x, s.runT P w es0 = (.halt (.unsupported u) x, es) → F w = .ended o x es') : LocalG F := by
  refine LocalG.runR' (es0 := es0) hs (fun r es => .inl ?_) fun u es hu w x h => ?_
  · cases r with
    | inl a => exact hok a es
    | inr a => exact hh a es
  · obtain ⟨o, es', ho, he⟩ := hd u es hu
    exact ⟨o, x, es', he w x h, ho⟩

theorem LocalG.congr {F G : World → GStep} (h : LocalG F) (e : ∀ w, F w = G w) : LocalG G := by
  have : F = G := funext e
  exact this ▸ h

theorem LocalG.ite {c : Prop} [Decidable c] {F G : World → GStep} (hF : LocalG F) (hG : LocalG G) : LocalG fun u => if c then F u else G u := by
  by_cases h : c
  · exact hF.congr fun w => by simp [h]
  · exact hG.congr fun w => by simp [h]

variable {P : Program}

theorem local_notYet (fr : Frame) (callers : List Frame) (dying : Option Dying) (g : Nat) : LocalG fun w => (match w.heap[g]? with
    | some (.pending c elem) =>
      GStep.go { frame := fr, callers, status := .running, dying } { w with heap := w.heap.setIfInBounds g (.cells c elem) }
    | _ => .ended (.stuck "early: the variable does not wait" (fr.pos P)) w) := by
  refine .of _ fun w τ d => ?_
  have e : (on w τ d).heap = w.heap := rfl
  rw [e]
  split <;> rfl

theorem found_on (w : World) (τ : Tape) (d : Nat) : ∀ n f, P.found (on w τ d) n f = P.found w n f := by
  intro n
  induction n with
  | zero => exact fun f => rfl
  | succ n ih =>
    intro f
    have e1 : ∀ r, (on w τ d).shape? r = w.shape? r := fun _ => rfl
    have e2 : (on w τ d).heap = w.heap := rfl
    have e3 : (on w τ d).shape? = w.shape? := rfl
    simp only [Program.found, e1, e2, e3, ih]

theorem brought_on (w : World) (τ : Tape) (d : Nat) : ∀ n l s, P.brought (on w τ d) n l s = P.brought w n l s := by
  intro n
  induction n with
  | zero => exact fun l s => rfl
  | succ n ih =>
    intro l s
    have e2 : (on w τ d).heap = w.heap := rfl
    cases l with
    | nil => rfl
    | cons f l => simp only [Program.brought, e2, ih]

theorem LocalAt.of {F : World → GStep} {w : World} (s : GStep) (h : ∀ τ d, F (on w τ d) = onG s τ d) : LocalAt F w := fun τ d => ⟨0, .inr ⟨s, fun τ' d' _ => h τ' d'⟩⟩
theorem LocalAt.congr {F G : World → GStep} {w : World} (h : LocalAt F w) (e : ∀ τ d, G (on w τ d) = F (on w τ d)) : LocalAt G w := fun τ d => by
  obtain ⟨k, hb | ⟨s, hn⟩⟩ := h τ d
  · exact ⟨k, .inl fun τ' d' hs => by rw [e]; exact hb τ' d' hs⟩
  · exact ⟨k, .inr ⟨s, fun τ' d' hs => by rw [e]; exact hn τ' d' hs⟩⟩

theorem local_early (fr : Frame) (callers : List Frame) (dying : Option Dying) (g : Nat) : LocalG (early P fr callers dying g) := by
  intro w
  show LocalAt _ w
  have ny := local_notYet (P := P) fr callers dying g w
  have e1 : ∀ τ d, (on w τ d).shape? = w.shape? := fun _ _ => rfl
  by_cases h1 : (!P.follows .staticDataAhead) = true
  · refine LocalAt.congr ny fun τ d => ?_
    unfold early
    simp only [h1, if_true]
    rfl
  have h1' := Bool.eq_false_iff.2 h1
  cases hf : P.stepOf g with
  | none =>
    refine .of (.ended (.unsupported (.initOrder g) (fr.pos P)) w) fun τ d => ?_
    unfold early
    simp only [h1', hf]
    rfl
  | some f =>
    by_cases h2 : (P.code? f).any P.atRunTime = true
    · refine LocalAt.congr ny fun τ d => ?_
      unfold early
      simp only [h1', hf, h2, if_true, Bool.false_eq_true, if_false]
      rfl
    have h2' := Bool.eq_false_iff.2 h2
    by_cases h3 : (((P.code? f).bind fun c => (readies c).getLast?).bind w.shape?).isSome = true
    · refine LocalAt.congr ny fun τ d => ?_
      unfold early
      simp only [h1', hf, h2', h3, e1, if_true, Bool.false_eq_true, if_false]
      rfl
    have h3' := Bool.eq_false_iff.2 h3
    cases hk : (fr.kind == .early) <;> cases hfd : P.found w P.funcs.size f
    case false.notYet =>
      refine LocalAt.congr ny fun τ d => ?_
      unfold early
      simp only [h1', hf, h2', h3', e1, hk, hfd, found_on, Bool.false_eq_true, if_false]
      rfl
    case true.either =>
      refine .of (early P fr callers dying g w) fun τ d => ?_
      unfold early
      simp only [h1', hf, h2', h3', e1, hk, hfd, found_on, brought_on, Bool.false_eq_true, if_false]
      rfl
    case false.either =>
      by_cases h4 : (P.code? f).any P.plainData = true
      · refine .of (early P fr callers dying g w) fun τ d => ?_
        unfold early
        simp only [h1', hf, h2', h3', e1, hk, hfd, h4, found_on, brought_on, Bool.false_eq_true, if_false]
        rfl
      have h4' := Bool.eq_false_iff.2 h4
      by_cases h5 : (!(P.code? f).any P.bareCopy) = true
      · refine LocalAt.congr ny fun τ d => ?_
        unfold early
        simp only [h1', hf, h2', h3', e1, hk, hfd, h4', h5, found_on, if_true, Bool.false_eq_true, if_false]
        rfl
      have h5' := Bool.eq_false_iff.2 h5
      intro τ d
      refine ⟨1, .inr ⟨early P fr callers dying g (on w τ d), fun τ' d' hs => ?_⟩⟩
      have h0 : τ d (.early g) = τ' d' (.early g) := hs 0 (by omega) _
      have eh : ∀ τ d, (on w τ d).heap = w.heap := fun _ _ => rfl
      unfold early
      simp only [h1', hf, h2', h3', e1, hk, hfd, h4', h5', found_on, Bool.false_eq_true, if_false]
      simp only [choose, Sem.run, Question.forced, Question.cut, Bool.false_eq_true, if_false]
      have ea : (on w τ d).tape (on w τ d).drawn (.early g) = (on w τ' d').tape (on w τ' d').drawn (.early g) := h0
      rw [ea]
      generalize (on w τ' d').tape (on w τ' d').drawn (.early g) % 2 = a
      cases a with
      | zero =>
        simp only [eh]
        cases w.heap[g]? with
        | none => rfl
        | some o => cases o <;> rfl
      | succ a => rfl
    all_goals
      refine .of (.ended (.unsupported (.initOrder g) (fr.pos P)) w) fun τ d => ?_
      unfold early
      simp only [h1', hf, h2', h3', e1, hk, hfd, found_on, Bool.false_eq_true, if_false]
      rfl

theorem local_dieOf (fr : Frame) (ahead : List ByteArray) (m : String) (whole : Bool) : LocalG (dieOf fr ahead m whole) := .of _ fun _ _ _ => rfl
theorem local_endThrow (fr : Frame) (m : String) : LocalG (endThrow fr m) := .of _ fun _ _ _ => rfl
theorem local_endPrinting (fr : Frame) (v : Value) : LocalG (endPrinting P fr v) := by
  refine .of _ fun w τ d => ?_
  unfold endPrinting
  dsimp only
  split <;> rfl

theorem still_withAddress (b : ByteArray) : Still P (withAddress b) := Still.bind (fun _ => trivial) fun _ => trivial

theorem Still.mapL {α β : Type} {f : α → Sem β} (h : ∀ a, Still P (f a)) (l : List α) : Still P (l.mapM f) := by
  induction l with
  | nil => exact trivial
  | cons a l ih =>
    have := semLawful
    rw [List.mapM_cons]
    exact Still.bind (h a) fun _ => Still.bind ih fun _ => trivial

theorem still_reportChain (chain : List PanicEntry) : ∀ b, Still P (reportChain chain b) := by
  induction chain with
  | nil => exact fun b => trivial
  | cons e older ih =>
    intro b
    unfold reportChain
    extract_lets -underBinder jp
    have hj : ∀ y, Still P (jp y) := by
      intro y
      unfold jp
      exact Still.bind (ih _) fun _ => trivial
    clear_value jp
    split
    · split
      · trivial
      · exact ih _
    · split
      · split
        · refine Still.bind ?_ fun _ => hj _
          split <;> trivial
        · refine Still.bind trivial fun p => ?_
          split
          · exact hj _
          · exact Still.bind (fun _ => trivial) fun _ => hj _
      · exact hj _

theorem local_endFatal (fr : Frame) (callers : List Frame) (dying : Option Dying) (m : String) : LocalG (endFatal P fr callers dying m) := by
  have key : ∃ s : Sem (List (ByteArray × String) × List ByteArray), Still P s ∧ ∀ w, endFatal P fr callers dying m w = (match (s.runT P w #[]).1 with
      | .ok (texts, tabs) w => dieOf fr (panicPieces texts ++ tabs) m true w
      | .halt (.unsupported u) w => .ended (.unsupported u "") w
      | .halt _ w => .ended (.stuck "the report of a panic" "") w) := by
    unfold endFatal
    refine ⟨_, ?_, fun w => by simp only [Sem.runT_eq]; rfl⟩
    have hraw : ∀ l : List (Value × String), Still P (l.mapM fun (x : Value × String) => match panicText P true x.1 with
        | .text s => (pure (s, x.2) : Sem (ByteArray × String))
        | .address s => do pure (← withAddress s, x.2)
        | _ => unsupported (.noEntry "a fatal error during a panic whose value the report cannot show")) := by
      refine Still.mapL fun x => ?_
      split
      · trivial
      · exact Still.bind (still_withAddress _) fun _ => trivial
      · trivial
    split
    · trivial
    · refine Still.bind (still_reportChain _ _) fun l => Still.bind (hraw l) fun _ => trivial
    · exact Still.bind (hraw _) fun _ => trivial
    · trivial
  obtain ⟨s, hs, he⟩ := key
  refine LocalG.runR (s := s) (es0 := #[]) hs ?_ ?_ ?_
  · intro a es
    refine ⟨_, fun w u h => by rw [he, h], local_dieOf _ _ _ _⟩
  · intro a es
    cases a
    all_goals exact ⟨_, fun w u h => by rw [he, h], .of _ fun _ _ _ => rfl⟩
  · intro u es hu
    refine ⟨_, _, ?_, fun w x h => by rw [he, h]⟩
    intro v hv; cases hv

theorem local_doReturn (main : Bool) (fr : Frame) (callers : List Frame) (dying : Option Dying) (v : Value) : LocalG (doReturn P main fr callers dying v) := by
  refine .of _ fun w τ d => ?_
  unfold doReturn
  cases callers with
  | cons c rest =>
    dsimp only
    cases fr.kind <;> rfl
  | nil =>
    dsimp only
    split
    · rfl
    · rfl
    · split
      · rfl
      · split <;> rfl

theorem local_apply (fr : Frame) (callers : List Frame) (dying : Option Dying) {s : Sem Next} (hs : Fit P s) : LocalG (stepG.apply P true fr callers dying s) := by
  refine LocalG.runR (s := s) (es0 := #[]) hs.still ?_ ?_ ?_
  · intro a es
    cases a
    all_goals refine ⟨_, fun w u h => by unfold stepG.apply; simp only [h, if_true]; rfl, LocalG.after _ ?_⟩
    all_goals first
      | exact .of _ fun _ _ _ => rfl
      | (generalize fr.todo = td
         rcases td with _ | ⟨it, k⟩
         · exact .of _ fun _ _ _ => rfl
         · cases it <;> exact .of _ fun _ _ _ => rfl)
      | (refine .ite ?_ ?_
         · exact local_endThrow _ _
         · exact .of _ fun _ _ _ => rfl)
      | (cases fr.roundOf with
         | none =>
           dsimp only
           generalize tryRecover fr callers = x
           rcases x with _ | ⟨v, c⟩ <;> exact .of _ fun _ _ _ => rfl
         | some l =>
           dsimp only
           generalize (if P.follows Departure.rangeFuncRecover = true then tryRecover fr callers else tryRecoverLoop l callers) = x
           rcases x with _ | ⟨v, c⟩ <;> exact .of _ fun _ _ _ => rfl)
  · intro a es
    cases a
    case unsupported x =>
      cases x
      all_goals refine ⟨_, fun w u h => by unfold stepG.apply; simp only [h, if_true]; rfl, LocalG.after _ ?_⟩
      all_goals first
        | exact .of _ fun _ _ _ => rfl
        | exact local_early _ _ _ _
    all_goals refine ⟨_, fun w u h => by unfold stepG.apply; simp only [h, if_true]; rfl, LocalG.after _ ?_⟩
    all_goals first
      | exact .of _ fun _ _ _ => rfl
      | exact local_endFatal _ _ _ _
      | exact local_endThrow _ _
  · intro u es hu
    cases u
    case initOrder g => exact absurd rfl (hu g)
    all_goals refine ⟨_, _, ?_, fun w x h => by unfold stepG.apply; simp only [h, if_true]; rfl⟩
    all_goals intro v hv; cases hv

theorem local_callDeferred (hP : Plain P) (fr : Frame) (callers : List Frame) (dying : Option Dying) (d : Deferred) : LocalG (callDeferred P fr callers dying d) := by
  by_cases h0 : ((d.target matches .nil) && (fr.mode matches .panicking _)) = true
  · refine (LocalG.ended (.unsupported (.noEntry "machine/Return: a deferred call of a nil function value, made while the frame is unwinding") (fr.pos P)) #[]).congr fun w => ?_
    unfold callDeferred
    exact (if_pos h0).symm
  refine LocalG.runR (s := invoke d.target d.args) (es0 := #[]) (fit_invoke hP _ _).still ?_ ?_ ?_
  · intro a es
    cases a
    case coroswitch c b =>
      cases b
      all_goals refine ⟨_, fun w u h => by unfold callDeferred; refine (if_neg h0).trans ?_; simp only [h]; rfl, LocalG.after _ ?_⟩
      all_goals exact .of _ fun _ _ _ => rfl
    all_goals try (rename_i on v; cases on <;> refine ⟨_, fun w u h => by unfold callDeferred; refine (if_neg h0).trans ?_; simp only [h]; rfl, LocalG.after _ ?_⟩ <;> exact .of _ fun _ _ _ => rfl)
    all_goals refine ⟨_, fun w u h => by unfold callDeferred; refine (if_neg h0).trans ?_; simp only [h]; rfl, LocalG.after _ ?_⟩
    all_goals first
      | exact .of _ fun _ _ _ => rfl
      | (cases fr.mode <;> generalize tryRecover fr callers = x <;> rcases x with _ | ⟨v, c⟩ <;> exact .of _ fun _ _ _ => rfl)
  · intro a es
    cases a
    all_goals refine ⟨_, fun w u h => by unfold callDeferred; refine (if_neg h0).trans ?_; simp only [h]; rfl, LocalG.after _ ?_⟩
    all_goals first
      | exact .of _ fun _ _ _ => rfl
      | exact local_endFatal _ _ _ _
      | exact local_endThrow _ _
  · intro u es hu
    refine ⟨_, _, ?_, fun w x h => by unfold callDeferred; refine (if_neg h0).trans ?_; simp only [h]; rfl⟩
    intro v hv; cases hv

theorem to_results (fn : Func) (tmps : Array Value) : To P Any (results fn tmps) := by
  unfold results
  refine To.seq (To.mapA (fun r => ?_) _) fun _ => trivial
  split
  · trivial
  · exact To.seq (by simp) fun _ => by simp

theorem local_unwind (hP : Plain P) (main : Bool) (fr : Frame) (callers : List Frame) (dying : Option Dying) : LocalG (unwind P main fr callers dying) := by
  cases hd : fr.defers with
  | cons d ds =>
    rcases d with ⟨t, args⟩
    cases t
    case collected block =>
      refine LocalG.runR (P := P) (s := Instr.takeDeferred block) (es0 := #[]) (to_Instr_takeDeferred block).still ?_ ?_ ?_
      · intro a es
        exact ⟨_, fun w u h => by unfold unwind; simp only [hd, h]; rfl, LocalG.after _ (.of _ fun _ _ _ => rfl)⟩
      · intro a es
        exact ⟨_, fun w u h => by unfold unwind; simp only [hd, h]; rfl, LocalG.after _ (.of _ fun _ _ _ => rfl)⟩
      · intro u es hu
        refine ⟨_, _, ?_, fun w x h => by unfold unwind; simp only [hd, h]; rfl⟩
        intro v hv; cases hv
    all_goals exact (local_callDeferred hP { fr with defers := ds } callers dying _).congr fun w => by unfold unwind; simp only [hd]; rfl
  | nil =>
    cases hm : fr.mode with
    | run => exact (LocalG.ended (.stuck "unwind: the frame is running" (fr.pos P)) #[]).congr fun w => by unfold unwind; simp only [hd, hm]
    | panicking chain =>
      by_cases hc : fr.catches P = true
      · exact (LocalG.ended (.unsupported (.noEntry "a panic or Goexit out of a method that fmt calls behind a cut's door") (fr.pos P)) #[]).congr fun w => by unfold unwind; simp only [hd, hm, hc, if_true]
      have hc' := Bool.eq_false_iff.2 hc
      cases callers with
      | cons c rest => exact (LocalG.go _ #[]).congr fun w => by unfold unwind; simp only [hd, hm, hc', Bool.false_eq_true, if_false]; rfl
      | nil =>
        cases dying with
        | none =>
          by_cases hg : chain.head?.any (·.goexit) = true
          · exact (LocalG.go _ #[]).congr fun w => by unfold unwind; simp only [hd, hm, hc', hg, Bool.false_eq_true, if_false, if_true]; rfl
          have hg' := Bool.eq_false_iff.2 hg
          refine LocalG.runR (P := P) (s := reportChain chain false) (es0 := #[]) (still_reportChain _ _) ?_ ?_ ?_
          · intro a es
            exact ⟨_, fun w u h => by
              rw [Sem.runT_eq] at h
              unfold unwind; simp only [hd, hm, hc', hg', Bool.false_eq_true, if_false, (Prod.mk.inj h).1]; rfl, .of _ fun _ _ _ => rfl⟩
          · intro a es
            cases a
            all_goals exact ⟨_, fun w u h => by
              rw [Sem.runT_eq] at h
              unfold unwind; simp only [hd, hm, hc', hg', Bool.false_eq_true, if_false, (Prod.mk.inj h).1]; rfl, .of _ fun _ _ _ => rfl⟩
          · intro u es hu
            refine ⟨_, _, ?_, fun w x h => by
              rw [Sem.runT_eq] at h
              unfold unwind; simp only [hd, hm, hc', hg', Bool.false_eq_true, if_false, (Prod.mk.inj h).1]; rfl⟩
            intro v hv; cases hv
        | some d =>
          rcases chain with _ | ⟨⟨v, r, g⟩, ch⟩
          · exact (LocalG.ended _ #[]).congr fun w => by unfold unwind; simp only [hd, hm, hc', Bool.false_eq_true, if_false]; rfl
          · cases g
            · exact (local_endPrinting (P := P) fr v).congr fun w => by unfold unwind; simp only [hd, hm, hc', Bool.false_eq_true, if_false]
            · exact (LocalG.ended _ #[]).congr fun w => by unfold unwind; simp only [hd, hm, hc', Bool.false_eq_true, if_false]; rfl
    | returning =>
      cases hf : P.funcs[fr.fn]? with
      | none => exact (local_doReturn (P := P) main fr callers dying (fr.tmps.getD 0 undef)).congr fun w => by unfold unwind; simp only [hd, hm, hf]
      | some fn =>
        refine LocalG.runR (P := P) (s := results fn fr.tmps) (es0 := #[]) (to_results _ _).still ?_ ?_ ?_
        · intro a es
          exact ⟨_, fun w u h => by unfold unwind; simp only [hd, hm, hf, h]; rfl, LocalG.after _ (local_doReturn _ _ _ _ _)⟩
        · intro a es
          cases a
          all_goals exact ⟨_, fun w u h => by unfold unwind; simp only [hd, hm, hf, h]; rfl, LocalG.after _ (.of _ fun _ _ _ => rfl)⟩
        · intro u es hu
          refine ⟨_, _, ?_, fun w x h => by unfold unwind; simp only [hd, hm, hf, h]; rfl⟩
          intro v hv; cases hv

theorem still_held : Still P Extern.PrintPieces.held := by
  unfold Extern.PrintPieces.held
  refine Still.bind trivial fun p => Still.bind (fun _ => trivial) fun v => ?_
  split <;> trivial

theorem still_sysWrite {β : Type} (piece : ByteArray) (k : SysRet → Sem β) (h : ∀ r, r ≠ .wouldBlock → Still P (k r)) (hb : ∃ u, Dead u ∧ k .wouldBlock = .halt (.unsupported u)) : Still P (sys (.write 2 piece) >>= k) := .inr ⟨h, hb⟩

theorem local_writeOn (fr : Frame) (d : Dying) (f : Fatal) : LocalG (writeOn P fr d f) := by
  cases hp : f.pieces with
  | nil => exact (LocalG.ended (.fatal f.text) #[]).congr fun w => by unfold writeOn; simp only [hp]
  | cons piece rest =>
    have key : ∃ s : Sem Unit, Still P s ∧ ∀ w, writeOn P fr d f w = (match s.runT P w #[] with
        | (.ok _ w, es) => .go { frame := fr, callers := [], status := .running, dying := some { d with fatal := some { f with pieces := rest, begun := true } } } w es
        | (.halt .blocked w, _) => .go { frame := fr, callers := [], status := .blocked, dying := some { d with fatal := some f } } w #[]
        | (.halt (.unsupported u) w, _) => .ended (.unsupported u "") w
        | (.halt _ w, _) => .ended (.stuck "the report of a fatal error" "") w) := by
      unfold writeOn
      refine ⟨_, ?_, fun w => by simp only [hp]; rfl⟩
      repeat' (first | exact trivial | exact still_held | (refine still_sysWrite _ _ (fun r hr => ?_) ⟨.noEntry "a report that its descriptor cannot take whole", (fun g h => by cases h), rfl⟩; (cases r <;> first | exact trivial | (dsimp only; split <;> exact trivial)); done) | refine Still.bind ?_ (fun _ => ?_) | split)
    obtain ⟨s, hs, he⟩ := key
    refine LocalG.runR (s := s) (es0 := #[]) hs ?_ ?_ ?_
    · intro a es
      exact ⟨_, fun w u h => by rw [he, h], .of _ fun _ _ _ => rfl⟩
    · intro a es
      cases a
      all_goals exact ⟨_, fun w u h => by rw [he, h], .of _ fun _ _ _ => rfl⟩
    · intro u es hu
      refine ⟨_, _, ?_, fun w x h => by rw [he, h]⟩
      intro v hv; cases hv

theorem local_endWith (fd : Nat) (text : ByteArray) (o : Outcome) : LocalG fun w => endWith w fd text o := by
  intro w τ d
  rcases local_sys (.write fd text) w τ d with ⟨k, r, os, hr, h⟩ | ⟨k, h⟩
  · refine ⟨k, .inr ⟨endWith (on w τ d) fd text o, fun τ' d' hs => ?_⟩⟩
    show endWith (on w τ' d') fd text o = _
    unfold endWith
    rw [h τ' d' hs, h τ d (Same.refl _ _ _)]
    cases r
    case int n =>
      dsimp only
      split <;> rfl
    all_goals rfl
  · refine ⟨k, .inl fun τ' d' hs => ?_⟩
    show Bad (endWith (on w τ' d') fd text o)
    unfold endWith
    rw [h τ' d' hs]
    refine ⟨_, _, _, rfl, ?_⟩
    intro v hv; cases hv

theorem local_die (hP : Plain P) (fr : Frame) (d : Dying) : LocalG (die P fr d) := by
  cases hf : d.fatal with
  | some f => exact (local_writeOn (P := P) fr d f).congr fun w => by unfold die; simp only [hf]
  | none =>
    cases ht : d.todo with
    | nil =>
      intro w
      by_cases hl : printLockHeld P w = true
      · refine .of (.go { frame := fr, callers := [], status := .blocked, dying := some d } w) fun τ d' => ?_
        have e : printLockHeld P (on w τ d') = printLockHeld P w := rfl
        unfold die
        simp only [hf, ht, e, hl, if_true]
        rfl
      · refine (local_endWith 2 (panicReport d.texts) (.panic d.runtimeError) w).congr fun τ d' => ?_
        have e : printLockHeld P (on w τ d') = printLockHeld P w := rfl
        unfold die
        simp only [hf, ht, e, Bool.eq_false_iff.2 hl, Bool.false_eq_true, if_false]
    | cons x rest =>
      obtain ⟨v, mark⟩ := x
      cases hp : panicText P false v with
      | text s => exact (LocalG.go _ #[]).congr fun w => by unfold die; simp only [hf, ht, hp]; rfl
      | address s =>
        refine LocalG.runR (P := P) (s := withAddress s) (es0 := #[]) (still_withAddress _) ?_ ?_ ?_
        · intro a es
          exact ⟨_, fun w u h => by
            rw [Sem.runT_eq] at h
            unfold die; simp only [hf, ht, hp, (Prod.mk.inj h).1]; rfl, .of _ fun _ _ _ => rfl⟩
        · intro a es
          exact ⟨_, fun w u h => by
            rw [Sem.runT_eq] at h
            unfold die; simp only [hf, ht, hp, (Prod.mk.inj h).1]; rfl, .of _ fun _ _ _ => rfl⟩
        · intro u es hu
          refine ⟨_, _, ?_, fun w x h => by
            rw [Sem.runT_eq] at h
            unfold die; simp only [hf, ht, hp, (Prod.mk.inj h).1]; rfl⟩
          intro v hv; cases hv
      | call t recv name =>
        have bad : ∀ (w : World) (es : Array Event), Bad (GStep.after (seen P fr.fn es) (.ended (.stuck "report: Error or String returned no string" "") w)) := fun w es => Bad.after ⟨_, _, _, rfl, fun v hv => by cases hv⟩
        refine LocalG.runR' (P := P) (s := invoke (.fn (.method name) #[]) #[.iface t recv]) (es0 := #[]) (fit_invoke hP _ _).still ?_ ?_
        · intro r es
          cases r with
          | inl a =>
            cases a
            case enter f args => exact .inl ⟨_, fun w u h => by unfold die; simp only [hf, ht, hp, h]; rfl, LocalG.after _ (.of _ fun _ _ _ => rfl)⟩
            case value v =>
              cases v
              case string b => exact .inl ⟨_, fun w u h => by unfold die; simp only [hf, ht, hp, h]; rfl, LocalG.after _ (.of _ fun _ _ _ => rfl)⟩
              all_goals exact .inr fun w u h => by unfold die; simp only [hf, ht, hp, h]; exact bad _ _
            all_goals exact .inr fun w u h => by unfold die; simp only [hf, ht, hp, h]; exact bad _ _
          | inr a =>
            cases a
            case panic v => exact .inl ⟨_, fun w u h => by unfold die; simp only [hf, ht, hp, h]; rfl, LocalG.after _ (local_endPrinting (P := P) fr v)⟩
            case unsupported v => exact .inl ⟨_, fun w u h => by unfold die; simp only [hf, ht, hp, h]; rfl, LocalG.after _ (.of _ fun _ _ _ => rfl)⟩
            all_goals exact .inr fun w u h => by unfold die; simp only [hf, ht, hp, h]; exact bad _ _
        · intro u es hu w x h
          unfold die; simp only [hf, ht, hp, h]
          exact Bad.after ⟨_, _, _, rfl, fun v hv => by cases hv⟩
      | no u => exact (LocalG.ended _ #[]).congr fun w => by unfold die; simp only [hf, ht, hp]; rfl

/-- The items that a goroutine of this dump's has: no call or row of the library's but the printing's. -/
def ItemOk : Item → Prop
  | .call .. => False
  | .extern row _ => row = "runtime.print$piece"
  | _ => True

theorem fit_row {row : String} (h : row = "runtime.print$piece") : ∃ e, Extern.next row = some e ∧ ∀ args, Fit P (e args) := by
  subst h
  exact ⟨_, rfl, fun args => .piece args⟩

theorem local_leave (main : Bool) (fr : Frame) (callers : List Frame) (dying : Option Dying) (jump : Option Code) : LocalG fun w => (match fr.roundOf with
      | none => if jump matches none | some .ret then GStep.go { frame := { fr with mode := .returning }, callers, status := .running, dying } w else .ended (.stuck "exit, goto: no such block or label" (fr.pos P)) w
      | some l =>
        match (Instr.endRound l jump).runT P w #[] with
        | (r, es) => GStep.after (seen P fr.fn es) (match r with
          | .ok v w => doReturn P main fr callers dying v w
          | .halt _ w => .ended (.stuck "range over a function: no such loop" (fr.pos P)) w)) := by
  cases hr : fr.roundOf with
  | none => exact LocalG.ite (LocalG.go _ #[]) (LocalG.ended _ #[])
  | some l =>
    refine LocalG.runR (P := P) (s := Instr.endRound l jump) (es0 := #[]) (to_Instr_endRound l jump).still ?_ ?_ ?_
    · intro a es
      exact ⟨_, fun w u h => by simp only [h]; rfl, LocalG.after _ (local_doReturn _ _ _ _ _)⟩
    · intro a es
      exact ⟨_, fun w u h => by simp only [h]; rfl, LocalG.after _ (.of _ fun _ _ _ => rfl)⟩
    · intro u es hu
      refine ⟨_, _, ?_, fun w x h => by simp only [h]; rfl⟩
      intro v hv; cases hv

theorem local_oper (hP : Plain P) (fr : Frame) (callers : List Frame) (dying : Option Dying) : LocalG (stepG.oper P true fr callers dying) := by
  unfold stepG.oper
  cases ho : fr.oper? with
  | none => exact LocalG.ended _ #[]
  | some o =>
    cases hr : fr.roundOf with
    | none => exact local_apply _ _ _ (fit_execOp hP _ _)
    | some l =>
      cases hop : o.op
      case defer c =>
        refine (local_apply fr callers dying (s := do Instr.deferInRound l (← resolve fr.eval c o.type); pure .skip) (.to ?_)).congr fun w => by simp only [hr, hop]; rfl
        exact To.seq (to_resolve _ _ _) fun d => To.seq (to_Instr_deferInRound _ _) fun _ => trivial
      all_goals exact (local_apply fr callers dying (fit_execOp hP fr.eval o)).congr fun w => by simp only [hr, hop]

theorem local_exec (hP : Plain P) (main : Bool) (fr : Frame) (callers : List Frame) (dying : Option Dying) (ht : ∀ it ∈ fr.todo, ItemOk it) : LocalG (stepG.exec P main true fr callers dying) := by
  cases htd : fr.todo with
  | nil => exact (local_leave main fr callers dying none).congr fun w => by unfold stepG.exec; simp only [htd]; rfl
  | cons it k =>
    have hit : ItemOk it := ht it (by rw [htd]; exact List.mem_cons_self ..)
    cases it with
    | code c =>
      cases c with
      | ret => exact (local_leave main fr callers dying (some .ret)).congr fun w => by unfold stepG.exec; simp only [htd]; rfl
      | cond c a b =>
        cases hc : fr.eval c
        case bool t => exact (LocalG.go _ #[]).congr fun w => by unfold stepG.exec; simp only [htd, hc]; rfl
        all_goals exact (LocalG.ended _ #[]).congr fun w => by unfold stepG.exec; simp only [htd, hc]; rfl
      | exit id =>
        cases he : exitTo id k with
        | none => exact (local_leave main fr callers dying (some (.exit id))).congr fun w => by unfold stepG.exec; simp only [htd, he]; rfl
        | some k' => exact (LocalG.go _ #[]).congr fun w => by unfold stepG.exec; simp only [htd, he]; rfl
      | goto l =>
        cases he : gotoIn l k with
        | none => exact (local_leave main fr callers dying (some (.goto l))).congr fun w => by unfold stepG.exec; simp only [htd, he]; rfl
        | some k' => exact (LocalG.go _ #[]).congr fun w => by unfold stepG.exec; simp only [htd, he]; rfl
      | rangeFunc f params assign body =>
        refine LocalG.runR (P := P) (s := Instr.enterLoop fr.fn fr.tmps params assign body fr.roundOf) (es0 := #[]) (to_Instr_enterLoop _ _ _ _ _ _).still ?_ ?_ ?_
        · intro a es
          obtain ⟨l, mark⟩ := a
          exact ⟨_, fun w u h => by unfold stepG.exec; simp only [htd, h]; rfl, LocalG.after _ (local_apply _ _ _ (.bind _ _ (to_resolve _ _ _) fun d => fit_invoke hP _ _))⟩
        · intro a es
          exact ⟨_, fun w u h => by unfold stepG.exec; simp only [htd, h]; rfl, LocalG.after _ (.of _ fun _ _ _ => rfl)⟩
        · intro u es hu
          refine ⟨_, _, ?_, fun w x h => by unfold stepG.exec; simp only [htd, h]; rfl⟩
          intro v hv; cases hv
      | region id ops draw =>
        cases draw with
        | false => exact (LocalG.go _ #[]).congr fun w => by unfold stepG.exec; simp only [htd]; rfl
        | true =>
          refine LocalG.runR (P := P) (s := choose (.order fr.fn id)) (es0 := #[]) (fun _ => trivial) ?_ ?_ ?_
          · intro a es
            exact ⟨_, fun w u h => by
              rw [Sem.runT_eq] at h
              unfold stepG.exec; simp only [htd, (Prod.mk.inj h).1]; rfl, .of _ fun _ _ _ => rfl⟩
          · intro a es
            exact ⟨_, fun w u h => by
              rw [Sem.runT_eq] at h
              unfold stepG.exec; simp only [htd, (Prod.mk.inj h).1]; rfl, .of _ fun _ _ _ => rfl⟩
          · intro u es hu
            refine ⟨_, _, ?_, fun w x h => by
              rw [Sem.runT_eq] at h
              unfold stepG.exec; simp only [htd, (Prod.mk.inj h).1]; rfl⟩
            intro v hv; cases hv
      | refuse why => exact (LocalG.ended _ #[]).congr fun w => by unfold stepG.exec; simp only [htd]; rfl
      | _ => exact (LocalG.go _ #[]).congr fun w => by unfold stepG.exec; simp only [htd]; rfl
    | inRegion ops l =>
      cases l with
      | nil => exact (LocalG.go _ #[]).congr fun w => by unfold stepG.exec; simp only [htd]; rfl
      | cons i l => exact (LocalG.ite (local_oper hP fr callers dying) (LocalG.go _ #[])).congr fun w => by unfold stepG.exec; simp only [htd]; rfl
    | inRangeFunc l => exact (LocalG.ended _ #[]).congr fun w => by unfold stepG.exec; simp only [htd]; rfl
    | endRangeFunc l =>
      refine LocalG.runR (P := P) (s := Instr.endLoop l) (es0 := #[]) (to_Instr_endLoop l).still ?_ ?_ ?_
      · intro a es
        exact ⟨_, fun w u h => by unfold stepG.exec; simp only [htd, h]; rfl, LocalG.after _ (.of _ fun _ _ _ => rfl)⟩
      · intro a es
        cases a
        all_goals exact ⟨_, fun w u h => by unfold stepG.exec; simp only [htd, h]; rfl, LocalG.after _ (.of _ fun _ _ _ => rfl)⟩
      · intro u es hu
        refine ⟨_, _, ?_, fun w x h => by unfold stepG.exec; simp only [htd, h]; rfl⟩
        intro v hv; cases hv
    | beginRound =>
      refine (local_apply fr callers dying (s := do fr.roundOf.elim (stuck "beginRound: no round") Instr.beginRound; pure .skip) (.to ?_)).congr fun w => by unfold stepG.exec; simp only [htd]; rfl
      refine To.seq ?_ fun _ => trivial
      cases fr.roundOf with
      | none => exact to_stuck _
      | some l => exact to_Instr_beginRound l
    | call d wr re sv => exact hit.elim
    | extern row args =>
      obtain ⟨e, he, hf⟩ := fit_row hit
      exact (local_apply fr callers dying (hf args)).congr fun w => by unfold stepG.exec; simp only [htd, he]; rfl
    | _ => exact (LocalG.go _ #[]).congr fun w => by unfold stepG.exec; simp only [htd]; rfl

theorem local_stepG (hP : Plain P) (main : Bool) (g : Goroutine) (ht : ∀ it ∈ g.frame.todo, ItemOk it) : LocalG fun w => stepG P main g w := by
  obtain ⟨fr, callers, status, dying, offers⟩ := g
  cases dying with
  | none =>
    cases hm : fr.mode with
    | run => exact (local_exec hP main fr callers none ht).congr fun w => by unfold stepG; simp only [hm]
    | _ => exact (local_unwind hP main fr callers none).congr fun w => by unfold stepG; simp only [hm]
  | some d =>
    obtain ⟨todo, texts, calling, pending, re, hand, fatal⟩ := d
    cases calling with
    | false => exact (local_die hP fr ⟨todo, texts, false, pending, re, hand, fatal⟩).congr fun w => by unfold stepG; rfl
    | true =>
      cases hm : fr.mode with
      | run => exact (local_exec hP main fr callers (some ⟨todo, texts, true, pending, re, hand, fatal⟩) ht).congr fun w => by unfold stepG; simp only [hm]
      | _ => exact (local_unwind hP main fr callers (some ⟨todo, texts, true, pending, re, hand, fatal⟩)).congr fun w => by unfold stepG; simp only [hm]
end Go.Lift
