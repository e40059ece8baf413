/- A part of the proof that the abstract interpreter is sound, and of the two goroutines of the lexer. -/
import Derived.Test.YticjebnbcnphkaaGreatDoorZLiftE
import Derived.Conc.Beside

set_option linter.unusedSimpArgs false
set_option linter.unusedVariables false
set_option linter.unusedSectionVars false

namespace Go.Lift
variable {P : Program}

/-- What is listed leaves its goroutine as hearing as it was. -/
def Net (es : Array Event) : Prop := ∀ d, deafBehind d es = d
def Synced (es : Array Event) : Prop := ∀ e ∈ es, ∀ m, e.loc = .mark m → e.sync = true
def Calm (es : Array Event) : Prop := ∀ e ∈ es, e.loc ≠ .mark .disable ∧ e.loc ≠ .mark .enable

theorem Calm.net {es : Array Event} (h : Calm es) : Net es := fun d => Conc.deafBehind_still h d
theorem deafBehind_append (d : Nat) (a b : Array Event) : deafBehind d (a ++ b) = deafBehind (deafBehind d a) b := by
  unfold deafBehind; rw [Array.foldl_append]
theorem Net.append {a b : Array Event} (ha : Net a) (hb : Net b) : Net (a ++ b) := fun d => by rw [deafBehind_append, ha, hb]
theorem Synced.append {a b : Array Event} (ha : Synced a) (hb : Synced b) : Synced (a ++ b) := fun e he => (Array.mem_append.1 he).elim (ha e) (hb e)
theorem Calm.append {a b : Array Event} (ha : Calm a) (hb : Calm b) : Calm (a ++ b) := fun e he => (Array.mem_append.1 he).elim (ha e) (hb e)
theorem net_nil : Net #[] := fun _ => rfl
theorem synced_nil : Synced #[] := fun e he => by simp at he

/-- How a halt goes on: the run does not end. -/
def Mild : Halt → Prop
  | .panic _ | .goexit | .fatal _ | .throw _ => True
  | _ => False

structure Adds (es0 es' : Array Event) (C : Array Event → Prop) : Prop where
  ex : ∃ new, es' = es0 ++ new ∧ Synced new ∧ C new

theorem Adds.none (es : Array Event) {C : Array Event → Prop} (h : C #[]) : Adds es es C := ⟨#[], by simp, synced_nil, h⟩
theorem Adds.mono {es0 es' : Array Event} {C C' : Array Event → Prop} (h : Adds es0 es' C) (hc : ∀ n, C n → C' n) : Adds es0 es' C' :=
  let ⟨n, e, s, c⟩ := h.ex; ⟨n, e, s, hc n c⟩
theorem Adds.cons {es0 es1 es' : Array Event} (h1 : Adds es0 es1 Calm) (h2 : Adds es1 es' Calm) : Adds es0 es' Calm := by
  obtain ⟨a, rfl, sa, ca⟩ := h1.ex
  obtain ⟨b, rfl, sb, cb⟩ := h2.ex
  exact ⟨a ++ b, by simp, sa.append sb, ca.append cb⟩
theorem Adds.push {es0 : Array Event} (e : Event) (hs : ∀ m, e.loc = .mark m → e.sync = true) (hc : e.loc ≠ .mark .disable ∧ e.loc ≠ .mark .enable) : Adds es0 (es0.push e) Calm :=
  ⟨#[e], by simp, fun x hx => by simp at hx; subst hx; exact hs, fun x hx => by simp at hx; subst hx; exact hc⟩
theorem Adds.cells {es0 : Array Event} (l : Array Addr) (wr sy : Bool) : Adds es0 (es0 ++ l.map (⟨.cell ·, wr, sy⟩)) Calm :=
  ⟨_, rfl, fun x hx m hm => (by obtain ⟨a, _, rfl⟩ := Array.mem_map.1 hx; cases hm), fun x hx => by obtain ⟨a, _, rfl⟩ := Array.mem_map.1 hx; constructor <;> intro h <;> cases h⟩

/-- What a run of a tree that is 'To' yields and lists. -/
theorem to_runs {α : Type} {Q : α → Prop} (s : Sem α) (h : To P Q s) : ∀ (w : World) (es0 : Array Event),
    (∀ a w', (s.runT P w es0).1 = .ok a w' → Q a) ∧ Adds es0 (s.runT P w es0).2 Calm := by
  have nil0 : ∀ es : Array Event, Adds es es Calm := fun es => Adds.none es (fun e he => by simp at he)
  induction s with
  | pure a => exact fun w es => ⟨fun b w' e => by cases e; exact h, nil0 es⟩
  | load m a k ih =>
    intro w es
    simp only [Sem.runT]
    cases w.cell? a with
    | some v =>
      obtain ⟨h1, h2⟩ := ih v (h v) w (es.push ⟨.cell a, false, m == .atomic⟩)
      exact ⟨h1, Adds.cons (Adds.push _ (fun m hm => by cases hm) (by constructor <;> intro h <;> cases h)) h2⟩
    | none =>
      cases w.farLoad P a (m == .atomic) with
      | ok r =>
        obtain ⟨h1, h2⟩ := ih r.1 (h r.1) w (es ++ r.2.toArray.map (⟨.cell ·, false, m == .atomic⟩))
        exact ⟨h1, Adds.cons (Adds.cells _ _ _) h2⟩
      | error e => exact ⟨fun b w' e => (by cases e), nil0 es⟩
  | store m a v k ih =>
    intro w es
    by_cases hv : ∃ x, v = .agg x ∨ v = .tuple x
    · obtain ⟨x, rfl | rfl⟩ := hv <;> exact ⟨fun b w' e => (by cases e), nil0 es⟩
    · have er : (Sem.store m a v k).runT P w es = (match w.cell? a with
          | some _ =>
            if w.frozen? a then (.halt (.unsupported (.unsafePointer "a write to bytes that a string shares")) w, es)
            else k.runT P (w.setCell a v) (es.push ⟨.cell a, true, m == .atomic⟩)
          | none => match w.farStore P a v (m == .atomic) with
            | .ok (u, touched) => k.runT P u (es ++ touched.toArray.map (⟨.cell ·, true, m == .atomic⟩))
            | .error h => (.halt h w, es)) := by
        cases v
        case agg x => exact absurd ⟨x, .inl rfl⟩ hv
        case tuple x => exact absurd ⟨x, .inr rfl⟩ hv
        all_goals simp only [Sem.runT]
        all_goals rfl
      rw [er]
      cases w.cell? a with
      | some _ =>
        dsimp only
        split
        · exact ⟨fun b w' e => (by cases e), nil0 es⟩
        · obtain ⟨h1, h2⟩ := ih h (w.setCell a v) (es.push ⟨.cell a, true, m == .atomic⟩)
          exact ⟨h1, Adds.cons (Adds.push _ (fun m hm => by cases hm) (by constructor <;> intro h <;> cases h)) h2⟩
      | none =>
        cases w.farStore P a v (m == .atomic) with
        | ok r =>
          obtain ⟨h1, h2⟩ := ih h r.1 (es ++ r.2.toArray.map (⟨.cell ·, true, m == .atomic⟩))
          exact ⟨h1, Adds.cons (Adds.cells _ _ _) h2⟩
        | error e => exact ⟨fun b w' e => (by cases e), nil0 es⟩
  | new o k ih => exact fun w es => ih _ (h _) _ es
  | shape r k ih => exact fun w es => ih _ (h _) w es
  | freeze a n k ih => exact fun w es => ih h _ es
  | frozen a k ih => exact fun w es => ih _ (h _) w es
  | getObj r k ih =>
    intro w es
    simp only [Sem.runT]
    cases w.heap[r]? with
    | none => exact ⟨fun b w' e => (by cases e), nil0 es⟩
    | some o =>
      cases o
      case cells => exact ⟨fun b w' e => (by cases e), nil0 es⟩
      all_goals
        obtain ⟨h1, h2⟩ := ih _ (h _) w _
        exact ⟨h1, Adds.cons (Adds.push _ (fun m hm => by cases hm) (by constructor <;> intro h <;> cases h)) h2⟩
  | setObj r o k ih =>
    intro w es
    simp only [Sem.runT]
    cases w.heap[r]? with
    | none => exact ⟨fun b w' e => (by cases e), nil0 es⟩
    | some o' =>
      cases o'
      case cells => exact ⟨fun b w' e => (by cases e), nil0 es⟩
      all_goals
        obtain ⟨h1, h2⟩ := ih h _ _
        exact ⟨h1, Adds.cons (Adds.push _ (fun m hm => by cases hm) (by constructor <;> intro h <;> cases h)) h2⟩
  | choose q k ih =>
    intro w es
    simp only [Sem.runT]
    split
    · exact ih _ (h _) w es
    · exact ih _ (h _) _ es
  | sys c k ih =>
    intro w es
    simp only [Sem.runT]
    obtain ⟨h1, h2⟩ := ih _ (h.2 _) (w.sys c).2 (es.push ⟨.output, true, false⟩)
    exact ⟨h1, Adds.cons (Adds.push _ (fun m hm => by cases hm) (by constructor <;> intro h <;> cases h)) h2⟩
  | program k ih => exact fun w es => ih P h w es
  | mark m k ih =>
    intro w es
    simp only [Sem.runT]
    obtain ⟨h1, h2⟩ := ih h.2 w (es.push ⟨.mark m, false, true⟩)
    refine ⟨h1, Adds.cons (Adds.push _ (fun _ _ => rfl) ?_) h2⟩
    rcases h.1 with rfl | ⟨f, rfl⟩ <;> constructor <;> intro h <;> cases h
  | halt x => exact fun w es => ⟨fun b w' e => (by cases e), nil0 es⟩

/-- What a run of an operation yields and lists. -/
def Runs (es0 : Array Event) (r : Result Next × Array Event) : Prop :=
  match r.1 with
  | .ok a _ => Fine a ∧ Adds es0 r.2 Net
  | .halt h _ => Mild h → Adds es0 r.2 Net

/-- .. as deep in silence as d. -/
def Deep (P : Program) {β : Type} (C : β → Prop) (d : Nat) (s : Sem β) : Prop := ∀ (w : World) (es0 : Array Event), ∃ new, (s.runT P w es0).2 = es0 ++ new ∧ Synced new ∧
  (match (s.runT P w es0).1 with
    | .ok a _ => C a ∧ ∀ x, deafBehind (x + d) new = x
    | .halt h _ => Mild h → ∀ x, deafBehind (x + d) new = x)

/-- It lists calmly and does not halt mildly. -/
def Plainly (P : Program) {α : Type} (t : Sem α) : Prop := ∀ (w : World) (es0 : Array Event), Adds es0 (t.runT P w es0).2 Calm ∧ ∀ h w', (t.runT P w es0).1 = .halt h w' → ¬ Mild h

theorem Deep.bind {α β : Type} {C : β → Prop} {d : Nat} {t : Sem α} {f : α → Sem β} (ht : Plainly P t) (hf : ∀ a, Deep P C d (f a)) : Deep P C d (t >>= f) := by
  intro w es0
  have e : (t >>= f).runT P w es0 = (match t.runT P w es0 with
      | (.ok a w', es) => (f a).runT P w' es
      | (.halt x w', es) => (.halt x w', es)) := Sem.runT_bind' P t f w es0
  rw [e]
  obtain ⟨⟨a, ha, sa, ca⟩, hh⟩ := ht w es0
  cases hr : t.runT P w es0 with
  | mk r es =>
    rw [hr] at ha hh
    dsimp only at ha
    subst ha
    cases r with
    | ok x w' =>
      dsimp only
      obtain ⟨b, hb, sb, cb⟩ := hf x w' (es0 ++ a)
      refine ⟨a ++ b, by rw [hb]; simp, sa.append sb, ?_⟩
      have k : ∀ y, deafBehind y (a ++ b) = deafBehind y b := fun y => by rw [deafBehind_append, ca.net]
      simp only [k]
      exact cb
    | halt x w' =>
      exact ⟨a, rfl, sa, fun hm => absurd hm (hh x w' rfl)⟩

theorem Deep.mark {β : Type} {C : β → Prop} {d : Nat} {m : Mark} {f : Unit → Sem β} (d' : Nat) (hm : ∀ x, deafBehind (x + d) #[⟨.mark m, false, true⟩] = x + d') (hf : Deep P C d' (f ())) : Deep P C d (Go.mark m >>= f) := by
  intro w es0
  obtain ⟨b, hb, sb, cb⟩ := hf w (es0.push ⟨.mark m, false, true⟩)
  have e : (Go.mark m >>= f).runT P w es0 = (f ()).runT P w (es0.push ⟨.mark m, false, true⟩) := rfl
  rw [e]
  refine ⟨#[⟨.mark m, false, true⟩] ++ b, by rw [hb]; simp, Synced.append (fun x hx => by simp at hx; subst hx; exact fun _ _ => rfl) sb, ?_⟩
  have k : ∀ x, deafBehind (x + d) (#[⟨.mark m, false, true⟩] ++ b) = deafBehind (x + d') b := fun x => by rw [deafBehind_append, hm]
  simp only [k]
  exact cb

theorem Deep.disable {β : Type} {C : β → Prop} {d : Nat} {f : Unit → Sem β} (hf : Deep P C (d + 1) (f ())) : Deep P C d (Go.mark .disable >>= f) := Deep.mark (d + 1) (fun x => rfl) hf
theorem Deep.enable {β : Type} {C : β → Prop} {d : Nat} {f : Unit → Sem β} (hf : Deep P C d (f ())) : Deep P C (d + 1) (Go.mark .enable >>= f) := Deep.mark d (fun x => rfl) hf
theorem Deep.halt {β : Type} {C : β → Prop} {d : Nat} {h : Halt} (hm : ¬ Mild h) : Deep P C d (.halt h) := fun w es0 => ⟨#[], by simp [Sem.runT], synced_nil, fun x => absurd x hm⟩
theorem Deep.haltB {β : Type} {C : β → Prop} {d : Nat} {h : Halt} {α : Type} (f : α → Sem β) (hm : ¬ Mild h) : Deep P C d ((.halt h : Sem α) >>= f) := fun w es0 => ⟨#[], by simp [Bind.bind, Sem.bind, Sem.runT], synced_nil, fun x => absurd x hm⟩
theorem Deep.pure {β : Type} {C : β → Prop} {a : β} (h : C a) : Deep P C 0 (Pure.pure a) := fun w es0 => ⟨#[], by simp [Pure.pure, Sem.runT], synced_nil, h, fun x => rfl⟩

theorem farLoad_mild {w : World} {a : Addr} {b : Bool} {h : Halt} (e : w.farLoad P a b = .error h) : ¬ Mild h := by
  unfold World.farLoad at e
  split at e
  · split at e
    · cases e
    · cases e; exact fun h => h
  · cases e
    unfold World.noCell
    split <;> exact fun h => h
theorem farStore_mild {w : World} {a : Addr} {v : Value} {b : Bool} {h : Halt} (e : w.farStore P a v b = .error h) : ¬ Mild h := by
  unfold World.farStore at e
  split at e
  · split at e
    · cases e
    · cases e; exact fun h => h
  · cases e
    unfold World.noCell
    split <;> exact fun h => h

theorem plainly_held : Plainly P Extern.PrintPieces.held := by
  intro w es0
  have hto : To P Any Extern.PrintPieces.held := by
    unfold Extern.PrintPieces.held
    refine To.seq to_program_any fun p => To.seq (to_load _ _) fun v => ?_
    split <;> trivial
  refine ⟨(to_runs _ hto w es0).2, fun h w' e => ?_⟩
  have e2 : Extern.PrintPieces.held.runT P w es0 = (Sem.load .atomic (printLock P) fun v => (match v with | .bool b => (Pure.pure b : Sem Bool) | _ => stuck "the print lock: a bool expected")).runT P w es0 := by
    rfl
  rw [e2] at e
  simp only [Sem.runT] at e
  cases hc : w.cell? (printLock P) with
  | some v =>
    rw [hc] at e
    cases v <;> (dsimp only at e; cases e) <;> exact fun h => h
  | none =>
    rw [hc] at e
    cases hf : w.farLoad P (printLock P) (Mode.atomic == .atomic) with
    | ok r =>
      rw [hf] at e
      obtain ⟨v, l⟩ := r
      cases v <;> (dsimp only at e; cases e) <;> exact fun h => h
    | error x =>
      rw [hf] at e
      cases e
      exact farLoad_mild hf

theorem plainly_program : Plainly P program := fun w es0 => ⟨Adds.none _ (fun e he => by simp at he), fun h w' e => by cases e⟩
theorem plainly_store (a : Addr) (b : Bool) : Plainly P (store a (.bool b) .atomic) := by
  intro w es0
  refine ⟨(to_runs _ (to_store _ _ _) w es0).2, fun h w' e => ?_⟩
  unfold store at e
  simp only [Sem.runT] at e
  cases hc : w.cell? a with
  | some v =>
    rw [hc] at e
    dsimp only at e
    split at e <;> cases e
    exact fun h => h
  | none =>
    rw [hc] at e
    cases hf : w.farStore P a (.bool b) (Mode.atomic == .atomic) with
    | ok r => rw [hf] at e; cases e
    | error x => rw [hf] at e; cases e; exact farStore_mild hf
theorem plainly_writeFd (fd : Nat) (b : ByteArray) : Plainly P (writeFd fd b) := by
  intro w es0
  unfold writeFd
  simp only [Sem.runT]
  cases (w.sys (.write fd b)).1
  case noEntry => exact ⟨Adds.push _ (fun m hm => by cases hm) (by constructor <;> intro h <;> cases h), fun h w' e => by cases e; exact fun h => h⟩
  case wouldBlock => exact ⟨Adds.push _ (fun m hm => by cases hm) (by constructor <;> intro h <;> cases h), fun h w' e => by cases e; exact fun h => h⟩
  all_goals exact ⟨Adds.push _ (fun m hm => by cases hm) (by constructor <;> intro h <;> cases h), fun h w' e => by cases e⟩

theorem deep_piece (args : Array Value) : Deep P Fine 0 (Extern.PrintPieces.piece #[] #[] args) := by
  unfold Extern.PrintPieces.piece
  split
  rotate_left
  · exact Deep.halt fun h => h
  split
  rotate_left
  · exact Deep.halt fun h => h
  rename_i first _ _ p _
  extract_lets -underBinder last jp
  have hj : ∀ y, Deep P Fine 0 (jp y) := by
    intro y
    unfold jp
    extract_lets -underBinder jp2
    have h2 : ∀ y, Deep P Fine 0 (jp2 y) := by
      intro y
      unfold jp2
      refine Deep.bind (plainly_writeFd _ _) fun _ => ?_
      split
      · exact Deep.pure rfl
      · extract_lets -underBinder jp4
        have h4 : ∀ y, Deep P Fine 0 (jp4 y) := fun _ => Deep.pure trivial
        clear_value jp4
        split
        · exact Deep.disable (Deep.bind plainly_program fun _ => Deep.bind (plainly_store _ _) fun _ => Deep.enable (h4 _))
        · exact h4 _
    clear_value jp2
    split
    · refine Deep.disable (Deep.bind plainly_held fun _ => ?_)
      extract_lets -underBinder jp5
      have h5 : ∀ y, Deep P Fine 1 (jp5 y) := by
        intro y
        unfold jp5
        extract_lets -underBinder jp6
        have h6 : ∀ y, Deep P Fine 1 (jp6 y) := fun _ => Deep.enable (h2 _)
        clear_value jp6
        split
        · exact Deep.bind plainly_program fun _ => Deep.bind (plainly_store _ _) fun _ => h6 _
        · exact h6 _
      clear_value jp5
      split
      · exact Deep.haltB _ fun h => h
      · exact h5 _
    · exact h2 _
  clear_value jp
  split
  · exact Deep.haltB _ fun h => h
  · exact hj _

theorem runs_piece (args : Array Value) (w : World) (es0 : Array Event) : Runs es0 ((Extern.PrintPieces.piece #[] #[] args).runT P w es0) := by
  obtain ⟨new, h1, h2, h3⟩ := deep_piece (P := P) args w es0
  unfold Runs
  cases hr : ((Extern.PrintPieces.piece #[] #[] args).runT P w es0).1 with
  | ok a w' => rw [hr] at h3; exact ⟨h3.1, new, h1, h2, h3.2⟩
  | halt x w' => rw [hr] at h3; exact fun hm => ⟨new, h1, h2, h3 hm⟩

theorem Adds.trans {es0 es1 es' : Array Event} (h1 : Adds es0 es1 Calm) (h2 : Adds es1 es' Net) : Adds es0 es' Net := by
  obtain ⟨a, rfl, sa, ca⟩ := h1.ex
  obtain ⟨b, rfl, sb, cb⟩ := h2.ex
  exact ⟨a ++ b, by simp, sa.append sb, ca.net.append cb⟩

theorem fit_runs {s : Sem Next} (h : Fit P s) : ∀ (w : World) (es0 : Array Event), Runs es0 (s.runT P w es0) := by
  induction h with
  | @to s h =>
    intro w es0
    obtain ⟨h1, h2⟩ := to_runs s h w es0
    unfold Runs
    cases hr : (s.runT P w es0).1 with
    | ok a w' => exact ⟨h1 a w' hr, h2.mono fun _ => Calm.net⟩
    | halt x w' => exact fun _ => h2.mono fun _ => Calm.net
  | piece args => exact fun w es0 => runs_piece args w es0
  | bind t f h hf ih =>
    intro w es0
    obtain ⟨_, h2⟩ := to_runs t h w es0
    have e : (t >>= f).runT P w es0 = (match t.runT P w es0 with
      | (.ok a w', es) => (f a).runT P w' es
      | (.halt x w', es) => (.halt x w', es)) := Sem.runT_bind' P t f w es0
    rw [e]
    cases hr : t.runT P w es0 with
    | mk r es =>
      rw [hr] at h2
      cases r with
      | ok a w' =>
        have := ih a w' es
        unfold Runs at this ⊢
        dsimp only
        cases hr2 : ((f a).runT P w' es).1 with
        | ok b w'' => rw [hr2] at this; exact ⟨this.1, Adds.trans h2 this.2⟩
        | halt x w'' => rw [hr2] at this; exact fun hm => Adds.trans h2 (this hm)
      | halt x w' => exact fun _ => h2.mono fun _ => Calm.net
end Go.Lift

namespace Go.Lift
variable {P : Program}

def TodoOk (l : List Item) : Prop := ∀ it ∈ l, ItemOk it
def CallersOk (cs : List Frame) : Prop := ∀ c ∈ cs, TodoOk c.todo
def Tame (g : Goroutine) : Prop := TodoOk g.frame.todo ∧ CallersOk g.callers

theorem TodoOk.tail {it : Item} {k : List Item} (h : TodoOk (it :: k)) : TodoOk k := fun x hx => h x (List.mem_cons_of_mem _ hx)
theorem TodoOk.head {it : Item} {k : List Item} (h : TodoOk (it :: k)) : ItemOk it := h it (List.mem_cons_self ..)
theorem TodoOk.cons {it : Item} {k : List Item} (h : ItemOk it) (hk : TodoOk k) : TodoOk (it :: k) := fun x hx => by
  rcases List.mem_cons.1 hx with rfl | hx
  · exact h
  · exact hk x hx
theorem TodoOk.nil : TodoOk [] := fun x hx => by cases hx
theorem CallersOk.cons {c : Frame} {cs : List Frame} (h : TodoOk c.todo) (hc : CallersOk cs) : CallersOk (c :: cs) := fun x hx => by
  rcases List.mem_cons.1 hx with rfl | hx
  · exact h
  · exact hc x hx
theorem CallersOk.tail {c : Frame} {cs : List Frame} (h : CallersOk (c :: cs)) : CallersOk cs := fun x hx => h x (List.mem_cons_of_mem _ hx)
theorem CallersOk.head {c : Frame} {cs : List Frame} (h : CallersOk (c :: cs)) : TodoOk c.todo := h c (List.mem_cons_self ..)
theorem CallersOk.nil : CallersOk [] := fun x hx => by cases hx

theorem todo_finish {fr : Frame} (h : TodoOk fr.todo) (v : Value) : TodoOk (fr.finish v).todo := by
  unfold Frame.finish
  split
  · rename_i heq; rw [heq] at h; exact .cons trivial h.tail
  · rename_i heq; rw [heq] at h; exact .cons trivial h.tail
  · rename_i heq; rw [heq] at h; exact h.tail
  · rename_i heq; rw [heq] at h; exact h.head.elim
  · rename_i heq; rw [heq] at h; exact h.tail
  · exact h
theorem todo_raise {fr : Frame} (h : TodoOk fr.todo) (vs : List PanicEntry) : TodoOk (fr.raise vs).todo := by
  unfold Frame.raise
  split <;> exact h
theorem todo_enter (f : FuncId) (args : Array Value) (k : CallKind) : TodoOk (Frame.enter P f args k).todo := .cons trivial .nil
theorem todo_round (l : Nat) (f : FuncId) (tmps : Array Value) (a b : Code) (k : CallKind) : TodoOk (Frame.round l f tmps a b k).todo := .cons trivial (.cons trivial (.cons trivial .nil))
theorem todo_ofRow {row : String} (h : row = "runtime.print$piece") (args : Array Value) (k : CallKind) : TodoOk (Frame.ofRow P row args k).todo := .cons h .nil
theorem todo_exitTo {id : Nat} : ∀ {l k : List Item}, TodoOk l → exitTo id l = some k → TodoOk k
  | [], _, _, h => by simp [exitTo] at h
  | it :: l, k, hl, h => by
    unfold exitTo at h
    split at h
    · rename_i heq
      cases heq
      split at h
      · cases h; exact hl.tail
      · exact todo_exitTo hl.tail h
    · rename_i heq
      cases heq
      exact todo_exitTo hl.tail h
    · rename_i heq; cases heq
theorem todo_gotoIn {id : Nat} : ∀ {l k : List Item}, TodoOk l → gotoIn id l = some k → TodoOk k
  | [], _, _, h => by simp [gotoIn] at h
  | it :: l, k, hl, h => by
    unfold gotoIn at h
    split at h
    · rename_i heq
      cases heq
      split at h
      · cases h; exact .cons trivial hl
      · exact todo_gotoIn hl.tail h
    · rename_i heq
      cases heq
      exact todo_gotoIn hl.tail h
    · rename_i heq; cases heq

theorem callers_tryRecover {v : Value} : ∀ {cs cs' : List Frame} {fr : Frame}, CallersOk cs → tryRecover fr cs = some (v, cs') → CallersOk cs'
  | [], _, fr, _, h => by unfold tryRecover at h; split at h <;> first | (rename_i heq; cases heq) | cases h
  | c :: cs, cs', fr, hc, h => by
    unfold tryRecover at h
    split at h
    · rename_i heq
      cases heq
      split at h
      · cases h; exact .cons hc.head hc.tail
      · cases h
    · rename_i heq
      cases heq
      cases hr : tryRecover c cs with
      | none => rw [hr] at h; cases h
      | some x =>
        rw [hr] at h
        obtain ⟨x1, x2⟩ := x
        cases h
        exact .cons hc.head (callers_tryRecover hc.tail hr)
    · cases h

theorem callers_tryRecoverLoop {v : Value} : ∀ {cs cs' : List Frame} {l : Nat}, CallersOk cs → tryRecoverLoop l cs = some (v, cs') → CallersOk cs'
  | [], _, _, _, h => by simp [tryRecoverLoop] at h
  | c :: cs, cs', l, hc, h => by
    unfold tryRecoverLoop at h
    obtain ⟨⟨x1, x2⟩, hx, e⟩ := Option.map_eq_some_iff.1 h
    cases e
    refine .cons hc.head ?_
    split at hx
    · exact callers_tryRecoverLoop hc.tail hx
    · split at hx
      · exact callers_tryRecover hc.tail hx
      · exact callers_tryRecoverLoop hc.tail hx
    · exact callers_tryRecoverLoop hc.tail hx

def Up (s : GoStatus) : Prop := s = .running ∨ s = .blocked ∨ s = .waiting ∨ s = .finished

/-- What a step of a tame goroutine is. -/
def Out (s : GStep) : Prop :=
  match s with
  | .go g _ es => Tame g ∧ Net es ∧ Up g.status
  | .comm g _ _ _ _ es => Tame g ∧ Net es ∧ g.status = .running
  | .coroswitch g _ e _ es => Tame g ∧ Net es ∧ e = true
  | .spawn g c _ es => Tame g ∧ Tame c ∧ Net es ∧ g.status = .running ∧ c.status = .running
  | .ended _ _ es => Net es ∨ Bad s
  | _ => False

theorem Out.bad {s : GStep} (h : Bad s) : Out s := by
  obtain ⟨o, w, es, rfl, ho⟩ := h
  exact .inr ⟨o, w, es, rfl, ho⟩

theorem Out.after {es : Array Event} {s : GStep} (he : Net es) (h : Out s) : Out (GStep.after es s) := by
  cases s
  case go => exact ⟨h.1, he.append h.2.1, h.2.2⟩
  case comm => exact ⟨h.1, he.append h.2.1, h.2.2⟩
  case coroswitch => exact ⟨h.1, he.append h.2.1, h.2.2⟩
  case spawn => exact ⟨h.1, h.2.1, he.append h.2.2.1, h.2.2.2⟩
  case ended =>
    rcases h with h | h
    · exact .inl (he.append h)
    · exact .inr h.after
  all_goals exact h.elim

theorem net_seen {es : Array Event} (fn : FuncId) (hs : Synced es) (hn : Net es) : Net (seen P fn es) := by
  intro d
  have key : ∀ (l : List Event) (x : Bool × Array Event), (∀ e ∈ l, ∀ m, e.loc = .mark m → e.sync = true) →
      deafBehind d (l.foldl (fun (x : Bool × Array Event) e => match e.loc with
        | .mark (.extern f) => ((P.funcs[f]?).any (·.norace), x.2)
        | _ => (x.1, if x.1 && !e.sync then x.2 else x.2.push e)) x).2 = deafBehind (deafBehind d x.2) l.toArray := by
    intro l
    induction l with
    | nil => exact fun x _ => rfl
    | cons e l ih =>
      intro x hl
      rw [List.foldl_cons, ih _ fun y hy => hl y (List.mem_cons_of_mem _ hy)]
      have hcons : ∀ d, deafBehind d (e :: l).toArray = deafBehind (deafBehind d #[e]) l.toArray := fun d => by
        rw [← deafBehind_append]; simp
      rw [hcons]
      congr 1
      split
      · rename_i f heq
        unfold deafBehind
        simp [heq]
      · rename_i hne
        by_cases hq : (x.1 && !e.sync) = true
        · rw [if_pos hq]
          have hsy : e.sync = false := by simp at hq; exact hq.2
          have hm : ∀ m, e.loc ≠ .mark m := fun m hm => by
            have := hl e (List.mem_cons_self ..) m hm
            rw [hsy] at this; cases this
          unfold deafBehind
          simp
          split
          · rename_i h; exact absurd h (hm _)
          · rename_i h; exact absurd h (hm _)
          · rfl
        · rw [if_neg hq, Array.push_eq_append, deafBehind_append]
  have e : seen P fn es = (es.toList.foldl (fun (x : Bool × Array Event) e => match e.loc with
        | .mark (.extern f) => ((P.funcs[f]?).any (·.norace), x.2)
        | _ => (x.1, if x.1 && !e.sync then x.2 else x.2.push e)) ((P.funcs[fn]?).any (·.norace), #[])).2 := by
    unfold seen
    dsimp only
    rw [← Array.foldl_toList]
    rfl
  rw [e, key _ _ (fun e he => hs e (Array.mem_toList_iff.1 he))]
  exact hn d


theorem up_run : Up .running := .inl rfl
theorem up_blocked : Up .blocked := .inr (.inl rfl)
theorem up_waiting : Up .waiting := .inr (.inr (.inl rfl))
theorem up_finished : Up .finished := .inr (.inr (.inr rfl))

section
variable {fr : Frame} {callers : List Frame} {dying : Option Dying} {w : World}

theorem out_go {fr : Frame} {cs : List Frame} {st : GoStatus} {dy : Option Dying} (hf : TodoOk fr.todo) (hc : CallersOk cs) (hs : Up st) (w : World) : Out (.go { frame := fr, callers := cs, status := st, dying := dy } w) := ⟨⟨hf, hc⟩, net_nil, hs⟩
theorem out_ended (o : Outcome) (w : World) : Out (.ended o w) := .inl net_nil

theorem outIte {c : Prop} [Decidable c] {a b : GStep} (ha : Out a) (hb : Out b) : Out (if c then a else b) := by split <;> assumption
theorem out_dieOf (hf : TodoOk fr.todo) (ahead : List ByteArray) (m : String) (whole : Bool) (w : World) : Out (dieOf fr ahead m whole w) := out_go hf .nil up_run w
theorem out_endThrow (hf : TodoOk fr.todo) (m : String) (w : World) : Out (endThrow fr m w) := out_dieOf hf _ _ _ w
theorem out_endPrinting (hf : TodoOk fr.todo) (v : Value) (w : World) : Out (endPrinting P fr v w) := by
  unfold endPrinting
  dsimp only
  split
  · exact out_endThrow hf _ _
  · exact out_ended _ _
theorem out_endFatal (hf : TodoOk fr.todo) (m : String) : Out (endFatal P fr callers dying m w) := by
  unfold endFatal
  dsimp only
  split
  · exact out_dieOf hf _ _ _ _
  · exact out_ended _ _
  · exact out_ended _ _
theorem out_early (hf : TodoOk fr.todo) (hc : CallersOk callers) (g : Nat) : Out (early P fr callers dying g w) := by
  have ny : ∀ w : World, Out (match w.heap[g]? with
    | some (.pending c elem) =>
      GStep.go { frame := fr, callers, status := .running, dying } { w with heap := w.heap.setIfInBounds g (.cells c elem) }
    | _ => .ended (.stuck "early: the variable does not wait" (fr.pos P)) w) := by
    intro w
    split
    · exact out_go hf hc up_run _
    · exact out_ended _ _
  unfold early
  dsimp only
  split
  · exact ny w
  · split
    · exact out_ended _ _
    · rename_i f _
      have there : ∀ (l : List FuncId) (w : World), Out (.go { frame := Frame.enter P f #[] .early, callers := (l.map (Frame.enter P · #[] .early)) ++ fr :: callers, status := .running, dying } w) := by
        intro l w
        refine out_go (todo_enter _ _ _) (fun c hc' => ?_) up_run _
        rcases List.mem_append.1 hc' with h | h
        · obtain ⟨x, _, rfl⟩ := List.mem_map.1 h
          exact todo_enter _ _ _
        · exact CallersOk.cons hf hc c h
      split
      · exact ny w
      · split
        · exact ny w
        · split
          · exact out_ended _ _
          · exact there _ w
          · exact out_ended _ _
          · exact ny w
          · split
            · exact there _ w
            · split
              · exact ny w
              · split
                · exact ny _
                · exact there _ _
                · exact out_ended _ _

theorem out_doReturn (main : Bool) (hf : TodoOk fr.todo) (hc : CallersOk callers) (v : Value) : Out (doReturn P main fr callers dying v w) := by
  unfold doReturn
  cases callers with
  | cons c rest =>
    dsimp only
    split
    · exact out_go (todo_finish hc.head v) hc.tail up_run _
    · exact out_go (todo_finish hc.head v) hc.tail up_run _
    · exact out_go hc.head hc.tail up_run _
    · refine out_go ?_ hc.tail up_run _
      split
      · split <;> exact hc.head
      · exact hc.head
  | nil =>
    dsimp only
    split
    · exact out_go hf .nil up_run _
    · exact out_ended _ _
    · split
      · exact out_go hf .nil up_finished _
      · split
        · exact out_go (todo_enter _ _ _) .nil up_run _
        · exact out_ended _ _

theorem out_apply {s : Sem Next} (hs : Fit P s) (hf : TodoOk fr.todo) (hc : CallersOk callers) : Out (stepG.apply P true fr callers dying s w) := by
  have hr := fit_runs hs w #[]
  unfold Runs at hr
  unfold stepG.apply
  simp only [if_true]
  cases hrun : s.runT P w #[] with
  | mk r es =>
    rw [hrun] at hr
    have net : ∀ {es' : Array Event}, Adds #[] es' Net → Net (seen P fr.fn (if (fr.kind == CallKind.early) = true then #[] else es')) := by
      intro es' h
      obtain ⟨n, e, sy, ne⟩ := h.ex
      split
      · exact net_seen _ synced_nil net_nil
      · refine net_seen _ ?_ ?_ <;> rw [e, Array.empty_append] <;> assumption
    have net0 : Net (seen P fr.fn (if (fr.kind == CallKind.early) = true then #[] else #[])) := net_seen _ (by split <;> exact synced_nil) (by split <;> exact net_nil)
    cases r with
    | ok a w' =>
      obtain ⟨hfine, hadd⟩ := hr
      dsimp only at hadd ⊢
      refine Out.after (net hadd) ?_
      cases a
      case value v => exact out_go (todo_finish hf v) hc up_run _
      case skip => exact out_go (todo_finish hf _) hc up_run _
      case enter f args => exact out_go (todo_enter _ _ _) (.cons hf hc) up_run _
      case round l f t a b => exact out_go (todo_round _ _ _ _ _ _) (.cons hf hc) up_run _
      case defer d => exact out_go (todo_finish (fr := { fr with defers := d :: fr.defers }) hf _) hc up_run _
      case recover =>
        have fin : ∀ x : Option (Value × List Frame), (∀ v cs, x = some (v, cs) → CallersOk cs) → Out (match x with
            | some (v, callers) => GStep.go { frame := fr.finish v, callers, status := .running, dying } w'
            | none => GStep.go { frame := fr.finish .nilIface, callers, status := .running, dying } w') := by
          intro x hx
          rcases x with _ | ⟨v, cs⟩
          · exact out_go (todo_finish hf _) hc up_run _
          · exact out_go (todo_finish hf _) (hx v cs rfl) up_run _
        dsimp only
        cases fr.roundOf with
        | none => exact fin _ fun v cs e => callers_tryRecover hc e
        | some l =>
          refine fin _ fun v cs e => ?_
          dsimp only at e
          by_cases hfl : P.follows Departure.rangeFuncRecover = true
          · rw [if_pos hfl] at e
            exact callers_tryRecover hc e
          · rw [if_neg hfl] at e
            exact callers_tryRecoverLoop hc e
      case spawn d =>
        have ite : ∀ (c : Prop) [Decidable c] (a b : GStep), Out a → Out b → Out (if c then a else b) := fun c _ a b ha hb => by split <;> assumption
        exact ite _ _ _ (out_endThrow hf _ _) ⟨⟨todo_finish hf _, hc⟩, ⟨TodoOk.nil, CallersOk.nil⟩, net_nil, rfl, rfl⟩
      case comm => exact ⟨⟨hf, hc⟩, net_nil, rfl⟩
      case coroswitch => exact ⟨⟨hf, hc⟩, net_nil, hfine⟩
      case row r args =>
        dsimp only
        split
        · rename_i heq
          rw [heq] at hf
          exact out_go (TodoOk.cons (it := .extern r args) hfine hf.tail) hc up_run _
        · exact out_go (todo_ofRow hfine _ _) (.cons hf hc) up_run _
      all_goals exact hfine.elim
    | halt x w' =>
      cases x
      case panic v => exact Out.after (net (hr trivial)) (out_go (todo_raise hf _) hc up_run _)
      case goexit => exact Out.after (net (hr trivial)) (out_go (todo_raise hf _) hc up_run _)
      case fatal m => exact Out.after (net (hr trivial)) (out_endFatal hf _)
      case throw m => exact Out.after (net (hr trivial)) (out_endThrow hf _ _)
      case blocked => exact Out.after net0 (out_go hf hc up_blocked _)
      case waiting => exact Out.after net0 (out_go hf hc up_waiting _)
      case unsupported u =>
        cases u
        case initOrder g => exact Out.after net0 (out_early hf hc _)
        all_goals exact Out.bad (Bad.after ⟨_, _, _, rfl, fun v hv => by cases hv⟩)
      all_goals exact Out.bad (Bad.after ⟨_, _, _, rfl, fun v hv => by cases hv⟩)


theorem net_of {es : Array Event} (fn : FuncId) (h : Adds #[] es Net) : Net (seen P fn es) := by
  obtain ⟨n, e, sy, ne⟩ := h.ex
  refine net_seen _ ?_ ?_ <;> rw [e, Array.empty_append] <;> assumption
theorem net_of_to {α : Type} {s : Sem α} {Q : α → Prop} (hs : To P Q s) (w : World) (fn : FuncId) : Net (seen P fn (s.runT P w #[]).2) := net_of _ ((to_runs s hs w #[]).2.mono fun _ => Calm.net)

theorem out_callDeferred (hP : Plain P) (hf : TodoOk fr.todo) (hc : CallersOk callers) (d : Deferred) : Out (callDeferred P fr callers dying d w) := by
  have hr := fit_runs (fit_invoke hP d.target d.args) w #[]
  unfold Runs at hr
  unfold callDeferred
  dsimp only
  refine outIte (out_ended _ _) ?_
  cases hrun : (invoke d.target d.args).runT P w #[] with
  | mk r es =>
    rw [hrun] at hr
    have net0 : Net (seen P fr.fn #[]) := net_seen _ synced_nil net_nil
    cases r with
    | ok a w' =>
      obtain ⟨hfine, hadd⟩ := hr
      dsimp only at hadd ⊢
      refine Out.after (net_of _ hadd) ?_
      cases a
      case enter f args => exact out_go (todo_enter _ _ _) (.cons hf hc) up_run _
      case round l f t a b => exact out_go (todo_round _ _ _ _ _ _) (.cons hf hc) up_run _
      case recover =>
        dsimp only
        split
        · rename_i heq2
          exact out_go hf (callers_tryRecover hc heq2) up_run _
        · exact out_go hf hc up_run _
      case row r args => exact out_go (todo_ofRow hfine _ _) (.cons hf hc) up_run _
      case coroswitch c b =>
        cases b
        · exact out_ended _ _
        · exact ⟨⟨hf, hc⟩, net_nil, rfl⟩
      case value => exact out_go hf hc up_run _
      case skip => exact out_go hf hc up_run _
      case defer => exact out_go hf hc up_run _
      case spawn => exact out_go hf hc up_run _
      case comm => exact out_go hf hc up_run _
      all_goals exact hfine.elim
    | halt x w' =>
      cases x
      case panic v => exact Out.after (net_of _ (hr trivial)) (out_go (todo_raise hf _) hc up_run _)
      case goexit => exact Out.after (net_of _ (hr trivial)) (out_go (todo_raise hf _) hc up_run _)
      case fatal m => exact Out.after (net_of _ (hr trivial)) (out_endFatal hf _)
      case throw m => exact Out.after (net_of _ (hr trivial)) (out_endThrow hf _ _)
      case blocked => exact Out.after net0 ⟨⟨hf, hc⟩, net_nil, up_blocked⟩
      case waiting => exact Out.after net0 ⟨⟨hf, hc⟩, net_nil, up_waiting⟩
      all_goals exact Out.bad (Bad.after ⟨_, _, _, rfl, fun v hv => by cases hv⟩)

theorem out_unwind (hP : Plain P) (main : Bool) (hf : TodoOk fr.todo) (hc : CallersOk callers) : Out (unwind P main fr callers dying w) := by
  unfold unwind
  split
  · rename_i block args ds heq
    have hn := net_of_to (P := P) (to_Instr_takeDeferred block) w fr.fn
    cases hrun : (Instr.takeDeferred block).runT P w #[] with
    | mk r es =>
      rw [hrun] at hn
      refine Out.after hn ?_
      cases r
      · exact ⟨⟨hf, hc⟩, net_nil, up_run⟩
      · exact out_ended _ _
  · rename_i d ds _ _
    exact out_callDeferred hP (fr := { fr with defers := ds }) hf hc d
  · split
    · exact out_ended _ _
    · split
      · exact out_ended _ _
      · split
        · exact out_go (todo_raise hc.head _) hc.tail up_run _
        · split
          · split
            · exact out_go hf .nil up_finished _
            · split
              · exact out_go hf .nil up_run _
              · exact out_ended _ _
              · exact out_ended _ _
          · split
            · exact out_endPrinting hf _ _
            · exact out_ended _ _
    · split
      · exact out_doReturn main hf hc _
      · rename_i fn _
        have hn := net_of_to (P := P) (to_results fn fr.tmps) w fr.fn
        cases hrun : (results fn fr.tmps).runT P w #[] with
        | mk r es =>
          rw [hrun] at hn
          refine Out.after hn ?_
          cases r with
          | ok v w' => exact out_doReturn main hf hc _
          | halt x w' => cases x <;> exact out_ended _ _

theorem out_leave (main : Bool) (hf : TodoOk fr.todo) (hc : CallersOk callers) (jump : Option Code) : Out (match fr.roundOf with
      | none => if jump matches none | some .ret then GStep.go { frame := { fr with mode := .returning }, callers, status := .running, dying } w else .ended (.stuck "exit, goto: no such block or label" (fr.pos P)) w
      | some l =>
        match (Instr.endRound l jump).runT P w #[] with
        | (r, es) => GStep.after (seen P fr.fn es) (match r with
          | .ok v w => doReturn P main fr callers dying v w
          | .halt _ w => .ended (.stuck "range over a function: no such loop" (fr.pos P)) w)) := by
  cases hr : fr.roundOf with
  | none =>
    dsimp only
    exact outIte ⟨⟨hf, hc⟩, net_nil, up_run⟩ (out_ended _ _)
  | some l =>
    have hn := net_of_to (P := P) (to_Instr_endRound l jump) w fr.fn
    dsimp only
    cases hrun : (Instr.endRound l jump).runT P w #[] with
    | mk r es =>
      rw [hrun] at hn
      refine Out.after hn ?_
      cases r with
      | ok v w' => exact out_doReturn main hf hc _
      | halt x w' => exact out_ended _ _

theorem out_oper (hP : Plain P) (hf : TodoOk fr.todo) (hc : CallersOk callers) : Out (stepG.oper P true fr callers dying w) := by
  unfold stepG.oper
  split
  · exact out_ended _ _
  · split
    · exact out_apply (.to (To.seq (to_resolve _ _ _) fun d => To.seq (to_Instr_deferInRound _ _) fun _ => trivial)) hf hc
    · exact out_apply (fit_execOp hP _ _) hf hc

theorem out_exec (hP : Plain P) (main : Bool) (hf : TodoOk fr.todo) (hc : CallersOk callers) : Out (stepG.exec P main true fr callers dying w) := by
  cases htd : fr.todo with
  | nil => exact (congrArg Out (by unfold stepG.exec; simp only [htd]; rfl)).mpr (out_leave (P := P) (dying := dying) (w := w) main hf hc none)
  | cons it k =>
    rw [htd] at hf
    have hf0 : TodoOk fr.todo := by rw [htd]; exact hf
    have hit := hf.head
    have hk := hf.tail
    have go : ∀ (t : List Item) (w : World), TodoOk t → Out (.go { frame := { fr with todo := t }, callers := callers, status := .running, dying := dying } w) := fun t w ht => out_go (fr := { fr with todo := t }) ht hc up_run w
    cases it with
    | code c =>
      cases c with
      | ret => exact (congrArg Out (by unfold stepG.exec; simp only [htd]; rfl)).mpr (out_leave (P := P) (dying := dying) (w := w) main hf0 hc (some .ret))
      | cond c a b =>
        unfold stepG.exec; simp only [htd]
        split
        · exact go _ _ (.cons trivial hk)
        · exact out_ended _ _
      | exit id =>
        cases he : exitTo id k with
        | none => exact (congrArg Out (by unfold stepG.exec; simp only [htd, he]; rfl)).mpr (out_leave (P := P) (dying := dying) (w := w) main hf0 hc (some (.exit id)))
        | some k' => unfold stepG.exec; simp only [htd, he]; exact go _ _ (todo_exitTo hk he)
      | goto l =>
        cases he : gotoIn l k with
        | none => exact (congrArg Out (by unfold stepG.exec; simp only [htd, he]; rfl)).mpr (out_leave (P := P) (dying := dying) (w := w) main hf0 hc (some (.goto l)))
        | some k' => unfold stepG.exec; simp only [htd, he]; exact go _ _ (todo_gotoIn hk he)
      | rangeFunc f params assign body =>
        have hn := net_of_to (P := P) (to_Instr_enterLoop fr.fn fr.tmps params assign body fr.roundOf) w fr.fn
        unfold stepG.exec; simp only [htd]
        cases hrun : (Instr.enterLoop fr.fn fr.tmps params assign body fr.roundOf).runT P w #[] with
        | mk r es =>
          rw [hrun] at hn
          refine Out.after hn ?_
          cases r with
          | ok x w' => exact out_apply (fr := { fr with todo := .inRangeFunc x.1 :: k, defers := x.2 ++ fr.defers }) (.bind _ _ (to_resolve _ _ _) fun d => fit_invoke hP _ _) (TodoOk.cons (it := .inRangeFunc x.1) trivial hk) hc
          | halt x w' => exact out_ended _ _
      | region id ops draw =>
        unfold stepG.exec; simp only [htd]
        split
        · exact go _ _ (.cons trivial hk)
        · split
          · exact go _ _ (.cons trivial hk)
          · exact out_ended _ _
      | refuse why => unfold stepG.exec; simp only [htd]; exact out_ended _ _
      | skip => unfold stepG.exec; simp only [htd]; exact go _ _ hk
      | label l => unfold stepG.exec; simp only [htd]; exact go _ _ hk
      | seq a b => unfold stepG.exec; simp only [htd]; exact go _ _ (.cons trivial (.cons trivial hk))
      | block id b => unfold stepG.exec; simp only [htd]; exact go _ _ (.cons trivial (.cons trivial hk))
      | loop b => unfold stepG.exec; simp only [htd]; exact go _ _ (.cons trivial (.cons trivial hk))
      | scope b => unfold stepG.exec; simp only [htd]; exact go _ _ (.cons trivial (.cons trivial hk))
    | inRegion ops l =>
      cases l with
      | nil => unfold stepG.exec; simp only [htd]; exact go _ _ hk
      | cons i l =>
        unfold stepG.exec; simp only [htd]
        split
        · exact out_oper hP hf0 hc
        · exact out_go (todo_finish hf0 _) hc up_run _
    | inRangeFunc l => unfold stepG.exec; simp only [htd]; exact out_ended _ _
    | endRangeFunc l =>
      have hn := net_of_to (P := P) (to_Instr_endLoop l) w fr.fn
      unfold stepG.exec; simp only [htd]
      cases hrun : (Instr.endLoop l).runT P w #[] with
      | mk r es =>
        rw [hrun] at hn
        refine Out.after hn ?_
        cases r with
        | ok x w' =>
          refine go _ _ fun it hit => ?_
          rcases List.mem_append.1 hit with h | h
          · cases x with
            | none => simp at h
            | some c => simp at h; subst h; trivial
          · exact hk it h
        | halt x w' =>
          cases x
          case panic v => exact out_go (todo_raise hf0 _) hc up_run _
          all_goals exact out_ended _ _
    | beginRound =>
      unfold stepG.exec; simp only [htd]
      refine out_apply (.to (To.seq ?_ fun _ => trivial)) hf0 hc
      cases fr.roundOf with
      | none => exact to_stuck _
      | some l => exact to_Instr_beginRound l
    | call d wr re sv => exact hit.elim
    | extern row args =>
      obtain ⟨e, he, hfit⟩ := fit_row (P := P) hit
      unfold stepG.exec; simp only [htd, he]
      exact out_apply (hfit args) hf0 hc
    | inBlock id => unfold stepG.exec; simp only [htd]; exact go _ _ hk
    | inScope b => unfold stepG.exec; simp only [htd]; exact go _ _ hk
    | inLoop b => unfold stepG.exec; simp only [htd]; exact go _ _ (.cons trivial (.cons trivial hk))

theorem out_endWith (fd : Nat) (text : ByteArray) (o : Outcome) : Out (endWith w fd text o) := by
  unfold endWith
  dsimp only
  split
  · exact outIte (out_ended _ _) (out_ended _ _)
  · exact out_ended _ _
  · exact out_ended _ _

theorem out_writeOn (hf : TodoOk fr.todo) (d : Dying) (f : Fatal) : Out (writeOn P fr d f w) := by
  cases hp : f.pieces with
  | nil => exact (congrArg Out (by unfold writeOn; simp only [hp])).mpr (out_ended (.fatal f.text) w)
  | cons piece rest =>
    have key : ∃ s : Sem Unit, Deep P (fun _ => True) 0 s ∧ ∀ w, writeOn P fr d f w = (match s.runT P w #[] with
        | (.ok _ w, es) => .go { frame := fr, callers := [], status := .running, dying := some { d with fatal := some { f with pieces := rest, begun := true } } } w es
        | (.halt .blocked w, _) => .go { frame := fr, callers := [], status := .blocked, dying := some { d with fatal := some f } } w #[]
        | (.halt (.unsupported u) w, _) => .ended (.unsupported u "") w
        | (.halt _ w, _) => .ended (.stuck "the report of a fatal error" "") w) := by
      unfold writeOn
      refine ⟨_, ?_, fun w => by simp only [hp]; rfl⟩
      have tail : ∀ u : Unit, Deep P (fun _ => True) 0 ((fun _ => do
          match ← sys (.write 2 piece) with
          | .int n => if n != piece.size then unsupported (.noEntry "a report that its descriptor cannot take whole")
          | .err _ => pure ()
          | _ => unsupported (.noEntry "a report that its descriptor cannot take whole") : Unit → Sem Unit) u) := by
        intro u w es0
        dsimp only
        have e : ∀ k : SysRet → Sem Unit, (sys (.write 2 piece) >>= k).runT P w es0 = (k (w.sys (.write 2 piece)).1).runT P (w.sys (.write 2 piece)).2 (es0.push ⟨.output, true, false⟩) := fun k => rfl
        rw [e]
        have sy : Synced #[(⟨.output, true, false⟩ : Event)] := fun x hx => by simp at hx; subst hx; exact fun m hm => by cases hm
        have ca : Calm #[(⟨.output, true, false⟩ : Event)] := fun x hx => by simp at hx; subst hx; constructor <;> intro h <;> cases h
        cases (w.sys (.write 2 piece)).1
        case int n =>
          dsimp only
          split
          · exact ⟨_, Array.push_eq_append .., sy, fun h => h.elim⟩
          · exact ⟨_, Array.push_eq_append .., sy, trivial, fun x => ca.net _⟩
        case err => exact ⟨_, Array.push_eq_append .., sy, trivial, fun x => ca.net _⟩
        all_goals exact ⟨_, Array.push_eq_append .., sy, fun h => h.elim⟩
      repeat' (first
        | exact tail ()
        | refine Deep.disable ?_
        | refine Deep.enable ?_
        | refine Deep.bind plainly_held fun _ => ?_
        | refine Deep.bind plainly_program fun _ => ?_
        | refine Deep.bind (plainly_store _ _) fun _ => ?_
        | exact Deep.haltB _ fun h => h
        | split)
    obtain ⟨s, hs, he⟩ := key
    rw [he]
    obtain ⟨new, h1, h2, h3⟩ := hs w #[]
    cases hr : s.runT P w #[] with
    | mk r es =>
      rw [hr] at h1 h3
      cases r with
      | ok a w' =>
        refine ⟨⟨hf, .nil⟩, ?_, up_run⟩
        dsimp only at h1
        rw [h1, Array.empty_append]
        exact fun x => h3.2 x
      | halt x w' =>
        cases x
        case blocked => exact out_go hf .nil up_blocked _
        all_goals exact out_ended _ _

theorem out_die (hP : Plain P) (hf : TodoOk fr.todo) (d : Dying) : Out (die P fr d w) := by
  cases hfa : d.fatal with
  | some f => exact (congrArg Out (by unfold die; simp only [hfa])).mpr (out_writeOn (P := P) (w := w) hf d f)
  | none =>
    cases ht : d.todo with
    | nil =>
      unfold die
      simp only [hfa, ht]
      exact outIte (out_go hf .nil up_blocked _) (out_endWith _ _ _)
    | cons x rest =>
      obtain ⟨v, mark⟩ := x
      cases hp : panicText P false v with
      | text s => unfold die; simp only [hfa, ht, hp]; exact out_go hf .nil up_run _
      | address s =>
        unfold die; simp only [hfa, ht, hp]
        split
        · exact out_go hf .nil up_run _
        · exact out_ended _ _
      | no u => unfold die; simp only [hfa, ht, hp]; exact out_ended _ _
      | call t recv name =>
        have hr := fit_runs (fit_invoke hP (.fn (.method name) #[]) #[.iface t recv]) w #[]
        unfold Runs at hr
        unfold die; simp only [hfa, ht, hp]
        cases hrun : (invoke (.fn (.method name) #[]) #[.iface t recv]).runT P w #[] with
        | mk r es =>
          rw [hrun] at hr
          have bad : ∀ o (w : World), (∀ v, o ≠ .done v) → Out (GStep.after (seen P fr.fn es) (.ended o w)) := fun o w h => Out.bad (Bad.after ⟨_, _, _, rfl, h⟩)
          cases r with
          | ok a w' =>
            have hadd := hr.2
            clear hr
            dsimp only at hadd ⊢
            cases a
            case enter f args => exact Out.after (net_of _ hadd) (out_go (todo_enter _ _ _) .nil up_run _)
            case value val =>
              cases val with
              | string b => exact Out.after (net_of _ hadd) (out_go hf .nil up_run _)
              | _ => exact bad _ _ fun v hv => by cases hv
            all_goals exact bad _ _ fun v hv => by cases hv
          | halt x w' =>
            cases x
            case panic v => exact Out.after (net_of _ (hr trivial)) (out_endPrinting hf _ _)
            all_goals exact bad _ _ fun v hv => by cases hv

theorem out_stepG (hP : Plain P) (main : Bool) (g : Goroutine) (ht : Tame g) (w : World) : Out (stepG P main g w) := by
  obtain ⟨fr, callers, status, dying, offers⟩ := g
  obtain ⟨hf, hc⟩ := ht
  dsimp only at hf hc
  cases dying with
  | none =>
    cases hm : fr.mode with
    | run => exact (congrArg Out (by unfold stepG; simp only [hm])).mpr (out_exec (w := w) (dying := none) hP main hf hc)
    | _ => exact (congrArg Out (by unfold stepG; simp only [hm])).mpr (out_unwind (w := w) (dying := none) hP main hf hc)
  | some d =>
    obtain ⟨todo, texts, calling, pending, re, hand, fatal⟩ := d
    cases calling with
    | false => exact (congrArg Out (by unfold stepG; rfl)).mpr (out_die (w := w) hP hf ⟨todo, texts, false, pending, re, hand, fatal⟩)
    | true =>
      cases hm : fr.mode with
      | run => exact (congrArg Out (by unfold stepG; simp only [hm])).mpr (out_exec (w := w) (dying := some ⟨todo, texts, true, pending, re, hand, fatal⟩) hP main hf hc)
      | _ => exact (congrArg Out (by unfold stepG; simp only [hm])).mpr (out_unwind (w := w) (dying := some ⟨todo, texts, true, pending, re, hand, fatal⟩) hP main hf hc)
end
end Go.Lift

namespace Go.Lift
variable {P : Program}

/-- Nobody waits at a channel. -/
def NoWait (gs : Array Goroutine) : Prop := ∀ h ∈ gs, h.status ≠ .blocked

theorem partners_nil {gs : Array Goroutine} (h : NoWait gs) (r : Nat) (s : Bool) : partners gs r s = [] := by
  unfold partners
  rw [List.flatMap_eq_nil_iff]
  rintro ⟨g, i⟩ hg
  have hmem : g ∈ gs := by
    rw [Array.mem_toList_iff] at hg
    have := Array.mem_zipIdx hg
    obtain ⟨_, _, e⟩ := this
    rw [e]
    exact Array.getElem_mem _
  have := h g hmem
  dsimp only
  split
  · rename_i heq _; exact absurd heq this
  · rfl

theorem ways_nil {gs : Array Goroutine} (h : NoWait gs) (w : World) (c : CommCase) : ways w gs c = ways w #[] c := by
  have h0 : NoWait #[] := fun x hx => by simp at hx
  unfold ways
  simp only [partners_nil h, partners_nil h0]

def still0 : Rest := { timers := #[], alone := none, slice := none }
def restOf (sl : Option (Nat × Nat)) : Rest := { timers := #[], alone := none, slice := sl }

theorem waiting_none (sl : Option (Nat × Nat)) (cases : Array CommCase) (w : World) : waitingAt (restOf sl) cases w = some w := by
  have : timerAhead (restOf sl) w.os.mono cases = false := by
    unfold timerAhead
    rw [Array.any_eq_false]
    intro i hi
    split
    · simp [restOf]
    · simp
  unfold waitingAt
  rw [this]
  rfl

/-- What the communication comes to, the machine apart. -/
def build (gs : Array Goroutine) (sl : Option (Nat × Nat)) (x : (Outcome × World) ⊕ (Goroutine × World)) : Stepped :=
  match x with
  | .inl (o, w) => .ended o w
  | .inr (g, w) => .next { world := w, gs := gs.setIfInBounds 0 g, rest := restOf sl }

def onX (x : (Outcome × World) ⊕ (Goroutine × World)) (τ : Tape) (d : Nat) : (Outcome × World) ⊕ (Goroutine × World) :=
  match x with
  | .inl (o, w) => .inl (o, on w τ d)
  | .inr (g, w) => .inr (g, on w τ d)

def Lone : Way → Prop
  | .partner .. => False
  | _ => True

theorem ways_lone (w : World) (c : CommCase) : ∀ x ∈ ways w #[] c, Lone x := by
  have h0 : NoWait #[] := fun x hx => by simp at hx
  intro x hx
  unfold ways at hx
  simp only [partners_nil h0] at hx
  split at hx
  · split at hx
    · split at hx
      · simp at hx; subst hx; trivial
      · split at hx
        · simp at hx; subst hx; trivial
        · simp at hx
    · split at hx
      · simp at hx; subst hx; trivial
      · split at hx
        · simp at hx; subst hx; trivial
        · simp at hx
    · simp at hx
  · simp at hx

/-- Entries of a communication: goroutine 0's, which touch nothing. -/
def CommOps (ops : Array MemOp) : Prop := ∀ op ∈ ops, op.g = 0 ∧ op.act.touch? = none ∧ ∀ m, op.act ≠ .mark m

theorem getD_mem {α : Type} (l : List α) (a : Nat) (z : α) : l.getD a z ∈ l ∨ l.getD a z = z := by
  rw [List.getD_eq_getElem?_getD]
  cases h : l[a]? with
  | none => exact .inr rfl
  | some x => exact .inl (List.mem_of_getElem? h)

theorem comm_local (g : Goroutine) (cases : Array CommCase) (blocking : Bool) (shape : CommShape) (w : World) (τ : Tape) (d : Nat) : ∃ k c x ops, CommOps ops ∧ (c < k → ∃ o, x = .inl o ∧ ∀ v, o.1 ≠ .done v) ∧ c ≤ k ∧ (∀ o, x = .inl o → ∀ v, o.1 ≠ .done v) ∧ ∀ (τ' : Tape) (d' : Nat), Same τ τ' d d' k → ∀ (gs : Array Goroutine) (sl : Option (Nat × Nat)), NoWait gs →
    communicate P (restOf sl) gs 0 g cases blocking shape (on w τ' d') = (build gs sl (onX x τ' (d' + c)), ops) := by
  have hh : ∀ τ d, (on w τ d).heap = w.heap := fun _ _ => rfl
  have hw : ∀ τ d c, ways (on w τ d) #[] c = ways w #[] c := fun _ _ _ => rfl
  have none0 : CommOps #[] := fun op hop => by simp at hop
  generalize hR : ((cases.zipIdx.toList.map fun (c, k) => (k, c, ways w #[] c)).filter fun (_, _, ws) => !ws.isEmpty) = R
  by_cases hill : (cases.any fun c => match c.chan with
      | .chan none => false
      | .chan (some r) => !(w.heap[r]? matches some (.chan ..))
      | _ => true) = true
  · refine ⟨0, 0, .inl (.stuck "a communication at a channel whose block is no channel's" (g.frame.pos P), w), #[], none0, by omega, by omega, (fun o e => by cases e; exact fun v h => by cases h), fun τ' d' _ gs sl hn => ?_⟩
    unfold communicate
    simp only [ways_nil hn, hh, hw, hR]
    exact if_pos hill
  by_cases hemp : R.isEmpty = true
  · cases blocking with
    | true =>
      refine ⟨0, 0, .inr ({ g with status := .blocked, offers := some (cases, shape) }, w), #[], none0, by omega, by omega, (fun o e => by cases e), fun τ' d' _ gs sl hn => ?_⟩
      unfold communicate
      simp only [ways_nil hn, hh, hw, hR, hemp, waiting_none, if_true]
      exact if_neg hill
    | false =>
      refine ⟨0, 0, .inr (g.finishComm P cases shape (-1) undef false, w), #[], none0, by omega, by omega, (fun o e => by cases e), fun τ' d' _ gs sl hn => ?_⟩
      unfold communicate
      simp only [ways_nil hn, hh, hw, hR, hemp, waiting_none, if_true, Bool.false_eq_true, if_false]
      exact if_neg hill
  have hemp' := Bool.eq_false_iff.2 hemp
  let pick : Sem (Nat × CommCase × Way) := do
      let a ← choose (.select R.length)
      let (k, c, ws) := R.getD a (0, default, [])
      let b ← choose (.extern "which waiting goroutine is the partner" ws.length)
      pure (k, c, ws.getD b .closed)
  have hpick : To P (fun x : Nat × CommCase × Way => Lone x.2.2) pick := by
    refine To.seq (to_choose _) fun a => ?_
    have hl : ∀ x ∈ (R.getD a (0, default, [])).2.2, Lone x := by
      intro x hx
      rcases getD_mem R a (0, default, []) with hm | he
      · generalize R.getD a (0, default, []) = y at hx hm
        rw [← hR] at hm
        have hm2 := (List.mem_filter.1 hm).1
        obtain ⟨⟨c, i⟩, _, e⟩ := List.mem_map.1 hm2
        rw [← e] at hx
        exact ways_lone w c x hx
      · rw [he] at hx
        cases hx
    refine To.seq (to_choose _) fun b => ?_
    show Lone _
    dsimp only
    rcases getD_mem (R.getD a (0, default, [])).2.2 b .closed with h | h
    · exact hl _ h
    · exact (congrArg Lone h).mpr trivial
  obtain ⟨k, c, r, es', hck, hlt, hrun⟩ := local_runT P pick hpick.still w τ d #[]
  have hrun2 : ∀ τ' d', Same τ τ' d d' k → pick.run P (on w τ' d') = onR r τ' (d' + c) := fun τ' d' hs => by
    have := hrun τ' d' hs
    rw [Sem.runT_eq] at this
    exact (Prod.mk.inj this).1
  cases r with
  | halt h w' =>
    refine ⟨k, c, .inl (.stuck "communicate" "", w'), #[], none0, fun _ => ⟨_, rfl, fun v h => by cases h⟩, hck, (fun o e => by cases e; exact fun v h => by cases h), fun τ' d' hs gs sl hn => ?_⟩
    unfold communicate
    simp only [ways_nil hn, hh, hw, hR, hemp', Bool.false_eq_true, if_false, partners_nil hn]
    refine (if_neg hill).trans ?_
    rw [show Sem.run P _ (on w τ' d') = _ from hrun2 τ' d' hs]
    rfl
  | ok a w' =>
    obtain ⟨kk, cc, way⟩ := a
    have hc : ¬ c < k := fun h => by
      obtain ⟨u, w'', _, e⟩ := hlt h
      cases e
    have hway : Lone way := (to_runs pick hpick (on w τ d) #[]).1 (kk, cc, way) (on w' τ (d + c)) (by rw [hrun τ d (Same.refl _ _ _)]; rfl)
    cases way with
    | partner a b => exact hway.elim
    | sendClosed =>
      refine ⟨k, c, .inr ({ g with frame := g.frame.raise [{ v := .iface P.rt.plainError (strVal "send on closed channel"), recovered := false }] }, w'), #[], none0, fun h => absurd h hc, hck, (fun o e => by cases e), fun τ' d' hs gs sl hn => ?_⟩
      unfold communicate
      simp only [ways_nil hn, hh, hw, hR, hemp', Bool.false_eq_true, if_false, partners_nil hn]
      refine (if_neg hill).trans ?_
      rw [show Sem.run P _ (on w τ' d') = _ from hrun2 τ' d' hs]
      rfl
    | closed =>
      refine ⟨k, c, .inr (g.finishComm P cases shape kk cc.zero false, w'), #[{ g := 0, fn := g.frame.fn, pos := g.frame.place, act := .recvClosed (match cc.chan with | .chan (some r) => r | _ => 0) }], ?_, fun h => absurd h hc, hck, (fun o e => by cases e), fun τ' d' hs gs sl hn => ?_⟩
      · intro op hop
        simp at hop
        subst hop
        exact ⟨rfl, rfl, fun m h => by cases h⟩
      unfold communicate
      simp only [ways_nil hn, hh, hw, hR, hemp', Bool.false_eq_true, if_false, partners_nil hn]
      refine (if_neg hill).trans ?_
      rw [show Sem.run P _ (on w τ' d') = _ from hrun2 τ' d' hs]
      rfl
    | buffer =>
      obtain ⟨ch, sd, z⟩ := cc
      have main : ∀ r0 : Nat, (∀ τ' d', Same τ τ' d d' k → ∀ (gs : Array Goroutine) (sl : Option (Nat × Nat)), NoWait gs → ∀ X,
          (match w'.heap[r0]?, sd with
            | some (.chan cap buf closed sent rcvd tm), some v =>
              (Stepped.next { world := { (on w' τ' (d' + c)) with heap := w'.heap.setIfInBounds r0 (.chan cap (buf.push v) closed (sent + 1) rcvd tm) }, gs := gs.setIfInBounds 0 (g.finishComm P cases shape kk undef false), rest := restOf sl },
                #[({ g := 0, fn := g.frame.fn, pos := g.frame.place, act := .send r0 sent } : MemOp), { g := 0, fn := g.frame.fn, pos := g.frame.place, act := .sendDone r0 sent }])
            | some (.chan cap buf closed sent rcvd tm), none =>
              (Stepped.next { world := { (on w' τ' (d' + c)) with heap := w'.heap.setIfInBounds r0 (.chan cap (buf.extract 1 buf.size) closed sent (rcvd + 1) tm) }, gs := gs.setIfInBounds 0 (g.finishComm P cases shape kk (buf.getD 0 undef) true), rest := restOf sl },
                #[{ g := 0, fn := g.frame.fn, pos := g.frame.place, act := .recv r0 rcvd cap }, { g := 0, fn := g.frame.fn, pos := g.frame.place, act := .recvDone r0 rcvd }])
            | _, _ => (.ended (.stuck "communicate: no such channel" "") (on w' τ' (d' + c)), #[])) = X → communicate P (restOf sl) gs 0 g cases blocking shape (on w τ' d') = X) →
          ∃ k c x ops, CommOps ops ∧ (c < k → ∃ o, x = .inl o ∧ ∀ v, o.1 ≠ .done v) ∧ c ≤ k ∧ (∀ o, x = .inl o → ∀ v, o.1 ≠ .done v) ∧ ∀ (τ' : Tape) (d' : Nat), Same τ τ' d d' k → ∀ (gs : Array Goroutine) (sl : Option (Nat × Nat)), NoWait gs →
            communicate P (restOf sl) gs 0 g cases blocking shape (on w τ' d') = (build gs sl (onX x τ' (d' + c)), ops) := by
        intro r0 H
        have stuck : (∀ cap buf closed sent rcvd tm, w'.heap[r0]? ≠ some (.chan cap buf closed sent rcvd tm)) → ∀ τ' d', Same τ τ' d d' k → ∀ (gs : Array Goroutine) (sl : Option (Nat × Nat)), NoWait gs → communicate P (restOf sl) gs 0 g cases blocking shape (on w τ' d') = (.ended (.stuck "communicate: no such channel" "") (on w' τ' (d' + c)), #[]) := by
          intro hno τ' d' hs gs sl hn
          refine H τ' d' hs gs sl hn _ ?_
          cases ho : w'.heap[r0]? with
          | none => rfl
          | some o =>
            cases o with
            | chan cap buf closed sent rcvd tm => exact absurd ho (hno _ _ _ _ _ _)
            | _ => rfl
        by_cases hno : ∃ cap buf closed sent rcvd tm, w'.heap[r0]? = some (.chan cap buf closed sent rcvd tm)
        · obtain ⟨cap, buf, closed, sent, rcvd, tm, hch⟩ := hno
          simp only [hch] at H
          cases sd with
          | some v =>
            refine ⟨k, c, .inr (g.finishComm P cases shape kk undef false, { w' with heap := w'.heap.setIfInBounds r0 (.chan cap (buf.push v) closed (sent + 1) rcvd tm) }), _, ?_, fun h => absurd h hc, hck, (fun o e => by cases e), fun τ' d' hs gs sl hn => H τ' d' hs gs sl hn _ rfl⟩
            intro op hop
            simp at hop
            rcases hop with rfl | rfl <;> exact ⟨rfl, rfl, fun m h => by cases h⟩
          | none =>
            refine ⟨k, c, .inr (g.finishComm P cases shape kk (buf.getD 0 undef) true, { w' with heap := w'.heap.setIfInBounds r0 (.chan cap (buf.extract 1 buf.size) closed sent (rcvd + 1) tm) }), _, ?_, fun h => absurd h hc, hck, (fun o e => by cases e), fun τ' d' hs gs sl hn => H τ' d' hs gs sl hn _ rfl⟩
            intro op hop
            simp at hop
            rcases hop with rfl | rfl <;> exact ⟨rfl, rfl, fun m h => by cases h⟩
        · refine ⟨k, c, .inl (.stuck "communicate: no such channel" "", w'), #[], none0, fun h => absurd h hc, hck, (fun o e => by cases e; exact fun v h => by cases h), fun τ' d' hs gs sl hn => stuck (fun a b c d e f h => hno ⟨a, b, c, d, e, f, h⟩) τ' d' hs gs sl hn⟩
      refine main (match ch with | .chan (some r) => r | _ => 0) fun τ' d' hs gs sl hn X hX => ?_
      subst hX
      unfold communicate
      simp only [ways_nil hn, hh, hw, hR, hemp', Bool.false_eq_true, if_false, partners_nil hn]
      refine (if_neg hill).trans ?_
      rw [show Sem.run P _ (on w τ' d') = _ from hrun2 τ' d' hs]
      have hw' : ∀ τ d, (on w' τ d).heap = w'.heap := fun _ _ => rfl
      simp only [onR, hw']
      cases ch with
      | chan r =>
        cases r with
        | none =>
          dsimp only
          cases w'.heap[0]? with
          | none => rfl
          | some o => cases o <;> cases sd <;> rfl
        | some r =>
          dsimp only
          cases w'.heap[r]? with
          | none => rfl
          | some o => cases o <;> cases sd <;> rfl
      | _ =>
        dsimp only
        cases w'.heap[0]? with
        | none => rfl
        | some o => cases o <;> cases sd <;> rfl
end Go.Lift

namespace Go.Lift
open Go.Conc
variable {P : Program}

def Good (g : Goroutine) : Prop := Tame g ∧ Up g.status

theorem again_good {g : Goroutine} (h : Good g) (w : World) : Good (g.again w) := by
  unfold Goroutine.again
  split
  · dsimp only
    split
    · exact ⟨h.1, up_run⟩
    · exact h
  · exact ⟨h.1, up_run⟩
  · exact ⟨h.1, up_run⟩
  · exact h

theorem finishComm_good {g : Goroutine} (h : Good g) (cases : Array CommCase) (shape : CommShape) (k : Int) (v : Value) (ok : Bool) : Good (g.finishComm P cases shape k v ok) :=
  ⟨⟨todo_finish h.1.1 _, h.1.2⟩, up_run⟩

theorem good_set {gs : Array Goroutine} (h : ∀ x ∈ gs, Good x) {g : Goroutine} (hg : Good g) (i : Nat) : ∀ x ∈ gs.setIfInBounds i g, Good x := by
  intro x hx
  obtain ⟨j, hj, rfl⟩ := Array.mem_iff_getElem.1 hx
  rw [Array.getElem_setIfInBounds (by simpa using hj)]
  split
  · exact hg
  · exact h _ (Array.getElem_mem (by simpa using hj))

theorem good_map {gs : Array Goroutine} (h : ∀ x ∈ gs, Good x) {f : Goroutine → Goroutine} (hf : ∀ g, Good g → Good (f g)) : ∀ x ∈ gs.map f, Good x := by
  intro x hx
  obtain ⟨y, hy, rfl⟩ := Array.mem_map.1 hx
  exact hf y (h y hy)

theorem good_partner {gs : Array Goroutine} (h : ∀ x ∈ gs, Good x) (k c : Nat) (v : Value) : (∀ x ∈ finishPartner P gs k c v, Good x) ∧ (finishPartner P gs k c v).size = gs.size := by
  unfold finishPartner
  refine ⟨fun x hx => ?_, by simp⟩
  obtain ⟨j, hj, rfl⟩ := Array.mem_iff_getElem.1 hx
  rw [Array.getElem_modify]
  have hm : Good (gs[j]'(by simpa using hj)) := h _ (Array.getElem_mem _)
  split
  · split
    · exact finishComm_good hm _ _ _ _ _
    · exact hm
  · exact hm

/-- What a communication leaves of the machine. -/
theorem comm_keeps {gs : Array Goroutine} (h : ∀ x ∈ gs, Good x) (i : Nat) {g : Goroutine} (hg : Good g) (sl : Option (Nat × Nat)) (cases : Array CommCase) (blocking : Bool) (shape : CommShape) (w : World) :
    (∃ o w', (communicate P (restOf sl) gs i g cases blocking shape w).1 = .ended o w') ∨ ∃ gs' w', (communicate P (restOf sl) gs i g cases blocking shape w).1 = .next (crowd gs' w' sl) ∧ gs'.size = gs.size ∧ ∀ x ∈ gs', Good x := by
  have put : ∀ (g' : Goroutine) (gs1 : Array Goroutine) (w' : World), Good g' → ((∀ x ∈ gs1, Good x) ∧ gs1.size = gs.size) → (∃ o w'', (Stepped.next { world := w', gs := gs1.setIfInBounds i g', rest := restOf sl } : Stepped) = .ended o w'') ∨ ∃ gs' w'', (Stepped.next { world := w', gs := gs1.setIfInBounds i g', rest := restOf sl } : Stepped) = .next (crowd gs' w'' sl) ∧ gs'.size = gs.size ∧ ∀ x ∈ gs', Good x :=
    fun g' gs1 w' hg' h1 => .inr ⟨_, w', rfl, by simpa using h1.2, good_set h1.1 hg' i⟩
  have h0 : (∀ x ∈ gs, Good x) ∧ gs.size = gs.size := ⟨h, rfl⟩
  unfold communicate
  dsimp only
  repeat' split
  all_goals first
    | exact .inl ⟨_, _, rfl⟩
    | exact put _ _ _ (finishComm_good hg _ _ _ _ _) h0
    | exact put _ _ _ (finishComm_good hg _ _ _ _ _) (good_partner h _ _ _)
    | exact put _ _ _ ⟨⟨todo_raise hg.1.1 _, hg.1.2⟩, hg.2⟩ h0
    | exact put _ _ _ ⟨hg.1, up_blocked⟩ h0


theorem awake_up {g : Goroutine} (h : Up g.status) : awake g := by
  intro t ht
  rcases h with h | h | h | h <;> rw [h] at ht <;> cases ht

theorem canRun_up {g : Goroutine} (h : Up g.status) (mono : Nat) (hr : g.canRun mono = true) : g.status = .running := by
  unfold Goroutine.canRun at hr
  rcases h with h | h | h | h <;> rw [h] at hr <;> first | exact h | cases hr

/-- Nobody can run. -/
theorem step_idle {gs : Array Goroutine} (h : ∀ x ∈ gs, Up x.status ∧ x.status ≠ .running) (w : World) (sl : Option (Nat × Nat)) :
    (stepT P (crowd gs w sl)).1 = .next (crowd gs w none) ∨ (stepT P (crowd gs w sl)).1 = .next (crowd gs w sl) ∨ ∃ o w', (stepT P (crowd gs w sl)).1 = .ended o w' := by
  have hnr : ∀ mono, runnable gs mono = [] := by
    intro mono
    refine List.eq_nil_iff_forall_not_mem.2 fun i hi => ?_
    have hc := mem_runnable.1 hi
    cases hg : gs[i]? with
    | none => simp [hg] at hc
    | some g =>
      have hm : g ∈ gs := Array.mem_of_getElem? hg
      simp only [hg, Option.any_some] at hc
      exact (h g hm).2 (canRun_up (h g hm).1 _ hc)
  have hasl : ∀ sl all, ahead (crowd gs w sl) all = none := by
    intro sl all
    unfold ahead crowd
    simp only [List.size_toArray, List.length_nil]
    refine Array.foldl_induction (motive := fun _ (x : Option Nat) => x = none) rfl (fun i x hx => ?_)
    subst hx
    have := awake_up (h gs[i] (Array.getElem_mem _)).1
    dsimp only
    split
    · rename_i t ht; exact absurd ht (this t)
    · rfl
  have key : ∀ sl, (∃ ops, ask P (crowd gs w sl) = .machine (.next (crowd gs w sl)) ops) ∨ ∃ o w' ops, ask P (crowd gs w sl) = .machine (.ended o w') ops := by
    intro sl
    have e1 : (crowd gs w sl).rest.watch = false := rfl
    have e2 : due (crowd gs w sl).rest.timers (crowd gs w sl).world.os.mono = [] := by simp [due, crowd]
    have e3 : runnable (crowd gs w sl).gs (crowd gs w sl).world.os.mono = [] := hnr _
    unfold ask
    simp only [e1, Bool.false_eq_true, if_false]
    unfold askOn
    simp only [e2, e3, List.isEmpty_nil, if_true, pure, Sem.run, List.length_nil, Nat.not_lt_zero, if_false]
    have e4 : ahead { world := (crowd gs w sl).world, gs := (crowd gs w sl).gs, rest := (crowd gs w sl).rest } false = none := hasl sl false
    rw [e4]
    dsimp only
    split
    · exact .inl ⟨_, rfl⟩
    · right
      split <;> exact ⟨_, _, _, rfl⟩
  have fin : ∀ sl', ask P (crowd gs w sl') = move P (crowd gs w sl) → (stepT P (crowd gs w sl)).1 = .next (crowd gs w sl') ∨ ∃ o w', (stepT P (crowd gs w sl)).1 = .ended o w' := by
    intro sl' e
    unfold stepT
    rw [← e]
    rcases key sl' with ⟨ops, h⟩ | ⟨o, w', ops, h⟩
    · rw [h]; exact .inl rfl
    · rw [h]; exact .inr ⟨o, w', rfl⟩
  rcases sl with _ | ⟨i, _ | n⟩
  · exact .inr (fin none rfl)
  · exact .inr (fin (some (i, 0)) rfl)
  · have hc : ((crowd gs w (some (i, n + 1))).gs[i]?).any (·.canRun (crowd gs w (some (i, n + 1))).world.os.mono) = false := by
      show (gs[i]?).any (·.canRun w.os.mono) = false
      cases hg : gs[i]? with
      | none => rfl
      | some g =>
        have hm : g ∈ gs := Array.mem_of_getElem? hg
        simp only [Option.any_some]
        rw [Bool.eq_false_iff]
        exact fun hcr => (h g hm).2 (canRun_up (h g hm).1 _ hcr)
    rcases fin none (by
      unfold move
      show ask P (crowd gs w none) = (if _ then _ else _)
      rw [hc]
      rfl) with h | h
    · exact .inl h
    · exact .inr (.inr h)

def nobody : Goroutine := { (default : Goroutine) with status := .finished }
theorem good_nobody : Good nobody := ⟨⟨TodoOk.nil, CallersOk.nil⟩, up_finished⟩

theorem crowd_swap {gs : Array Goroutine} {i : Nat} {g : Goroutine} (hi : gs[i]? = some g) : gs.swapAt! i nobody = (g, gs.setIfInBounds i nobody) := by
  obtain ⟨hlt, rfl⟩ := Array.getElem?_eq_some_iff.1 hi
  rw [swapAt_of_lt hlt]
  simp [Array.setIfInBounds, hlt]

/-- A machine of tame goroutines stays one, of no fewer. -/
theorem crowd_keeps (hP : Plain P) {gs : Array Goroutine} (h : ∀ x ∈ gs, Good x) (w : World) (sl : Option (Nat × Nat)) :
    (∃ o w', step P (crowd gs w sl) = .ended o w') ∨ ∃ gs' w' sl', step P (crowd gs w sl) = .next (crowd gs' w' sl') ∧ gs.size ≤ gs'.size ∧ ∀ x ∈ gs', Good x := by
  by_cases hr : ∃ (i : Nat) (g : Goroutine), gs[i]? = some g ∧ g.status = .running
  · obtain ⟨i, g, d, sl', hi, hg, hst⟩ := crowd_pick (P := P) (w := w) (sl := sl) (fun x hx => awake_up (h x hx).2) hr
    have hgood := h g (Array.mem_of_getElem? hi)
    have hout := out_stepG hP (i == 0) g hgood.1 (w.at d)
    unfold step
    rw [hst]
    have hgs0 : (∀ x ∈ gs.setIfInBounds i nobody, Good x) := good_set h good_nobody i
    have hsz0 : (gs.setIfInBounds i nobody).size = gs.size := by simp
    cases hs : stepG P (i == 0) g (w.at d) with
    | go g' w' es =>
      rw [hs] at hout
      rw [runT_crowd_go hi hs]
      refine .inr ⟨_, _, _, rfl, by simp, good_set (good_map h fun x hx => ?_) ⟨hout.1, hout.2.2⟩ i⟩
      unfold woken
      split
      · exact again_good hx _
      · exact hx
    | comm g' cs b sh w' es =>
      rw [hs] at hout
      have e0 : (runT P (crowd gs (w.at d) sl') i).1 = (communicate P (restOf sl') (gs.setIfInBounds i nobody) i g' cs b sh w').1 := by
        have hsw : gs.swapAt! i { (default : Goroutine) with status := .finished } = (g, gs.setIfInBounds i nobody) := crowd_swap hi
        show (runT P { world := w.at d, gs := gs, rest := { timers := #[], alone := none, slice := sl' } } i).1 = _
        unfold runT
        simp only [hsw, hs]
        rfl
      rcases comm_keeps (P := P) hgs0 i (g := g') ⟨hout.1, .inl hout.2.2⟩ sl' cs b sh w' with ⟨o, w'', e⟩ | ⟨gs', w'', e, e2, e3⟩
      · exact .inl ⟨o, w'', e0.trans e⟩
      · exact .inr ⟨gs', w'', sl', e0.trans e, by rw [e2, hsz0]; exact Nat.le_refl _, e3⟩
    | spawn g' c w' es =>
      rw [hs] at hout
      have e0 : (runT P (crowd gs (w.at d) sl') i).1 = .next (crowd (((gs.setIfInBounds i nobody).setIfInBounds i g').push c) w' sl') := by
        have hsw : gs.swapAt! i { (default : Goroutine) with status := .finished } = (g, gs.setIfInBounds i nobody) := crowd_swap hi
        show (runT P { world := w.at d, gs := gs, rest := { timers := #[], alone := none, slice := sl' } } i).1 = _
        unfold runT
        simp only [hsw, hs]
        rfl
      refine .inr ⟨_, _, _, e0, by simp, fun x hx => ?_⟩
      rcases Array.mem_push.1 hx with hx | rfl
      · exact good_set hgs0 ⟨hout.1, .inl hout.2.2.2.1⟩ i x hx
      · exact ⟨hout.2.1, .inl hout.2.2.2.2⟩
    | coroswitch g' c e w' es =>
      rw [hs] at hout
      obtain ⟨ht, _, rfl⟩ := hout
      have hsw : gs.swapAt! i { (default : Goroutine) with status := .finished } = (g, gs.setIfInBounds i nobody) := crowd_swap hi
      have hrun : ∀ o, w'.heap[c]? = o → (runT P (crowd gs (w.at d) sl') i).1 = (match o with
          | some (.coro (some h)) => Stepped.next { world := { w' with heap := w'.heap.setIfInBounds c (.coro none) }, gs := ((gs.setIfInBounds i nobody).setIfInBounds i { g' with status := .finished }).modify h (fun o => { o with status := .running }), rest := restOf sl' }
          | some (.coro none) => (match endThrow g'.frame "coroswitch on exited coro" w' with
            | .go g w _ => .next { world := w, gs := (gs.setIfInBounds i nobody).setIfInBounds i g, rest := restOf sl' }
            | _ => .ended (.stuck "" "") w')
          | _ => .ended (.stuck "coroswitch: no coroutine" "") w') := by
        intro o ho
        show (runT P { world := w.at d, gs := gs, rest := { timers := #[], alone := none, slice := sl' } } i).1 = _
        unfold runT
        simp only [hsw, hs, ho]
        cases o with
        | none => rfl
        | some o =>
          cases o with
          | coro p => cases p <;> rfl
          | _ => rfl
      have e := hrun _ rfl
      cases ho : w'.heap[c]? with
      | none => rw [ho] at e; exact .inl ⟨_, _, e⟩
      | some o =>
        rw [ho] at e
        cases o with
        | coro p =>
          cases p with
          | none =>
            refine .inr ⟨(gs.setIfInBounds i nobody).setIfInBounds i _, w', sl', e, by simp, good_set hgs0 (by exact ⟨⟨ht.1, CallersOk.nil⟩, up_run⟩) i⟩
          | some j =>
            refine .inr ⟨_, _, sl', e, by simp, fun x hx => ?_⟩
            obtain ⟨k, hk, rfl⟩ := Array.mem_iff_getElem.1 hx
            rw [Array.getElem_modify]
            have hm : Good (((gs.setIfInBounds i nobody).setIfInBounds i { g' with status := .finished })[k]'(by simpa using hk)) := good_set hgs0 (g := { g' with status := .finished }) (by exact ⟨ht, up_finished⟩) i _ (Array.getElem_mem _)
            split
            · exact ⟨hm.1, up_run⟩
            · exact hm
        | _ => exact .inl ⟨_, _, e⟩
    | ended o w' es =>
      refine .inl ⟨o, w', ?_⟩
      rw [runT_many_ended hi hs]
    | _ => rw [hs] at hout; exact hout.elim
  · rcases step_idle (P := P) (gs := gs) (fun x hx => ⟨(h x hx).2, fun hr' => hr (by
      obtain ⟨i, hi, rfl⟩ := Array.mem_iff_getElem.1 hx
      exact ⟨i, gs[i], Array.getElem?_eq_getElem hi, hr'⟩)⟩) w sl with e | e | ⟨o, w', e⟩
    · exact .inr ⟨gs, w, none, e, Nat.le_refl _, h⟩
    · exact .inr ⟨gs, w, sl, e, Nat.le_refl _, h⟩
    · exact .inl ⟨o, w', e⟩
end Go.Lift

namespace Go.Lift
open Go.Conc
variable {P : Program}

theorem runN_step {m : Machine} {n : Nat} : runN P (n + 1) m = (match step P m with | .next m' => runN P n m' | e => e) := rfl

theorem crowd_mono (hP : Plain P) : ∀ (n : Nat) (gs : Array Goroutine) (w : World) (sl : Option (Nat × Nat)), (∀ x ∈ gs, Good x) → ∀ m', runN P n (crowd gs w sl) = .next m' → gs.size ≤ m'.gs.size := by
  intro n
  induction n with
  | zero => intro gs w sl _ m' h; simp only [runN] at h; cases h; exact Nat.le_refl _
  | succ n ih =>
    intro gs w sl hg m' h
    rw [runN_step] at h
    rcases crowd_keeps hP hg w sl with ⟨o, w', e⟩ | ⟨gs', w', sl', e, hsz, hg'⟩
    · rw [e] at h; cases h
    · rw [e] at h
      exact Nat.le_trans hsz (ih gs' w' sl' hg' m' h)

/-- From here on goroutine 0 will not run alone. -/
def Dead1 (P : Program) (m : Machine) : Prop := ∀ n g' w', runN P (n + 1) m = .next (solo g' w') → g'.status ≠ .running

theorem dead_ended {m : Machine} {o : Outcome} {w : World} (h : step P m = .ended o w) : Dead1 P m := fun n g' w' e => by
  rw [runN_step, h] at e; cases e

theorem dead_many (hP : Plain P) {m : Machine} {gs : Array Goroutine} {w : World} {sl : Option (Nat × Nat)} (h : step P m = .next (crowd gs w sl)) (hg : ∀ x ∈ gs, Good x) (hsz : 2 ≤ gs.size) : Dead1 P m := fun n g' w' e => by
  rw [runN_step, h] at e
  have := crowd_mono hP n gs w sl hg _ e
  simp [solo] at this
  omega

theorem idle_stays {g : Goroutine} (hu : Up g.status) (hr : g.status ≠ .running) : ∀ (n : Nat) (w : World) (sl : Option (Nat × Nat)) (g' : Goroutine) (w' : World), runN P n (crowd #[g] w sl) = .next (solo g' w') → g'.status ≠ .running := by
  intro n
  induction n with
  | zero => intro w sl g' w' h; simp only [runN] at h; cases h; exact hr
  | succ n ih =>
    intro w sl g' w' h
    rw [runN_step] at h
    have hs := step_idle (P := P) (gs := #[g]) (fun x hx => by simp at hx; subst hx; exact ⟨hu, hr⟩) w sl
    unfold step at h
    rcases hs with e | e | ⟨o, w'', e⟩
    · rw [e] at h; exact ih w none g' w' h
    · rw [e] at h; exact ih w sl g' w' h
    · rw [e] at h; cases h

theorem dead_idle {m : Machine} {g : Goroutine} {w : World} {sl : Option (Nat × Nat)} (h : step P m = .next (crowd #[g] w sl)) (hu : Up g.status) (hr : g.status ≠ .running) : Dead1 P m := fun n g' w' e => by
  rw [runN_step, h] at e
  exact idle_stays hu hr n w sl g' w' e

theorem solo_run {g : Goroutine} {w : World} (h : g.status = .running) : step P (solo g w) = (runT P (solo g w) 0).1 := by
  unfold step
  rw [stepT_solo h]

theorem solo_swap (g : Goroutine) : (#[g] : Array Goroutine).swapAt! 0 nobody = (g, #[nobody]) := rfl

theorem out_on {s : GStep} {τ : Tape} {d : Nat} (h : Out (onG s τ d)) : Out s := by
  cases s
  case ended o w es =>
    rcases h with h | ⟨o', w', es', e, ho⟩
    · exact .inl h
    · cases e
      exact .inr ⟨o, w, es, rfl, ho⟩
  all_goals exact h

/-- A machine of one tame goroutine: its step looks at the tape by its answers alone. -/
theorem solo_local (hP : Plain P) {g : Goroutine} (hg : Good g) (hr : g.status = .running) (w : World) (τ : Tape) (d : Nat) :
    ∃ k, (∀ (τ' : Tape) (d' : Nat), Same τ τ' d d' k → Dead1 P (solo g (on w τ' d'))) ∨
      ∃ g' w', Good g' ∧ g'.status = .running ∧ ∀ (τ' : Tape) (d' : Nat), Same τ τ' d d' k → step P (solo g (on w τ' d')) = .next (solo g' (on w' τ' (d' + k))) := by
  obtain ⟨k, hb | ⟨s, hs⟩⟩ := local_stepG hP true g hg.1.1 w τ d
  · refine ⟨k, .inl fun τ' d' h => ?_⟩
    obtain ⟨o, w', es, e, _⟩ := hb τ' d' h
    refine dead_ended (o := o) (w := w') ?_
    rw [solo_run hr, solo_eq_crowd, runT_many_ended (i := 0) (g := g) rfl e]
  have hout : Out s := out_on (τ := τ) (d := d + k) (by rw [← hs τ d (Same.refl _ _ _)]; exact out_stepG hP true g hg.1 _)
  cases s with
  | go g' w' es =>
    obtain ⟨ht, _, hu⟩ := hout
    have hst : ∀ (τ' : Tape) (d' : Nat), Same τ τ' d d' k → step P (solo g (on w τ' d')) = .next (solo g' (on w' τ' (d' + k))) := fun τ' d' h => by
      rw [solo_run hr, runT_solo_go (hs τ' d' h)]
    by_cases hr' : g'.status = .running
    · exact ⟨k, .inr ⟨g', w', ⟨ht, hu⟩, hr', hst⟩⟩
    · exact ⟨k, .inl fun τ' d' h => dead_idle (hst τ' d' h) hu hr'⟩
  | ended o w' es =>
    refine ⟨k, .inl fun τ' d' h => dead_ended (o := o) (w := on w' τ' (d' + k)) ?_⟩
    rw [solo_run hr, solo_eq_crowd, runT_many_ended (i := 0) (g := g) rfl (hs τ' d' h)]
  | spawn g' c w' es =>
    obtain ⟨h1, h2, _, h3, h4⟩ := hout
    refine ⟨k, .inl fun τ' d' h => dead_many hP (gs := #[g', c]) (w := on w' τ' (d' + k)) (sl := none) ?_ ?_ (Nat.le_refl 2)⟩
    · rw [solo_run hr, runT_solo_spawn (hs τ' d' h)]; rfl
    · intro x hx
      simp at hx
      rcases hx with rfl | rfl
      · exact ⟨h1, .inl h3⟩
      · exact ⟨h2, .inl h4⟩
  | comm g' cs b sh w' es =>
    obtain ⟨ht, _, hu⟩ := hout
    obtain ⟨k2, c2, x, ops, _, hx1, hx2, _, hx⟩ := comm_local (P := P) g' cs b sh w' τ (d + k)
    have hno : NoWait #[nobody] := fun y hy => by simp at hy; subst hy; intro h; cases h
    have hst : ∀ (τ' : Tape) (d' : Nat), Same τ τ' d d' (k + k2) → step P (solo g (on w τ' d')) = build #[nobody] none (onX x τ' (d' + k + c2)) := fun τ' d' h => by
      rw [solo_run hr]
      have e := hs τ' d' (h.le (by omega))
      have e2 := hx τ' (d' + k) h.tail #[nobody] none hno
      have e3 : (runT P (solo g (on w τ' d')) 0).1 = (communicate P (restOf none) #[nobody] 0 g' cs b sh (on w' τ' (d' + k))).1 := by
        unfold runT
        have hsw : (solo g (on w τ' d')).gs.swapAt! 0 { (default : Goroutine) with status := .finished } = (g, #[nobody]) := rfl
        have e' : stepG P (0 == 0) g (solo g (on w τ' d')).world = _ := e
        simp only [hsw, e']
        rfl
      rw [e3, e2]
    cases x with
    | inl o =>
      obtain ⟨o, w''⟩ := o
      exact ⟨k + k2, .inl fun τ' d' h => dead_ended (hst τ' d' h)⟩
    | inr y =>
      obtain ⟨g'', w''⟩ := y
      have hck : c2 = k2 := by
        rcases Nat.lt_or_ge c2 k2 with h | h
        · obtain ⟨o, e, _⟩ := hx1 h; cases e
        · omega
      subst hck
      have hgood : ∀ y ∈ (#[g''] : Array Goroutine), Good y := by
        have hk := comm_keeps (P := P) (gs := #[nobody]) (fun y hy => by simp at hy; subst hy; exact good_nobody) 0 (g := g') ⟨ht, .inl hu⟩ none cs b sh (on w' τ (d + k))
        rw [hx τ (d + k) (Same.refl _ _ _) #[nobody] none hno] at hk
        rcases hk with ⟨o, w3, e⟩ | ⟨gs', w3, e, _, h3⟩
        · cases e
        · have e4 : gs' = #[g''] := by
            have := congrArg (fun s => match s with | Stepped.next m => m.gs | _ => #[]) e
            exact this.symm
          exact e4 ▸ h3
      have hg'' : Good g'' := hgood g'' (by simp)
      have hst2 : ∀ (τ' : Tape) (d' : Nat), Same τ τ' d d' (k + c2) → step P (solo g (on w τ' d')) = .next (solo g'' (on w'' τ' (d' + (k + c2)))) := fun τ' d' h => by
        rw [hst τ' d' h, show d' + (k + c2) = d' + k + c2 by omega]; rfl
      by_cases hr' : g''.status = .running
      · exact ⟨k + c2, .inr ⟨g'', w'', hg'', hr', hst2⟩⟩
      · exact ⟨k + c2, .inl fun τ' d' h => dead_idle (hst2 τ' d' h) hg''.2 hr'⟩
  | coroswitch g' c e w' es =>
    obtain ⟨ht, _, rfl⟩ := hout
    have hrun : ∀ (τ' : Tape) (d' : Nat), Same τ τ' d d' k → ∀ o, w'.heap[c]? = o → step P (solo g (on w τ' d')) = (match o with
        | some (.coro (some h)) => Stepped.next { world := on { w' with heap := w'.heap.setIfInBounds c (.coro none) } τ' (d' + k), gs := (#[{ g' with status := .finished }] : Array Goroutine).modify h (fun o => { o with status := .running }), rest := restOf none }
        | some (.coro none) => (match endThrow g'.frame "coroswitch on exited coro" (on w' τ' (d' + k)) with
          | .go g w _ => .next { world := w, gs := #[g], rest := restOf none }
          | _ => .ended (.stuck "" "") (on w' τ' (d' + k)))
        | _ => .ended (.stuck "coroswitch: no coroutine" "") (on w' τ' (d' + k))) := by
      intro τ' d' h o ho
      have e := hs τ' d' h
      rw [solo_run hr]
      unfold runT
      have hsw : (solo g (on w τ' d')).gs.swapAt! 0 { (default : Goroutine) with status := .finished } = (g, #[nobody]) := rfl
      have e' : stepG P (0 == 0) g (solo g (on w τ' d')).world = _ := e
      have ho' : (on w' τ' (d' + k)).heap[c]? = o := ho
      simp only [hsw, e', onG, ho']
      cases o with
      | none => rfl
      | some o =>
        cases o with
        | coro p => cases p <;> rfl
        | _ => rfl
    cases ho : w'.heap[c]? with
    | none => exact ⟨k, .inl fun τ' d' h => dead_ended (hrun τ' d' h _ ho)⟩
    | some o =>
      cases o with
      | coro p =>
        cases p with
        | none => exact ⟨k, .inr ⟨_, w', by exact ⟨⟨ht.1, CallersOk.nil⟩, up_run⟩, rfl, fun τ' d' h => hrun τ' d' h _ ho⟩⟩
        | some j =>
          cases j with
          | zero => exact ⟨k, .inr ⟨{ g' with status := .running }, { w' with heap := w'.heap.setIfInBounds c (.coro none) }, ⟨ht, up_run⟩, rfl, fun τ' d' h => hrun τ' d' h _ ho⟩⟩
          | succ j =>
            refine ⟨k, .inl fun τ' d' h => dead_idle (g := { g' with status := .finished }) (w := on { w' with heap := w'.heap.setIfInBounds c (.coro none) } τ' (d' + k)) (sl := none) ?_ up_finished (by intro h; cases h)⟩
            rw [hrun τ' d' h _ ho]
            rfl
      | _ => exact ⟨k, .inl fun τ' d' h => dead_ended (hrun τ' d' h _ ho)⟩
  | _ => exact hout.elim

end Go.Lift

namespace Go.Lift
open Go.Conc
variable {P : Program}

/-- However the tape is changed ahead of each step, goroutine 0 comes, alone, to the stop. -/
inductive Fin (P : Program) (Stop : Goroutine → World → Prop) : Goroutine → World → Prop
  | stop {g : Goroutine} {w : World} (h : Stop g w) : Fin P Stop g w
  | step {g : Goroutine} {w : World} (hg : Good g) (hr : g.status = .running) (nx : Tape → Nat → Goroutine × World)
      (h : ∀ (τ : Tape) (d : Nat), Go.step P (solo g (on w τ d)) = .next (solo (nx τ d).1 (nx τ d).2)) (hf : ∀ (τ : Tape) (d : Nat), Fin P Stop (nx τ d).1 (nx τ d).2) : Fin P Stop g w

section
variable {Stop : Goroutine → World → Prop}

theorem Fin.of {g : Goroutine} {w : World} (hg : Good g) (hr : g.status = .running) (h : ∀ (τ : Tape) (d : Nat), ∃ g' w', Go.step P (solo g (on w τ d)) = .next (solo g' w') ∧ Fin P Stop g' w') : Fin P Stop g w := by
  have h2 : ∀ (τ : Tape) (d : Nat), ∃ x : Goroutine × World, Go.step P (solo g (on w τ d)) = .next (solo x.1 x.2) ∧ Fin P Stop x.1 x.2 := fun τ d => let ⟨g', w', a, b⟩ := h τ d; ⟨(g', w'), a, b⟩
  exact .step hg hr (fun τ d => (h2 τ d).choose) (fun τ d => (h2 τ d).choose_spec.1) (fun τ d => (h2 τ d).choose_spec.2)

theorem Fin.on (hS : ∀ g w τ d, Stop g w → Stop g (on w τ d)) {g : Goroutine} {w : World} (h : Fin P Stop g w) (τ : Tape) (d : Nat) : Fin P Stop g (on w τ d) := by
  cases h with
  | stop h => exact .stop (hS _ _ _ _ h)
  | step hg hr nx h hf => exact .step hg hr nx (fun τ' d' => h τ' d') hf

structure St (P : Program) (Stop : Goroutine → World → Prop) where
  g : Goroutine
  w : World
  good : Good g
  run : g.status = .running
  bad : ¬ Fin P Stop g w

structure Way (P : Program) (Stop : Goroutine → World → Prop) (s : St P Stop) where
  τ : Tape
  d : Nat
  k : Nat
  next : Option (St P Stop)
  dead : next = none → ∀ (τ' : Tape) (d' : Nat), Same τ τ' d d' k → Dead1 P (solo s.g (on s.w τ' d'))
  goes : ∀ s', next = some s' → ∀ (τ' : Tape) (d' : Nat), Same τ τ' d d' k → Go.step P (solo s.g (on s.w τ' d')) = .next (solo s'.g (on s'.w τ' (d' + k)))

theorem way (hP : Plain P) (hS : ∀ g w τ d, Stop g w → Stop g (on w τ d)) (s : St P Stop) : Nonempty (Way P Stop s) := by
  have hno : ¬ ∀ (τ : Tape) (d : Nat), ∃ g' w', step P (solo s.g (on s.w τ d)) = .next (solo g' w') ∧ Fin P Stop g' w' := fun h => s.bad (.of s.good s.run h)
  obtain ⟨τ, hτ⟩ := Classical.not_forall.1 hno
  obtain ⟨d, hd⟩ := Classical.not_forall.1 hτ
  obtain ⟨k, hk | ⟨g', w', hg', hr', hst⟩⟩ := solo_local hP s.good s.run s.w τ d
  · exact ⟨⟨τ, d, k, none, fun _ => hk, fun s' h => by cases h⟩⟩
  · refine ⟨⟨τ, d, k, some ⟨g', w', hg', hr', fun hf => hd ⟨g', on w' τ (d + k), hst τ d (Same.refl _ _ _), hf.on hS τ (d + k)⟩⟩, (fun h => by cases h), fun s' h => by cases h; exact hst⟩⟩

/-- THE GLUE: if the machine of one comes to the stop on EVERY tape, it does so however the tape is changed on the way. -/
theorem fin_of_runs (hP : Plain P) (hS : ∀ g w τ d, Stop g w → Stop g (on w τ d)) {g : Goroutine} {w : World} (hg : Good g) (hr : g.status = .running)
    (H : ∀ (τ : Tape) (d : Nat), ∃ n g' w', runN P n (solo g (on w τ d)) = .next (solo g' w') ∧ g'.status = .running ∧ Stop g' w') : Fin P Stop g w := by
  classical
  apply Classical.byContradiction
  intro hbad
  let pick : (s : St P Stop) → Way P Stop s := fun s => Classical.choice (way hP hS s)
  let seq : Nat → Option (St P Stop) := fun n => Nat.rec (some ⟨g, w, hg, hr, hbad⟩) (fun _ o => o.bind fun s => (pick s).next) n
  have seq_succ : ∀ n, seq (n + 1) = (seq n).bind fun s => (pick s).next := fun n => rfl
  let kk : Nat → Nat := fun n => match seq n with | some s => (pick s).k | none => 0
  let D : Nat → Nat := fun n => Nat.rec 0 (fun i x => x + kk i) n
  have D_succ : ∀ n, D (n + 1) = D n + kk n := fun n => rfl
  have D_mono : ∀ n m, n ≤ m → D n ≤ D m := by
    intro n m h
    induction h with
    | refl => exact Nat.le_refl _
    | step _ ih => rw [D_succ]; omega
  let T : Tape := fun i q => if h : ∃ n, D n ≤ i ∧ i < D (n + 1) then
      (match seq h.choose with | some s => (pick s).τ ((pick s).d + (i - D h.choose)) q | none => 0) else 0
  have hT : ∀ n s, seq n = some s → Same (pick s).τ T (pick s).d (D n) (pick s).k := by
    intro n s hs i hi q
    have hkk : kk n = (pick s).k := by show (match seq n with | some s => (pick s).k | none => 0) = _; rw [hs]
    have hex : ∃ m, D m ≤ D n + i ∧ D n + i < D (m + 1) := ⟨n, by omega, by rw [D_succ, hkk]; omega⟩
    have hc := hex.choose_spec
    have heq : hex.choose = n := by
      rcases Nat.lt_trichotomy hex.choose n with h | h | h
      · have := D_mono (hex.choose + 1) n h; omega
      · exact h
      · have := D_mono (n + 1) hex.choose h
        rw [D_succ, hkk] at this; omega
    show _ = (if h : ∃ m, D m ≤ D n + i ∧ D n + i < D (m + 1) then
      (match seq h.choose with | some s => (pick s).τ ((pick s).d + (D n + i - D h.choose)) q | none => 0) else 0)
    rw [dif_pos hex, heq, hs]
    dsimp only
    congr 1
    omega
  have run : ∀ n s, seq n = some s → runN P n (solo g (on w T 0)) = .next (solo s.g (on s.w T (D n))) := by
    intro n
    induction n with
    | zero => intro s hs; cases hs; rfl
    | succ n ih =>
      intro s hs
      rw [seq_succ] at hs
      obtain ⟨s0, hs0, hn⟩ := Option.bind_eq_some_iff.1 hs
      have h1 := ih s0 hs0
      have h2 := (pick s0).goes s hn T (D n) (hT n s0 hs0)
      have hkk : kk n = (pick s0).k := by show (match seq n with | some s => (pick s).k | none => 0) = _; rw [hs0]
      rw [runN_add, h1]
      dsimp only
      rw [runN_step, h2, D_succ, hkk]
      rfl
  obtain ⟨n, g', w', hrun, hrun', hstop⟩ := H T 0
  by_cases hall : ∃ s, seq n = some s
  · obtain ⟨s, hs⟩ := hall
    have := run n s hs
    rw [this] at hrun
    have e1 : s.g = g' := by
      have := congrArg (fun s => match s with | Stepped.next m => m.gs | _ => #[]) hrun
      simpa [solo] using this
    have e2 : on s.w T (D n) = w' := by
      have := congrArg (fun s => match s with | Stepped.next m => m.world | _ => default) hrun
      exact this
    refine s.bad (.stop ?_)
    have h3 := hS g' w' s.w.tape s.w.drawn hstop
    rw [← e2, ← e1] at h3
    exact h3
  · -- the sequence ends ahead of n
    have hend : ∃ m s, m < n ∧ seq m = some s ∧ seq (m + 1) = none := by
      apply Classical.byContradiction
      intro hno
      have : ∀ m, m ≤ n → ∃ s, seq m = some s := by
        intro m
        induction m with
        | zero => exact fun _ => ⟨_, rfl⟩
        | succ m ih =>
          intro hm
          obtain ⟨s, hs⟩ := ih (by omega)
          cases hx : seq (m + 1) with
          | some s' => exact ⟨s', rfl⟩
          | none => exact absurd ⟨m, s, by omega, hs, hx⟩ hno
      exact hall (this n (Nat.le_refl _))
    obtain ⟨m, s, hmn, hs, hnone⟩ := hend
    have hn0 : (pick s).next = none := by
      rw [seq_succ, hs] at hnone
      exact hnone
    have hdead := (pick s).dead hn0 T (D m) (hT m s hs)
    obtain ⟨j, rfl⟩ : ∃ j, n = m + (j + 1) := ⟨n - m - 1, by omega⟩
    rw [runN_add, run m s hs] at hrun
    exact hdead j g' w' hrun hrun'
end
end Go.Lift

namespace Go.Lift
open Go.Conc
open Go.ConcN (sumTo upd sumTo_upd upd_ne upd_same)
variable {P : Program}

/-- The trace, wherever its addresses lie. -/
def PastE (t : Trace) : Prop := ∃ B, Past (fun _ => False) B t

theorem low_act (x : MemAct) : ∃ B, x.low B := by
  cases x with
  | access e =>
    obtain ⟨loc, wr, sy⟩ := e
    cases loc with
    | cell a => exact ⟨a.block + 1, Nat.lt_succ_self _⟩
    | obj r => exact ⟨r + 1, Nat.lt_succ_self _⟩
    | _ => exact ⟨0, trivial⟩
  | mark m =>
    cases m
    all_goals first
      | exact ⟨0, trivial⟩
      | (rename_i a; exact ⟨a.block + 1, Nat.lt_succ_self _⟩)
  | go _ => exact ⟨0, trivial⟩
  | start => exact ⟨0, trivial⟩
  | send c _ => exact ⟨c + 1, Nat.lt_succ_self _⟩
  | sendDone c _ => exact ⟨c + 1, Nat.lt_succ_self _⟩
  | recv c _ _ => exact ⟨c + 1, Nat.lt_succ_self _⟩
  | recvDone c _ => exact ⟨c + 1, Nat.lt_succ_self _⟩
  | close c => exact ⟨c + 1, Nat.lt_succ_self _⟩
  | recvClosed c => exact ⟨c + 1, Nat.lt_succ_self _⟩

theorem low_ops (u : Trace) : ∃ B, ∀ op ∈ u, op.act.low B := by
  obtain ⟨l⟩ := u
  induction l with
  | nil => exact ⟨0, fun op h => by simp at h⟩
  | cons x l ih =>
    obtain ⟨B, hB⟩ := ih
    obtain ⟨C, hC⟩ := low_act x.act
    refine ⟨max B C, fun op h => ?_⟩
    simp at h
    rcases h with rfl | h
    · exact MemAct.low_mono (Nat.le_max_right _ _) hC
    · exact MemAct.low_mono (Nat.le_max_left _ _) (hB op (by simpa using h))

theorem PastE.own {t u : Trace} (h : PastE t) (hu : ∀ op ∈ u, op.g = 0) (hd : Deaf (t ++ u) 0 = Deaf t 0) : PastE (t ++ u) := by
  obtain ⟨B, h⟩ := h
  obtain ⟨C, hC⟩ := low_ops u
  exact ⟨max B C, (h.mono (Nat.le_max_left B C)).app0 hu (fun _ _ _ _ hs => hs.elim) hd fun op hop => MemAct.low_mono (Nat.le_max_right B C) (hC op hop)⟩

theorem PastE.events {t : Trace} (h : PastE t) {fn : FuncId} {pos : String} {es : Array Event} (hn : Net es) : PastE (t ++ MemOp.ofEvents 0 fn pos es) :=
  h.own (fun op hop => by obtain ⟨e, _, rfl⟩ := Conc.mem_ofEvents hop; rfl) (by rw [Deaf_own]; exact hn _)

theorem deaf_comm {t : Trace} {ops : Array MemOp} (h : CommOps ops) : Deaf (t ++ ops) 0 = Deaf t 0 := by
  obtain ⟨l⟩ := ops
  rw [Deaf_append]
  have h' : ∀ op ∈ l, ∀ m, op.act ≠ .mark m := fun op hop => (h op (by simpa using hop)).2.2
  clear h
  generalize Deaf t 0 = d
  induction l generalizing d with
  | nil => rfl
  | cons x l ih =>
    rw [List.foldl_cons]
    have e : deafStep 0 d x = d := by
      have := h' x (List.mem_cons_self ..)
      unfold deafStep
      split
      · rename_i heq; exact absurd heq (this _)
      · rename_i heq; exact absurd heq (this _)
      · rfl
    rw [e]
    exact ih (fun op hop => h' op (List.mem_cons_of_mem _ hop)) d

theorem PastE.comm {t : Trace} (h : PastE t) {ops : Array MemOp} (hc : CommOps ops) : PastE (t ++ ops) :=
  h.own (fun op hop => (hc op hop).1) (deaf_comm hc)

theorem leavers_keep {t u : Trace} {gs gs' : Array Goroutine} {q : Nat → Nat} (hL : Leavers P t gs q) (hu : ∀ op ∈ u, op.g = 0) (hsz : gs'.size = gs.size) (h : ∀ j, 0 < j → gs'[j]? = gs[j]?) (h0 : 0 < gs.size) : Leavers P (t ++ u) gs' q :=
  ⟨fun i g hi hg => by
    rw [Deaf_other t (g' := 0) (by omega) u hu]
    exact hL.old i g hi (by rw [← h i hi]; exact hg), fun j hj => by
    rw [Deaf_other t (g' := 0) (by omega) u hu]
    exact hL.above j (by omega)⟩

theorem leavers_nowait {t : Trace} {gs : Array Goroutine} {q : Nat → Nat} (hL : Leavers P t gs q) : NoWait (gs.setIfInBounds 0 nobody) := by
  intro x hx
  obtain ⟨j, hj, rfl⟩ := Array.mem_iff_getElem.1 hx
  have hj' : j < gs.size := by simpa using hj
  rw [Array.getElem_setIfInBounds (by simpa using hj)]
  split
  · intro h; cases h
  · rename_i hne
    have := (hL.old j gs[j] (by omega) (Array.getElem?_eq_getElem hj')).status
    intro h
    rcases this with e | e <;> rw [e] at h <;> cases h

theorem set_other {gs : Array Goroutine} {x y : Goroutine} : ∀ j, 0 < j → ((gs.setIfInBounds 0 x).setIfInBounds 0 y)[j]? = gs[j]? := fun j hj => by
  rw [Array.getElem?_setIfInBounds_ne (by omega), Array.getElem?_setIfInBounds_ne (by omega)]

theorem solo_inj {g' : Goroutine} {w w' : World} {gs : Array Goroutine} {r : Rest} (h : (Stepped.next { world := w, gs := gs, rest := r } : Stepped) = .next (solo g' w')) : gs = #[g'] ∧ w = w' := by
  have e1 := congrArg (fun s => match s with | Stepped.next m => m.gs | _ => #[]) h
  have e2 := congrArg (fun s => match s with | Stepped.next m => m.world | _ => default) h
  exact ⟨e1, e2⟩

/-- What goroutine 0's step alone comes to, beside leavers. -/
theorem crowd_of_solo (hP : Plain P) {a g' : Goroutine} {w w' : World} (ha : Good a) (hr : a.status = .running) (hs : Go.step P (solo a w) = .next (solo g' w')) (hr' : g'.status = .running)
    {gs : Array Goroutine} {q : Nat → Nat} {t : Trace} (h0 : gs[0]? = some a) (hL : Leavers P t gs q) (hT : PastE t) (sl : Option (Nat × Nat)) :
    ∃ gs' ops, runT P (crowd gs w sl) 0 = (.next (crowd gs' w' sl), ops) ∧ gs'.size = gs.size ∧ gs'[0]? = some g' ∧ Leavers P (t ++ ops) gs' q ∧ PastE (t ++ ops) := by
  have hlt : 0 < gs.size := (Array.getElem?_eq_some_iff.1 h0).1
  have hout := out_stepG hP true a ha.1 w
  have own0 : ∀ (fn : FuncId) (pos : String) (es : Array Event), ∀ op ∈ MemOp.ofEvents 0 fn pos es, op.g = 0 := fun fn pos es op hop => by obtain ⟨e, _, rfl⟩ := Conc.mem_ofEvents hop; rfl
  have hsw : gs.swapAt! 0 { (default : Goroutine) with status := .finished } = (a, gs.setIfInBounds 0 nobody) := crowd_swap h0
  have hsw0 : ∀ w : World, (solo a w).gs.swapAt! 0 { (default : Goroutine) with status := .finished } = (a, #[nobody]) := fun _ => rfl
  rw [solo_run hr] at hs
  cases hst : stepG P true a w with
  | go g2 w2 es =>
    rw [hst] at hout
    rw [runT_solo_go hst] at hs
    obtain ⟨e1, rfl⟩ := solo_inj hs
    obtain rfl : g2 = g' := by simpa using e1
    refine ⟨_, _, runT_crowd_go (i := 0) h0 hst, by simp, by simp [hlt], ?_, hT.events hout.2.1⟩
    refine leavers_keep hL (own0 _ _ _) (by simp) (fun j hj => ?_) hlt
    rw [Array.getElem?_setIfInBounds_ne (by omega), Array.getElem?_map]
    cases hx : gs[j]? with
    | none => rfl
    | some x => simp [woken_quitsD (hL.old j x hj hx)]
  | comm g2 cs b sh w2 es =>
    rw [hst] at hout
    obtain ⟨k2, c2, x, ops, hops, _, _, _, hx⟩ := comm_local (P := P) g2 cs b sh w2 w2.tape w2.drawn
    have hno : NoWait #[nobody] := fun y hy => by simp at hy; subst hy; intro h; cases h
    have e1 := hx w2.tape w2.drawn (Same.refl _ _ _) #[nobody] none hno
    have e2 := hx w2.tape w2.drawn (Same.refl _ _ _) (gs.setIfInBounds 0 nobody) sl (leavers_nowait hL)
    rw [on_self] at e1 e2
    have e3 : (runT P (solo a w) 0).1 = (communicate P (restOf none) #[nobody] 0 g2 cs b sh w2).1 := by
      unfold runT
      have e' : stepG P (0 == 0) a (solo a w).world = _ := hst
      simp only [hsw0, e']
      rfl
    rw [e3, e1] at hs
    cases x with
    | inl o => cases hs
    | inr y =>
      obtain ⟨g3, w3⟩ := y
      obtain ⟨e4, e5⟩ := solo_inj hs
      obtain rfl : g3 = g' := by simpa using e4
      refine ⟨(gs.setIfInBounds 0 nobody).setIfInBounds 0 g3, MemOp.ofEvents 0 a.frame.fn a.frame.place es ++ ops, ?_, ?_, ?_, ?_, ?_⟩
      · show runT P { world := w, gs := gs, rest := { timers := #[], alone := none, slice := sl } } 0 = _
        have e' : stepG P (0 == 0) a w = _ := hst
        unfold runT
        simp only [hsw, e']
        show ((communicate P (restOf sl) (gs.setIfInBounds 0 nobody) 0 g2 cs b sh w2).1, MemOp.ofEvents 0 a.frame.fn a.frame.place es ++ (communicate P (restOf sl) (gs.setIfInBounds 0 nobody) 0 g2 cs b sh w2).2) = _
        rw [e2]
        show (Stepped.next { world := on w3 w2.tape (w2.drawn + c2), gs := _, rest := restOf sl }, _) = _
        rw [e5]
        rfl
      · simp
      · simp [hlt]
      · refine leavers_keep hL (fun op hop => ?_) (by simp) set_other hlt
        rcases Array.mem_append.1 hop with h | h
        · exact own0 _ _ _ op h
        · exact (hops op h).1
      · rw [← Array.append_assoc]
        exact (hT.events hout.2.1).comm hops
  | spawn g2 c w2 es =>
    rw [runT_solo_spawn hst] at hs
    obtain ⟨e1, _⟩ := solo_inj hs
    have := congrArg Array.size e1
    simp at this
  | ended o w2 es =>
    rw [solo_eq_crowd, runT_many_ended (i := 0) (g := a) rfl hst] at hs
    cases hs
  | coroswitch g2 c e w2 es =>
    rw [hst] at hout
    obtain ⟨ht, hnet, rfl⟩ := hout
    have hrun : ∀ (m : Machine) (gs0 : Array Goroutine), m.world = w → m.gs.swapAt! 0 { (default : Goroutine) with status := .finished } = (a, gs0) → ∀ o, w2.heap[c]? = o → runT P m 0 = ((match o with
        | some (.coro (some h)) => Stepped.next { world := { w2 with heap := w2.heap.setIfInBounds c (.coro none) }, gs := (gs0.setIfInBounds 0 { g2 with status := .finished }).modify h (fun o => { o with status := .running }), rest := m.rest }
        | some (.coro none) => (match endThrow g2.frame "coroswitch on exited coro" w2 with
          | .go g w _ => .next { world := w, gs := gs0.setIfInBounds 0 g, rest := m.rest }
          | _ => .ended (.stuck "" "") w2)
        | _ => .ended (.stuck "coroswitch: no coroutine" "") w2), MemOp.ofEvents 0 a.frame.fn a.frame.place es) := by
      intro m gs0 hw hsw o ho
      unfold runT
      have e' : stepG P (0 == 0) a m.world = GStep.coroswitch g2 c true w2 es := by rw [hw]; exact hst
      simp only [hsw, e', ho]
      cases o with
      | none => rfl
      | some o =>
        cases o with
        | coro p => cases p <;> rfl
        | _ => rfl
    have e1 := hrun (solo a w) #[nobody] rfl (hsw0 w) _ rfl
    have e2 := hrun (crowd gs w sl) (gs.setIfInBounds 0 nobody) rfl hsw _ rfl
    rw [e1] at hs
    have fin : ∀ g3 : Goroutine, ∃ gs', gs' = (gs.setIfInBounds 0 nobody).setIfInBounds 0 g3 ∧ gs'.size = gs.size ∧ gs'[0]? = some g3 ∧ Leavers P (t ++ MemOp.ofEvents 0 a.frame.fn a.frame.place es) gs' q ∧ PastE (t ++ MemOp.ofEvents 0 a.frame.fn a.frame.place es) := fun g3 =>
      ⟨_, rfl, by simp, by simp [hlt], leavers_keep hL (own0 _ _ _) (by simp) set_other hlt, hT.events hnet⟩
    cases ho : w2.heap[c]? with
    | none => rw [ho] at hs; cases hs
    | some o =>
      rw [ho] at hs e2
      cases o with
      | coro p =>
        cases p with
        | none =>
          obtain ⟨e3, e4⟩ := solo_inj hs
          obtain ⟨gs', h1, h2, h3, h4, h5⟩ := fin g'
          refine ⟨gs', _, ?_, h2, h3, h4, h5⟩
          rw [e2, h1, ← e4]
          have e5 : #[_] = #[g'] := e3
          have e6 := (Array.toList_inj.2 e5)
          simp at e6
          rw [← e6]
          rfl
        | some j =>
          obtain ⟨e3, e4⟩ := solo_inj hs
          cases j with
          | zero =>
            obtain ⟨gs', h1, h2, h3, h4, h5⟩ := fin g'
            refine ⟨gs', _, ?_, h2, h3, h4, h5⟩
            rw [e2, h1, ← e4]
            have e5 : ({ g2 with status := .running } : Goroutine) = g' := by
              have := congrArg (fun a : Array Goroutine => a[0]?) e3
              simpa using this
            have e6 : ((gs.setIfInBounds 0 nobody).setIfInBounds 0 { g2 with status := GoStatus.finished }).modify 0 (fun o => { o with status := .running }) = (gs.setIfInBounds 0 nobody).setIfInBounds 0 g' := by
              apply Array.ext_getElem?
              intro k
              rw [Array.getElem?_modify]
              rcases Nat.eq_zero_or_pos k with rfl | hk
              · simp [hlt, e5]
              · have : ¬ 0 = k := by omega
                simp [Array.getElem?_setIfInBounds_ne this, this]
            dsimp only
            rw [e6]
            rfl
          | succ j =>
            have e5 : ({ g2 with status := .finished } : Goroutine) = g' := by
              have := congrArg (fun a : Array Goroutine => a[0]?) e3
              simpa using this
            rw [← e5] at hr'
            cases hr'
      | _ => cases hs
  | _ => rw [hst] at hout; exact hout.elim

theorem Fin.running {Stop : Goroutine → World → Prop} (hSr : ∀ g w, Stop g w → g.status = .running) {g : Goroutine} {w : World} (h : Fin P Stop g w) : g.status = .running := by
  cases h with
  | stop h => exact hSr _ _ h
  | step _ hr => exact hr

/-- THE WALK BESIDE LEAVERS, OUT OF LONE RUNS. -/
theorem walk_fin (hP : Plain P) {Stop : Goroutine → World → Prop} (hS : ∀ g w τ d, Stop g w → Stop g (on w τ d)) (hSr : ∀ g w, Stop g w → g.status = .running) {a : Goroutine} {w : World} (hF : Fin P Stop a w) :
    ∀ (gs : Array Goroutine) (τ : Tape) (d : Nat) (sl : Option (Nat × Nat)) (t : Trace) (q : Nat → Nat), gs[0]? = some a → Leavers P t gs q → PastE t →
      ∃ (N : Nat) (gs' : Array Goroutine) (a' : Goroutine) (w' : World) (sl' : Option (Nat × Nat)) (t' : Trace) (q' : Nat → Nat),
        runNT P N (crowd gs (on w τ d) sl) t = (.next (crowd gs' w' sl'), t') ∧ gs'.size = gs.size ∧ gs'[0]? = some a' ∧ Stop a' w' ∧ Leavers P t' gs' q' ∧ PastE t' := by
  induction hF with
  | stop h => exact fun gs τ d sl t q h0 hL hT => ⟨0, gs, _, _, sl, t, q, rfl, rfl, h0, hS _ _ _ _ h, hL, hT⟩
  | @step a w hg hr nx h hf ih =>
    have key : ∀ (M : Nat) (gs : Array Goroutine) (τ : Tape) (d : Nat) (sl : Option (Nat × Nat)) (t : Trace) (q : Nat → Nat), sumTo gs.size q < M → gs[0]? = some a → Leavers P t gs q → PastE t →
      ∃ (N : Nat) (gs' : Array Goroutine) (a' : Goroutine) (w' : World) (sl' : Option (Nat × Nat)) (t' : Trace) (q' : Nat → Nat),
        runNT P N (crowd gs (on w τ d) sl) t = (.next (crowd gs' w' sl'), t') ∧ gs'.size = gs.size ∧ gs'[0]? = some a' ∧ Stop a' w' ∧ Leavers P t' gs' q' ∧ PastE t' := by
      intro M
      induction M with
      | zero => intro gs τ d sl t q hM; omega
      | succ M ihM =>
        intro gs τ d sl t q hM h0 hL hT
        have haw : ∀ g ∈ gs, awake g := by
          intro g hgm
          obtain ⟨i, hi, rfl⟩ := Array.mem_iff_getElem.1 hgm
          rcases Nat.eq_zero_or_pos i with rfl | hpos
          · have : gs[0] = a := by simpa [Array.getElem?_eq_getElem hi] using h0
            rw [this]; exact awake_of (.inl hr)
          · exact awake_of ((hL.old i _ hpos (Array.getElem?_eq_getElem hi)).status.elim .inl fun x => .inr (.inr x))
        obtain ⟨i, g, d1, sl', hi, hgr, hst⟩ := crowd_pick (P := P) (w := on w τ d) (sl := sl) haw ⟨0, a, h0, hr⟩
        have hwd : (on w τ d).at d1 = on w τ d1 := rfl
        rw [hwd] at hst
        rcases Nat.eq_zero_or_pos i with rfl | hpos
        · obtain ⟨gs', ops, e, hsz, h0', hL', hT'⟩ := crowd_of_solo hP hg hr (h τ d1) ((hf τ d1).running hSr) h0 hL hT sl'
          obtain ⟨N, gs2, a2, w2, sl2, t2, q2, e2, hsz2, h02, hS2, hL2, hT2⟩ := ih τ d1 gs' (nx τ d1).2.tape (nx τ d1).2.drawn sl' (t ++ ops) q h0' hL' hT'
          rw [on_self] at e2
          exact ⟨N + 1, gs2, a2, w2, sl2, t2, q2, by simp only [runNT, hst, e]; exact e2, hsz2.trans hsz, h02, hS2, hL2, hT2⟩
        · have hq := hL.old i g hpos hi
          have hi0 : (i == 0) = false := by simp; omega
          have hlt : i < gs.size := (Array.getElem?_eq_some_iff.1 hi).1
          cases hqi : q i with
          | zero => rw [hqi] at hq; rw [hq.1] at hgr; cases hgr
          | succ k =>
            rw [hqi] at hq
            rcases hq with ⟨hfin, _⟩ | ⟨_, g', es, hm, hstp, hq'⟩
            · rw [hfin] at hgr; cases hgr
            have hrunT := runT_crowd_go (P := P) (sl := sl') (i := i) hi (by rw [hi0]; exact hstp (on w τ d1))
            have hsz : ((gs.map (woken P g g' (on w τ d1))).setIfInBounds i g').size = gs.size := by simp
            have hsum : sumTo gs.size (upd q i k) + (k + 1) = sumTo gs.size q + k := by
              have := sumTo_upd q k id hlt
              simpa [hqi] using this
            obtain ⟨B, hB⟩ := hT
            obtain ⟨N, gs2, a2, w2, sl2, t2, q2, e2, hsz2, h02, hS2, hL2, hT2⟩ := ihM ((gs.map (woken P g g' (on w τ d1))).setIfInBounds i g') τ d1 sl' (t ++ MemOp.ofEvents i g.frame.fn g.frame.place es) (upd q i k) (by rw [hsz]; omega)
              (by
                have hne : i ≠ 0 := by omega
                rw [Array.getElem?_setIfInBounds_ne hne, Array.getElem?_map, h0]
                simp [woken_run hr])
              ⟨fun j x hj hx => by
                by_cases hji : i = j
                · subst hji
                  rw [Array.getElem?_setIfInBounds_self_of_lt (by simpa using hlt)] at hx
                  obtain rfl := Option.some.inj hx
                  rw [upd_same, Deaf_own]
                  exact hq'
                · rw [Array.getElem?_setIfInBounds_ne hji, Array.getElem?_map] at hx
                  obtain ⟨y, hy, rfl⟩ := Option.map_eq_some_iff.1 hx
                  have hqj := hL.old j y hj hy
                  rw [woken_quitsD hqj, upd_ne q k (Ne.symm hji), Deaf_other t hji _ (fun op hop => by obtain ⟨e, _, rfl⟩ := Conc.mem_ofEvents hop; rfl)]
                  exact hqj, fun j hj => by
                rw [Deaf_other t (g' := i) (by simp at hj; omega) _ (fun op hop => by obtain ⟨e, _, rfl⟩ := Conc.mem_ofEvents hop; rfl)]
                exact hL.above j (by simpa using hj)⟩
              ⟨B, hB.mute (by omega) hm⟩
            exact ⟨N + 1, gs2, a2, w2, sl2, t2, q2, by simp only [runNT, hst, hrunT]; exact e2, hsz2.trans hsz, h02, hS2, hL2, hT2⟩
    exact fun gs τ d sl t q => key _ gs τ d sl t q (Nat.lt_succ_self _)
end Go.Lift
