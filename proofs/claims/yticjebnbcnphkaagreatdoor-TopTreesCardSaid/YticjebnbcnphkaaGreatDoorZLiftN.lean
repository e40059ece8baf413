/- A part of the proof that the abstract interpreter is sound, and of the two goroutines of the lexer. -/
import Derived.Test.YticjebnbcnphkaaGreatDoorZLiftG
import Derived.Conc.CompanyMem

set_option linter.unusedSimpArgs false
set_option linter.unusedVariables false
set_option linter.unusedSectionVars false

namespace Go.Lift
open Go.Conc
variable {P : Program}

/-- The blocks that are a goroutine's own. -/
abbrev Own := Nat → Prop

/-- What the others may do ahead of a step: they leave my blocks. -/
structure Rely (O : Own) (w w₁ : World) : Prop where
  size : w.heap.size ≤ w₁.heap.size
  keep : ∀ k, O k → k < w.heap.size → w₁.heap[k]? = w.heap[k]?
  os : w₁.os = w.os
  out : w₁.output = w.output

theorem Rely.refl (O : Own) (w : World) : Rely O w w := ⟨Nat.le_refl _, fun _ _ _ => rfl, rfl, rfl⟩
theorem Rely.trans {O : Own} {a b c : World} (h : Rely O a b) (k : Rely O b c) : Rely O a c :=
  ⟨Nat.le_trans h.size k.size, fun i hi hlt => (k.keep i hi (Nat.lt_of_lt_of_le hlt h.size)).trans (h.keep i hi hlt), k.os.trans h.os, k.out.trans h.out⟩

/-- What I touch is my own, or new. -/
def EvO (O : Own) (w w' : World) (e : Event) : Prop :=
  match e.loc with
  | .cell a => O a.block ∨ (w.heap.size ≤ a.block ∧ a.block < w'.heap.size)
  | .obj r => O r ∨ (w.heap.size ≤ r ∧ r < w'.heap.size)
  | .mark m => Neutral m
  | _ => False

/-- What a step of mine does: it leaves the others' blocks. -/
structure Guar (O : Own) (w w' : World) (es : Array Event) : Prop where
  size : w.heap.size ≤ w'.heap.size
  keep : ∀ k, ¬ O k → k < w.heap.size → w'.heap[k]? = w.heap[k]?
  os : w'.os = w.os
  out : w'.output = w.output
  evs : ∀ e ∈ es, EvO O w w' e

theorem Guar.idle (O : Own) (w : World) : Guar O w w #[] := ⟨Nat.le_refl _, fun _ _ _ => rfl, rfl, rfl, fun e he => by simp at he⟩

/-- What I allot is mine. -/
def Grow (O : Own) (w w' : World) : Own := fun k => O k ∨ (w.heap.size ≤ k ∧ k < w'.heap.size)
theorem grow_same {O : Own} {w w' : World} (h : w'.heap.size = w.heap.size) : Grow O w w' = O := by
  funext k
  apply propext
  unfold Grow
  constructor
  · rintro (h' | ⟨h1, h2⟩)
    · exact h'
    · omega
  · exact .inl

/-- In company, whatever the others do: to the stop. -/
inductive FinO (P : Program) (main : Bool) (Stop : Own → Goroutine → World → Prop) : Own → Goroutine → World → Prop
  | stop {O : Own} {g : Goroutine} {w : World} (h : ∀ w₁, Rely O w w₁ → Stop O g w₁) : FinO P main Stop O g w
  | step {O : Own} {g : Goroutine} {w : World} (hr : g.status = .running) (nx : World → Goroutine × World × Array Event)
      (h : ∀ w₁, Rely O w w₁ → stepG P main g w₁ = .go (nx w₁).1 (nx w₁).2.1 (nx w₁).2.2 ∧ Guar O w₁ (nx w₁).2.1 (nx w₁).2.2)
      (hf : ∀ w₁, Rely O w w₁ → FinO P main Stop (Grow O w₁ (nx w₁).2.1) (nx w₁).1 (nx w₁).2.1) : FinO P main Stop O g w

section
variable {main : Bool} {Stop : Own → Goroutine → World → Prop} {O : Own}

theorem FinO.of {g : Goroutine} {w : World} (hr : g.status = .running)
    (h : ∀ w₁, Rely O w w₁ → ∃ g' w' es, stepG P main g w₁ = .go g' w' es ∧ Guar O w₁ w' es ∧ FinO P main Stop (Grow O w₁ w') g' w') : FinO P main Stop O g w := by
  classical
  have h2 : ∀ w₁, ∃ x : Goroutine × World × Array Event, Rely O w w₁ → stepG P main g w₁ = .go x.1 x.2.1 x.2.2 ∧ Guar O w₁ x.2.1 x.2.2 ∧ FinO P main Stop (Grow O w₁ x.2.1) x.1 x.2.1 := by
    intro w₁
    by_cases hw : Rely O w w₁
    · obtain ⟨g', w', es, a, b, c⟩ := h w₁ hw
      exact ⟨(g', w', es), fun _ => ⟨a, b, c⟩⟩
    · exact ⟨default, fun x => absurd x hw⟩
  exact .step hr (fun w₁ => (h2 w₁).choose) (fun w₁ hw => ⟨((h2 w₁).choose_spec hw).1, ((h2 w₁).choose_spec hw).2.1⟩) (fun w₁ hw => ((h2 w₁).choose_spec hw).2.2)

theorem FinO.rely {g : Goroutine} {w w₁ : World} (h : FinO P main Stop O g w) (hr : Rely O w w₁) : FinO P main Stop O g w₁ := by
  cases h with
  | stop h => exact .stop fun w₂ h₂ => h w₂ (hr.trans h₂)
  | step hs nx h hf => exact .step hs nx (fun w₂ h₂ => h w₂ (hr.trans h₂)) fun w₂ h₂ => hf w₂ (hr.trans h₂)

/-- A move of control. -/
theorem FinO.ctl {g g' : Goroutine} {w : World} (hr : g.status = .running) (hs : ∀ w₁, stepG P main g w₁ = .go g' w₁) (h : FinO P main Stop O g' w) : FinO P main Stop O g w :=
  .of hr fun w₁ h₁ => ⟨g', w₁, #[], hs w₁, Guar.idle O w₁, by rw [grow_same rfl]; exact h.rely h₁⟩

def AfterO (P : Program) (main : Bool) (Stop : Own → Goroutine → World → Prop) (b : Frame) (k : List Item) (cs : List Frame) : Exit → Act → Own → World → Prop
  | .normal, a, O, w => FinO P main Stop O (G (b.at a k) cs) w
  | .exit id, a, O, w => ∃ k', exitTo id k = some k' ∧ FinO P main Stop O (G (b.at a k') cs) w
  | .ret, a, O, w => ∀ todo, FinO P main Stop O (G { b.at a todo with mode := .returning } cs) w
  | _, _, _, _ => False

theorem AfterO.push {b : Frame} {x : Item} {k : List Item} {cs : List Frame} {e : Exit} {a : Act} {w : World} (hx : x.plain = true) (he : e ≠ .normal)
    (h : AfterO P main Stop b k cs e a O w) : AfterO P main Stop b (x :: k) cs e a O w := by
  cases e with
  | normal => exact absurd rfl he
  | exit id => obtain ⟨k', hk, hg⟩ := h; exact ⟨k', by cases x <;> simp_all [exitTo, Item.plain], hg⟩
  | ret => exact h
  | goto l => exact h
  | panic ch => exact h
  | outgrown => exact h
end

abbrev PostO := Exit → Act → Own → World → Prop

def wpO (P : Program) (main : Bool) (fn : FuncId) (c : Code) (Q : PostO) (a : Act) (O : Own) (w : World) : Prop :=
  ∀ (b : Frame) (k : List Item) (cs : List Frame) (Stop : Own → Goroutine → World → Prop), b.fn = fn → b.kind ≠ .early →
    (∀ e a' O' w', Q e a' O' w' → AfterO P main Stop b k cs e a' O' w') → FinO P main Stop O (G (b.at a (.code c :: k)) cs) w

def OpsO (P : Program) (main : Bool) (fn : FuncId) (ops : Array Oper) (todo : List Nat) (Q : PostO) (a : Act) (O : Own) (w : World) : Prop :=
  ∀ (b : Frame) (k : List Item) (cs : List Frame) (Stop : Own → Goroutine → World → Prop), b.fn = fn → b.kind ≠ .early →
    (∀ e a' O' w', Q e a' O' w' → AfterO P main Stop b k cs e a' O' w') → FinO P main Stop O (G (b.at a (.inRegion ops todo :: k)) cs) w

def thenO (next : Act → Own → World → Prop) (Q : PostO) : PostO
  | .normal, a, O, w => next a O w
  | e, a, O, w => Q e a O w
def blockO (id : Nat) (Q : PostO) : PostO
  | .exit id', a, O, w => if id' = id then Q .normal a O w else Q (.exit id') a O w
  | e, a, O, w => Q e a O w

section rules
variable {main : Bool} {fn : FuncId} {Q : PostO} {a : Act} {O : Own} {w : World}

theorem wpO_mono {c : Code} {Q' : PostO} (h : wpO P main fn c Q a O w) (hq : ∀ e a O w, Q e a O w → Q' e a O w) : wpO P main fn c Q' a O w :=
  fun b k cs Stop hb hk hc => h b k cs Stop hb hk fun e a' O' w' q => hc e a' O' w' (hq e a' O' w' q)
theorem wpO_rely {c : Code} {w₁ : World} (h : wpO P main fn c Q a O w) (hr : Rely O w w₁) : wpO P main fn c Q a O w₁ :=
  fun b k cs Stop hb hk hc => (h b k cs Stop hb hk hc).rely hr
theorem wpO_skip (h : Q .normal a O w) : wpO P main fn .skip Q a O w := fun b k cs Stop _ _ hc => .ctl rfl (fun _ => stepG_skip) (hc _ _ _ _ h)
theorem wpO_label {l : Nat} (h : Q .normal a O w) : wpO P main fn (.label l) Q a O w := fun b k cs Stop _ _ hc => .ctl rfl (fun _ => stepG_label) (hc _ _ _ _ h)
theorem wpO_ret (h : Q .ret a O w) : wpO P main fn .ret Q a O w := fun b k cs Stop _ _ hc => .ctl rfl (fun _ => stepG_ret') (hc _ _ _ _ h _)
theorem wpO_exit {id : Nat} (h : Q (.exit id) a O w) : wpO P main fn (.exit id) Q a O w := fun b k cs Stop _ _ hc => by
  obtain ⟨k', hk', hg⟩ := hc _ _ _ _ h
  exact .ctl rfl (fun _ => stepG_exit hk') hg
theorem wpO_seq {x y : Code} (h : wpO P main fn x (thenO (fun a O w => wpO P main fn y Q a O w) Q) a O w) : wpO P main fn (.seq x y) Q a O w := by
  intro b k cs Stop hb hk hc
  refine .ctl rfl (fun _ => stepG_seq) (h b (.code y :: k) cs Stop hb hk fun e a' O' w' q => ?_)
  cases e with
  | normal => exact q b k cs Stop hb hk hc
  | exit id => exact (hc _ _ _ _ q).push rfl (by simp)
  | ret => exact (hc _ _ _ _ q).push (x := .code y) rfl (by simp)
  | goto l => exact hc _ _ _ _ q
  | panic ch => exact hc _ _ _ _ q
  | outgrown => exact hc _ _ _ _ q
theorem wpO_seq_mid {x y : Code} (M : Act → Own → World → Prop) (hx : wpO P main fn x (thenO M Q) a O w) (hy : ∀ a O w, M a O w → wpO P main fn y Q a O w) : wpO P main fn (.seq x y) Q a O w :=
  wpO_seq (wpO_mono hx fun e a' O' w' q => by cases e <;> first | exact hy _ _ _ q | exact q)
theorem wpO_cond {c : Operand} {x y : Code} {t : Bool} (hc : a.eval c = .bool t) (h : wpO P main fn (if t then x else y) Q a O w) : wpO P main fn (.cond c x y) Q a O w :=
  fun b k cs Stop hb hk hq => .ctl rfl (fun _ => stepG_cond hc) (h b k cs Stop hb hk hq)
theorem wpO_block {id : Nat} {c : Code} (h : wpO P main fn c (blockO id Q) a O w) : wpO P main fn (.block id c) Q a O w := by
  intro b k cs Stop hb hk hc
  refine .ctl rfl (fun _ => stepG_block) (h b (.inBlock id :: k) cs Stop hb hk fun e a' O' w' q => ?_)
  cases e with
  | normal => exact .ctl rfl (fun _ => stepG_inBlock) (hc _ _ _ _ q)
  | exit id' =>
    by_cases hid : id' = id
    · simp only [blockO, hid, if_true] at q
      exact ⟨k, by simp [exitTo, hid], hc _ _ _ _ q⟩
    · simp only [blockO, hid, if_false] at q
      obtain ⟨k', hk', hg⟩ := hc _ _ _ _ q
      have : (id == id') = false := by simp; exact fun h => hid h.symm
      exact ⟨k', by simp [exitTo, this, hk'], hg⟩
  | ret => exact hc _ _ _ _ q
  | goto l => exact hc _ _ _ _ q
  | panic ch => exact hc _ _ _ _ q
  | outgrown => exact hc _ _ _ _ q

/-- A loop: an invariant and a measure on the state. -/
theorem wpO_loop {c : Code} (I : Nat → Act → Own → World → Prop) (n : Nat) (h₀ : I n a O w)
    (round : ∀ n a O w, I n a O w → wpO P main fn c (thenO (fun a' O' w' => ∃ m, m < n ∧ I m a' O' w') Q) a O w) : wpO P main fn (.loop c) Q a O w := by
  intro b k cs Stop hb hk hc
  have key : ∀ n a O w, I n a O w → FinO P main Stop O (G (b.at a (.code c :: .inLoop c :: k)) cs) w := by
    intro n
    induction n using Nat.strongRecOn with
    | _ n ih =>
      intro a O w hI
      refine round n a O w hI b (.inLoop c :: k) cs Stop hb hk fun e a' O' w' q => ?_
      cases e with
      | normal => obtain ⟨m, hm, hI'⟩ := q; exact .ctl rfl (fun _ => stepG_inLoop) (ih m hm a' O' w' hI')
      | exit id => exact (hc _ _ _ _ q).push rfl (by simp)
      | ret => exact (hc _ _ _ _ q).push (x := .inLoop c) rfl (by simp)
      | goto l => exact hc _ _ _ _ q
      | panic ch => exact hc _ _ _ _ q
      | outgrown => exact hc _ _ _ _ q
  exact .ctl rfl (fun _ => stepG_loop) (key n a O w h₀)

theorem wpO_region {id : Nat} {ops : Array Oper} (h : OpsO P main fn ops (List.range ops.size) Q a O w) : wpO P main fn (.region id ops false) Q a O w :=
  fun b k cs Stop hb hk hc => .ctl rfl (fun _ => stepG_region) (h b k cs Stop hb hk hc)
theorem opsO_nil {ops : Array Oper} (h : Q .normal a O w) : OpsO P main fn ops [] Q a O w := fun b k cs Stop _ _ hc => .ctl rfl (fun _ => stepG_region_end) (hc _ _ _ _ h)

/-- One operation that ends by a value or by nothing. -/
theorem opsO_cons {ops : Array Oper} {i : Nat} {rest : List Nat} {o : Oper} (ho : ops[i]? = some o) (hw : Region.wanted o (yielded ops a.tmps) = true)
    (h : ∀ w₁, Rely O w w₁ → uponK o a (fun a' w' => Guar O w₁ w' (listed P fn a o w₁) ∧ OpsO P main fn ops rest Q a' (Grow O w₁ w') w') ((execOp a.eval o).run P w₁)) : OpsO P main fn ops (i :: rest) Q a O w := by
  intro b k cs Stop hb hk hc
  refine .of rfl fun w₁ h₁ => ?_
  have := h w₁ h₁
  revert this
  cases hrun : (execOp a.eval o).run P w₁ with
  | ok x w' =>
    cases x
    case value v => exact fun ⟨d, g⟩ => ⟨_, w', _, stepG_value ho hw hk hrun, hb ▸ d, g b k cs Stop hb hk hc⟩
    case skip => exact fun ⟨d, g⟩ => ⟨_, w', _, stepG_none ho hw hk hrun, hb ▸ d, g b k cs Stop hb hk hc⟩
    all_goals exact fun x => x.elim
  | halt _ _ => exact fun x => x.elim

theorem opsO_unwanted {ops : Array Oper} {i : Nat} {rest : List Nat} {o : Oper} (ho : ops[i]? = some o) (hw : Region.wanted o (yielded ops a.tmps) = false)
    (h : OpsO P main fn ops rest Q (a.put o.dst undef) O w) : OpsO P main fn ops (i :: rest) Q a O w :=
  fun b k cs Stop hb hk hc => .ctl rfl (fun _ => stepG_unwanted ho hw) (h b k cs Stop hb hk hc)

/-- A contract in company. -/
def CallsO (P : Program) (main : Bool) (f : FuncId) (args : Array Value) (O : Own) (w : World) (R : Value → Own → World → Prop) : Prop :=
  ∀ (c : Frame) (cs : List Frame) (Stop : Own → Goroutine → World → Prop), (∀ v O' w', R v O' w' → FinO P main Stop O' (G (c.finish v) cs) w') →
    FinO P main Stop O (G (Frame.enter P f args .normal) (c :: cs)) w

theorem CallsO.mono {f : FuncId} {args : Array Value} {R R' : Value → Own → World → Prop} (h : CallsO P main f args O w R) (hr : ∀ v O w, R v O w → R' v O w) : CallsO P main f args O w R' :=
  fun c cs Stop hc => h c cs Stop fun v O' w' r => hc v O' w' (hr v O' w' r)
theorem CallsO.rely {f : FuncId} {args : Array Value} {R : Value → Own → World → Prop} {w₁ : World} (h : CallsO P main f args O w R) (hr : Rely O w w₁) : CallsO P main f args O w₁ R :=
  fun c cs Stop hc => (h c cs Stop hc).rely hr

def bodyPostO (P : Program) (fn : Func) (R : Value → Own → World → Prop) : PostO
  | .normal, a, O, w | .ret, a, O, w => a.defers = [] ∧ ∃ v, ResultsC P fn a.tmps v ∧ R v O w
  | _, _, _, _ => False

theorem callsO_of {f : FuncId} {fnc : Func} {c : Code} {args : Array Value} {R : Value → Own → World → Prop} (hf : P.funcs[f]? = some fnc) (hb : fnc.body = some c)
    (h : wpO P main f c (bodyPostO P fnc R) { tmps := args ++ Array.replicate (fnc.ntmps - args.size) undef, defers := [] } O w) : CallsO P main f args O w R := by
  intro cf cs Stop hnext
  have hleave : ∀ (a' : Act) (O' : Own) (w' : World) (todo : List Item), (a'.defers = [] ∧ ∃ v, ResultsC P fnc a'.tmps v ∧ R v O' w') →
      FinO P main Stop O' (G { (base f).at a' todo with mode := .returning } (cf :: cs)) w' := by
    rintro a' O' w' todo ⟨hd, v, hr, hp⟩
    exact .ctl rfl (fun w₁ => stepG_leave (b := base f) rfl hd hf (hr w₁).1 (hr w₁).2) (hnext v O' w' hp)
  rw [enter_at _ hf hb]
  refine h (base f) [] _ Stop rfl (by simp [base]) fun e a' O' w' q => ?_
  cases e with
  | normal => exact .ctl rfl (fun _ => stepG_end) (hleave a' O' w' [] q)
  | ret => exact fun todo => hleave a' O' w' todo q
  | exit id => exact q.elim
  | goto l => exact q.elim
  | panic ch => exact q.elim
  | outgrown => exact q.elim

/-- A call: what is entered is found by reckoning. -/
theorem opsO_enter {ops : Array Oper} {i : Nat} {rest : List Nat} {o : Oper} {f : FuncId} {args : Array Value} {R : Value → Own → World → Prop} (ho : ops[i]? = some o) (hw : Region.wanted o (yielded ops a.tmps) = true)
    (hrun : ∀ w₁, (execOp a.eval o).run P w₁ = .ok (.enter f args) w₁ ∧ (execOp a.eval o).events P w₁ #[] = #[])
    (hcall : CallsO P main f args O w R) (hnext : ∀ v O' w', R v O' w' → OpsO P main fn ops rest Q (a.put o.dst v) O' w') : OpsO P main fn ops (i :: rest) Q a O w := by
  intro b k cs Stop hb hk hc
  have hfin : ∀ v, (b.at a (.inRegion ops (i :: rest) :: k)).finish v = b.at (a.put o.dst v) (.inRegion ops rest :: k) := fun v => by rw [Frame.finish_at, ho]; rfl
  refine .ctl rfl (fun w₁ => ?_) (hcall (b.at a (.inRegion ops (i :: rest) :: k)) cs Stop fun v O' w' r => ?_)
  · have hl : listed P b.fn a o w₁ = #[] := by unfold listed; rw [(hrun w₁).2]; exact seen_none P _
    rw [stepG_enter ho hw hk (hrun w₁).1, hl]
  · rw [hfin]; exact hnext v O' w' r b k cs Stop hb hk hc
end rules
end Go.Lift
