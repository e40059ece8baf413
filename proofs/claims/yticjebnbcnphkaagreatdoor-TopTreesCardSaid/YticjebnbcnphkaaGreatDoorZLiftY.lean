/- A part of the proof that the abstract interpreter is sound, and of the two goroutines of the lexer. -/
import Derived.Test.YticjebnbcnphkaaGreatDoorZLiftX
import Derived.Conc.CompanyDraw

set_option linter.unusedSimpArgs false
set_option linter.unusedVariables false
set_option linter.unusedSectionVars false

namespace Go.Lift
open Go.Conc
variable {P : Program} {S : List (Nat × Value)} {n : Nat} {ds : List Deferred} {a : Act} {o : Oper} {O : Own} {w : World} {main : Bool} {fn : FuncId} {Q : PostO}

theorem wpO_region_draw {id : Nat} {ops : Array Oper} (hm : P.follows .mixedOrders = true) (h : ∀ t, OpsO P main fn ops (Region.linearise .any ops t) Q a O w) : wpO P main fn (.region id ops true) Q a O w := by
  intro b k cs Stop hb hk hc
  refine .of rfl fun w₁ h₁ => ⟨_, _, #[], stepG_region_draw, ⟨Nat.le_refl _, fun _ _ _ => rfl, rfl, rfl, fun e he => by simp at he⟩, ?_⟩
  have hg : Grow O w₁ { w₁ with drawn := w₁.drawn + 1 } = O := grow_same (w := w₁) (w' := { w₁ with drawn := w₁.drawn + 1 }) rfl
  have hsch : ∀ t, Region.schedule (P.follows .mixedOrders) ops t = Region.linearise .any ops t := fun t => by simp [Region.schedule, hm]
  rw [hg, hsch]
  exact ((h _) b k cs Stop hb hk hc).rely (h₁.trans ⟨Nat.le_refl _, fun _ _ _ => rfl, rfl, rfl⟩)

def onsB (ops : Array Oper) (i : Nat) : List Nat := match ops[i]? with | some o => (o.after.toList.filter fun e => Region.binds .any e).map (·.on) | none => []
def anc (ops : Array Oper) : Nat → Nat → List Nat
  | 0, _ => []
  | f + 1, i => onsB ops i ++ (onsB ops i).flatMap (anc ops f)
def shapeB (ops : Array Oper) (m : Nat) : Bool := decide (m ≤ ops.size) && (List.range ops.size).all (fun i => (onsB ops i).all fun j => decide (j < i)) && (List.range ops.size).all (fun i => decide (i ≤ m) || (onsB ops i).contains (i - 1)) && (List.range m).all (fun j => (anc ops 8 m).contains j)

theorem onsB_mem {ops : Array Oper} {i : Nat} {o : Oper} (ho : ops[i]? = some o) {j : Nat} : j ∈ onsB ops i ↔ ∃ e ∈ o.after, Region.binds .any e = true ∧ e.on = j := by
  unfold onsB
  rw [ho]
  simp [and_assoc]
theorem anc_listed {ops : Array Oper} {listed : Array Bool} (hdown : ∀ (i : Nat) (o : Oper), ops[i]? = some o → listed.getD i false = true → ∀ e ∈ o.after, Region.binds .any e = true → listed.getD e.on false = true) :
    ∀ (f i : Nat), (∀ j ∈ onsB ops i, listed.getD j false = true) → ∀ j ∈ anc ops f i, listed.getD j false = true
  | 0, _, _, j, hj => by cases hj
  | f + 1, i, h, j, hj => by
    simp only [anc, List.mem_append, List.mem_flatMap] at hj
    rcases hj with hj | ⟨x, hx, hj⟩
    · exact h j hj
    · refine anc_listed hdown f x (fun z hz => ?_) j hj
      cases hox : ops[x]? with
      | none => unfold onsB at hz; rw [hox] at hz; cases hz
      | some ox =>
        obtain ⟨e, he, hb, rfl⟩ := (onsB_mem hox).1 hz
        exact hdown x ox hox (h x hx) e he hb
theorem shape_of {ops : Array Oper} {m : Nat} (h : shapeB ops m = true) : Shape ops m := by
  simp only [shapeB, Bool.and_eq_true, decide_eq_true_eq, List.all_eq_true, List.mem_range, Bool.or_eq_true, List.contains_iff_mem] at h
  obtain ⟨⟨⟨h1, h2⟩, h3⟩, h4⟩ := h
  have lt : ∀ {i : Nat} {o : Oper}, ops[i]? = some o → i < ops.size := fun h => (Array.getElem?_eq_some_iff.1 h).1
  refine ⟨h1, fun i o ho e he hb => h2 i (lt ho) e.on ((onsB_mem ho).2 ⟨e, he, hb, rfl⟩), fun i o ho hi => ?_, fun o ho listed hdown hall j hj => ?_⟩
  · rcases h3 i (lt ho) with h | h
    · omega
    · exact (onsB_mem ho).1 h
  · refine anc_listed hdown 8 m (fun z hz => ?_) j (h4 j hj)
    obtain ⟨e, he, hb, rfl⟩ := (onsB_mem ho).1 hz
    exact hall e he hb

def slotsB (ops : Array Oper) (m : Nat) : List (Option Nat) := (List.range m).map (slot? ops)
def looksB (ops : Array Oper) (m : Nat) : Bool := (List.range m).all fun i => match ops[i]? with
  | some o => (o.looksAt ops).all fun t => (List.range m).all fun j => decide (slot? ops j ≠ some t) || (onsB ops i).contains j
  | none => true
def oneB (ops : Array Oper) (m : Nat) : Bool := (List.range m).all fun i => (List.range m).all fun j => decide (i = j) || (slot? ops i).isNone || decide (slot? ops i ≠ slot? ops j)
def drawnB (ops : Array Oper) (m n : Nat) (ts : List Nat) : Bool := shapeB ops m && Region.noSelect ops && looksB ops m && oneB ops m && ts.all (fun t => decide (t < n) && (List.range m).any fun i => decide (slot? ops i = some t))

theorem opsS_draw {id : Nat} {ops : Array Oper} {m : Nat} (hm : P.follows .mixedOrders = true) (hS : Sl S n ds a) (vs : List (Nat × Value)) (hB : drawnB ops m n (vs.map (·.1)) = true)
    (hcalm : ∀ i, i < m → ∃ o, ops[i]? = some o ∧ CalmV P fn ops O w (vs.reverse ++ S) n i o)
    (hrest : ∀ a', Sl (vs.reverse ++ S) n ds a' → OpsO P main fn ops (List.range' m (ops.size - m)) Q a' O w) : wpO P main fn (.region id ops true) Q a O w := by
  simp only [drawnB, Bool.and_eq_true, List.all_eq_true, decide_eq_true_eq, List.any_eq_true, List.mem_range] at hB
  obtain ⟨⟨⟨⟨h1, h2⟩, h3⟩, h4⟩, h5⟩ := hB
  refine wpO_region_draw hm (opsS_drawn hS (shape_of h1) h2 vs (fun x hx => (h5 x.1 (List.mem_map_of_mem hx)).1) ?_ ?_ (fun x hx => (h5 x.1 (List.mem_map_of_mem hx)).2) (fun i o hi ho => ?_) hrest)
  · intro i o hi ho t ht j hj hs
    simp only [looksB, List.all_eq_true, List.mem_range] at h3
    have := h3 i hi
    rw [ho] at this
    simp only [List.all_eq_true, List.mem_range, Bool.or_eq_true, decide_eq_true_eq, List.contains_iff_mem] at this
    rcases this t ht j hj with h | h
    · exact absurd hs h
    · exact (onsB_mem ho).1 h
  · intro i j t hi hj h6 h7
    simp only [oneB, List.all_eq_true, List.mem_range, Bool.or_eq_true, decide_eq_true_eq] at h4
    rcases h4 i hi j hj with (h | h) | h
    · exact h
    · rw [h6] at h; cases h
    · rw [h6, h7] at h; exact absurd rfl h
  · obtain ⟨o', ho', hc⟩ := hcalm i hi
    rw [ho] at ho'; cases ho'
    exact hc

theorem calm_yv {ops : Array Oper} {i : Nat} {d : Nat} {v : Value} (hd : o.dst = some d) (hdn : d < n) (hl : look S d = some v) (hw : wS S ops o = some true) (ht : toldAll S o = true) (hy : Yv P S o v) : CalmV P fn ops O w S n i o :=
  ⟨d, v, hd, hdn, hl, .inl ⟨hw, ht, fun w₁ _ => ⟨(hy w₁).1, guar_nil (by unfold lst; rw [(hy w₁).2]; exact seen_none P fn)⟩⟩⟩
theorem calm_yl {ops : Array Oper} {i : Nat} {d b : Nat} {obj : Obj} {v : Value} (hb : O b) (hc : w.heap[b]? = some obj) (hd : o.dst = some d) (hdn : d < n) (hl : look S d = some v) (hw : wS S ops o = some true) (ht : toldAll S o = true) (hy : Yl P S o v b obj) : CalmV P fn ops O w S n i o :=
  ⟨d, v, hd, hdn, hl, .inl ⟨hw, ht, fun w₁ h₁ => ⟨(hy w₁ (rely_heap h₁ hb hc)).1, (hy w₁ (rely_heap h₁ hb hc)).2.lst.guar hb⟩⟩⟩
theorem calm_no {ops : Array Oper} {i : Nat} {d : Nat} (hd : o.dst = some d) (hdn : d < n) (hl : look S d = some undef) (hw : wS S ops o = some false) : CalmV P fn ops O w S n i o := ⟨d, undef, hd, hdn, hl, .inr ⟨hw, rfl⟩⟩
end Go.Lift
