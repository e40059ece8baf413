/- A part of the proof that the abstract interpreter is sound, and of the two goroutines of the lexer. -/
import Derived.Test.YticjebnbcnphkaaGreatDoorZLiftV
import Derived.Conc.AppendEvents3
import Derived.Test.YticjebnbcnphkaaGreatDoorZS17

set_option linter.unusedSimpArgs false
set_option linter.unusedVariables false
set_option linter.unusedSectionVars false

namespace Go.Lift
open Go.Conc
variable {P : Program} {S : List (Nat × Value)} {o : Oper}

/-- the entries lie in this block -/
def InB (b : Nat) (es : Array Event) : Prop := ∀ e ∈ es, ∃ ad, e.loc = .cell ad ∧ ad.block = b
theorem InB.lst {b : Nat} {fn : FuncId} {w : World} (h : InB b ((execOp (evS S) o).events P w #[])) : InB b (lst P fn S o w) := fun e he => h e (mem_seen he)
theorem InB.guar {b : Nat} {O : Own} {w : World} {es : Array Event} (h : InB b es) (hb : O b) : Guar O w w es := ⟨Nat.le_refl _, fun _ _ _ => rfl, rfl, rfl, fun e he => by
  obtain ⟨ad, h1, h2⟩ := h e he
  unfold EvO; rw [h1]; exact .inl (h2 ▸ hb)⟩

/-- it yields what its own block holds -/
def Yl (P : Program) (S : List (Nat × Value)) (o : Oper) (v : Value) (b : Nat) (obj : Obj) : Prop := ∀ w, w.heap[b]? = some obj → (execOp (evS S) o).run P w = .ok (.value v) w ∧ InB b ((execOp (evS S) o).events P w #[])

theorem Yl.use {main : Bool} {fn : FuncId} {ops : Array Oper} {i : Nat} {rest : List Nat} {Q : PostO} {n : Nat} {ds : List Deferred} {a : Act} {O : Own} {w : World} {b : Nat} {obj : Obj} (hb : O b) (hc : w.heap[b]? = some obj) (hS : Sl S n ds a) (ho : ops[i]? = some o) (hw : wS S ops o = some true) (ht : toldAll S o = true) {d : Nat} (hd : o.dst = some d) (hdn : d < n) {v : Value}
    (hy : Yl P S o v b obj) (h : ∀ a', Sl ((d, v) :: S) n ds a' → OpsO P main fn ops rest Q a' O w) : OpsO P main fn ops (i :: rest) Q a O w :=
  opsS_val hS ho hw ht hd hdn (fun w₁ h₁ => ⟨(hy w₁ (rely_heap h₁ hb hc)).1, (hy w₁ (rely_heap h₁ hb hc)).2.lst.guar hb⟩) h

theorem yl_load1 {t : TypeId} {a : Operand} {b off : Nat} {c : Array Value} {el : TypeId} {fz : Nat × Nat} {v : Value} (ho : o.op = .load t a) (hg : ∀ w, (isAgg t).run P w = .ok false w) (ha : evS S a = .pointer (some ⟨b, off, none⟩)) (hv : c[off]? = some v) : Yl P S o v b (.cells c el fz) := fun w hc => by
  have hcell : w.cell? ⟨b, off, none⟩ = some v := by simp [World.cell?, hc, hv]
  unfold execOp; rw [ho]
  refine ⟨?_, ?_⟩
  · simp [Instr.loadAt, ha, Instr.sureAddr, loadVar, hg, hcell]
  · intro e he
    simp [Instr.loadAt, ha, Instr.sureAddr, loadVar, hg, hcell] at he
    subst he
    exact ⟨_, rfl, rfl⟩

theorem yl_loadN {t : TypeId} {a : Operand} {b off m : Nat} {c : Array Value} {el : TypeId} {fz : Nat × Nat} {vs : List Value} (ho : o.op = .load t a) (hg : ∀ w, (isAgg t).run P w = .ok true w) (hs : ∀ w, (sizeOf t).run P w = .ok m w) (ha : evS S a = .pointer (some ⟨b, off, none⟩)) (hm : vs.length = m) (hv : ∀ j v, vs[j]? = some v → c[off + j]? = some v) : Yl P S o (.agg vs.toArray) b (.cells c el fz) := fun w hc => by
  have hadd : ∀ j, (⟨b, off, none⟩ : Addr).add j = ⟨b, off + j, none⟩ := fun j => by unfold Addr.add; split <;> simp_all
  have hcell : ∀ j v, vs[j]? = some v → w.cell? ((⟨b, off, none⟩ : Addr).add j) = some v := fun j v h => by
    rw [hadd]; simp [World.cell?, hc, hv j v h]
  have hrun : (loadCells ⟨b, off, none⟩ m).run P w = .ok vs.toArray w := by
    rw [← hm]; exact run_loadCells_list (P := P) (w := w) _ vs hcell
  unfold execOp; rw [ho]
  refine ⟨?_, ?_⟩
  · simp [Instr.loadAt, ha, Instr.sureAddr, loadVar, hg, hs, hrun]
  · intro e he
    simp [Instr.loadAt, ha, Instr.sureAddr, loadVar, hg, hs, hrun] at he
    rcases events_loadCellsFrom_at (P := P) ⟨b, off, none⟩ (· = b) rfl m 0 #[] w #[] (fun j hj => by
      rw [Nat.zero_add]
      obtain ⟨v, hv'⟩ : ∃ v, vs[j]? = some v := ⟨vs[j], List.getElem?_eq_getElem (by omega)⟩
      rw [hcell j v hv']; rfl) e (by simpa [loadCells] using he) with h | h
    · simp at h
    · obtain ⟨ad, h1, _, h2⟩ := h; exact ⟨ad, h1, h2⟩

/-- a new block -/
def Yn (P : Program) (S : List (Nat × Value)) (o : Oper) (mk : Nat → Value) (obj : Obj) : Prop := ∀ w, (execOp (evS S) o).run P w = .ok (.value (mk w.heap.size)) { w with heap := w.heap.push obj } ∧ (execOp (evS S) o).events P w #[] = #[]
theorem Yn.use {main : Bool} {fn : FuncId} {ops : Array Oper} {i : Nat} {rest : List Nat} {Q : PostO} {n : Nat} {ds : List Deferred} {a : Act} {O : Own} {w : World} (hS : Sl S n ds a) (ho : ops[i]? = some o) (hw : wS S ops o = some true) (ht : toldAll S o = true) {d : Nat} (hd : o.dst = some d) (hdn : d < n) {mk : Nat → Value} {obj : Obj} (hy : Yn P S o mk obj)
    (h : ∀ (k : Nat) (O' : Own) (w' : World) a', O' k → w.heap.size ≤ k → k < w'.heap.size → w'.heap[k]? = some obj → (∀ j, O j → O' j) → (∀ j, O' j → O j ∨ w.heap.size ≤ j) → (∀ j, O j → j < w.heap.size → w'.heap[j]? = w.heap[j]?) → w.heap.size ≤ w'.heap.size →
      Sl ((d, mk k) :: S) n ds a' → OpsO P main fn ops rest Q a' O' w') : OpsO P main fn ops (i :: rest) Q a O w :=
  opsS_new hS ho hw ht hd hdn (fun w₁ _ => ⟨(hy w₁).1, fun e he => by unfold lst at he; rw [(hy w₁).2, seen_none] at he; simp at he⟩) h

theorem ev_newVar (t : TypeId) (v : Value) (w : World) : (newVar t v).run P w = .ok ⟨w.heap.size, 0, none⟩ { w with heap := w.heap.push (.cells v.cells t) } ∧ (newVar t v).events P w #[] = #[] := ⟨rfl, rfl⟩
theorem yn_alloc {t : TypeId} {zv : Value} (ho : o.op = .alloc t) (hz : ∀ w, (zeroValue t).run P w = .ok zv w) : Yn P S o (fun k => .pointer (some ⟨k, 0, none⟩)) (.cells zv.cells t) := fun w => by
  unfold execOp; rw [ho]
  obtain ⟨h1, h2⟩ := ev_newVar (P := P) t zv w
  refine ⟨?_, ?_⟩
  · simp [Instr.alloc, hz, h1]
  · simp [Instr.alloc, hz, h1, h2]
theorem yn_box {t : TypeId} {x : Operand} {n : Nat} {cs : Array Value} (ho : o.op = .box t x) (hs : ∀ w, (sizeOf t).run P w = .ok n w) (hx : (evS S x).cells = cs) (hn : cs.size = n) : Yn P S o (fun k => .pointer (some ⟨k, 0, none⟩)) (.cells cs t) := fun w => by
  unfold execOp; rw [ho]
  subst hx
  obtain ⟨h1, h2⟩ := ev_newVar (P := P) t (evS S x) w
  refine ⟨?_, ?_⟩
  · simp [Instr.box, h1]
  · simp [Instr.box, h1, h2]

/-- it writes into its own block -/
def Yw (P : Program) (S : List (Nat × Value)) (o : Oper) (b : Nat) (obj obj' : Obj) : Prop := ∀ w, w.heap[b]? = some obj → ∃ w₂, (execOp (evS S) o).run P w = .ok .skip w₂ ∧ w₂.heap[b]? = some obj' ∧ (∀ k, k ≠ b → w₂.heap[k]? = w.heap[k]?) ∧ w₂.heap.size = w.heap.size ∧ (w₂.os = w.os ∧ w₂.output = w.output) ∧ InB b ((execOp (evS S) o).events P w #[])
theorem Yw.use {main : Bool} {fn : FuncId} {ops : Array Oper} {i : Nat} {rest : List Nat} {Q : PostO} {n : Nat} {ds : List Deferred} {a : Act} {O : Own} {w : World} {b : Nat} {obj obj' : Obj} (hb : O b) (hc : w.heap[b]? = some obj) (hS : Sl S n ds a) (ho : ops[i]? = some o) (hw : wS S ops o = some true) (ht : toldAll S o = true) (hd : o.dst = none) (hy : Yw P S o b obj obj')
    (h : ∀ (w' : World) a', w'.heap[b]? = some obj' → (∀ j, O j → j ≠ b → j < w.heap.size → w'.heap[j]? = w.heap[j]?) → w.heap.size ≤ w'.heap.size → Sl S n ds a' → OpsO P main fn ops rest Q a' O w') : OpsO P main fn ops (i :: rest) Q a O w :=
  opsS_set hS ho hw ht hd hb (fun w₁ h₁ => by
    obtain ⟨w₂, h1, h2, h3, h4, h5, h6⟩ := hy w₁ (rely_heap h₁ hb hc)
    exact ⟨w₂, h1, h2, h3, h4, h5, fun e he => by obtain ⟨ad, q1, q2⟩ := h6.lst e he; exact ⟨ad, q1, q2 ▸ hb⟩⟩) h
theorem yw_store {t : TypeId} {a x : Operand} {b off m : Nat} {c : Array Value} {el : TypeId} {vs : List Value} (ho : o.op = .store t a x) (hs : ∀ w, (sizeOf t).run P w = .ok m w) (ha : evS S a = .pointer (some ⟨b, off, none⟩)) (hx : (evS S x).cells = vs.toArray) (hm : vs.length = m) (h1 : ∀ v ∈ vs, v.oneCell' = true) (hl : off + vs.length ≤ c.size) :
    Yw P S o b (.cells c el (0, 0)) (.cells (Ai.splice c.toList off vs).toArray el (0, 0)) := fun w hc => by
  obtain ⟨w₂, g1, g2, g3, g4, g5⟩ := Ai.storeCells_run (P := P) vs 0 off c w hc (.inl rfl) (by simpa using hl) h1
  have hsz : ¬ (vs.toArray.size ≠ m) := by simpa using hm
  have hrun : (storeVar t ⟨b, off, none⟩ (evS S x)).run P w = .ok () w₂ := by
    simp only [storeVar, Sem.run_bind, hs, Result.andThen_ok, hx, hsz, if_false, g1]
  refine ⟨w₂, ?_, by simpa using g2, g3, g4, g5, ?_⟩
  · unfold execOp; rw [ho]
    simp [Instr.storeAt, ha, Instr.sureAddr, hrun]
  · intro e he
    unfold execOp at he; rw [ho] at he
    have hev : (storeVar t ⟨b, off, none⟩ (evS S x)).events P w #[] = (storeCells ⟨b, off, none⟩ vs).events P w #[] := by
      simp only [storeVar, Sem.events_bind, hs, Result.evThen_ok, events_sizeOf, hx, hsz, if_false]
    simp [Instr.storeAt, ha, Instr.sureAddr, hrun, hev] at he
    rcases events_storeCells_at (P := P) b off el vs 0 c w #[] hc (by simpa using hl) h1 e he with h | h
    · simp at h
    · exact h
end Go.Lift
