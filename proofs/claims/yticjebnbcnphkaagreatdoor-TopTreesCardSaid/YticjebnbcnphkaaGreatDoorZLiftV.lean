/- A part of the proof that the abstract interpreter is sound, and of the two goroutines of the lexer. -/
import Derived.Test.YticjebnbcnphkaaGreatDoorZLiftP
import Derived.Conc.DeferLaws

set_option linter.unusedSimpArgs false
set_option linter.unusedVariables false
set_option linter.unusedSectionVars false

namespace Go.Lift
open Go.Conc
variable {P : Program} {main : Bool} {fn : FuncId} {Q : PostO} {a : Act} {O : Own} {w : World}

theorem stepG_scope {b : Frame} {k : List Item} {cs : List Frame} {c : Code} : stepG P main (G (b.at a (.code (.scope c) :: k)) cs) w = .go (G (b.at a (.code c :: .inScope c :: k)) cs) w := by simp [G, stepG, stepG.exec, Frame.at]
theorem stepG_inScope {b : Frame} {k : List Item} {cs : List Frame} {c : Code} : stepG P main (G (b.at a (.inScope c :: k)) cs) w = .go (G (b.at a k) cs) w := by simp [G, stepG, stepG.exec, Frame.at]

theorem wpO_scope {c : Code} (h : wpO P main fn c Q a O w) : wpO P main fn (.scope c) Q a O w := by
  intro b k cs Stop hb hk hc
  refine .ctl rfl (fun _ => stepG_scope) (h b (.inScope c :: k) cs Stop hb hk fun e a' O' w' q => ?_)
  cases e with
  | normal => exact .ctl rfl (fun _ => stepG_inScope) (hc _ _ _ _ q)
  | exit id => obtain ⟨k', hk', hg⟩ := hc _ _ _ _ q; exact ⟨k', by simpa [exitTo] using hk', hg⟩
  | ret => exact hc _ _ _ _ q
  | goto l => exact hc _ _ _ _ q
  | panic ch => exact hc _ _ _ _ q
  | outgrown => exact hc _ _ _ _ q

theorem stepG_deferG {b : Frame} {k : List Item} {cs : List Frame} {ops : Array Oper} {i : Nat} {rest : List Nat} {o : Oper} {d : Deferred} (ho : ops[i]? = some o) (hw : Region.wanted o (yielded ops a.tmps) = true) (hk : b.kind ≠ .early)
    (hr : (execOp a.eval o).run P w = .ok (.defer d) w) (he : (execOp a.eval o).events P w #[] = #[]) :
    stepG P main (G (b.at a (.inRegion ops (i :: rest) :: k)) cs) w = .go (G (b.at (Act.put ⟨a.tmps, d :: a.defers⟩ o.dst undef) (.inRegion ops rest :: k)) cs) w #[] := by
  have hfin : (b.at ⟨a.tmps, d :: a.defers⟩ (.inRegion ops (i :: rest) :: k)).finish undef = b.at (Act.put ⟨a.tmps, d :: a.defers⟩ o.dst undef) (.inRegion ops rest :: k) := by rw [Frame.finish_at, ho]; rfl
  have hk' : (b.kind == CallKind.early) = false := by simpa using hk
  rw [stepG_oper ho hw, ← hfin]
  simp [stepG.apply, hr, he, G, Frame.at, hk', GStep.after, seen_none]

theorem opsO_defer {ops : Array Oper} {i : Nat} {rest : List Nat} {o : Oper} {d : Deferred} (ho : ops[i]? = some o) (hw : Region.wanted o (yielded ops a.tmps) = true)
    (hr : ∀ w₁, (execOp a.eval o).run P w₁ = .ok (.defer d) w₁ ∧ (execOp a.eval o).events P w₁ #[] = #[]) (h : OpsO P main fn ops rest Q (Act.put ⟨a.tmps, d :: a.defers⟩ o.dst undef) O w) : OpsO P main fn ops (i :: rest) Q a O w :=
  fun b k cs Stop hb hk hc => .ctl rfl (fun w₁ => stepG_deferG ho hw hk (hr w₁).1 (hr w₁).2) (h b k cs Stop hb hk hc)

variable {S : List (Nat × Value)} {n : Nat} {ds : List Deferred} {o : Oper}
theorem opsS_defer {ops : Array Oper} {i : Nat} {rest : List Nat} {d : Deferred} (hS : Sl S n ds a) (ho : ops[i]? = some o) (hw : wS S ops o = some true) (ht : toldAll S o = true) (hd : o.dst = none)
    (hr : ∀ w₁, (execOp (evS S) o).run P w₁ = .ok (.defer d) w₁ ∧ (execOp (evS S) o).events P w₁ #[] = #[]) (h : ∀ a', Sl S n (d :: ds) a' → OpsO P main fn ops rest Q a' O w) : OpsO P main fn ops (i :: rest) Q a O w :=
  opsO_defer ho (hS.wanted hw) (fun w₁ => by rw [hS.exec ht]; exact hr w₁) (by rw [hd]; exact h _ ⟨by show d :: a.defers = _; rw [hS.defers], hS.size, hS.slot⟩)

theorem wpO_condS {c : Operand} {x y : Code} {t : Bool} (hS : Sl S n ds a) (ht : told S c = true) (hc : evS S c = .bool t) (h : wpO P main fn (if t then x else y) Q a O w) : wpO P main fn (.cond c x y) Q a O w :=
  wpO_cond (by rw [hS.eval ht]; exact hc) h

/-- the slots behind a call -/
theorem sl_enter {args : Array Value} {n : Nat} (S : List (Nat × Value)) (h : ∀ t v, look S t = some v → args[t]? = some v) (hn : args.size ≤ n) : Sl S n [] { tmps := args ++ Array.replicate (n - args.size) undef, defers := [] } :=
  ⟨rfl, by simp; omega, fun t v ht => by
    have := h t v ht
    rw [Array.getElem?_append_left (Array.getElem?_eq_some_iff.1 this).1]; exact this⟩

theorem callsO_S {f : FuncId} {fnc : Func} {c : Code} {args : Array Value} {R : Value → Own → World → Prop} (S : List (Nat × Value)) (hf : P.funcs[f]? = some fnc) (hb : fnc.body = some c) (hn : args.size ≤ fnc.ntmps) (hl : ∀ t v, look S t = some v → args[t]? = some v)
    (h : ∀ a, Sl S fnc.ntmps [] a → wpO P main f c (bodyPostO P fnc R) a O w) : CallsO P main f args O w R :=
  callsO_of hf hb (h _ (sl_enter S hl hn))

theorem res_tmp {fnc : Func} {R : Value → Own → World → Prop} {t : Tmp} {v : Value} (hS : Sl S n [] a) (hr : fnc.results = #[.tmp t]) (hv : look S t = some v) (h : R v O w) : bodyPostO P fnc R .ret a O w := by
  refine ⟨hS.defers, v, ?_, h⟩
  have h1 : a.tmps.getD t undef = v := by
    obtain ⟨q1, q2⟩ := Array.getElem?_eq_some_iff.1 (hS.slot t v hv)
    simp [Array.getD, q1, q2]
  rw [← h1]; exact resultsC_tmp hr _

/-- memory of its own, carried over -/
theorem rely_heap {w₁ : World} (h : Rely O w w₁) {b : Nat} {obj : Obj} (hb : O b) (hc : w.heap[b]? = some obj) : w₁.heap[b]? = some obj :=
  (h.keep b hb (Array.getElem?_eq_some_iff.1 hc).1).trans hc
end Go.Lift

namespace Go.Lift
open Go.Conc
variable {P : Program} {S : List (Nat × Value)} {o : Oper}

/-- it yields, and looks at nothing -/
def Yv (P : Program) (S : List (Nat × Value)) (o : Oper) (v : Value) : Prop := ∀ w, (execOp (evS S) o).run P w = .ok (.value v) w ∧ (execOp (evS S) o).events P w #[] = #[]

theorem Yv.use {main : Bool} {fn : FuncId} {ops : Array Oper} {i : Nat} {rest : List Nat} {Q : PostO} {n : Nat} {ds : List Deferred} {a : Act} {O : Own} {w : World} (hS : Sl S n ds a) (ho : ops[i]? = some o) (hw : wS S ops o = some true) (ht : toldAll S o = true) {d : Nat} (hd : o.dst = some d) (hdn : d < n) {v : Value}
    (hy : Yv P S o v) (h : ∀ a', Sl ((d, v) :: S) n ds a' → OpsO P main fn ops rest Q a' O w) : OpsO P main fn ops (i :: rest) Q a O w :=
  opsS_val hS ho hw ht hd hdn (fun w₁ _ => ⟨(hy w₁).1, guar_nil (by unfold lst; rw [(hy w₁).2]; exact seen_none P fn)⟩) h

theorem yv_move {x : Operand} {v : Value} (ho : o.op = .move x ∨ o.op = .assign x) (hx : evS S x = v) : Yv P S o v := fun w => by
  unfold execOp; rcases ho with ho | ho <;> (rw [ho]; subst hx; exact ⟨rfl, rfl⟩)
theorem yv_pick {c a b : Operand} {q : Bool} {v : Value} (ho : o.op = .pick c a b) (hc : evS S c = .bool q) (hv : (if q then evS S a else evS S b) = v) : Yv P S o v := fun w => by
  unfold execOp; rw [ho]
  subst hv
  simp [hc, asBool]
def cmpZ (op : BinOp) (a b : Int) : Option Bool := match op with
  | .lss => some (decide (a < b)) | .leq => some (decide (a ≤ b)) | .gtr => some (decide (a > b)) | .geq => some (decide (a ≥ b)) | .eql => some (a == b) | .neq => some (a != b) | _ => none
theorem yv_cmp {op : BinOp} {t u : TypeId} {x y : Operand} {k : IntKind} {a b : Int} {q : Bool} (ho : o.op = .binOp op t x y u) (hx : evS S x = .int k a) (hy : evS S y = .int k b) (hq : cmpZ op a b = some q) : Yv P S o (.bool q) := fun w => by
  unfold execOp; rw [ho]
  cases op <;> simp only [cmpZ, Option.some.injEq, reduceCtorEq] at hq <;> subst hq <;> simp [hx, hy, eqGuard, binOp, Op.intCmp]
theorem yv_add {t u : TypeId} {x y : Operand} {k : IntKind} {a b r : Int} (ho : o.op = .binOp .add t x y u) (hx : evS S x = .int k a) (hy : evS S y = .int k b) (hr : k.wrap (a + b) = r) : Yv P S o (.int k r) := fun w => by
  unfold execOp; rw [ho]
  subst hr
  simp [hx, hy, eqGuard, binOp, Op.intArith]
theorem yv_or {t u : TypeId} {x y : Operand} {k : IntKind} {a b : Int} (ho : o.op = .binOp .or t x y u) (hx : evS S x = .int k a) (hy : evS S y = .int k b) : Yv P S o (.int k (k.wrap (BitVec.ofInt k.bits a ||| BitVec.ofInt k.bits b).toNat)) := fun w => by
  unfold execOp; rw [ho]
  simp [hx, hy, eqGuard, binOp, Op.intBits]
theorem yv_index {t : TypeId} {x ix : Operand} {s : ByteArray} {j : Nat} {c : UInt8} (ho : o.op = .index t x ix) (hu : P.underlying t = some .string) (hx : evS S x = .string s) (hi : evS S ix = .int .i64 j) (hc : s.data[j]? = some c) : Yv P S o (.int .u8 c.toNat) := fun w => by
  have hj : j < s.size := (Array.getElem?_eq_some_iff.1 hc).1
  have hcj : s.data[j] = c := (Array.getElem?_eq_some_iff.1 hc).2
  unfold execOp; rw [ho]
  have : s[j]'hj = c := hcj
  simp [Instr.index, hx, hi, run_underlying hu, events_underlying, asIntOf, hj, this]
theorem yv_len_str {c : Call} {x : Operand} {s : ByteArray} {t : TypeId} (ho : o.op = .call c) (hc : c.callee = .builtin .len) (ha : c.args = #[x]) (ht : c.argTypes = #[t]) (hu : P.underlying t = some .string) (hx : evS S x = .string s) : Yv P S o (.int .i64 s.size) := fun w => by
  unfold execOp; rw [ho]
  simp [resolve, hc, ha, ht, hx, invoke, builtin, Builtin.len_, run_underlying hu, events_underlying, goInt]
theorem yv_extract {x : Operand} {i : Nat} {vs : Array Value} {v : Value} (ho : o.op = .extract x i) (hx : evS S x = .tuple vs) (hv : vs[i]? = some v) : Yv P S o v := fun w => by
  unfold execOp; rw [ho]
  simp [Instr.extract, hx, hv]
theorem exec_call {c : Call} {f : Operand} {g : FuncId} {caps args : Array Value} (ho : o.op = .call c) (hc : c.callee = .value f) (hf : evS S f = .func (.func g) #[] caps) (ha : c.args.toList.map (evS S) = args.toList) : execOp (evS S) o = callFunc g (args ++ caps) := by
  have ha : c.args.map (evS S) = args := Array.toList_inj.1 (by simpa using ha)
  unfold execOp; rw [ho]
  subst ha
  simp [resolve, hc, hf, Deferred.ofValue, invoke]
theorem enters_call {g : FuncId} {fn : Func} {args : Array Value} (hf : P.funcs[g]? = some fn) (hb : fn.body.isNone = false) (hn : (fn.name == "runtime.NumGoroutine") = false) (w : World) : (callFunc g args).run P w = .ok (.enter g args) w ∧ (callFunc g args).events P w #[] = #[] := by
  have h1 : fn.name ≠ "runtime.NumGoroutine" := by simpa using hn
  have h2 : ¬ fn.body = none := by intro h; rw [h] at hb; cases hb
  simp [callFunc, hf, h1, h2]
end Go.Lift
