/- Code, calls, loops and drawn regions: the interpreter is sound. -/
import Derived.Test.YticjebnbcnphkaaGreatDoorZS3

set_option linter.unusedSimpArgs false
set_option linter.unusedVariables false
set_option linter.unusedSectionVars false

namespace Go.Ai
open Go
variable {P : Program}

/-- a frame that runs -/
def onF (b : Frame) (t : Array Value) (k : List Item) (ds : List Deferred) : Frame := { b with tmps := t, todo := k, defers := ds, mode := .run }

section steps
variable {b : Frame} {t : Array Value} {k : List Item} {ds : List Deferred} {cs : List Frame} {w : World}
theorem st_skip : step P (lone (onF b t (.code .skip :: k) ds) cs w) = .next (lone (onF b t k ds) cs w) := step_lone_go (by simp [stepG, stepG.exec, onF])
theorem st_label {l : Nat} : step P (lone (onF b t (.code (.label l) :: k) ds) cs w) = .next (lone (onF b t k ds) cs w) := step_lone_go (by simp [stepG, stepG.exec, onF])
theorem st_inBlock {id : Nat} : step P (lone (onF b t (.inBlock id :: k) ds) cs w) = .next (lone (onF b t k ds) cs w) := step_lone_go (by simp [stepG, stepG.exec, onF])
theorem st_inScope {c : Code} : step P (lone (onF b t (.inScope c :: k) ds) cs w) = .next (lone (onF b t k ds) cs w) := step_lone_go (by simp [stepG, stepG.exec, onF])
theorem st_seq {x y : Code} : step P (lone (onF b t (.code (.seq x y) :: k) ds) cs w) = .next (lone (onF b t (.code x :: .code y :: k) ds) cs w) := step_lone_go (by simp [stepG, stepG.exec, onF])
theorem st_cond {c : Operand} {x y : Code} {q : Bool} (h : evT t c = .bool q) : step P (lone (onF b t (.code (.cond c x y) :: k) ds) cs w) = .next (lone (onF b t (.code (if q then x else y) :: k) ds) cs w) :=
  step_lone_go (by
    have : (onF b t (.code (.cond c x y) :: k) ds).eval c = .bool q := by rw [← h]; cases c <;> rfl
    simp only [onF] at this
    simp [stepG, stepG.exec, onF, this])
theorem st_block {id : Nat} {c : Code} : step P (lone (onF b t (.code (.block id c) :: k) ds) cs w) = .next (lone (onF b t (.code c :: .inBlock id :: k) ds) cs w) := step_lone_go (by simp [stepG, stepG.exec, onF])
theorem st_scope {c : Code} : step P (lone (onF b t (.code (.scope c) :: k) ds) cs w) = .next (lone (onF b t (.code c :: .inScope c :: k) ds) cs w) := step_lone_go (by simp [stepG, stepG.exec, onF])
theorem st_loop {c : Code} : step P (lone (onF b t (.code (.loop c) :: k) ds) cs w) = .next (lone (onF b t (.code c :: .inLoop c :: k) ds) cs w) := step_lone_go (by simp [stepG, stepG.exec, onF])
theorem st_inLoop {c : Code} : step P (lone (onF b t (.inLoop c :: k) ds) cs w) = .next (lone (onF b t (.code c :: .inLoop c :: k) ds) cs w) := step_lone_go (by simp [stepG, stepG.exec, onF])
theorem st_exit {id : Nat} {k' : List Item} (h : exitTo id k = some k') : step P (lone (onF b t (.code (.exit id) :: k) ds) cs w) = .next (lone (onF b t k' ds) cs w) := step_lone_go (by simp [stepG, stepG.exec, onF, h])
theorem st_region {id : Nat} {ops : Array Oper} : step P (lone (onF b t (.code (.region id ops false) :: k) ds) cs w) = .next (lone (onF b t (.inRegion ops (List.range ops.size) :: k) ds) cs w) := step_lone_go (by simp [stepG, stepG.exec, onF])
theorem st_region_draw {id : Nat} {ops : Array Oper} : step P (lone (onF b t (.code (.region id ops true) :: k) ds) cs w) =
    .next (lone (onF b t (.inRegion ops (Region.schedule (P.follows .mixedOrders) ops (w.tape w.drawn (.order b.fn id))) :: k) ds) cs { w with drawn := w.drawn + 1 }) :=
  step_lone_go (by simp [stepG, stepG.exec, onF, choose, Sem.run, Question.forced, Question.cut])
theorem st_region_end {ops : Array Oper} : step P (lone (onF b t (.inRegion ops [] :: k) ds) cs w) = .next (lone (onF b t k ds) cs w) := step_lone_go (by simp [stepG, stepG.exec, onF])

variable {ops : Array Oper} {i : Nat} {rest : List Nat} {o : Oper}

def putT (t : Array Value) (dst : Option Tmp) (v : Value) : Array Value := match dst with
  | some d => t.setIfInBounds d v
  | none => t

theorem fin_on (v : Value) (ho : ops[i]? = some o) : (onF b t (.inRegion ops (i :: rest) :: k) ds).finish v = onF b (putT t o.dst v) (.inRegion ops rest :: k) ds := by
  cases hd : o.dst <;> simp [Frame.finish, onF, putT, ho, hd]

theorem st_op_skip (ho : ops[i]? = some o) (h : Region.wanted o (yielded ops t) = false) :
    step P (lone (onF b t (.inRegion ops (i :: rest) :: k) ds) cs w) = .next (lone (onF b (putT t o.dst undef) (.inRegion ops rest :: k) ds) cs w) := by
  rw [← fin_on undef ho]
  exact step_lone_go (by simp [stepG, stepG.exec, onF, ho, h])

theorem stepG_on (ho : ops[i]? = some o) (hd : ∀ c, o.op ≠ .defer c) (hw : Region.wanted o (yielded ops t) = true) :
    stepG P true { frame := onF b t (.inRegion ops (i :: rest) :: k) ds, callers := cs, status := .running, dying := none } w =
      stepG.apply P true (onF b t (.inRegion ops (i :: rest) :: k) ds) cs none (execOp (evT t) o) w := by
  have he : (onF b t (.inRegion ops (i :: rest) :: k) ds).eval = evT t := funext fun x => by cases x <;> rfl
  have : stepG P true { frame := onF b t (.inRegion ops (i :: rest) :: k) ds, callers := cs, status := .running, dying := none } w = stepG.oper P true (onF b t (.inRegion ops (i :: rest) :: k) ds) cs none w := by
    simp [stepG, stepG.exec, onF, ho, hw]
  rw [this]
  unfold stepG.oper
  have h1 : (onF b t (.inRegion ops (i :: rest) :: k) ds).oper? = some o := by simp [Frame.oper?, onF, ho]
  rw [h1]
  simp only [he]
  split
  · rename_i c _ hc; exact absurd hc (hd c)
  · rfl

theorem st_op_value (ho : ops[i]? = some o) (hd : ∀ c, o.op ≠ .defer c) (hw : Region.wanted o (yielded ops t) = true) {v : Value} {w' : World} (hr : (execOp (evT t) o).run P w = .ok (.value v) w') :
    step P (lone (onF b t (.inRegion ops (i :: rest) :: k) ds) cs w) = .next (lone (onF b (putT t o.dst v) (.inRegion ops rest :: k) ds) cs w') := by
  rw [← fin_on v ho]
  exact step_lone_go (by rw [stepG_on ho hd hw]; simp [stepG.apply, hr])
theorem st_op_unit (ho : ops[i]? = some o) (hd : ∀ c, o.op ≠ .defer c) (hw : Region.wanted o (yielded ops t) = true) {w' : World} (hr : (execOp (evT t) o).run P w = .ok .skip w') :
    step P (lone (onF b t (.inRegion ops (i :: rest) :: k) ds) cs w) = .next (lone (onF b (putT t o.dst undef) (.inRegion ops rest :: k) ds) cs w') := by
  rw [← fin_on undef ho]
  exact step_lone_go (by rw [stepG_on ho hd hw]; simp [stepG.apply, hr])
theorem st_op_panic (ho : ops[i]? = some o) (hd : ∀ c, o.op ≠ .defer c) (hw : Region.wanted o (yielded ops t) = true) {v : Value} {w' : World} (hr : (execOp (evT t) o).run P w = .halt (.panic v) w') :
    step P (lone (onF b t (.inRegion ops (i :: rest) :: k) ds) cs w) = .next (lone { onF b t (.inRegion ops (i :: rest) :: k) ds with mode := .panicking [{ v, recovered := false }] } cs w') := by
  exact step_lone_go (by rw [stepG_on ho hd hw]; simp [stepG.apply, hr, Frame.raise, onF])
theorem st_op_enter (ho : ops[i]? = some o) (hd : ∀ c, o.op ≠ .defer c) (hw : Region.wanted o (yielded ops t) = true) {f : FuncId} {args : Array Value} {w' : World} (hr : (execOp (evT t) o).run P w = .ok (.enter f args) w') :
    step P (lone (onF b t (.inRegion ops (i :: rest) :: k) ds) cs w) = .next (lone (Frame.enter P f args .normal) (onF b t (.inRegion ops (i :: rest) :: k) ds :: cs) w') := by
  exact step_lone_go (by rw [stepG_on ho hd hw]; simp [stepG.apply, hr, onF])
theorem st_op_round (ho : ops[i]? = some o) (hd : ∀ c, o.op ≠ .defer c) (hw : Region.wanted o (yielded ops t) = true) {l : Nat} {f : FuncId} {tmps : Array Value} {asg bdy : Code} {w' : World} (hr : (execOp (evT t) o).run P w = .ok (.round l f tmps asg bdy) w') :
    step P (lone (onF b t (.inRegion ops (i :: rest) :: k) ds) cs w) = .next (lone (Frame.round l f tmps asg bdy .normal) (onF b t (.inRegion ops (i :: rest) :: k) ds :: cs) w') := by
  exact step_lone_go (by rw [stepG_on ho hd hw]; simp [stepG.apply, hr, onF])
end steps
end Go.Ai

namespace Go.Ai
open Go
variable {P : Program}

/-- what is to be reached, by the phase -/
structure Goal (P : Program) where
  ok : Nat → Machine → Prop
  back : ∀ {n m m'}, step P m = .next m' → ok n m' → ok n m

def PE (x : Value) : List PanicEntry := [{ v := x, recovered := false }]
def IsI (x : Value) : Prop := ∃ t y, x = .iface t y

/-- the marks of loops over functions that this frame has run -/
structure DsOk (calm : Bool) (lo : Nat) (σ : Sub) (w : World) (ds : List Deferred) : Prop where
  calm : calm = true → ds = []
  lo_le : lo ≤ w.heap.size
  marks : ∃ rs : List Nat, rs.Nodup ∧ ds = rs.map (fun r => ({ target := .collected r, args := #[] } : Deferred)) ∧ ∀ r ∈ rs, lo ≤ r ∧ w.heap[r]? = some (.deferred (some [])) ∧ ∀ b base sz, σ b ≠ .at r base sz

theorem DsOk.ext {calm : Bool} {lo : Nat} {σ σ' : Sub} {A A' : AH} {w w' : World} {ds : List Deferred} (h : DsOk calm lo σ w ds) (x : Ext σ A w σ' A' w') : DsOk calm lo σ' w' ds := by
  obtain ⟨rs, h1, h2, h3⟩ := h.marks
  refine ⟨h.calm, Nat.le_trans h.lo_le x.size, rs, h1, h2, fun r hr => ?_⟩
  obtain ⟨a, b, c⟩ := h3 r hr
  have hlt : r < w.heap.size := by
    rcases Nat.lt_or_ge r w.heap.size with h | h
    · exact h
    · simp [Array.getElem?_eq_none h] at b
  obtain ⟨k1, k2⟩ := x.unowned hlt c
  exact ⟨a, k1.trans b, k2⟩
theorem DsOk.nil (calm : Bool) (lo : Nat) (σ : Sub) (w : World) (h : lo ≤ w.heap.size) : DsOk calm lo σ w [] := ⟨fun _ => rfl, h, [], by simp, rfl, by simp⟩

/-- where code runs -/
structure Ctx where
  b : Frame
  k : List Item
  cs : List Frame
  calm : Bool
  lo : Nat
  n : Nat

variable (G : Goal P)

def KEs (X : Ctx) (k : KE) (σ : Sub) (A : AH) (w : World) : Prop :=
  ∀ e A' σ' t ds w', k e A' = true → Ext σ A w σ' A' w' → Rel σ' A' w' → RelE σ' X.n e t → DsOk X.calm X.lo σ' w' ds → G.ok A'.ph (lone (onF X.b t X.k ds) X.cs w')
def KJs (X : Ctx) (J : KJ) (σ : Sub) (A : AH) (w : World) : Prop :=
  ∀ j jc k2 e A' σ' t ds w', J j e A' = true → jCode j = some jc → (∀ id, j = .exit id → exitTo id k2 = exitTo id X.k) → Ext σ A w σ' A' w' → Rel σ' A' w' → RelE σ' X.n e t → DsOk X.calm X.lo σ' w' ds →
    G.ok A'.ph (lone (onF X.b t (.code jc :: k2) ds) X.cs w')
def KHs (X : Ctx) (H : KV) (σ : Sub) (A : AH) (w : World) : Prop :=
  ∀ v A' σ' x t k2 ds w', H v A' = true → Ext σ A w σ' A' w' → Rel σ' A' w' → VRel σ' v x → IsI x → DsOk X.calm X.lo σ' w' ds → G.ok A'.ph (lone { onF X.b t k2 ds with mode := .panicking (PE x) } X.cs w')
def KVs (c : Frame) (cs : List Frame) (K : KV) (σ : Sub) (A : AH) (w : World) : Prop :=
  ∀ v A' σ' x w', K v A' = true → Ext σ A w σ' A' w' → Rel σ' A' w' → VRel σ' v x → G.ok A'.ph (lone (c.finish x) cs w')
def KPs (c : Frame) (cs : List Frame) (H : KV) (σ : Sub) (A : AH) (w : World) : Prop :=
  ∀ v A' σ' x w', H v A' = true → Ext σ A w σ' A' w' → Rel σ' A' w' → VRel σ' v x → IsI x → G.ok A'.ph (lone (c.raise (PE x)) cs w')

section
variable {G}
theorem KEs.ext {X : Ctx} {k : KE} {σ σ1 : Sub} {A A1 : AH} {w w1 : World} (h : KEs G X k σ A w) (x : Ext σ A w σ1 A1 w1) : KEs G X k σ1 A1 w1 := fun e A' σ' t ds w' hk hx => h e A' σ' t ds w' hk (x.trans hx)
theorem KJs.ext {X : Ctx} {k : KJ} {σ σ1 : Sub} {A A1 : AH} {w w1 : World} (h : KJs G X k σ A w) (x : Ext σ A w σ1 A1 w1) : KJs G X k σ1 A1 w1 := fun j jc k2 e A' σ' t ds w' hk hj hq hx => h j jc k2 e A' σ' t ds w' hk hj hq (x.trans hx)
theorem KHs.ext {X : Ctx} {k : KV} {σ σ1 : Sub} {A A1 : AH} {w w1 : World} (h : KHs G X k σ A w) (x : Ext σ A w σ1 A1 w1) : KHs G X k σ1 A1 w1 := fun v A' σ' y t k2 ds w' hk hx => h v A' σ' y t k2 ds w' hk (x.trans hx)
theorem KVs.ext {c : Frame} {cs : List Frame} {k : KV} {σ σ1 : Sub} {A A1 : AH} {w w1 : World} (h : KVs G c cs k σ A w) (x : Ext σ A w σ1 A1 w1) : KVs G c cs k σ1 A1 w1 := fun v A' σ' y w' hk hx => h v A' σ' y w' hk (x.trans hx)
theorem KPs.ext {c : Frame} {cs : List Frame} {k : KV} {σ σ1 : Sub} {A A1 : AH} {w w1 : World} (h : KPs G c cs k σ A w) (x : Ext σ A w σ1 A1 w1) : KPs G c cs k σ1 A1 w1 := fun v A' σ' y w' hk hx => h v A' σ' y w' hk (x.trans hx)
end

def Enters (P : Program) (g : FuncId) : Prop := ∃ fn, P.funcs[g]? = some fn ∧ fn.body.isNone = false ∧ (fn.name == "runtime.NumGoroutine") = false

/-- a call -/
def CallS (g : FuncId) (args : List AV) (A : AH) (K H : KV) : Prop :=
  Enters P g ∧ ∀ σ w vs c cs, VRels σ args vs.toList → Rel σ A w → KVs G c cs K σ A w → KPs G c cs H σ A w → G.ok A.ph (lone (Frame.enter P g vs .normal) (c :: cs) w)
/-- a round of a loop over a function -/
def YldS (b : Pa) (args : List AV) (A : AH) (K H : KV) : Prop :=
  ∀ σ w vs r, σ b = .at r 0 0 → VRels σ args vs.toList → Rel σ A w →
    ∃ L, w.heap[r]? = some (.loop L) ∧ vs.size = L.params.size ∧ ∀ c cs, KVs G c cs K σ A w → KPs G c cs H σ A w → G.ok A.ph (lone (Frame.round r L.fn ((L.params.zip vs).foldl (fun tmps (t, a) => tmps.setIfInBounds t a) L.tmps) L.assign L.body .normal) (c :: cs) w)
/-- a loop -/
def LoopS (c : CC) (H : KV) (J : KJ) (e : Env) (A : AH) : Prop :=
  ∀ (X : Ctx) c0 σ t ds w, cCode P X.n c0 = c → (X.calm = true → noRange c0 = true) → X.b.kind = .normal → (noRange c0 = true ∨ X.b.roundOf = none) → RelE σ X.n e t → Rel σ A w → DsOk X.calm X.lo σ w ds → KJs G X J σ A w → KHs G X H σ A w →
    G.ok A.ph (lone (onF X.b t (.code c0 :: .inLoop c0 :: X.k) ds) X.cs w)
def TaskS : Tk → Prop
  | .call g args A K H => CallS G g args A K H
  | .yld b args A K H => YldS G b args A K H
  | .loop c H J e A => LoopS G c H J e A

/- what is wanted -/
theorem opnd_tmps {all : List Oper} {o : Oper} {t : Nat} (h : Opnd o t) : t ∈ tmpsOf all o := by
  unfold tmpsOf
  refine List.mem_append.2 (.inl (List.mem_filterMap.2 ⟨_, Array.mem_toList_iff.2 h, rfl⟩))

theorem wanted_eq {all : List Oper} {ops : Array Oper} (hall : ops.toList = all) {o : Oper} {g : Option (Ev × Bool)} (hg : cGuard all o = some g) {V : Nat → Prop} (hV : ∀ t ∈ tmpsOf all o, V t) {σ : Sub} {n : Nat} {e : Env} {t : Array Value} (hE : RelV V σ n e t) :
    Region.wanted o (yielded ops t) = wantedA e g := by
  unfold cGuard at hg
  unfold Region.wanted
  cases hgu : o.guard with
  | none => rw [hgu] at hg; cases hg; rfl
  | some jw =>
    obtain ⟨j, want⟩ := jw
    rw [hgu] at hg
    simp only at hg ⊢
    split at hg
    · rename_i oj hj
      split at hg
      · rename_i u hu
        split at hg
        · rename_i f hf
          cases hg
          have hVu : V u := hV u (by
            unfold tmpsOf
            refine List.mem_append.2 (.inr ?_)
            rw [hgu]; simp only; rw [hj]; simp [hu])
          have hs := hE.slot u f hVu hf
          have hj' : ops[j]? = some oj := by rw [nth_get, ← hall] at hj; simpa using hj
          have hy : yielded ops t j = match t[u]? with | some (.bool b) => some b | _ => none := by
            unfold yielded
            simp only [hj', Option.bind_some, hu]
            rfl
          rw [hy]
          show _ = (match f e with | .bool b => bif b then want else !want | _ => false)
          rcases Nat.lt_or_ge u t.size with hlt | hge
          · generalize hx : t.getD u undef = x at hs
            have hx' : t[u]? = some x := by rw [← hx]; simp [Array.getD, hlt]
            rw [hx']
            generalize f e = v at hs
            cases hs with
            | bool b => cases b <;> cases want <;> rfl
            | _ => cases want <;> rfl
          · have : t.getD u undef = undef := by simp [Array.getD, Nat.not_lt.2 hge]
            rw [this] at hs
            generalize f e = v at hs ⊢
            unfold undef at hs
            cases hs
            have hn : t[u]? = none := Array.getElem?_eq_none hge
            rw [hn]; cases want <;> rfl
        · cases hg
      · cases hg
    · cases hg
end Go.Ai

namespace Go.Ai
open Go
variable {P : Program} {G : Goal P}

theorem callFunc_run {g : FuncId} (h : Enters P g) (args : Array Value) (w : World) : (callFunc g args).run P w = .ok (.enter g args) w := by
  obtain ⟨fn, h1, h2, h3⟩ := h
  have h3' : ¬ (fn.name == "runtime.NumGoroutine") = true := by rw [h3]; simp
  have h2' : ¬ fn.body.isNone = true := by rw [h2]; simp
  simp only [callFunc, program, Bind.bind, Sem.bind, Sem.run, h1]
  rw [if_neg h3', if_neg h2']
  rfl

theorem resolve_value {ρ : Operand → Value} {c : Call} {f : Operand} (hc : c.callee = .value f) (t : TypeId) : resolve ρ c t = Deferred.ofValue (ρ f) (c.args.map ρ) := by
  unfold resolve
  rw [hc]

/-- where a call of a value leads -/
inductive Leads (P : Program) (w : World) (fv : Value) (vs : Array Value) : Frame → Prop
  | enter (g : FuncId) (vs' : Array Value) (h : ((do let d ← Deferred.ofValue fv vs; invoke d.target d.args : Sem Next)).run P w = .ok (.enter g vs') w) : Leads P w fv vs (Frame.enter P g vs' .normal)
  | round (l : Nat) (f : FuncId) (t : Array Value) (a b : Code) (h : ((do let d ← Deferred.ofValue fv vs; invoke d.target d.args : Sem Next)).run P w = .ok (.round l f t a b) w) : Leads P w fv vs (Frame.round l f t a b .normal)

theorem callV_sound {ih : Tk → Bool} (IH : ∀ t, ih t = true → TaskS G t) {H : KV} {f : AV} {args : List AV} {A : AH} {K : KV} (hk : callV ih H f args A K = true)
    {σ : Sub} {w : World} {fv : Value} {vs : Array Value} (hf : VRel σ f fv) (hvs : VRels σ args vs.toList) (hA : Rel σ A w) :
    ∃ fr, Leads P w fv vs fr ∧ ∀ c cs, KVs G c cs K σ A w → KPs G c cs H σ A w → G.ok A.ph (lone fr (c :: cs) w) := by
  cases hf with
  | func g a c as cs ha hc =>
    have hk' : ih (.call g (a ++ args ++ c) A K H) = true := by
      simp only [callV, Bool.and_eq_true] at hk; exact hk.2
    obtain ⟨hE, hC⟩ := IH _ hk'
    refine ⟨_, .enter g (as ++ vs ++ cs) ?_, fun fr cs' hK hP => hC σ w (as ++ vs ++ cs) fr cs' ?_ hA hK hP⟩
    · have := callFunc_run hE (as ++ vs ++ cs) w
      simpa [Deferred.ofValue, invoke] using this
    · rw [Array.toList_append, Array.toList_append]
      exact (ha.append hvs).append hc
  | yld b i n c r hr =>
    have hk' : ih (.yld b args A K H) = true := by
      simp only [callV, Bool.and_eq_true] at hk; exact hk.2
    obtain ⟨L, h1, h2, h3⟩ := IH _ hk' σ w vs r hr hvs hA
    refine ⟨_, .round r L.fn ((L.params.zip vs).foldl (fun tmps (t, a) => tmps.setIfInBounds t a) L.tmps) L.assign L.body ?_, fun fr cs' hK hP => h3 fr cs' hK hP⟩
    simp only [Deferred.ofValue, invoke, Instr.yield, Instr.getLoop, getObj, Bind.bind, Sem.bind, Pure.pure, Sem.run, h1]
    have : (#[] ++ vs).size = L.params.size := by simpa using h2
    simp [this, h2, Sem.run]
  | _ => first | (simp [callV] at hk; done) | skip
theorem putT_put {V V' : Nat → Prop} {σ : Sub} {n : Nat} {e : Env} {t : Array Value} (hE : RelV V σ n e t) {o : Oper} {u : Option Up} (hu : cDst n o = some u) (hV : ∀ s, V' s → o.dst = some s ∨ V s) {v : AV} {x : Value} (hv : VRel σ v x) : RelV V' σ n (put u v e) (putT t o.dst x) := by
  unfold cDst at hu
  cases hd : o.dst with
  | none => rw [hd] at hu; cases hu; exact hE.weak fun s hs => (hV s hs).resolve_left (by rw [hd]; simp)
  | some s =>
    rw [hd] at hu
    simp only at hu
    split at hu
    · rename_i p hp
      cases hb : Nat.blt s n with
      | false => rw [hb] at hu; cases hu
      | true =>
        rw [hb] at hu; cases hu
        refine hE.set hp (by simpa using hb) (fun q hq => ?_) hv
        rcases hV q hq with h | h
        · rw [hd] at h; cases h; exact .inl rfl
        · exact .inr h
    · cases hu

theorem opF_eq {g : Option (Ev × Bool)} {u : Option Up} {run : Run} {r : KE} {e : Env} {A : AH} (h : (opF g u run).f r e A = true) :
    (wantedA e g = true ∧ run e A (fun v A => r (put u v e) A) = true) ∨ (wantedA e g = false ∧ r (put u (.tuple []) e) A = true) := by
  unfold opF at h
  cases g with
  | none =>
    cases u with
    | none => exact .inl ⟨rfl, h⟩
    | some u => exact .inl ⟨rfl, h⟩
  | some pw =>
    simp only at h
    cases hw : wantedA e (some pw) with
    | true => rw [hw] at h; exact .inl ⟨rfl, h⟩
    | false => rw [hw] at h; exact .inr ⟨rfl, h⟩

/-- the kinds of a compiled operation -/
inductive Kind1 (P : Program) (n : Nat) (all : List Oper) (o : Oper) : CO → Prop
  | op (g : Option (Ev × Bool)) (u : Option Up) (run : Run) (hg : cGuard all o = some g) (hu : cDst n o = some u) (hr : cOp P o = some run) : Kind1 P n all o (.op (opF g u run).f)
  | call (g : Option (Ev × Bool)) (u : Option Up) (c : Call) (fo : Operand) (f : Ev) (as : List Ev) (hg : cGuard all o = some g) (hu : cDst n o = some u) (ho : o.op = .call c) (hc : c.callee = .value fo) (hf : cOpd fo = some f) (ha : cOpds c.args.toList = some as) : Kind1 P n all o (.call g u f as)
  | pan (x : Operand) (a : Ev) (hg : cGuard all o = some none) (ho : o.op = .panic x) (ha : cOpd x = some a) : Kind1 P n all o (.pan a)

theorem kind1 {n : Nat} {all : List Oper} {o : Oper} {co : CO} (h : cOper P n all o = some co) : Kind1 P n all o co := by
  unfold cOper at h
  split at h
  · rename_i g u hg hu
    split at h
    · rename_i x hx
      split at h
      · rename_i a ha; cases h; exact .pan x a hg hx ha
      · cases h
    · rename_i c hc
      split at h
      · rename_i f hf
        split at h
        · rename_i f' as h1 h2; cases h; exact .call g u c f f' as hg hu hc hf h1 h2
        · cases h
      · split at h
        · rename_i r hr; cases h; exact .op g u r hg hu hr
        · cases h
    · split at h
      · rename_i r hr; cases h; exact .op g u r hg hu hr
      · cases h
  · cases h

theorem cOp_defer {o : Oper} {run : Run} (h : cOp P o = some run) (c : Call) : o.op ≠ .defer c := by
  intro hd
  unfold cOp at h
  rw [hd] at h
  cases h

theorem op1_sound {ih : Tk → Bool} (IH : ∀ t, ih t = true → TaskS G t) (hop : ∀ n o run, cOp P o = some run → Sound P n o run)
    {ops : Array Oper} {all : List Oper} (hall : ops.toList = all) {n : Nat} {i : Nat} {o : Oper} (ho : ops[i]? = some o) {co : CO} (hc : cOper P n all o = some co)
    {H : KV} {r : KE} {e : Env} {A : AH} (hk : runO1 ih H co r e A = true) {X : Ctx} {rest : List Nat} {σ : Sub} {t : Array Value} {ds : List Deferred} {w : World} {V : Nat → Prop}
    (hE : RelV V σ n e t) (hV : ∀ s ∈ tmpsOf all o, V s) (hA : Rel σ A w) (hds : DsOk X.calm X.lo σ w ds)
    (hr : ∀ v A' σ' x w' u, cDst n o = some u → r (put u v e) A' = true → Ext σ A w σ' A' w' → Rel σ' A' w' → VRel σ' v x → G.ok A'.ph (lone (onF X.b (putT t o.dst x) (.inRegion ops rest :: X.k) ds) X.cs w'))
    (hH : KHs G X H σ A w) : G.ok A.ph (lone (onF X.b t (.inRegion ops (i :: rest) :: X.k) ds) X.cs w) := by
  have hVo : ∀ s, Opnd o s → V s := fun s hs => hV s (opnd_tmps hs)
  have skip : ∀ g u, cGuard all o = some g → cDst n o = some u → wantedA e g = false → r (put u (.tuple []) e) A = true → G.ok A.ph (lone (onF X.b t (.inRegion ops (i :: rest) :: X.k) ds) X.cs w) := fun g u hg hu hw hk => by
    have hwt : Region.wanted o (yielded ops t) = false := by rw [wanted_eq hall hg hV hE]; exact hw
    refine G.back (st_op_skip ho hwt) ?_
    exact hr _ A σ undef w u hu hk (Ext.refl ..) hA (.tuple 0 [] [] #[] .nil)
  cases kind1 hc with
  | op g u run hg hu hrun =>
    rcases opF_eq hk with ⟨hw, hk⟩ | ⟨hw, hk⟩
    · have hwt : Region.wanted o (yielded ops t) = true := by rw [wanted_eq hall hg hV hE]; exact hw
      obtain ⟨v, A', hK, hs⟩ := hop n o run hrun e A _ hk
      obtain ⟨σ', x, w', hx, hph, hext, hA', hv⟩ := hs σ t w (hE.weak hVo) hA
      rw [← hph]
      have := hr v A' σ' x w' u hu hK hext hA' hv
      rcases hx with hx | ⟨hx, rfl⟩
      · exact hph ▸ G.back (st_op_value ho (cOp_defer hrun) hwt hx) (hph ▸ this)
      · exact hph ▸ G.back (st_op_unit ho (cOp_defer hrun) hwt hx) (hph ▸ this)
    · exact skip g u hg hu hw hk
  | call g u c fo f as hg hu hop' hcal hf ha =>
    simp only [runO1] at hk
    cases hw : wantedA e g with
    | false => rw [hw] at hk; exact skip g u hg hu hw hk
    | true =>
      rw [hw] at hk
      have hwt : Region.wanted o (yielded ops t) = true := by rw [wanted_eq hall hg hV hE]; exact hw
      have hopn : ∀ s, (fo = .tmp s ∨ .tmp s ∈ c.args.toList) → V s := fun s hs => hVo s (by
        show Operand.tmp s ∈ o.op.operands
        rw [hop']
        simp only [Op.operands, Call.operands, hcal, Array.mem_append]
        rcases hs with h | h
        · exact .inl (by simp [h])
        · exact .inr (by simpa using h))
      have hfv := cOpd_rel hf (fun s hs => hopn s (.inl hs)) hE hA
      have hav := cOpds_rel ha (fun s hs => hopn s (.inr hs)) hE hA
      obtain ⟨fr, hfr, hgo⟩ := callV_sound IH hk (vs := c.args.map (evT t)) hfv (by simpa using hav) hA
      have hex : (execOp (evT t) o) = (do let d ← Deferred.ofValue (evT t fo) (c.args.map (evT t)); invoke d.target d.args : Sem Next) := by
        unfold execOp
        rw [hop']
        simp only [resolve_value hcal]
      have hdf : ∀ c', o.op ≠ .defer c' := fun c' h => by rw [hop'] at h; cases h
      have hfin : ∀ x, (onF X.b t (.inRegion ops (i :: rest) :: X.k) ds).finish x = onF X.b (putT t o.dst x) (.inRegion ops rest :: X.k) ds := fun x => fin_on x ho
      have hok := hgo (onF X.b t (.inRegion ops (i :: rest) :: X.k) ds) X.cs
        (fun v A' σ' x w' hk' hx hA' hv => by rw [hfin]; exact hr v A' σ' x w' u hu hk' hx hA' hv)
        (fun v A' σ' x w' hk' hx hA' hv hi => by
          have := hH v A' σ' x t (.inRegion ops (i :: rest) :: X.k) ds w' hk' hx hA' hv hi (hds.ext hx)
          exact this)
      cases hfr with
      | enter g' vs' h => exact G.back (st_op_enter ho hdf hwt (by rw [hex]; exact h)) hok
      | round l f' t' a b h => exact G.back (st_op_round ho hdf hwt (by rw [hex]; exact h)) hok
  | pan x a hg hop' ha =>
    obtain ⟨n', a', c', hxe, hk⟩ := asCom_t.1 hk
    have hwt : Region.wanted o (yielded ops t) = true := by rw [wanted_eq hall hg hV hE]; rfl
    have hxv := cOpd_rel ha (fun s hs => hVo s (by show Operand.tmp s ∈ o.op.operands; rw [hop']; simp [Op.operands, hs])) hE hA
    rw [hxe] at hxv
    have hdf : ∀ c', o.op ≠ .defer c' := fun c' h => by rw [hop'] at h; cases h
    generalize hxx : evT t x = xv at hxv
    cases hxv with
    | iface ty v0 r0 c0 v1 h1 =>
      refine G.back (st_op_panic ho hdf hwt (v := .iface n' v1) (w' := w) ?_) ?_
      · unfold execOp
        rw [hop']
        simp only [hxx]
        rfl
      · exact hH _ A σ _ t _ ds w hk (Ext.refl ..) hA (by rw [hxe]; exact .iface _ _ _ _ _ h1) ⟨_, _, rfl⟩ hds
end Go.Ai

namespace Go.Ai
open Go
variable {P : Program} {G : Goal P}

theorem runO_sound {ih : Tk → Bool} (IH : ∀ t, ih t = true → TaskS G t) (hop : ∀ n o run, cOp P o = some run → Sound P n o run) {H : KV} {r : KE} {X : Ctx} {ops : Array Oper} {all : List Oper} (hall : ops.toList = all) :
    ∀ (l : List Oper) (pre : Nat) (cl : List CO), all.drop pre = l → cOpers P X.n all l = some cl → ∀ e A σ t ds w, runO ih H r cl e A = true → RelE σ X.n e t → Rel σ A w → DsOk X.calm X.lo σ w ds → KEs G X r σ A w → KHs G X H σ A w →
      G.ok A.ph (lone (onF X.b t (.inRegion ops (List.range' pre l.length) :: X.k) ds) X.cs w)
  | [], pre, cl, hd, hc, e, A, σ, t, ds, w, hk, hE, hA, hds, hr, hH => by
    cases hc
    exact G.back st_region_end (hr e A σ t ds w hk (Ext.refl ..) hA hE hds)
  | o :: l, pre, cl, hd, hc, e, A, σ, t, ds, w, hk, hE, hA, hds, hr, hH => by
    simp only [cOpers] at hc
    split at hc
    · rename_i co cl' h1 h2
      cases hc
      have ho : ops[pre]? = some o := by
        have h0 : (all.drop pre)[0]? = some o := by rw [hd]; rfl
        rw [List.getElem?_drop] at h0
        rw [← hall] at h0
        simpa using h0
      have hd' : all.drop (pre + 1) = l := by
        have : (all.drop pre).drop 1 = l := by rw [hd]; rfl
        simpa [List.drop_drop] using this
      have hk' : runO1 ih H co (runO ih H r cl') e A = true := hk
      refine op1_sound IH hop hall ho h1 hk' hE (fun _ _ => trivial) hA hds (fun v A' σ' x w' u hu hk2 hx hA' hv => ?_) hH
      exact runO_sound IH hop hall l (pre + 1) cl' hd' h2 _ A' σ' _ ds w' hk2 (putT_put (hE.mono hx.le) hu (fun _ _ => .inr trivial) hv) hA' (hds.ext hx) (hr.ext hx) (hH.ext hx)
    · cases hc

/-- a region whose order is given -/
theorem ops_sound {ih : Tk → Bool} (IH : ∀ t, ih t = true → TaskS G t) (hop : ∀ n o run, cOp P o = some run → Sound P n o run) {H : KV} {r : KE} {X : Ctx} {id : Nat} {ops : Array Oper} {cl : List CO} (hc : cOpers P X.n ops.toList ops.toList = some cl) {e : Env} {A : AH} {σ : Sub} {t : Array Value} {ds : List Deferred} {w : World}
    (hk : runO ih H r cl e A = true) (hE : RelE σ X.n e t) (hA : Rel σ A w) (hds : DsOk X.calm X.lo σ w ds) (hr : KEs G X r σ A w) (hH : KHs G X H σ A w) :
    G.ok A.ph (lone (onF X.b t (.code (.region id ops false) :: X.k) ds) X.cs w) := by
  refine G.back st_region ?_
  have := runO_sound IH hop (all := ops.toList) rfl ops.toList 0 cl (by simp) hc e A σ t ds w hk hE hA hds hr hH
  rwa [show List.range' 0 ops.toList.length = List.range ops.size by simp [List.range_eq_range']] at this
end Go.Ai

namespace Go.Ai
open Go
variable {P : Program} {G : Goal P}

/-- a region that draws its order -/
def MixS (G : Goal P) (ih : Tk → Bool) : Prop := ∀ (X : Ctx) (H : KV) (r : KE) (id : Nat) (ops : Array Oper) (p : List Nat) (l : List (CO × List RE)) (e : Env) (A : AH) (σ : Sub) (t : Array Value) (ds : List Deferred) (w : World),
  tmpOk P ops.toList (ancs ops.toList []) = true → backOk ops.toList = true → plan P ops.toList ops.toList.length [] [] = some p → fullOk ops.toList.length p = true → cPlan P X.n ops.toList (ancs ops.toList []) [] p = some l →
  runM ih H r l e A = true → RelE σ X.n e t → Rel σ A w → DsOk X.calm X.lo σ w ds → KEs G X r σ A w → KHs G X H σ A w →
  G.ok A.ph (lone (onF X.b t (.code (.region id ops true) :: X.k) ds) X.cs w)

theorem region_sound {ih : Tk → Bool} (IH : ∀ t, ih t = true → TaskS G t) (hop : ∀ n o run, cOp P o = some run → Sound P n o run) (hmix : MixS G ih) {H : KV} {J : KJ} {k : KE} {X : Ctx} {id : Nat} {ops : Array Oper} {draw : Bool} {kc : CC} {e : Env} {A : AH} {σ : Sub} {t : Array Value} {ds : List Deferred} {w : World}
    (hk : runC ih H (cRegion P X.n ops.toList draw kc) J k e A = true) (hE : RelE σ X.n e t) (hA : Rel σ A w) (hds : DsOk X.calm X.lo σ w ds) (hr : KEs G X (runC ih H kc J k) σ A w) (hH : KHs G X H σ A w) :
    G.ok A.ph (lone (onF X.b t (.code (.region id ops draw) :: X.k) ds) X.cs w) := by
  unfold cRegion at hk
  cases draw with
  | true =>
    simp only [cond_true] at hk
    unfold cMix at hk
    cases ht : tmpOk P ops.toList (ancs ops.toList []) && backOk ops.toList with
    | false => rw [ht] at hk; cases hk
    | true =>
      rw [ht] at hk
      obtain ⟨ht, hback⟩ := and_t.1 ht
      simp only [cond_true] at hk
      split at hk
      · rename_i p hp
        cases hf : fullOk ops.toList.length p with
        | false => rw [hf] at hk; cases hk
        | true =>
          rw [hf] at hk
          simp only [cond_true] at hk
          split at hk
          · rename_i l hl
            exact hmix X H _ id ops p l e A σ t ds w ht hback hp hf hl hk hE hA hds hr hH
          · cases hk
      · cases hk
  | false =>
    simp only [cond_false] at hk
    split at hk
    · rename_i l hl
      exact ops_sound IH hop hl hk hE hA hds hr hH
    · cases hk

theorem jumpB_t {id : Nat} {j : Jmp} (h : jumpB id j = true) : j = .exit id := by
  cases j with
  | exit i => rw [Nat.eq_of_beq_eq_true h]
  | _ => cases h
theorem jumpB_f {id i : Nat} (h : jumpB id (.exit i) = false) : i ≠ id := fun e => by subst e; simp [jumpB] at h

theorem st_rangeFunc {b : Frame} {t : Array Value} {k : List Item} {ds : List Deferred} {cs : List Frame} {w : World} {f : Operand} {ps : Array Tmp} {asg bdy : Code} (hb : b.roundOf = none) {fr' : Frame}
    (h : Leads P { w with heap := (w.heap.push (.deferred (some []))).push (.loop { state := .ready, pending := none, fn := b.fn, tmps := t, params := ps, assign := asg, body := bdy, defers := w.heap.size }) } (evT t f) #[.func (.yield (w.heap.size + 1)) #[] #[]] fr') :
    step P (lone (onF b t (.code (.rangeFunc f ps asg bdy) :: k) ds) cs w) = .next (lone fr' (onF b t (.inRangeFunc (w.heap.size + 1) :: k) ({ target := .collected w.heap.size, args := #[] } :: ds) :: cs)
      { w with heap := (w.heap.push (.deferred (some []))).push (.loop { state := .ready, pending := none, fn := b.fn, tmps := t, params := ps, assign := asg, body := bdy, defers := w.heap.size }) }) := by
  have hev : ∀ (x : Operand) (k' : List Item) (ds' : List Deferred), (onF b t k' ds').eval x = evT t x := fun x k' ds' => by cases x <;> rfl
  have hres : resolve (onF b t (.inRangeFunc (w.heap.size + 1) :: k) ({ target := .collected w.heap.size, args := #[] } :: ds)).eval { callee := .value f, args := #[.const (.func (.yield (w.heap.size + 1)) #[] #[])], argTypes := #[] } 0 = Deferred.ofValue (evT t f) #[.func (.yield (w.heap.size + 1)) #[] #[]] := by
    rw [resolve_value rfl, hev]; simp [onF, Frame.eval]
  simp only [onF] at hres
  have hel : (Instr.enterLoop b.fn t ps asg bdy none).run P w = .ok (w.heap.size + 1, [{ target := .collected w.heap.size, args := #[] }]) { w with heap := (w.heap.push (.deferred (some []))).push (.loop { state := .ready, pending := none, fn := b.fn, tmps := t, params := ps, assign := asg, body := bdy, defers := w.heap.size }) } := by
    simp [Instr.enterLoop, newObj, Bind.bind, Sem.bind, Pure.pure, Sem.run]
  have hgen : ∀ (w1 : World), (Sem.run P (Sem.bind (resolve (onF b t (.inRangeFunc (w.heap.size + 1) :: k) ({ target := .collected w.heap.size, args := #[] } :: ds)).eval { callee := .value f, args := #[.const (.func (.yield (w.heap.size + 1)) #[] #[])], argTypes := #[] } 0) fun d => invoke d.target d.args) w1) = (Sem.run P (Sem.bind (Deferred.ofValue (evT t f) #[.func (.yield (w.heap.size + 1)) #[] #[]]) fun d => invoke d.target d.args) w1) := fun w1 => by rw [show (onF b t (.inRangeFunc (w.heap.size + 1) :: k) ({ target := .collected w.heap.size, args := #[] } :: ds)).eval = (onF b t (.inRangeFunc (w.heap.size + 1) :: k) ({ target := .collected w.heap.size, args := #[] } :: ds)).eval from rfl]; simp only [onF]; rw [hres]
  simp only [onF, hb] at hgen
  cases h with
  | enter g vs' h =>
    refine step_lone_go ?_
    simp only [Bind.bind] at h
    simp [onF, stepG, stepG.exec, hb, Sem.runT_eq, hel, stepG.apply, Bind.bind, hgen, h]
  | round l f' t' a' b' h =>
    refine step_lone_go ?_
    simp only [Bind.bind] at h
    simp [onF, stepG, stepG.exec, hb, Sem.runT_eq, hel, stepG.apply, Bind.bind, hgen, h]

theorem st_endRangeFunc {b : Frame} {t : Array Value} {k : List Item} {ds : List Deferred} {cs : List Frame} {w : World} {l : Nat} {lp : Loop} (hl : w.heap[l]? = some (.loop lp)) (hs : lp.state ≠ .busy) :
    step P (lone (onF b t (.endRangeFunc l :: k) ds) cs w) = .next (lone (onF b t ((lp.pending.map Item.code).toList ++ k) ds) cs { w with heap := w.heap.setIfInBounds l (.loop { lp with state := .exhausted }) }) := by
  refine step_lone_go ?_
  have hr : (Instr.endLoop l).run P w = .ok lp.pending { w with heap := w.heap.setIfInBounds l (.loop { lp with state := .exhausted }) } := by
    simp [Instr.endLoop, Instr.getLoop, getObj, setObj, Bind.bind, Sem.bind, Pure.pure, Sem.run, hl, hs]
  simp [onF, stepG, stepG.exec, Sem.runT_eq, hr]
theorem exitTo_code (id : Nat) (c : Code) (k : List Item) : exitTo id (.code c :: k) = exitTo id k := rfl

/-- code -/
theorem code_sound {ih : Tk → Bool} (IH : ∀ t, ih t = true → TaskS G t) (hop : ∀ n o run, cOp P o = some run → Sound P n o run) (hmix : MixS G ih) (H : KV) :
    ∀ (c : Code) (X : Ctx) (J : KJ) (k : KE) (e : Env) (A : AH) (σ : Sub) (t : Array Value) (ds : List Deferred) (w : World), (X.calm = true → noRange c = true) → X.b.kind = .normal → (noRange c = true ∨ X.b.roundOf = none) →
      runC ih H (cCode P X.n c) J k e A = true → RelE σ X.n e t → Rel σ A w → DsOk X.calm X.lo σ w ds → KEs G X k σ A w → KJs G X J σ A w → KHs G X H σ A w →
      G.ok A.ph (lone (onF X.b t (.code c :: X.k) ds) X.cs w) := by
  intro c
  induction c with
  | skip => exact fun X J k e A σ t ds w _ _ _ hr hE hA hds hk hJ hH => G.back st_skip (hk e A σ t ds w hr (Ext.refl ..) hA hE hds)
  | label l => exact fun X J k e A σ t ds w _ _ _ hr hE hA hds hk hJ hH => G.back st_label (hk e A σ t ds w hr (Ext.refl ..) hA hE hds)
  | region id ops draw =>
    intro X J k e A σ t ds w _ _ _ hr hE hA hds hk hJ hH
    exact region_sound IH hop hmix hr hE hA hds hk hH
  | seq a b iha ihb =>
    intro X J k e A σ t ds w hc hb hn hr hE hA hds hk hJ hH
    refine G.back st_seq ?_
    have hcb : X.calm = true → noRange b = true := fun h => by have := hc h; simp only [noRange, Bool.and_eq_true] at this; exact this.2
    have hca : X.calm = true → noRange a = true := fun h => by have := hc h; simp only [noRange, Bool.and_eq_true] at this; exact this.1
    have hnb : noRange b = true ∨ X.b.roundOf = none := hn.imp (fun h => by simp only [noRange, Bool.and_eq_true] at h; exact h.2) id
    have hna : noRange a = true ∨ X.b.roundOf = none := hn.imp (fun h => by simp only [noRange, Bool.and_eq_true] at h; exact h.1) id
    let Y : Ctx := { X with k := .code b :: X.k }
    have hkY : KEs G Y (runC ih H (cCode P X.n b) J k) σ A w := fun e' A' σ' t' ds' w' h hx hA' hE' hds' => ihb X J k e' A' σ' t' ds' w' hcb hb hnb h hE' hA' hds' (hk.ext hx) (hJ.ext hx) (hH.ext hx)
    by_cases hreg : ∃ id ops draw, a = .region id ops draw
    · obtain ⟨id, ops, draw, rfl⟩ := hreg
      have hr' : runC ih H (cRegion P X.n ops.toList draw (cCode P X.n b)) J k e A = true := hr
      exact region_sound (X := Y) IH hop hmix hr' hE hA hds hkY hH
    · have hr' : runC ih H (cCode P X.n a) J (runC ih H (cCode P X.n b) J k) e A = true := by
        have : cCode P X.n (.seq a b) = .seq (cCode P X.n a) (cCode P X.n b) := by
          cases a <;> first | rfl | exact absurd ⟨_, _, _, rfl⟩ hreg
        rw [this] at hr
        exact hr
      exact iha Y J _ e A σ t ds w hca hb hna hr' hE hA hds hkY (fun j jc k2 e' A' σ' t' ds' w' h1 h2 h3 => hJ j jc k2 e' A' σ' t' ds' w' h1 h2 (fun i hi => (h3 i hi).trans (exitTo_code i b X.k))) hH
  | cond x a b iha ihb =>
    intro X J k e A σ t ds w hc hb hn hr hE hA hds hk hJ hH
    simp only [cCode] at hr
    split at hr
    · rename_i f hf
      obtain ⟨q, hq, hr⟩ := asBool_t.1 hr
      have hv := cOpd_rel hf (fun _ _ => trivial) hE hA
      rw [hq] at hv
      generalize hx : evT t x = xv at hv
      cases hv
      refine G.back (st_cond hx) ?_
      cases q with
      | true => exact iha X J k e A σ t ds w (fun h => by have := hc h; simp only [noRange, Bool.and_eq_true] at this; exact this.1) hb (hn.imp (fun h => by simp only [noRange, Bool.and_eq_true] at h; exact h.1) id) hr hE hA hds hk hJ hH
      | false => exact ihb X J k e A σ t ds w (fun h => by have := hc h; simp only [noRange, Bool.and_eq_true] at this; exact this.2) hb (hn.imp (fun h => by simp only [noRange, Bool.and_eq_true] at h; exact h.2) id) hr hE hA hds hk hJ hH
    · cases hr
  | block id c ihc =>
    intro X J k e A σ t ds w hc hb hn hr hE hA hds hk hJ hH
    refine G.back st_block ?_
    let Y : Ctx := { X with k := .inBlock id :: X.k }
    refine ihc Y (fun j e A => bif jumpB id j then k e A else J j e A) k e A σ t ds w hc hb hn hr hE hA hds ?_ ?_ hH
    · exact fun e' A' σ' t' ds' w' h hx hA' hE' hds' => G.back st_inBlock (hk e' A' σ' t' ds' w' h hx hA' hE' hds')
    · intro j jc k2 e' A' σ' t' ds' w' h1 h2 h3 hx hA' hE' hds'
      cases hj : jumpB id j with
      | true =>
        simp only [hj, cond_true] at h1
        have := jumpB_t hj
        subst this
        cases h2
        exact G.back (st_exit (k' := X.k) (by rw [h3 id rfl]; simp [Y, exitTo])) (hk e' A' σ' t' ds' w' h1 hx hA' hE' hds')
      | false =>
        simp only [hj, cond_false] at h1
        refine hJ j jc k2 e' A' σ' t' ds' w' h1 h2 (fun i hi => ?_) hx hA' hE' hds'
        subst hi
        rw [h3 i rfl]
        have := jumpB_f hj
        simp [Y, exitTo, Ne.symm this]
  | loop c ihc =>
    intro X J k e A σ t ds w hc hb hn hr hE hA hds hk hJ hH
    exact G.back st_loop (IH _ hr X c σ t ds w rfl hc hb hn hE hA hds hJ hH)
  | scope c ihc =>
    intro X J k e A σ t ds w hc hb hn hr hE hA hds hk hJ hH
    refine G.back st_scope ?_
    let Y : Ctx := { X with k := .inScope c :: X.k }
    exact ihc Y J k e A σ t ds w hc hb hn hr hE hA hds (fun e' A' σ' t' ds' w' h hx hA' hE' hds' => G.back st_inScope (hk e' A' σ' t' ds' w' h hx hA' hE' hds'))
      (fun j jc k2 e' A' σ' t' ds' w' h1 h2 h3 => hJ j jc k2 e' A' σ' t' ds' w' h1 h2 (fun i hi => (h3 i hi).trans rfl)) hH
  | exit id =>
    intro X J k e A σ t ds w hc hb hn hr hE hA hds hk hJ hH
    exact hJ (.exit id) _ X.k e A σ t ds w hr rfl (fun _ _ => rfl) (Ext.refl ..) hA hE hds
  | ret =>
    intro X J k e A σ t ds w hc hb hn hr hE hA hds hk hJ hH
    exact hJ .ret _ X.k e A σ t ds w hr rfl (fun _ _ => rfl) (Ext.refl ..) hA hE hds
  | goto l => intro X J k e A σ t ds w hc hb hn hr; cases hr
  | refuse y => intro X J k e A σ t ds w hc hb hn hr; cases hr
  | rangeFunc f ps a b iha ihb =>
    intro X J k e A σ t ds w hc hb hn hr hE hA hds hk hJ hH
    have hro : X.b.roundOf = none := hn.resolve_left (by simp [noRange])
    have hcalm : X.calm = false := by
      cases h : X.calm with
      | false => rfl
      | true => have := hc h; simp [noRange] at this
    simp only [cCode] at hr
    cases hnr : noRange a && noRange b with
    | false => rw [hnr] at hr; cases hr
    | true =>
      rw [hnr] at hr
      simp only [cond_true] at hr
      split at hr
      · rename_i x l hx hl
        obtain ⟨g, fs, caps, hxe, hr⟩ := asCom_t.1 hr
        obtain ⟨hnext, hr⟩ := newK_t hr
        obtain ⟨hEn, hC⟩ := IH _ hr
        have hv := cOpd_rel hx (fun _ _ => trivial) hE hA
        rw [hxe] at hv
        generalize hfx : evT t f = fv at hv
        cases hv with
        | func g a' c' as cs ha hcv =>
          -- the two new blocks
          obtain ⟨hA1, hX1⟩ := hA.same (w2 := { w with heap := w.heap.push (.deferred (some [])) }) (fun k hk => by simp [Array.getElem?_push, Nat.ne_of_lt hk]) (by simp) rfl rfl
          let lp : Loop := { state := .ready, pending := none, fn := X.b.fn, tmps := t, params := ps, assign := a, body := b, defers := w.heap.size }
          let w1 : World := { w with heap := (w.heap.push (.deferred (some []))).push (.loop lp) }
          let σ1 := σ.upd A.next (w.heap.size + 1) 0 0 0
          have hle : σ.le σ1 := Sub.le_upd hA.next_pend (.inl (hA.tops _ (by omega)))
          have hsz : (w.heap.push (.deferred (some []))).size = w.heap.size + 1 := by simp
          have hob : ORel σ1 w1 (w.heap.size + 1) 0 0 (.loop false ⟨.none, e, X.n, l, a, b⟩) := by
            simp only [Bool.and_eq_true] at hnr
            exact .loop false _ lp ⟨rfl, rfl⟩ (by show ((w.heap.push _).push _)[w.heap.size + 1]? = _; rw [Array.getElem?_push]; simp) rfl rfl (hE.mono hle) hl rfl rfl hnr
          have hpush := hA1.push (sz := 0) (cobj := .loop lp) hnext (o := .loop false ⟨.none, e, X.n, l, a, b⟩) (by simp only [hsz]; exact hob)
          simp only [hsz] at hpush
          obtain ⟨hA2, hX2⟩ := hpush
          have hX12 : Ext σ A w σ1 (A.new (.loop false ⟨.none, e, X.n, l, a, b⟩)) w1 := hX1.trans hX2
          have hσl : σ1 A.next = .at (w.heap.size + 1) 0 0 := Sub.upd_self ..
          have hds1 : DsOk X.calm X.lo σ1 w1 ({ target := .collected w.heap.size, args := #[] } :: ds) := by
            have h1 := hds.ext hX12
            obtain ⟨rs, h2, h3, h4⟩ := h1.marks
            refine ⟨fun h => (by rw [hcalm] at h; cases h), h1.lo_le, w.heap.size :: rs, List.nodup_cons.2 ⟨fun hm => ?_, h2⟩, by rw [h3]; rfl, fun r hr' => ?_⟩
            · obtain ⟨rs', g2, g3, g4⟩ := hds.marks
              have : rs' = rs := by
                have := g3.symm.trans h3
                exact (List.map_inj_right (fun x y h => by simpa using h)).1 this
              subst this
              have := (g4 _ hm).2.1
              simp at this
            · rcases List.mem_cons.1 hr' with rfl | hr'
              · refine ⟨hds.lo_le, ?_, fun z base sz hz => ?_⟩
                · simp [w1, Array.getElem?_push]
                · by_cases hzn : z = A.next
                  · subst hzn; rw [hσl] at hz; injection hz with hz; omega
                  · rw [show σ1 z = σ z from Sub.upd_ne hzn] at hz; exact Nat.lt_irrefl _ (hA.low z _ _ _ hz)
              · exact h4 r hr'
          have hyl : VRel σ1 (.ref 3 A.next 0 0 none) (.func (.yield (w.heap.size + 1)) #[] #[]) := .yld _ _ _ _ _ hσl
          refine G.back (st_rangeFunc (fr' := Frame.enter P g (as ++ #[.func (.yield (w.heap.size + 1)) #[] #[]] ++ cs) .normal) hro ?_) ?_
          · rw [hfx]
            refine .enter g _ ?_
            have := callFunc_run hEn (as ++ #[.func (.yield (w.heap.size + 1)) #[] #[]] ++ cs) w1
            simpa [Deferred.ofValue, invoke] using this
          · have := hC σ1 w1 (as ++ #[.func (.yield (w.heap.size + 1)) #[] #[]] ++ cs) (onF X.b t (.inRangeFunc (w.heap.size + 1) :: X.k) ({ target := .collected w.heap.size, args := #[] } :: ds)) X.cs
              (by rw [Array.toList_append, Array.toList_append]
                  have h1 := (ha.mono hle).append (b := .ref 3 A.next 0 0 none :: caps) (w := [.func (.yield (w.heap.size + 1)) #[] #[]] ++ cs.toList) (.cons hyl (hcv.mono hle))
                  simpa using h1) hA2 ?_ (fun _ _ _ _ _ h => by cases h)
            · rw [AH.new_ph] at this; exact this
            · intro v A' σ' x w' hk' hx' hA' hv'
              show G.ok A'.ph (lone (onF X.b t (.endRangeFunc (w.heap.size + 1) :: X.k) ({ target := .collected w.heap.size, args := #[] } :: ds)) X.cs w')
              obtain ⟨o, ho, hk'⟩ := optK_t.1 hk'
              obtain ⟨L, hoL, hk2⟩ := oLoop_t.1 hk'
              subst hoL
              clear hk'
              have hσl' : σ' A.next = .at (w.heap.size + 1) 0 0 := (hx'.le.each A.next).2 _ hσl
              obtain ⟨cb, base, sz, he1, he2⟩ := hA'.get_at ho (by simp) (by rw [hσl']; simp)
              rw [hσl'] at he1
              cases he1
              cases he2 with
              | loop busy L lp' h0 hc' hs hp he hu ha' hb' hn' =>
                refine G.back (st_endRangeFunc hc' (by rw [hs]; cases L.pend <;> simp [stOf])) ?_
                obtain ⟨hA3, hX3⟩ := hA'.change (hA'.nrom_zero hσl') ⟨rfl, rfl⟩ ho (w2 := { w' with heap := w'.heap.setIfInBounds (w.heap.size + 1) (.loop { lp' with state := .exhausted }) }) (o' := .dead) hσl'
                  (fun k hk => by simp [Array.getElem?_setIfInBounds, Ne.symm hk]) (by simp) (.gone ⟨rfl, rfl⟩ (by simp; exact hA'.low _ _ _ _ hσl'))
                have hX := (hX12.trans hx').trans hX3
                cases hpd : L.pend with
                | none =>
                  rw [hpd] at hk2
                  rw [show (lp'.pending.map Item.code).toList ++ X.k = X.k by rw [hp, hpd]; rfl]
                  have := hk e (A'.put A.next .dead) σ' t _ _ hk2 hX hA3 (hE.mono hX.le) (hds1.ext (hx'.trans hX3))
                  rw [AH.put_ph] at this
                  exact this
                | exit i =>
                  rw [hpd] at hk2
                  rw [show (lp'.pending.map Item.code).toList ++ X.k = .code (.exit i) :: X.k by rw [hp, hpd]; rfl]
                  have := hJ (.exit i) _ X.k e (A'.put A.next .dead) σ' t _ _ hk2 rfl (fun _ _ => rfl) hX hA3 (hE.mono hX.le) (hds1.ext (hx'.trans hX3))
                  rw [AH.put_ph] at this
                  exact this
                | ret =>
                  rw [hpd] at hk2
                  rw [show (lp'.pending.map Item.code).toList ++ X.k = .code .ret :: X.k by rw [hp, hpd]; rfl]
                  have := hJ .ret _ X.k e (A'.put A.next .dead) σ' t _ _ hk2 rfl (fun _ _ => rfl) hX hA3 (hE.mono hX.le) (hds1.ext (hx'.trans hX3))
                  rw [AH.put_ph] at this
                  exact this
      · cases hr
end Go.Ai

namespace Go.Ai
open Go
variable {P : Program} {G : Goal P}

/- the way out of a frame -/
theorem st_end {b : Frame} {t : Array Value} {ds : List Deferred} {cs : List Frame} {w : World} (hb : b.roundOf = none) : step P (lone (onF b t [] ds) cs w) = .next (lone { onF b t [] ds with mode := .returning } cs w) :=
  step_lone_go (by simp [stepG, stepG.exec, onF, hb])
theorem st_ret {b : Frame} {t : Array Value} {k : List Item} {ds : List Deferred} {cs : List Frame} {w : World} (hb : b.roundOf = none) : step P (lone (onF b t (.code .ret :: k) ds) cs w) = .next (lone { onF b t (.code .ret :: k) ds with mode := .returning } cs w) :=
  step_lone_go (by simp [stepG, stepG.exec, onF, hb])
theorem st_collected {b : Frame} {t : Array Value} {k : List Item} {ds : List Deferred} {cs : List Frame} {w : World} {r : Nat} (hr : w.heap[r]? = some (.deferred (some []))) :
    step P (lone { onF b t k ({ target := .collected r, args := #[] } :: ds) with mode := .returning } cs w) = .next (lone { onF b t k ds with mode := .returning } cs { w with heap := w.heap.setIfInBounds r (.deferred none) }) := by
  have h : (Instr.takeDeferred r).run P w = .ok [] { w with heap := w.heap.setIfInBounds r (.deferred none) } := by
    simp [Instr.takeDeferred, getObj, setObj, Bind.bind, Sem.bind, Pure.pure, Sem.run, hr]
  exact step_lone_go (by simp [stepG, onF, unwind, Sem.runT_eq, h])
theorem st_return {b c : Frame} {t : Array Value} {k : List Item} {cs : List Frame} {w : World} {fn : Func} {v : Value} (hk : b.kind = .normal) (hf : P.funcs[b.fn]? = some fn) (hr : (results fn t).run P w = .ok v w) :
    step P (lone { onF b t k [] with mode := .returning } (c :: cs) w) = .next (lone (c.finish v) cs w) :=
  step_lone_go (by simp [stepG, onF, unwind, doReturn, Sem.runT_eq, hf, hr, hk])
theorem st_raise {b c : Frame} {t : Array Value} {k : List Item} {cs : List Frame} {w : World} {fn : Func} {ch : List PanicEntry} (hf : P.funcs[b.fn]? = some fn) :
    step P (lone { onF b t k [] with mode := .panicking ch } (c :: cs) w) = .next (lone (c.raise ch) cs w) :=
  step_lone_go (by simp [stepG, onF, unwind, Frame.catches, hf])

theorem unwind_ok {b : Frame} {t : Array Value} {k : List Item} {cs : List Frame} {σ σs : Sub} {A As : AH} {ws : World} {lo ph : Nat} (hlo : ws.heap.size ≤ lo) :
    ∀ (rs : List Nat) (w : World), rs.Nodup → (∀ r ∈ rs, lo ≤ r ∧ w.heap[r]? = some (.deferred (some [])) ∧ ∀ b base sz, σ b ≠ .at r base sz) → Rel σ A w → Ext σs As ws σ A w →
      (∀ w', Rel σ A w' → Ext σs As ws σ A w' → G.ok ph (lone { onF b t k [] with mode := .returning } cs w')) →
      G.ok ph (lone { onF b t k (rs.map fun r => { target := .collected r, args := #[] }) with mode := .returning } cs w)
  | [], w, _, _, hA, hX, h => h w hA hX
  | r :: rs, w, hn, hm, hA, hX, h => by
    obtain ⟨h1, h2, h3⟩ := hm r (by simp)
    obtain ⟨hnr, hn'⟩ := List.nodup_cons.1 hn
    refine G.back (st_collected h2) ?_
    have hk : ∀ z, z ≠ r → ({ w with heap := w.heap.setIfInBounds r (.deferred none) } : World).heap[z]? = w.heap[z]? := fun z hz => by simp [Array.getElem?_setIfInBounds, Ne.symm hz]
    refine unwind_ok hlo rs _ hn' (fun q hq => ?_) (hA.other h3 hk (by simp)) ?_ h
    · obtain ⟨g1, g2, g3⟩ := hm q (by simp [hq])
      exact ⟨g1, (hk q (fun e => hnr (e ▸ hq))).trans g2, g3⟩
    · exact ⟨hX.le, by simpa using hX.size, fun z hz hno => by
        obtain ⟨k1, k2⟩ := hX.keep z hz hno
        exact ⟨(hk z (by omega)).trans k1, k2⟩, hX.pend, hX.next, hX.same, hX.os, hX.out⟩

/- results -/
def resRun (w : World) (t : Array Value) (r : ResultVar) : Sem Value := match r with
  | .tmp i => pure (t.getD i undef)
  | .cell a ty => do loadVar ty (← asAddr (t.getD a undef))

theorem resOf_run {r : ResultVar} {e : Env} {A : AH} {K : KV} (h : resOf P r e A K = true) :
    ∃ u, K u A = true ∧ ∀ σ n t w, RelE σ n e t → Rel σ A w → ∃ y, (resRun w t r).run P w = .ok y w ∧ VRel σ u y := by
  cases r with
  | tmp i =>
    simp only [resOf] at h
    cases hf : getE i with
    | none => rw [hf] at h; cases h
    | some f => rw [hf] at h; exact ⟨_, h, fun σ n t w hE hA => ⟨_, rfl, hE.slot i f trivial hf⟩⟩
  | cell a ty =>
    simp only [resOf] at h
    have hx : ∃ f, getE a = some f ∧ (match isAgg P ty, size P ty with | some true, some n => ldN n (f e) A K | some false, _ => ld1 (f e) A K | _, _ => false) = true := by
      cases hf : getE a with
      | none =>
        rw [hf] at h
        cases hg : isAgg P ty with
        | none => rw [hg] at h; cases h
        | some q =>
          cases q with
          | true => cases hn : size P ty with
            | none => rw [hg, hn] at h; cases h
            | some n => rw [hg, hn] at h; cases h
          | false => rw [hg] at h; cases h
      | some f =>
        refine ⟨f, rfl, ?_⟩
        rw [hf] at h
        cases hg : isAgg P ty with
        | none => rw [hg] at h; cases h
        | some q =>
          cases q with
          | true => cases hn : size P ty with
            | none => rw [hg, hn] at h; cases h
            | some n => rw [hg, hn] at h; exact h
          | false => rw [hg] at h; exact h
    obtain ⟨f, hf, h⟩ := hx
    obtain ⟨u, hK, hs⟩ := loadVar_run (P := P) h
    refine ⟨u, hK, fun σ n t w hE hA => ?_⟩
    obtain ⟨ad, y, h1, h2, h3⟩ := hs A σ w _ (AH.Sub.refl A) (hE.slot a f trivial hf) hA
    refine ⟨y, ?_, h3⟩
    simp only [resRun, h1, asAddr]
    exact h2

theorem ressOf_run : ∀ (rs : List ResultVar) (e : Env) (A : AH) (f : List AV → Bool), ressOf P e A rs f = true →
    ∃ us, f us = true ∧ us.length = rs.length ∧ ∀ σ n t w, RelE σ n e t → Rel σ A w → ∃ ys, (rs.mapM (resRun w t)).run P w = .ok ys w ∧ VRels σ us ys
  | [], e, A, f, h => ⟨[], h, rfl, fun σ n t w hE hA => ⟨[], rfl, .nil⟩⟩
  | r :: rs, e, A, f, h => by
    obtain ⟨u, hu, hs⟩ := resOf_run (P := P) (K := fun v _ => ressOf P e A rs fun l => f (v :: l)) h
    obtain ⟨us, hus, hl, hss⟩ := ressOf_run rs e A _ hu
    refine ⟨u :: us, hus, by simp [hl], fun σ n t w hE hA => ?_⟩
    obtain ⟨y, hy, hv⟩ := hs σ n t w hE hA
    obtain ⟨ys, hys, hvs⟩ := hss σ n t w hE hA
    exact ⟨y :: ys, by simp [List.mapM_cons, hy, hys], .cons hv hvs⟩

theorem results_eq (fn : Func) (t : Array Value) (w : World) {ys : List Value} (h : (fn.results.toList.mapM (resRun w t)).run P w = .ok ys w) :
    (results fn t).run P w = .ok (if h : ys.length = 1 then ys[0] else .tuple ys.toArray) w := by
  have h1 : results fn t = (do let vs ← fn.results.mapM (resRun w t); pure (if h : vs.size = 1 then vs[0] else .tuple vs)) := by
    unfold results
    congr 1
  rw [h1, Array.mapM_eq_mapM_toList]
  simp [h]

theorem resAll_run {fn : Func} {e : Env} {A : AH} {K : KV} (h : resAll P fn.results.toList e A K = true) :
    ∃ u, K u A = true ∧ ∀ σ n t w, RelE σ n e t → Rel σ A w → ∃ y, (results fn t).run P w = .ok y w ∧ VRel σ u y := by
  by_cases hone : ∃ r, fn.results.toList = [r]
  · obtain ⟨r, hr⟩ := hone
    rw [hr] at h
    obtain ⟨u, hK, hs⟩ := resOf_run (P := P) (r := r) h
    refine ⟨u, hK, fun σ n t w hE hA => ?_⟩
    obtain ⟨y, hy, hv⟩ := hs σ n t w hE hA
    exact ⟨y, by have := results_eq (P := P) fn t w (ys := [y]) (by rw [hr]; simp [hy]); simpa using this, hv⟩
  · have h' : ressOf P e A fn.results.toList (fun l => K (.tuple l) A) = true := by
      generalize hl : fn.results.toList = l at h hone
      cases l with
      | nil => exact h
      | cons r l => cases l with
        | nil => exact absurd ⟨r, rfl⟩ hone
        | cons _ _ => exact h
    obtain ⟨us, hK, hl, hs⟩ := ressOf_run (P := P) _ e A _ h'
    refine ⟨_, hK, fun σ n t w hE hA => ?_⟩
    obtain ⟨ys, hys, hvs⟩ := hs σ n t w hE hA
    have h1 : ys.length ≠ 1 := fun h1 => by
      rw [← hvs.length, hl] at h1
      cases hc : fn.results.toList with
      | nil => rw [hc] at h1; cases h1
      | cons r l =>
        cases l with
        | nil => exact hone ⟨r, hc⟩
        | cons _ _ => rw [hc] at h1; simp at h1
    refine ⟨.tuple ys.toArray, ?_, .tuple 0 us [] _ (by simpa using hvs)⟩
    have := results_eq (P := P) fn t w hys
    simpa [h1] using this

/- the slots at the start -/
theorem initE_get : ∀ (args : List AV) (i t : Nat) (e : Env) (f : Ev), getE t = some f → f (initE i args e) = if i ≤ t ∧ t < i + args.length then args.getD (t - i) (.tuple []) else f e
  | [], i, t, e, f, h => by simp [initE]; intro h1 h2; omega
  | v :: vs, i, t, e, f, h => by
    simp only [initE]
    rw [initE_get vs (i + 1) t _ f h]
    by_cases h1 : i + 1 ≤ t ∧ t < i + 1 + vs.length
    · rw [if_pos h1, if_pos (by simp; omega)]
      rw [show t - i = (t - (i + 1)) + 1 by omega]
      rfl
    · rw [if_neg h1]
      by_cases h2 : t = i
      · subst h2
        rw [if_pos (by simp)]
        have hs : ∃ u, setE t = some u := by
          unfold getE at h
          unfold setE
          split at h
          · rename_i a b ha hb
            rw [nth_get] at ha hb
            have h16 := (List.getElem?_eq_some_iff.1 ha).1
            have h16' := (List.getElem?_eq_some_iff.1 hb).1
            have q1 : ∃ s, nth (G16.sets (G16 AV)) (Nat.div t 16) = some s := ⟨(G16.sets (G16 AV))[Nat.div t 16]'h16, by rw [nth_get]; exact List.getElem?_eq_getElem (l := G16.sets (G16 AV)) h16⟩
            have q2 : ∃ s, nth (G16.sets AV) (Nat.mod t 16) = some s := ⟨(G16.sets AV)[Nat.mod t 16]'h16', by rw [nth_get]; exact List.getElem?_eq_getElem (l := G16.sets AV) h16'⟩
            obtain ⟨s1, q1⟩ := q1
            obtain ⟨s2, q2⟩ := q2
            rw [q1, q2, nth_get, ha]
            exact ⟨_, rfl⟩
          · cases h
        obtain ⟨u, hu⟩ := hs
        rw [hu]
        simp only
        rw [getE_setE h hu]
        simp
      · rw [if_neg (by simp; omega)]
        split
        · rename_i u hu; rw [getE_setE h hu]; simp [h2]
        · rfl

theorem env0_get {t : Nat} {f : Ev} (h : getE t = some f) : f env0 = .tuple [] := by
  unfold getE at h
  split at h
  · rename_i a b ha hb
    cases h
    rw [nth_get] at ha hb
    have h1 : ∀ (α : Type) (v : α) (l : List (G16 α → α)), l = G16.gets α → ∀ g ∈ l, g (G16.all v) = v := by
      intro α v l hl g hg
      subst hl
      simp only [G16.gets, List.mem_cons, List.not_mem_nil, or_false] at hg
      rcases hg with rfl | rfl | rfl | rfl | rfl | rfl | rfl | rfl | rfl | rfl | rfl | rfl | rfl | rfl | rfl | rfl <;> rfl
    show b (a env0) = _
    unfold env0
    rw [h1 _ _ _ rfl a (List.mem_of_getElem? ha), h1 _ _ _ rfl b (List.mem_of_getElem? hb)]
  · cases h

theorem relE_init {σ : Sub} {args : List AV} {vs : Array Value} (h : VRels σ args vs.toList) (n : Nat) : RelE σ n (initE 0 args env0) (vs ++ Array.replicate (n - vs.size) undef) := by
  have hlen : args.length = vs.size := by have := h.length; simpa using this
  refine ⟨by simp; omega, fun t f _ hf => ?_⟩
  rw [initE_get args 0 t env0 f hf, env0_get hf]
  by_cases ht : t < args.length
  · rw [if_pos (by omega)]
    obtain ⟨y, hy, hv⟩ := h.get t (args[t]'ht) (by simp)
    have hts : t < vs.size := by omega
    have e1 : (vs ++ Array.replicate (n - vs.size) undef).getD t undef = y := by
      have : vs[t]? = some y := by simpa using hy
      simp [Array.getD_eq_getD_getElem?, Array.getElem?_append_left hts, this]
    rw [e1]
    have e2 : args.getD (t - 0) (.tuple []) = args[t]'ht := by simp [List.getD, ht]
    rw [e2]; exact hv
  · rw [if_neg (by omega)]
    have e1 : (vs ++ Array.replicate (n - vs.size) undef).getD t undef = undef := by
      rw [Array.getD_eq_getD_getElem?, Array.getElem?_append_right (by omega), Array.getElem?_replicate]
      split <;> rfl
    rw [e1]
    exact .tuple 0 [] [] #[] .nil
end Go.Ai

namespace Go.Ai
open Go
variable {P : Program} {G : Goal P}

theorem cFun_t {g : FuncId} {F : CF} (h : cFun P g = some F) : ∃ fn c, P.funcs[g]? = some fn ∧ fn.body = some c ∧ F = ⟨noRange c, cCode P fn.ntmps c, resAll P fn.results.toList⟩ := by
  unfold cFun at h
  split at h
  · rename_i fn hfn
    rw [nth_get] at hfn
    split at h
    · rename_i c hc
      cases h
      exact ⟨fn, c, by simpa using hfn, hc, rfl⟩
    · cases h
  · cases h

theorem call_sound {ih : Tk → Bool} (IH : ∀ t, ih t = true → TaskS G t) (hop : ∀ n o run, cOp P o = some run → Sound P n o run) (hmix : MixS G ih) (hN : ∀ (g : Nat) (fn : Func), P.funcs[g]? = some fn → fn.body.isNone = false → (fn.name == "runtime.NumGoroutine") = false)
    {g : FuncId} {F : CF} (hF : cFun P g = some F) {args : List AV} {A : AH} {K H : KV} (hk : callBody ih F args A K H = true) : CallS G g args A K H := by
  obtain ⟨fn, c, hfn, hbody, rfl⟩ := cFun_t hF
  refine ⟨⟨fn, hfn, by rw [hbody]; rfl, hN g fn hfn (by rw [hbody]; rfl)⟩, fun σ w vs cl cs hvs hA hK hP => ?_⟩
  let b : Frame := { (default : Frame) with fn := g, kind := .normal }
  have henter : Frame.enter P g vs .normal = onF b (vs ++ Array.replicate (fn.ntmps - vs.size) undef) [.code c] [] := by
    simp [Frame.enter, onF, hfn, hbody, b]
    rfl
  rw [henter]
  have hro : b.roundOf = none := rfl
  have hkd : b.kind = .normal := rfl
  let X : Ctx := { b := b, k := [], cs := cl :: cs, calm := noRange c, lo := w.heap.size, n := fn.ntmps }
  -- the way out
  have out : ∀ e A' σ' t ds w' k2, resAll P fn.results.toList e A' K = true → Ext σ A w σ' A' w' → Rel σ' A' w' → RelE σ' X.n e t → DsOk X.calm X.lo σ' w' ds → G.ok A'.ph (lone { onF b t k2 ds with mode := .returning } (cl :: cs) w') := by
    intro e A' σ' t ds w' k2 hr hx hA' hE hds
    obtain ⟨u, hKu, hs⟩ := resAll_run (P := P) hr
    obtain ⟨rs, h1, rfl, h3⟩ := hds.marks
    refine unwind_ok (Nat.le_refl w.heap.size) rs w' h1 h3 hA' hx fun w2 hA2 hx2 => ?_
    obtain ⟨y, hy, hv⟩ := hs σ' fn.ntmps t w2 hE hA2
    exact G.back (st_return hkd hfn hy) (hK u A' σ' y w2 hKu hx2 hA2 hv)
  refine code_sound IH hop hmix (bif noRange c then H else fun _ _ => false) c X (fun j e A => jRet ⟨noRange c, cCode P fn.ntmps c, resAll P fn.results.toList⟩ K j e A) (fun e A => resAll P fn.results.toList e A K) (initE 0 args env0) A σ _ [] w
    (fun h => h) hkd (.inr hro) hk (relE_init hvs fn.ntmps) hA (.nil _ _ _ _ (Nat.le_refl _)) ?_ ?_ ?_
  · intro e A' σ' t ds w' hr hx hA' hE hds
    exact G.back (st_end hro) (out e A' σ' t ds w' [] hr hx hA' hE hds)
  · intro j jc k2 e A' σ' t ds w' hr hj _ hx hA' hE hds
    cases j with
    | none => cases hj
    | exit i => cases hr
    | ret => cases hj; exact G.back (st_ret hro) (out e A' σ' t ds w' _ hr hx hA' hE hds)
  · intro v A' σ' x t k2 ds w' hh hx hA' hv hi hds
    cases hc : noRange c with
    | false => rw [hc] at hh; cases hh
    | true =>
      rw [hc] at hh
      have := hds.calm hc
      subst this
      exact G.back (st_raise hfn) (hP v A' σ' x w' hh hx hA' hv hi)

theorem loop_sound {ih : Tk → Bool} (IH : ∀ t, ih t = true → TaskS G t) (hop : ∀ n o run, cOp P o = some run → Sound P n o run) (hmix : MixS G ih) {c : CC} {H : KV} {J : KJ} {e : Env} {A : AH}
    (hk : runC ih H c J (fun e A => ih (.loop c H J e A)) e A = true) : LoopS G c H J e A := by
  intro X c0 σ t ds w hc hcalm hb hn hE hA hds hJ hH
  subst hc
  let Y : Ctx := { X with k := .inLoop c0 :: X.k }
  refine code_sound IH hop hmix H c0 Y J _ e A σ t ds w hcalm hb hn hk hE hA hds ?_ (fun j jc k2 e' A' σ' t' ds' w' h1 h2 h3 => hJ j jc k2 e' A' σ' t' ds' w' h1 h2 (fun i hi => (h3 i hi).trans rfl)) hH
  intro e' A' σ' t' ds' w' hr hx hA' hE' hds'
  exact G.back st_inLoop (IH _ hr X c0 σ' t' ds' w' rfl hcalm hb hn hE' hA' hds' (hJ.ext hx) (hH.ext hx))

/- a round of a loop over a function -/
theorem st_beginRound {b : Frame} {t : Array Value} {k : List Item} {cs : List Frame} {w : World} {r : Nat} {lp : Loop} (hb : b.roundOf = some r) (hl : w.heap[r]? = some (.loop lp)) (hs : lp.state = .ready) :
    step P (lone (onF b t (.beginRound :: k) []) cs w) = .next (lone (onF b t k []) cs { w with heap := w.heap.setIfInBounds r (.loop { lp with state := .busy }) }) := by
  have h : (Instr.beginRound r).run P w = .ok () { w with heap := w.heap.setIfInBounds r (.loop { lp with state := .busy }) } := by
    simp [Instr.beginRound, Instr.getLoop, getObj, setObj, Bind.bind, Sem.bind, Pure.pure, Sem.run, hl, hs]
  have h2 : (do (some r : Option Nat).elim (stuck "beginRound: no round") Instr.beginRound; Pure.pure Next.skip : Sem Next).run P w = .ok .skip { w with heap := w.heap.setIfInBounds r (.loop { lp with state := .busy }) } := by
    simp [h]
  exact step_lone_go (by simp [stepG, stepG.exec, onF, hb, stepG.apply, h, Frame.finish])

theorem endRound_run {w : World} {r : Nat} {lp : Loop} (hl : w.heap[r]? = some (.loop lp)) (j : Option Code) :
    (Instr.endRound r j).run P w = .ok (.bool j.isNone) { w with heap := w.heap.setIfInBounds r (.loop { lp with state := if j.isNone then .ready else .done, pending := j }) } := by
  simp [Instr.endRound, Instr.getLoop, getObj, setObj, Bind.bind, Sem.bind, Pure.pure, Sem.run, hl]

theorem st_round_end {b c : Frame} {t : Array Value} {cs : List Frame} {w : World} {r : Nat} {lp : Loop} (hb : b.roundOf = some r) (hk : b.kind = .normal) (hl : w.heap[r]? = some (.loop lp)) :
    step P (lone (onF b t [] []) (c :: cs) w) = .next (lone (c.finish (.bool true)) cs { w with heap := w.heap.setIfInBounds r (.loop { lp with state := .ready, pending := none }) }) := by
  exact step_lone_go (by simp [stepG, stepG.exec, onF, hb, Sem.runT_eq, endRound_run hl, doReturn, hk])
theorem st_round_ret {b c : Frame} {t : Array Value} {k : List Item} {cs : List Frame} {w : World} {r : Nat} {lp : Loop} (hb : b.roundOf = some r) (hk : b.kind = .normal) (hl : w.heap[r]? = some (.loop lp)) :
    step P (lone (onF b t (.code .ret :: k) []) (c :: cs) w) = .next (lone (c.finish (.bool false)) cs { w with heap := w.heap.setIfInBounds r (.loop { lp with state := .done, pending := some .ret }) }) := by
  exact step_lone_go (by simp [stepG, stepG.exec, onF, hb, Sem.runT_eq, endRound_run hl, doReturn, hk])
theorem st_round_exit {b c : Frame} {t : Array Value} {k : List Item} {cs : List Frame} {w : World} {r id : Nat} {lp : Loop} (hb : b.roundOf = some r) (hk : b.kind = .normal) (hl : w.heap[r]? = some (.loop lp)) (he : exitTo id k = none) :
    step P (lone (onF b t (.code (.exit id) :: k) []) (c :: cs) w) = .next (lone (c.finish (.bool false)) cs { w with heap := w.heap.setIfInBounds r (.loop { lp with state := .done, pending := some (.exit id) }) }) := by
  exact step_lone_go (by simp [stepG, stepG.exec, onF, hb, he, Sem.runT_eq, endRound_run hl, doReturn, hk])

theorem params_rel {σ : Sub} {n : Nat} : ∀ (ps : List Tmp) (us : List Up) (args : List AV) (vs : List Value) (e : Env) (t : Array Value) (f : Env → Bool), ups n ps = some us → VRels σ args vs → RelE σ n e t → params us args e f = true →
    ∃ e', f e' = true ∧ RelE σ n e' ((ps.zip vs).foldl (fun tmps x => tmps.setIfInBounds x.1 x.2) t) ∧ vs.length = ps.length
  | [], us, args, vs, e, t, f, hu, hv, hE, h => by
    cases hu
    cases args with
    | nil => cases hv; exact ⟨e, h, hE, rfl⟩
    | cons _ _ => cases h
  | p :: ps, us, args, vs, e, t, f, hu, hv, hE, h => by
    simp only [ups] at hu
    split at hu
    · rename_i u l h1 h2
      cases hb : Nat.blt p n with
      | false => rw [hb] at hu; cases hu
      | true =>
        rw [hb] at hu; cases hu
        cases args with
        | nil => cases h
        | cons a args =>
          cases hv with
          | cons hx hxs =>
            obtain ⟨e', g1, g2, g3⟩ := params_rel ps l args _ _ (t.setIfInBounds p _) f h2 hxs (hE.set h1 (by simpa using hb) (fun _ _ => .inr trivial) hx) h
            exact ⟨e', g1, g2, by simp [g3]⟩
    · cases hu

theorem yld_sound {ih : Tk → Bool} (IH : ∀ t, ih t = true → TaskS G t) (hop : ∀ n o run, cOp P o = some run → Sound P n o run) (hmix : MixS G ih) {l : Pa} {args : List AV} {A : AH} {K H : KV}
    (hk : yldT P (runC ih (fun _ _ => false)) l args A K = true) : YldS G l args A K H := by
  intro σ w vs r hl hvs hA
  obtain ⟨o, ho, hk⟩ := optK_t.1 hk
  obtain ⟨L, hoL, hk⟩ := oLoop_t.1 hk
  subst hoL
  obtain ⟨cb, base, sz, he1, he2⟩ := hA.get_at ho (by simp) (by rw [hl]; simp)
  rw [hl] at he1
  cases he1
  cases he2 with
  | loop busy L lp h0 hc hs hp he hu ha hb hn =>
    obtain ⟨e', hk, hE', hlen⟩ := params_rel _ _ _ _ _ _ _ hu hvs he hk
    refine ⟨lp, hc, by simpa using hlen, fun cl cs hK hP => ?_⟩
    let b : Frame := { (default : Frame) with fn := lp.fn, kind := .normal, roundOf := some r }
    have htm : (lp.params.zip vs).foldl (fun tmps (x : Nat × Value) => tmps.setIfInBounds x.1 x.2) lp.tmps = (lp.params.toList.zip vs.toList).foldl (fun tmps x => tmps.setIfInBounds x.1 x.2) lp.tmps := by
      rw [← Array.foldl_toList, Array.toList_zip]
    have hfr : Frame.round r lp.fn ((lp.params.zip vs).foldl (fun tmps (x : Nat × Value) => tmps.setIfInBounds x.1 x.2) lp.tmps) lp.assign lp.body .normal = onF b ((lp.params.toList.zip vs.toList).foldl (fun tmps x => tmps.setIfInBounds x.1 x.2) lp.tmps) [.code L.assign, .beginRound, .code L.body] [] := by
      rw [htm, ha, hb]; rfl
    show G.ok A.ph (lone (Frame.round r lp.fn ((lp.params.zip vs).foldl (fun tmps (x : Nat × Value) => tmps.setIfInBounds x.1 x.2) lp.tmps) lp.assign lp.body .normal) (cl :: cs) w)
    rw [hfr]
    let X1 : Ctx := { b := b, k := [.beginRound, .code L.body], cs := cl :: cs, calm := true, lo := w.heap.size, n := L.n }
    let X2 : Ctx := { b := b, k := [], cs := cl :: cs, calm := true, lo := w.heap.size, n := L.n }
    refine code_sound IH hop hmix (fun _ _ => false) L.assign X1 noJ _ e' A σ _ [] w (fun _ => hn.1) rfl (.inl hn.1) hk hE' hA (.nil _ _ _ _ (Nat.le_refl _)) ?_ (fun _ _ _ _ _ _ _ _ _ h => by cases h) (fun _ _ _ _ _ _ _ _ h => by cases h)
    intro e1 A1 σ1 t1 ds1 w1 hk1 hx1 hA1 hE1 hds1
    have hd1 := hds1.calm rfl
    subst hd1
    obtain ⟨o1, ho1, hk1⟩ := optK_t.1 hk1
    obtain ⟨L1, hoL1, hk1⟩ := oLoop_t.1 hk1
    subst hoL1
    obtain ⟨hjn, hk1⟩ := and_t.1 hk1
    have hl1 : σ1 l = .at r 0 0 := (hx1.le.each l).2 _ hl
    obtain ⟨cb, base, sz, hf1, hf2⟩ := hA1.get_at ho1 (by simp) (by rw [hl1]; simp)
    rw [hl1] at hf1
    cases hf1
    cases hf2 with
    | loop busy L1 lp1 h01 hc1 hs1 hp1 he1 hu1 ha1 hb1 hn1 =>
      have hpd : L1.pend = .none := by cases h : L1.pend <;> first | rfl | (rw [h] at hjn; cases hjn)
      refine G.back (st_beginRound (b := b) rfl hc1 (by rw [hs1, hpd]; rfl)) ?_
      obtain ⟨hA2, hx2⟩ := hA1.change (hA1.nrom_zero hl1) ⟨rfl, rfl⟩ ho1 (w2 := { w1 with heap := w1.heap.setIfInBounds r (.loop { lp1 with state := .busy }) }) (o' := .loop true L1) hl1
        (fun k hk => by simp [Array.getElem?_setIfInBounds, Ne.symm hk]) (by simp)
        (.loop true L1 { lp1 with state := .busy } ⟨rfl, rfl⟩ (by have := hA1.low _ _ _ _ hl1; simp [Array.getElem?_setIfInBounds, this]) rfl hp1 he1 hu1 ha1 hb1 hn1)
      have hx02 := hx1.trans hx2
      have hph : (A1.put l (.loop true L1)).ph = A1.ph := by simp
      rw [← hph]
      -- the end of the round
      have fin : ∀ (j : Jmp) (bo : Bool) A3 σ3 w3, bo = (jCode j).isNone → yldE l j bo A3 K = true → Ext σ A w σ3 A3 w3 → Rel σ3 A3 w3 → ∃ lp3, w3.heap[r]? = some (.loop lp3) ∧
          G.ok A3.ph (lone (cl.finish (.bool bo)) cs { w3 with heap := w3.heap.setIfInBounds r (.loop { lp3 with state := if bo then .ready else .done, pending := jCode j }) }) := by
        intro j bo A3 σ3 w3 hbo hy hx3 hA3
        obtain ⟨o3, ho3, hy⟩ := optK_t.1 hy
        obtain ⟨L3, hoL3, hy⟩ := oLoop_t.1 hy
        subst hoL3
        have hl3 : σ3 l = .at r 0 0 := (hx3.le.each l).2 _ hl
        obtain ⟨cb, base, sz, hg1, hg2⟩ := hA3.get_at ho3 (by simp) (by rw [hl3]; simp)
        rw [hl3] at hg1
        cases hg1
        cases hg2 with
        | loop busy L3 lp3 h03 hc3 hs3 hp3 he3 hu3 ha3 hb3 hn3 =>
          refine ⟨lp3, hc3, ?_⟩
          obtain ⟨hA4, hx4⟩ := hA3.change (hA3.nrom_zero hl3) ⟨rfl, rfl⟩ ho3 (w2 := { w3 with heap := w3.heap.setIfInBounds r (.loop { lp3 with state := if bo then .ready else .done, pending := jCode j }) }) (o' := .loop false ⟨j, L3.env, L3.n, L3.params, L3.assign, L3.body⟩) hl3
            (fun k hk => by simp [Array.getElem?_setIfInBounds, Ne.symm hk]) (by simp)
            (.loop false _ { lp3 with state := if bo then .ready else .done, pending := jCode j } ⟨rfl, rfl⟩ (by have := hA3.low _ _ _ _ hl3; simp [Array.getElem?_setIfInBounds, this]) (by subst hbo; cases j <;> rfl) rfl he3 hu3 ha3 hb3 hn3)
          have := hK (.bool bo) _ σ3 (.bool bo) _ hy (hx3.trans hx4) hA4 (.bool bo)
          rw [AH.put_ph] at this
          exact this
      refine code_sound IH hop hmix (fun _ _ => false) L.body X2 _ _ e1 _ σ1 t1 [] _ (fun _ => hn.2) rfl (.inl hn.2) hk1 hE1 hA2 (hds1.ext hx2) ?_ ?_ (fun _ _ _ _ _ _ _ _ h => by cases h)
      · intro e3 A3 σ3 t3 ds3 w3 hk3 hx3 hA3 hE3 hds3
        have hd3 := hds3.calm rfl
        subst hd3
        obtain ⟨lp3, hc3, hok⟩ := fin .none true A3 σ3 w3 rfl hk3 (hx02.trans hx3) hA3
        exact G.back (st_round_end (b := b) rfl rfl hc3) hok
      · intro j jc k2 e3 A3 σ3 t3 ds3 w3 hk3 hj hex hx3 hA3 hE3 hds3
        have hd3 := hds3.calm rfl
        subst hd3
        have hbo : (false : Bool) = (jCode j).isNone := by rw [hj]; rfl
        obtain ⟨lp3, hc3, hok⟩ := fin j false A3 σ3 w3 hbo hk3 (hx02.trans hx3) hA3
        cases j with
        | none => cases hj
        | ret => cases hj; exact G.back (st_round_ret (b := b) rfl rfl hc3) hok
        | exit i => cases hj; exact G.back (st_round_exit (b := b) rfl rfl hc3 ((hex i rfl).trans rfl)) hok
end Go.Ai
