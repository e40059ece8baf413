/- A part of the proof that the abstract interpreter is sound, and of the two goroutines of the lexer. -/
import GoSem.Step
import GoSem.Dispatch
import GoSem.Claims

set_option linter.unusedSimpArgs false
set_option linter.unusedVariables false
set_option linter.unusedSectionVars false

namespace Go.Lift

/-- Nothing is asked of the outside world but the environment's strings; the marks are of two kinds; what is yielded meets Q. -/
def To {α : Type} (P : Program) (Q : α → Prop) : Sem α → Prop
  | .pure a => Q a
  | .load _ _ k => ∀ v, To P Q (k v)
  | .store _ _ _ k => To P Q k
  | .new _ k => ∀ r, To P Q (k r)
  | .shape _ k => ∀ s, To P Q (k s)
  | .freeze _ _ k => To P Q k
  | .frozen _ k => ∀ b, To P Q (k b)
  | .getObj _ k => ∀ o, To P Q (k o)
  | .setObj _ _ k => To P Q k
  | .choose _ k => ∀ n, To P Q (k n)
  | .sys c k => c = .env ∧ ∀ r, To P Q (k r)
  | .program k => To P Q (k P)
  | .mark m k => (m = .noRoom ∨ ∃ f, m = .extern f) ∧ To P Q k
  | .halt _ => True

def Any {α : Type} : α → Prop := fun _ => True

variable {P : Program}

theorem To.bind {α β : Type} {Q' : α → Prop} {Q : β → Prop} {s : Sem α} {f : α → Sem β} (h : To P Q' s) (hf : ∀ a, Q' a → To P Q (f a)) : To P Q (s >>= f) := by
  show To P Q (Sem.bind s f)
  induction s with
  | pure a => exact hf a h
  | load m a k ih => exact fun v => ih v (h v)
  | store m a v k ih => exact ih h
  | new o k ih => exact fun v => ih v (h v)
  | shape r k ih => exact fun v => ih v (h v)
  | freeze a n k ih => exact ih h
  | frozen a k ih => exact fun v => ih v (h v)
  | getObj r k ih => exact fun v => ih v (h v)
  | setObj r o k ih => exact ih h
  | choose q k ih => exact fun v => ih v (h v)
  | sys c k ih => exact ⟨h.1, fun r => ih r (h.2 r)⟩
  | program k ih => exact ih P h
  | mark m k ih => exact ⟨h.1, ih h.2⟩
  | halt h => trivial

theorem To.seq {α β : Type} {Q : β → Prop} {s : Sem α} {f : α → Sem β} (h : To P Any s) (hf : ∀ a, To P Q (f a)) : To P Q (s >>= f) := To.bind h fun a _ => hf a
theorem To.pure {α : Type} {Q : α → Prop} {a : α} (h : Q a) : To P Q (Pure.pure a) := h
theorem To.any {α : Type} {a : α} : To P Any (Pure.pure a : Sem α) := trivial
theorem To.mono {α : Type} {Q Q' : α → Prop} {s : Sem α} (h : To P Q s) (hq : ∀ a, Q a → Q' a) : To P Q' s := by
  induction s with
  | pure a => exact hq _ h
  | load m a k ih => exact fun v => ih v (h v)
  | store m a v k ih => exact ih h
  | new o k ih => exact fun v => ih v (h v)
  | shape r k ih => exact fun v => ih v (h v)
  | freeze a n k ih => exact ih h
  | frozen a k ih => exact fun v => ih v (h v)
  | getObj r k ih => exact fun v => ih v (h v)
  | setObj r o k ih => exact ih h
  | choose q k ih => exact fun v => ih v (h v)
  | sys c k ih => exact ⟨h.1, fun r => ih r (h.2 r)⟩
  | program k ih => exact ih P h
  | mark m k ih => exact ⟨h.1, ih h.2⟩
  | halt h => trivial

theorem to_halt {α : Type} {Q : α → Prop} (h : Halt) : To P Q (.halt h : Sem α) := trivial
@[simp] theorem to_stuck {α : Type} {Q : α → Prop} (x : String) : To P Q (stuck x : Sem α) := trivial
@[simp] theorem to_unsupported {α : Type} {Q : α → Prop} (x : Unsupported) : To P Q (unsupported x : Sem α) := trivial
@[simp] theorem to_load (a : Addr) (m : Mode) : To P Any (load a m) := fun _ => trivial
@[simp] theorem to_store (a : Addr) (v : Value) (m : Mode) : To P Any (store a v m) := trivial
@[simp] theorem to_newObj (o : Obj) : To P Any (newObj o) := fun _ => trivial
@[simp] theorem to_shape (r : Nat) : To P Any (shape r) := fun _ => trivial
@[simp] theorem to_freeze (a : Addr) (n : Nat) : To P Any (freeze a n) := trivial
@[simp] theorem to_frozen (a : Addr) : To P Any (frozen a) := fun _ => trivial
@[simp] theorem to_getObj (r : Nat) : To P Any (getObj r) := fun _ => trivial
@[simp] theorem to_setObj (r : Nat) (o : Obj) : To P Any (setObj r o) := trivial
@[simp] theorem to_choose (q : Question) : To P Any (choose q) := fun _ => trivial
theorem to_program : To P (· = P) program := rfl
@[simp] theorem to_program_any : To P Any program := trivial
@[simp] theorem to_askRoom (b : Nat) : To P Any (askRoom b) := by
  unfold askRoom; split
  · exact ⟨.inl rfl, trivial⟩
  · exact trivial
@[simp] theorem To.map {α β : Type} {f : α → β} {s : Sem α} (h : To P Any s) : To P Any (Functor.map f s) := by
  show To P Any (s >>= fun a => Pure.pure (f a))
  exact To.seq h fun _ => trivial
theorem To.forInL {α β : Type} {l : List α} {f : α → β → Sem (ForInStep β)} (h : ∀ a b, To P Any (f a b)) : ∀ b, To P Any (forIn l b f) := by
  induction l with
  | nil => exact fun b => trivial
  | cons a l ih =>
    intro b
    rw [List.forIn_cons]
    refine To.seq (h a b) fun x => ?_
    cases x with
    | done b => trivial
    | yield b => exact ih b
theorem To.forInA {α β : Type} {l : Array α} {f : α → β → Sem (ForInStep β)} (h : ∀ a b, To P Any (f a b)) (b : β) : To P Any (forIn l b f) := by
  rw [← Array.forIn_toList]
  exact To.forInL h b
theorem To.forInR {β : Type} {n : Nat} {f : Nat → β → Sem (ForInStep β)} (h : ∀ a b, To P Any (f a b)) (b : β) : To P Any (forIn [:n] b f) := by
  rw [Std.Legacy.Range.forIn_eq_forIn_range']
  exact To.forInL h b
theorem To.foldl {α β : Type} {f : β → α → Sem β} (h : ∀ a b, To P Any (f b a)) (l : List α) : ∀ b, To P Any (List.foldlM f b l) := by
  induction l with
  | nil => exact fun b => trivial
  | cons a l ih =>
    intro b
    rw [List.foldlM_cons]
    exact To.seq (h a b) fun _ => ih _
theorem sem_bind_pure {α : Type} (s : Sem α) : Sem.bind s Sem.pure = s := by
  induction s <;> simp only [Sem.bind] <;> congr 1 <;> first | assumption | (funext x; rename_i ih; exact ih x)
theorem sem_bind_assoc {α β γ : Type} (s : Sem α) (f : α → Sem β) (g : β → Sem γ) : Sem.bind (Sem.bind s f) g = Sem.bind s (fun a => Sem.bind (f a) g) := by
  induction s <;> simp only [Sem.bind] <;> congr 1 <;> first | assumption | (funext x; rename_i ih; exact ih x)
theorem semLawful : LawfulMonad Sem := LawfulMonad.mk' (m := Sem) (id_map := fun x => sem_bind_pure x) (pure_bind := fun _ _ => rfl) (bind_assoc := fun x f g => sem_bind_assoc x f g)

theorem To.mapL {α β : Type} {f : α → Sem β} (h : ∀ a, To P Any (f a)) (l : List α) : To P Any (l.mapM f) := by
  induction l with
  | nil => exact trivial
  | cons a l ih =>
    have := semLawful
    rw [List.mapM_cons]
    exact To.seq (h a) fun _ => To.seq ih fun _ => trivial
theorem To.mapA {α β : Type} {f : α → Sem β} (h : ∀ a, To P Any (f a)) (l : Array α) : To P Any (l.mapM f) := by
  have := semLawful
  rw [Array.mapM_eq_mapM_toList]
  exact To.map (To.mapL h _)
theorem To.ite' {α : Type} {c : Prop} {d : Decidable c} {Q : α → Prop} {a b : Sem α} (ha : To P Q a) (hb : To P Q b) : To P Q (@ite _ c d a b) := by
  split <;> assumption
@[simp] theorem to_typeInfo (t : TypeId) : To P Any (typeInfo t : Sem TypeInfo) := by
  unfold typeInfo
  repeat' (first | exact trivial | assumption | (simp; done) | with_reducible refine To.seq ?_ (fun _ => ?_) | with_reducible refine To.forInL (fun _ _ => ?_) _ | with_reducible refine To.forInA (fun _ _ => ?_) _ | with_reducible refine To.forInR (fun _ _ => ?_) _ | with_reducible refine To.foldl (fun _ _ => ?_) _ _ | with_reducible refine To.mapA (fun _ => ?_) _ | split | with_reducible intro _ | dsimp only | (refine To.seq ?_ (fun _ => ?_)))
@[simp] theorem to_sizeOf (t : TypeId) : To P Any (sizeOf t : Sem Nat) := by
  unfold sizeOf
  repeat' (first | exact trivial | assumption | (simp; done) | with_reducible refine To.seq ?_ (fun _ => ?_) | with_reducible refine To.forInL (fun _ _ => ?_) _ | with_reducible refine To.forInA (fun _ _ => ?_) _ | with_reducible refine To.forInR (fun _ _ => ?_) _ | with_reducible refine To.foldl (fun _ _ => ?_) _ _ | with_reducible refine To.mapA (fun _ => ?_) _ | split | with_reducible intro _ | dsimp only | (refine To.seq ?_ (fun _ => ?_)))
@[simp] theorem to_underlying (t : TypeId) : To P Any (underlying t : Sem TypeDesc) := by
  unfold underlying
  repeat' (first | exact trivial | assumption | (simp; done) | with_reducible refine To.seq ?_ (fun _ => ?_) | with_reducible refine To.forInL (fun _ _ => ?_) _ | with_reducible refine To.forInA (fun _ _ => ?_) _ | with_reducible refine To.forInR (fun _ _ => ?_) _ | with_reducible refine To.foldl (fun _ _ => ?_) _ _ | with_reducible refine To.mapA (fun _ => ?_) _ | split | with_reducible intro _ | dsimp only | (refine To.seq ?_ (fun _ => ?_)))
@[simp] theorem to_isAgg (t : TypeId) : To P Any (isAgg t : Sem Bool) := by
  unfold isAgg
  repeat' (first | exact trivial | assumption | (simp; done) | with_reducible refine To.seq ?_ (fun _ => ?_) | with_reducible refine To.forInL (fun _ _ => ?_) _ | with_reducible refine To.forInA (fun _ _ => ?_) _ | with_reducible refine To.forInR (fun _ _ => ?_) _ | with_reducible refine To.foldl (fun _ _ => ?_) _ _ | with_reducible refine To.mapA (fun _ => ?_) _ | split | with_reducible intro _ | dsimp only | (refine To.seq ?_ (fun _ => ?_)))
@[simp] theorem to_loadCellsFrom (a : Addr) (n : Nat) : ∀ (i : Nat) (acc : Array Value), To P Any (loadCellsFrom a i n acc) := by
  induction n with
  | zero => exact fun i acc => trivial
  | succ n ih => exact fun i acc => To.seq (to_load _ _) fun v => ih _ _
@[simp] theorem to_loadCells (a : Addr) (n : Nat) : To P Any (loadCells a n : Sem (Array Value)) := by
  unfold loadCells
  repeat' (first | exact trivial | assumption | (simp; done) | with_reducible refine To.seq ?_ (fun _ => ?_) | with_reducible refine To.forInL (fun _ _ => ?_) _ | with_reducible refine To.forInA (fun _ _ => ?_) _ | with_reducible refine To.forInR (fun _ _ => ?_) _ | with_reducible refine To.foldl (fun _ _ => ?_) _ _ | with_reducible refine To.mapA (fun _ => ?_) _ | split | with_reducible intro _ | dsimp only | (refine To.seq ?_ (fun _ => ?_)))
@[simp] theorem to_loadVar (t : TypeId) (a : Addr) : To P Any (loadVar t a : Sem Value) := by
  unfold loadVar
  repeat' (first | exact trivial | assumption | (simp; done) | with_reducible refine To.seq ?_ (fun _ => ?_) | with_reducible refine To.forInL (fun _ _ => ?_) _ | with_reducible refine To.forInA (fun _ _ => ?_) _ | with_reducible refine To.forInR (fun _ _ => ?_) _ | with_reducible refine To.foldl (fun _ _ => ?_) _ _ | with_reducible refine To.mapA (fun _ => ?_) _ | split | with_reducible intro _ | dsimp only | (refine To.seq ?_ (fun _ => ?_)))
@[simp] theorem to_Op_floatArith (op : BinOp) (k : FloatKind) (x y : Nat) : To P Any (Op.floatArith op k x y : Sem Value) := by
  unfold Op.floatArith
  repeat' (first | exact trivial | assumption | (simp; done) | with_reducible refine To.seq ?_ (fun _ => ?_) | with_reducible refine To.forInL (fun _ _ => ?_) _ | with_reducible refine To.forInA (fun _ _ => ?_) _ | with_reducible refine To.forInR (fun _ _ => ?_) _ | with_reducible refine To.foldl (fun _ _ => ?_) _ _ | with_reducible refine To.mapA (fun _ => ?_) _ | split | with_reducible intro _ | dsimp only | (refine To.seq ?_ (fun _ => ?_)))
@[simp] theorem to_Op_floatCmp (op : BinOp) (k : FloatKind) (x y : Nat) : To P Any (Op.floatCmp op k x y : Sem Value) := by
  unfold Op.floatCmp
  repeat' (first | exact trivial | assumption | (simp; done) | with_reducible refine To.seq ?_ (fun _ => ?_) | with_reducible refine To.forInL (fun _ _ => ?_) _ | with_reducible refine To.forInA (fun _ _ => ?_) _ | with_reducible refine To.forInR (fun _ _ => ?_) _ | with_reducible refine To.foldl (fun _ _ => ?_) _ _ | with_reducible refine To.mapA (fun _ => ?_) _ | split | with_reducible intro _ | dsimp only | (refine To.seq ?_ (fun _ => ?_)))
@[simp] theorem to_asBool (a0 : Value) : To P Any (asBool a0 : Sem Bool) := by
  unfold asBool
  repeat' (first | exact trivial | assumption | (simp; done) | with_reducible refine To.seq ?_ (fun _ => ?_) | with_reducible refine To.forInL (fun _ _ => ?_) _ | with_reducible refine To.forInA (fun _ _ => ?_) _ | with_reducible refine To.forInR (fun _ _ => ?_) _ | with_reducible refine To.foldl (fun _ _ => ?_) _ _ | with_reducible refine To.mapA (fun _ => ?_) _ | split | with_reducible intro _ | dsimp only | (refine To.seq ?_ (fun _ => ?_)))
@[simp] theorem to_Op_Complex_cmp (op : BinOp) (k : FloatKind) (x y : Nat) : To P Any (Op.Complex.cmp op k x y : Sem Bool) := by
  unfold Op.Complex.cmp
  repeat' (first | exact trivial | assumption | (simp; done) | with_reducible refine To.seq ?_ (fun _ => ?_) | with_reducible refine To.forInL (fun _ _ => ?_) _ | with_reducible refine To.forInA (fun _ _ => ?_) _ | with_reducible refine To.forInR (fun _ _ => ?_) _ | with_reducible refine To.foldl (fun _ _ => ?_) _ _ | with_reducible refine To.mapA (fun _ => ?_) _ | split | with_reducible intro _ | dsimp only | (refine To.seq ?_ (fun _ => ?_)))
@[simp] theorem to_Conv_floatToFloat (src : FloatKind) (bits : Nat) (dst : FloatKind) : To P Any (Conv.floatToFloat src bits dst : Sem Value) := by
  unfold Conv.floatToFloat
  repeat' (first | exact trivial | assumption | (simp; done) | with_reducible refine To.seq ?_ (fun _ => ?_) | with_reducible refine To.forInL (fun _ _ => ?_) _ | with_reducible refine To.forInA (fun _ _ => ?_) _ | with_reducible refine To.forInR (fun _ _ => ?_) _ | with_reducible refine To.foldl (fun _ _ => ?_) _ _ | with_reducible refine To.mapA (fun _ => ?_) _ | split | with_reducible intro _ | dsimp only | (refine To.seq ?_ (fun _ => ?_)))
@[simp] theorem to_Op_Complex_conv (src : FloatKind) (x : Nat) (dst : FloatKind) : To P Any (Op.Complex.conv src x dst : Sem Nat) := by
  unfold Op.Complex.conv
  repeat' (first | exact trivial | assumption | (simp; done) | with_reducible refine To.seq ?_ (fun _ => ?_) | with_reducible refine To.forInL (fun _ _ => ?_) _ | with_reducible refine To.forInA (fun _ _ => ?_) _ | with_reducible refine To.forInR (fun _ _ => ?_) _ | with_reducible refine To.foldl (fun _ _ => ?_) _ _ | with_reducible refine To.mapA (fun _ => ?_) _ | split | with_reducible intro _ | dsimp only | (refine To.seq ?_ (fun _ => ?_)))
@[simp] theorem to_Op_Complex_arith (op : BinOp) (k : FloatKind) (x y : Nat) : To P Any (Op.Complex.arith op k x y) := by
  unfold Op.Complex.arith
  repeat' (first | exact trivial | assumption | (simp; done) | with_reducible refine To.seq ?_ (fun _ => ?_) | with_reducible refine To.forInL (fun _ _ => ?_) _ | with_reducible refine To.forInA (fun _ _ => ?_) _ | with_reducible refine To.forInR (fun _ _ => ?_) _ | with_reducible refine To.foldl (fun _ _ => ?_) _ _ | with_reducible refine To.mapA (fun _ => ?_) _ | split | with_reducible intro _ | dsimp only | (refine To.seq ?_ (fun _ => ?_)))
@[simp] theorem to_add (a b : Nat) : To P Any (Op.Complex.add a b) := to_Op_Complex_arith _ _ _ _
@[simp] theorem to_sub (a b : Nat) : To P Any (Op.Complex.sub a b) := to_Op_Complex_arith _ _ _ _
@[simp] theorem to_mul (a b : Nat) : To P Any (Op.Complex.mul a b) := to_Op_Complex_arith _ _ _ _
@[simp] theorem to_quo (a b : Nat) : To P Any (Op.Complex.quo a b) := to_Op_Complex_arith _ _ _ _
@[simp] theorem to_Op_Complex_product (a b c d : Nat) : To P Any (Op.Complex.product a b c d) := by
  unfold Op.Complex.product
  repeat' (first | exact trivial | (simp; done) | with_reducible refine To.seq ?_ (fun _ => ?_))
@[simp] theorem to_Op_Complex_corrected (scale a b c d : Nat) : To P Any (Op.Complex.corrected scale a b c d : Sem (Nat × Nat)) := by
  unfold Op.Complex.corrected
  repeat' (first | exact trivial | assumption | (simp; done) | with_reducible refine To.seq ?_ (fun _ => ?_) | with_reducible refine To.forInL (fun _ _ => ?_) _ | with_reducible refine To.forInA (fun _ _ => ?_) _ | with_reducible refine To.forInR (fun _ _ => ?_) _ | with_reducible refine To.foldl (fun _ _ => ?_) _ _ | with_reducible refine To.mapA (fun _ => ?_) _ | split | with_reducible intro _ | dsimp only | (refine To.seq ?_ (fun _ => ?_)))
@[simp] theorem to_Op_Complex_quotient (a b c d : Nat) : To P Any (Op.Complex.quotient a b c d : Sem (Nat × Nat)) := by
  unfold Op.Complex.quotient
  repeat' (first | exact trivial | assumption | (simp; done) | with_reducible refine To.seq ?_ (fun _ => ?_) | with_reducible refine To.forInL (fun _ _ => ?_) _ | with_reducible refine To.forInA (fun _ _ => ?_) _ | with_reducible refine To.forInR (fun _ _ => ?_) _ | with_reducible refine To.foldl (fun _ _ => ?_) _ _ | with_reducible refine To.mapA (fun _ => ?_) _ | split | with_reducible intro _ | dsimp only | (refine To.seq ?_ (fun _ => ?_)))
@[simp] theorem to_Op_complexOp (op : BinOp) (k : FloatKind) (xr xi yr yi : Nat) : To P Any (Op.complexOp op k xr xi yr yi : Sem Value) := by
  unfold Op.complexOp
  repeat' (first | exact trivial | assumption | (simp; done) | with_reducible refine To.seq ?_ (fun _ => ?_) | with_reducible refine To.forInL (fun _ _ => ?_) _ | with_reducible refine To.forInA (fun _ _ => ?_) _ | with_reducible refine To.forInR (fun _ _ => ?_) _ | with_reducible refine To.foldl (fun _ _ => ?_) _ _ | with_reducible refine To.mapA (fun _ => ?_) _ | split | with_reducible intro _ | dsimp only | (refine To.seq ?_ (fun _ => ?_)))

@[simp] theorem to_Place_get (t : TypeId) (a0 : Place) : To P Any (Place.get t a0 : Sem Value) := by
  unfold Place.get
  repeat' (first | exact trivial | assumption | (simp; done) | with_reducible refine To.seq ?_ (fun _ => ?_) | with_reducible refine To.forInL (fun _ _ => ?_) _ | with_reducible refine To.forInA (fun _ _ => ?_) _ | with_reducible refine To.forInR (fun _ _ => ?_) _ | with_reducible refine To.foldl (fun _ _ => ?_) _ _ | with_reducible refine To.mapA (fun _ => ?_) _ | split | with_reducible intro _ | dsimp only | (refine To.seq ?_ (fun _ => ?_)))
@[simp] theorem to_numberAt (r : Nat) : To P Any (numberAt r : Sem (Option (Addr × Bool))) := by
  unfold numberAt
  repeat' (first | exact trivial | assumption | (simp; done) | with_reducible refine To.seq ?_ (fun _ => ?_) | with_reducible refine To.forInL (fun _ _ => ?_) _ | with_reducible refine To.forInA (fun _ _ => ?_) _ | with_reducible refine To.forInR (fun _ _ => ?_) _ | with_reducible refine To.foldl (fun _ _ => ?_) _ _ | with_reducible refine To.mapA (fun _ => ?_) _ | split | with_reducible intro _ | dsimp only | (refine To.seq ?_ (fun _ => ?_)))
@[simp] theorem to_behindNumber (n : Addr) : To P Any (behindNumber n : Sem (Addr × Bool)) := by
  unfold behindNumber
  repeat' (first | exact trivial | assumption | (simp; done) | with_reducible refine To.seq ?_ (fun _ => ?_) | with_reducible refine To.forInL (fun _ _ => ?_) _ | with_reducible refine To.forInA (fun _ _ => ?_) _ | with_reducible refine To.forInR (fun _ _ => ?_) _ | with_reducible refine To.foldl (fun _ _ => ?_) _ _ | with_reducible refine To.mapA (fun _ => ?_) _ | split | with_reducible intro _ | dsimp only | (refine To.seq ?_ (fun _ => ?_)))
@[simp] theorem to_viewAt (r : Nat) : To P Any (viewAt r : Sem (Option (Addr × TypeId))) := by
  unfold viewAt
  repeat' (first | exact trivial | assumption | (simp; done) | with_reducible refine To.seq ?_ (fun _ => ?_) | with_reducible refine To.forInL (fun _ _ => ?_) _ | with_reducible refine To.forInA (fun _ _ => ?_) _ | with_reducible refine To.forInR (fun _ _ => ?_) _ | with_reducible refine To.foldl (fun _ _ => ?_) _ _ | with_reducible refine To.mapA (fun _ => ?_) _ | split | with_reducible intro _ | dsimp only | (refine To.seq ?_ (fun _ => ?_)))
@[simp] theorem to_noView (a : Addr) : To P Any (noView a : Sem Unit) := by
  unfold noView
  repeat' (first | exact trivial | assumption | (simp; done) | with_reducible refine To.seq ?_ (fun _ => ?_) | with_reducible refine To.forInL (fun _ _ => ?_) _ | with_reducible refine To.forInA (fun _ _ => ?_) _ | with_reducible refine To.forInR (fun _ _ => ?_) _ | with_reducible refine To.foldl (fun _ _ => ?_) _ _ | with_reducible refine To.mapA (fun _ => ?_) _ | split | with_reducible intro _ | dsimp only | (refine To.seq ?_ (fun _ => ?_)))
@[simp] theorem to_stringish (a : Addr) : To P Any (stringish a : Sem Bool) := by
  unfold stringish
  repeat' (first | exact trivial | assumption | (simp; done) | with_reducible refine To.seq ?_ (fun _ => ?_) | with_reducible refine To.forInL (fun _ _ => ?_) _ | with_reducible refine To.forInA (fun _ _ => ?_) _ | with_reducible refine To.forInR (fun _ _ => ?_) _ | with_reducible refine To.foldl (fun _ _ => ?_) _ _ | with_reducible refine To.mapA (fun _ => ?_) _ | split | with_reducible intro _ | dsimp only | (refine To.seq ?_ (fun _ => ?_)))
@[simp] theorem to_mayBeOne (a b : Addr) : To P Any (mayBeOne a b : Sem Bool) := by
  unfold mayBeOne
  repeat' (first | exact trivial | assumption | (simp; done) | with_reducible refine To.seq ?_ (fun _ => ?_) | with_reducible refine To.forInL (fun _ _ => ?_) _ | with_reducible refine To.forInA (fun _ _ => ?_) _ | with_reducible refine To.forInR (fun _ _ => ?_) _ | with_reducible refine To.foldl (fun _ _ => ?_) _ _ | with_reducible refine To.mapA (fun _ => ?_) _ | split | with_reducible intro _ | dsimp only | (refine To.seq ?_ (fun _ => ?_)))
@[simp] theorem to_sameAddr (a b : Addr) : To P Any (sameAddr a b : Sem Bool) := by
  unfold sameAddr
  repeat' (first | exact trivial | assumption | (simp; done) | with_reducible refine To.seq ?_ (fun _ => ?_) | with_reducible refine To.forInL (fun _ _ => ?_) _ | with_reducible refine To.forInA (fun _ _ => ?_) _ | with_reducible refine To.forInR (fun _ _ => ?_) _ | with_reducible refine To.foldl (fun _ _ => ?_) _ _ | with_reducible refine To.mapA (fun _ => ?_) _ | split | with_reducible intro _ | dsimp only | (refine To.seq ?_ (fun _ => ?_)))
@[simp] theorem to_samePointer (a0 : Option Addr) (a1 : Option Addr) : To P Any (samePointer a0 a1 : Sem Bool) := by
  unfold samePointer
  repeat' (first | exact trivial | assumption | (simp; done) | with_reducible refine To.seq ?_ (fun _ => ?_) | with_reducible refine To.forInL (fun _ _ => ?_) _ | with_reducible refine To.forInA (fun _ _ => ?_) _ | with_reducible refine To.forInR (fun _ _ => ?_) _ | with_reducible refine To.foldl (fun _ _ => ?_) _ _ | with_reducible refine To.mapA (fun _ => ?_) _ | split | with_reducible intro _ | dsimp only | (refine To.seq ?_ (fun _ => ?_)))
@[simp] theorem to_typeStr (t : TypeId) : To P Any (typeStr t : Sem String) := by
  unfold typeStr
  repeat' (first | exact trivial | assumption | (simp; done) | with_reducible refine To.seq ?_ (fun _ => ?_) | with_reducible refine To.forInL (fun _ _ => ?_) _ | with_reducible refine To.forInA (fun _ _ => ?_) _ | with_reducible refine To.forInR (fun _ _ => ?_) _ | with_reducible refine To.foldl (fun _ _ => ?_) _ _ | with_reducible refine To.mapA (fun _ => ?_) _ | split | with_reducible intro _ | dsimp only | (refine To.seq ?_ (fun _ => ?_)))
@[simp] theorem to_part (t : TypeId) (cs : Array Value) (off : Nat) : To P Any (part t cs off : Sem Value) := by
  unfold part
  repeat' (first | exact trivial | assumption | (simp; done) | with_reducible refine To.seq ?_ (fun _ => ?_) | with_reducible refine To.forInL (fun _ _ => ?_) _ | with_reducible refine To.forInA (fun _ _ => ?_) _ | with_reducible refine To.forInR (fun _ _ => ?_) _ | with_reducible refine To.foldl (fun _ _ => ?_) _ _ | with_reducible refine To.mapA (fun _ => ?_) _ | split | with_reducible intro _ | dsimp only | (refine To.seq ?_ (fun _ => ?_)))
@[simp] theorem to_goPanic {α : Type} (v : Value) : To P Any (goPanic v : Sem α) := by
  unfold goPanic
  repeat' (first | exact trivial | assumption | (simp; done) | with_reducible refine To.seq ?_ (fun _ => ?_) | with_reducible refine To.forInL (fun _ _ => ?_) _ | with_reducible refine To.forInA (fun _ _ => ?_) _ | with_reducible refine To.forInR (fun _ _ => ?_) _ | with_reducible refine To.foldl (fun _ _ => ?_) _ _ | with_reducible refine To.mapA (fun _ => ?_) _ | split | with_reducible intro _ | dsimp only | (refine To.seq ?_ (fun _ => ?_)))
@[simp] theorem to_newRow (elem : TypeId) (cells : Array Value) : To P Any (newRow elem cells : Sem Addr) := by
  unfold newRow
  repeat' (first | exact trivial | assumption | (simp; done) | with_reducible refine To.seq ?_ (fun _ => ?_) | with_reducible refine To.forInL (fun _ _ => ?_) _ | with_reducible refine To.forInA (fun _ _ => ?_) _ | with_reducible refine To.forInR (fun _ _ => ?_) _ | with_reducible refine To.foldl (fun _ _ => ?_) _ _ | with_reducible refine To.mapA (fun _ => ?_) _ | split | with_reducible intro _ | dsimp only | (refine To.seq ?_ (fun _ => ?_)))
@[simp] theorem to_newVar (t : TypeId) (v : Value) : To P Any (newVar t v : Sem Addr) := by
  unfold newVar
  repeat' (first | exact trivial | assumption | (simp; done) | with_reducible refine To.seq ?_ (fun _ => ?_) | with_reducible refine To.forInL (fun _ _ => ?_) _ | with_reducible refine To.forInA (fun _ _ => ?_) _ | with_reducible refine To.forInR (fun _ _ => ?_) _ | with_reducible refine To.foldl (fun _ _ => ?_) _ _ | with_reducible refine To.mapA (fun _ => ?_) _ | split | with_reducible intro _ | dsimp only | (refine To.seq ?_ (fun _ => ?_)))
@[simp] theorem to_elemOf (t : TypeId) : To P Any (elemOf t : Sem TypeId) := by
  unfold elemOf
  repeat' (first | exact trivial | assumption | (simp; done) | with_reducible refine To.seq ?_ (fun _ => ?_) | with_reducible refine To.forInL (fun _ _ => ?_) _ | with_reducible refine To.forInA (fun _ _ => ?_) _ | with_reducible refine To.forInR (fun _ _ => ?_) _ | with_reducible refine To.foldl (fun _ _ => ?_) _ _ | with_reducible refine To.mapA (fun _ => ?_) _ | split | with_reducible intro _ | dsimp only | (refine To.seq ?_ (fun _ => ?_)))
@[simp] theorem to_runtimePanic {α : Type} (e : RuntimeError) : To P Any (runtimePanic e : Sem α) := by
  unfold runtimePanic
  repeat' (first | exact trivial | assumption | (simp; done) | with_reducible refine To.seq ?_ (fun _ => ?_) | with_reducible refine To.forInL (fun _ _ => ?_) _ | with_reducible refine To.forInA (fun _ _ => ?_) _ | with_reducible refine To.forInR (fun _ _ => ?_) _ | with_reducible refine To.foldl (fun _ _ => ?_) _ _ | with_reducible refine To.mapA (fun _ => ?_) _ | split | with_reducible intro _ | dsimp only | (refine To.seq ?_ (fun _ => ?_)))
@[simp] theorem to_byteOf (a : Addr) : To P Any (byteOf a : Sem Nat) := by
  unfold byteOf
  repeat' (first | exact trivial | assumption | (simp; done) | with_reducible refine To.seq ?_ (fun _ => ?_) | with_reducible refine To.forInL (fun _ _ => ?_) _ | with_reducible refine To.forInA (fun _ _ => ?_) _ | with_reducible refine To.forInR (fun _ _ => ?_) _ | with_reducible refine To.foldl (fun _ _ => ?_) _ _ | with_reducible refine To.mapA (fun _ => ?_) _ | split | with_reducible intro _ | dsimp only | (refine To.seq ?_ (fun _ => ?_)))
@[simp] theorem to_Op_equalIn  (a0 : Nat) : ∀ (a1 : TypeId) (a2 : Value) (a3 : Value), To P Any (Op.equalIn a0 a1 a2 a3 : Sem Bool) := by
  induction a0 with
  | zero =>
    intro a1 a2 a3
    unfold Op.equalIn
    repeat' (first | exact trivial | assumption | (simp; done) | with_reducible refine To.seq ?_ (fun _ => ?_) | with_reducible refine To.forInL (fun _ _ => ?_) _ | with_reducible refine To.forInA (fun _ _ => ?_) _ | with_reducible refine To.forInR (fun _ _ => ?_) _ | with_reducible refine To.foldl (fun _ _ => ?_) _ _ | with_reducible refine To.mapA (fun _ => ?_) _ | split | with_reducible intro _ | dsimp only | (refine To.seq ?_ (fun _ => ?_)))
  | succ n ih =>
    intro a1 a2 a3
    unfold Op.equalIn
    repeat' (first | with_reducible apply ih | exact trivial | assumption | (simp; done) | with_reducible refine To.seq ?_ (fun _ => ?_) | with_reducible refine To.forInL (fun _ _ => ?_) _ | with_reducible refine To.forInA (fun _ _ => ?_) _ | with_reducible refine To.forInR (fun _ _ => ?_) _ | with_reducible refine To.foldl (fun _ _ => ?_) _ _ | with_reducible refine To.mapA (fun _ => ?_) _ | split | with_reducible intro _ | dsimp only | (refine To.seq ?_ (fun _ => ?_)))
@[simp] theorem to_Op_equal (t : TypeId) (x y : Value) : To P Any (Op.equal t x y : Sem Bool) := by
  unfold Op.equal
  repeat' (first | exact trivial | assumption | (simp; done) | with_reducible refine To.seq ?_ (fun _ => ?_) | with_reducible refine To.forInL (fun _ _ => ?_) _ | with_reducible refine To.forInA (fun _ _ => ?_) _ | with_reducible refine To.forInR (fun _ _ => ?_) _ | with_reducible refine To.foldl (fun _ _ => ?_) _ _ | with_reducible refine To.mapA (fun _ => ?_) _ | split | with_reducible intro _ | dsimp only | (refine To.seq ?_ (fun _ => ?_)))
@[simp] theorem to_cellsIn (r : Nat) : To P Any (cellsIn r : Sem (Option Nat)) := by
  unfold cellsIn
  repeat' (first | exact trivial | assumption | (simp; done) | with_reducible refine To.seq ?_ (fun _ => ?_) | with_reducible refine To.forInL (fun _ _ => ?_) _ | with_reducible refine To.forInA (fun _ _ => ?_) _ | with_reducible refine To.forInR (fun _ _ => ?_) _ | with_reducible refine To.foldl (fun _ _ => ?_) _ _ | with_reducible refine To.mapA (fun _ => ?_) _ | split | with_reducible intro _ | dsimp only | (refine To.seq ?_ (fun _ => ?_)))
@[simp] theorem to_asNumber (a : Addr) (lost : Bool) : To P Any (asNumber a lost : Sem Value) := by
  unfold asNumber
  repeat' (first | exact trivial | assumption | (simp; done) | with_reducible refine To.seq ?_ (fun _ => ?_) | with_reducible refine To.forInL (fun _ _ => ?_) _ | with_reducible refine To.forInA (fun _ _ => ?_) _ | with_reducible refine To.forInR (fun _ _ => ?_) _ | with_reducible refine To.foldl (fun _ _ => ?_) _ _ | with_reducible refine To.mapA (fun _ => ?_) _ | split | with_reducible intro _ | dsimp only | (refine To.seq ?_ (fun _ => ?_)))
@[simp] theorem to_backFromNumber (n : Addr) : To P Any (backFromNumber n : Sem Addr) := by
  unfold backFromNumber
  repeat' (first | exact trivial | assumption | (simp; done) | with_reducible refine To.seq ?_ (fun _ => ?_) | with_reducible refine To.forInL (fun _ _ => ?_) _ | with_reducible refine To.forInA (fun _ _ => ?_) _ | with_reducible refine To.forInR (fun _ _ => ?_) _ | with_reducible refine To.foldl (fun _ _ => ?_) _ _ | with_reducible refine To.mapA (fun _ => ?_) _ | split | with_reducible intro _ | dsimp only | (refine To.seq ?_ (fun _ => ?_)))
@[simp] theorem to_markStringish (a : Addr) : To P Any (markStringish a : Sem Unit) := by
  unfold markStringish
  repeat' (first | exact trivial | assumption | (simp; done) | with_reducible refine To.seq ?_ (fun _ => ?_) | with_reducible refine To.forInL (fun _ _ => ?_) _ | with_reducible refine To.forInA (fun _ _ => ?_) _ | with_reducible refine To.forInR (fun _ _ => ?_) _ | with_reducible refine To.foldl (fun _ _ => ?_) _ _ | with_reducible refine To.mapA (fun _ => ?_) _ | split | with_reducible intro _ | dsimp only | (refine To.seq ?_ (fun _ => ?_)))
@[simp] theorem to_cutType (name : String) : To P Any (cutType name : Sem TypeId) := by
  unfold cutType
  repeat' (first | exact trivial | assumption | (simp; done) | with_reducible refine To.seq ?_ (fun _ => ?_) | with_reducible refine To.forInL (fun _ _ => ?_) _ | with_reducible refine To.forInA (fun _ _ => ?_) _ | with_reducible refine To.forInR (fun _ _ => ?_) _ | with_reducible refine To.foldl (fun _ _ => ?_) _ _ | with_reducible refine To.mapA (fun _ => ?_) _ | split | with_reducible intro _ | dsimp only | (refine To.seq ?_ (fun _ => ?_)))
@[simp] theorem to_globalAddr (name : String) : To P Any (globalAddr name : Sem Addr) := by
  unfold globalAddr
  repeat' (first | exact trivial | assumption | (simp; done) | with_reducible refine To.seq ?_ (fun _ => ?_) | with_reducible refine To.forInL (fun _ _ => ?_) _ | with_reducible refine To.forInA (fun _ _ => ?_) _ | with_reducible refine To.forInR (fun _ _ => ?_) _ | with_reducible refine To.foldl (fun _ _ => ?_) _ _ | with_reducible refine To.mapA (fun _ => ?_) _ | split | with_reducible intro _ | dsimp only | (refine To.seq ?_ (fun _ => ?_)))
@[simp] theorem to_zeroValue (t : TypeId) : To P Any (zeroValue t : Sem Value) := by
  unfold zeroValue
  repeat' (first | exact trivial | assumption | (simp; done) | with_reducible refine To.seq ?_ (fun _ => ?_) | with_reducible refine To.forInL (fun _ _ => ?_) _ | with_reducible refine To.forInA (fun _ _ => ?_) _ | with_reducible refine To.forInR (fun _ _ => ?_) _ | with_reducible refine To.foldl (fun _ _ => ?_) _ _ | with_reducible refine To.mapA (fun _ => ?_) _ | split | with_reducible intro _ | dsimp only | (refine To.seq ?_ (fun _ => ?_)))
@[simp] theorem to_storeCells (a : Addr) (vs : List Value) : ∀ (i : Nat), To P Any (storeCells a vs i) := by
  induction vs with
  | nil => exact fun i => trivial
  | cons v vs ih => exact fun i => To.seq (to_store _ _ _) fun _ => ih _
@[simp] theorem to_storeVar (t : TypeId) (a : Addr) (v : Value) : To P Any (storeVar t a v : Sem Unit) := by
  unfold storeVar
  repeat' (first | exact trivial | assumption | (simp; done) | with_reducible refine To.seq ?_ (fun _ => ?_) | with_reducible refine To.forInL (fun _ _ => ?_) _ | with_reducible refine To.forInA (fun _ _ => ?_) _ | with_reducible refine To.forInR (fun _ _ => ?_) _ | with_reducible refine To.foldl (fun _ _ => ?_) _ _ | with_reducible refine To.mapA (fun _ => ?_) _ | split | with_reducible intro _ | dsimp only | (refine To.seq ?_ (fun _ => ?_)))
@[simp] theorem to_panicString {α : Type} (msg : String) : To P Any (panicString msg : Sem α) := by
  unfold panicString
  repeat' (first | exact trivial | assumption | (simp; done) | with_reducible refine To.seq ?_ (fun _ => ?_) | with_reducible refine To.forInL (fun _ _ => ?_) _ | with_reducible refine To.forInA (fun _ _ => ?_) _ | with_reducible refine To.forInR (fun _ _ => ?_) _ | with_reducible refine To.foldl (fun _ _ => ?_) _ _ | with_reducible refine To.mapA (fun _ => ?_) _ | split | with_reducible intro _ | dsimp only | (refine To.seq ?_ (fun _ => ?_)))
@[simp] theorem to_externState (name : String) : To P Any (externState name : Sem Nat) := by
  unfold externState
  repeat' (first | exact trivial | assumption | (simp; done) | with_reducible refine To.seq ?_ (fun _ => ?_) | with_reducible refine To.forInL (fun _ _ => ?_) _ | with_reducible refine To.forInA (fun _ _ => ?_) _ | with_reducible refine To.forInR (fun _ _ => ?_) _ | with_reducible refine To.foldl (fun _ _ => ?_) _ _ | with_reducible refine To.mapA (fun _ => ?_) _ | split | with_reducible intro _ | dsimp only | (refine To.seq ?_ (fun _ => ?_)))
@[simp] theorem to_boundsPanic {α : Type} (k : IntKind) (x y : Int) (code : BoundsCode) : To P Any (boundsPanic k x y code : Sem α) := by
  unfold boundsPanic
  repeat' (first | exact trivial | assumption | (simp; done) | with_reducible refine To.seq ?_ (fun _ => ?_) | with_reducible refine To.forInL (fun _ _ => ?_) _ | with_reducible refine To.forInA (fun _ _ => ?_) _ | with_reducible refine To.forInR (fun _ _ => ?_) _ | with_reducible refine To.foldl (fun _ _ => ?_) _ _ | with_reducible refine To.mapA (fun _ => ?_) _ | split | with_reducible intro _ | dsimp only | (refine To.seq ?_ (fun _ => ?_)))
@[simp] theorem to_asIntOf (a0 : Value) : To P Any (asIntOf a0 : Sem (IntKind × Int)) := by
  unfold asIntOf
  repeat' (first | exact trivial | assumption | (simp; done) | with_reducible refine To.seq ?_ (fun _ => ?_) | with_reducible refine To.forInL (fun _ _ => ?_) _ | with_reducible refine To.forInA (fun _ _ => ?_) _ | with_reducible refine To.forInR (fun _ _ => ?_) _ | with_reducible refine To.foldl (fun _ _ => ?_) _ _ | with_reducible refine To.mapA (fun _ => ?_) _ | split | with_reducible intro _ | dsimp only | (refine To.seq ?_ (fun _ => ?_)))
@[simp] theorem to_asInt (v : Value) : To P Any (asInt v : Sem Int) := by
  unfold asInt
  repeat' (first | exact trivial | assumption | (simp; done) | with_reducible refine To.seq ?_ (fun _ => ?_) | with_reducible refine To.forInL (fun _ _ => ?_) _ | with_reducible refine To.forInA (fun _ _ => ?_) _ | with_reducible refine To.forInR (fun _ _ => ?_) _ | with_reducible refine To.foldl (fun _ _ => ?_) _ _ | with_reducible refine To.mapA (fun _ => ?_) _ | split | with_reducible intro _ | dsimp only | (refine To.seq ?_ (fun _ => ?_)))
@[simp] theorem to_asString (a0 : Value) : To P Any (asString a0 : Sem ByteArray) := by
  unfold asString
  repeat' (first | exact trivial | assumption | (simp; done) | with_reducible refine To.seq ?_ (fun _ => ?_) | with_reducible refine To.forInL (fun _ _ => ?_) _ | with_reducible refine To.forInA (fun _ _ => ?_) _ | with_reducible refine To.forInR (fun _ _ => ?_) _ | with_reducible refine To.foldl (fun _ _ => ?_) _ _ | with_reducible refine To.mapA (fun _ => ?_) _ | split | with_reducible intro _ | dsimp only | (refine To.seq ?_ (fun _ => ?_)))
@[simp] theorem to_asAgg (a0 : Value) : To P Any (asAgg a0 : Sem (Array Value)) := by
  unfold asAgg
  repeat' (first | exact trivial | assumption | (simp; done) | with_reducible refine To.seq ?_ (fun _ => ?_) | with_reducible refine To.forInL (fun _ _ => ?_) _ | with_reducible refine To.forInA (fun _ _ => ?_) _ | with_reducible refine To.forInR (fun _ _ => ?_) _ | with_reducible refine To.foldl (fun _ _ => ?_) _ _ | with_reducible refine To.mapA (fun _ => ?_) _ | split | with_reducible intro _ | dsimp only | (refine To.seq ?_ (fun _ => ?_)))
@[simp] theorem to_asAddr (a0 : Value) : To P Any (asAddr a0 : Sem Addr) := by
  unfold asAddr
  repeat' (first | exact trivial | assumption | (simp; done) | with_reducible refine To.seq ?_ (fun _ => ?_) | with_reducible refine To.forInL (fun _ _ => ?_) _ | with_reducible refine To.forInA (fun _ _ => ?_) _ | with_reducible refine To.forInR (fun _ _ => ?_) _ | with_reducible refine To.foldl (fun _ _ => ?_) _ _ | with_reducible refine To.mapA (fun _ => ?_) _ | split | with_reducible intro _ | dsimp only | (refine To.seq ?_ (fun _ => ?_)))
@[simp] theorem to_partAt (base : Addr) (cells bytes : Nat) : To P Any (partAt base cells bytes : Sem Addr) := by
  unfold partAt
  repeat' (first | exact trivial | assumption | (simp; done) | with_reducible refine To.seq ?_ (fun _ => ?_) | with_reducible refine To.forInL (fun _ _ => ?_) _ | with_reducible refine To.forInA (fun _ _ => ?_) _ | with_reducible refine To.forInR (fun _ _ => ?_) _ | with_reducible refine To.foldl (fun _ _ => ?_) _ _ | with_reducible refine To.mapA (fun _ => ?_) _ | split | with_reducible intro _ | dsimp only | (refine To.seq ?_ (fun _ => ?_)))
@[simp] theorem to_fieldPlace (a : Addr) (f : Field) : To P Any (fieldPlace a f : Sem Addr) := by
  unfold fieldPlace
  repeat' (first | exact trivial | assumption | (simp; done) | with_reducible refine To.seq ?_ (fun _ => ?_) | with_reducible refine To.forInL (fun _ _ => ?_) _ | with_reducible refine To.forInA (fun _ _ => ?_) _ | with_reducible refine To.forInR (fun _ _ => ?_) _ | with_reducible refine To.foldl (fun _ _ => ?_) _ _ | with_reducible refine To.mapA (fun _ => ?_) _ | split | with_reducible intro _ | dsimp only | (refine To.seq ?_ (fun _ => ?_)))
@[simp] theorem to_variablesAt (a : Addr) (u : TypeId) (n : Nat) : To P Any (variablesAt a u n : Sem Bool) := by
  unfold variablesAt
  repeat' (first | exact trivial | assumption | (simp; done) | with_reducible refine To.seq ?_ (fun _ => ?_) | with_reducible refine To.forInL (fun _ _ => ?_) _ | with_reducible refine To.forInA (fun _ _ => ?_) _ | with_reducible refine To.forInR (fun _ _ => ?_) _ | with_reducible refine To.foldl (fun _ _ => ?_) _ _ | with_reducible refine To.mapA (fun _ => ?_) _ | split | with_reducible intro _ | dsimp only | (refine To.seq ?_ (fun _ => ?_)))
@[simp] theorem to_intVariablesAt (k : IntKind) (a : Addr) (n : Nat) : To P Any (intVariablesAt k a n : Sem Bool) := by
  unfold intVariablesAt
  repeat' (first | exact trivial | assumption | (simp; done) | with_reducible refine To.seq ?_ (fun _ => ?_) | with_reducible refine To.forInL (fun _ _ => ?_) _ | with_reducible refine To.forInA (fun _ _ => ?_) _ | with_reducible refine To.forInR (fun _ _ => ?_) _ | with_reducible refine To.foldl (fun _ _ => ?_) _ _ | with_reducible refine To.mapA (fun _ => ?_) _ | split | with_reducible intro _ | dsimp only | (refine To.seq ?_ (fun _ => ?_)))
@[simp] theorem to_byteVariablesAt (a : Addr) (n : Nat) : To P Any (byteVariablesAt a n : Sem Bool) := by
  unfold byteVariablesAt
  repeat' (first | exact trivial | assumption | (simp; done) | with_reducible refine To.seq ?_ (fun _ => ?_) | with_reducible refine To.forInL (fun _ _ => ?_) _ | with_reducible refine To.forInA (fun _ _ => ?_) _ | with_reducible refine To.forInR (fun _ _ => ?_) _ | with_reducible refine To.foldl (fun _ _ => ?_) _ _ | with_reducible refine To.mapA (fun _ => ?_) _ | split | with_reducible intro _ | dsimp only | (refine To.seq ?_ (fun _ => ?_)))
@[simp] theorem to_loadBytes (n : Nat) : ∀ (a : Addr) (acc : ByteArray), To P Any (loadBytes a acc n) := by
  induction n with
  | zero => exact fun a acc => trivial
  | succ n ih =>
    intro a acc
    refine To.seq (to_load _ _) fun v => ?_
    split
    · exact ih _ _
    · trivial
@[simp] theorem to_storeBytes (a : Addr) (b : ByteArray) : To P Any (storeBytes a b : Sem Unit) := by
  unfold storeBytes
  repeat' (first | exact trivial | assumption | (simp; done) | with_reducible refine To.seq ?_ (fun _ => ?_) | with_reducible refine To.forInL (fun _ _ => ?_) _ | with_reducible refine To.forInA (fun _ _ => ?_) _ | with_reducible refine To.forInR (fun _ _ => ?_) _ | with_reducible refine To.foldl (fun _ _ => ?_) _ _ | with_reducible refine To.mapA (fun _ => ?_) _ | split | with_reducible intro _ | dsimp only | (refine To.seq ?_ (fun _ => ?_)))
@[simp] theorem to_Deferred_ofValue (f : Value) (args : Array Value) : To P Any (Deferred.ofValue f args : Sem Deferred) := by
  unfold Deferred.ofValue
  repeat' (first | exact trivial | assumption | (simp; done) | with_reducible refine To.seq ?_ (fun _ => ?_) | with_reducible refine To.forInL (fun _ _ => ?_) _ | with_reducible refine To.forInA (fun _ _ => ?_) _ | with_reducible refine To.forInR (fun _ _ => ?_) _ | with_reducible refine To.foldl (fun _ _ => ?_) _ _ | with_reducible refine To.mapA (fun _ => ?_) _ | split | with_reducible intro _ | dsimp only | (refine To.seq ?_ (fun _ => ?_)))
@[simp] theorem to_Op_twoPlaces (a b : Addr) : To P Any (Op.twoPlaces a b : Sem (Nat × Nat)) := by
  unfold Op.twoPlaces
  repeat' (first | exact trivial | assumption | (simp; done) | with_reducible refine To.seq ?_ (fun _ => ?_) | with_reducible refine To.forInL (fun _ _ => ?_) _ | with_reducible refine To.forInA (fun _ _ => ?_) _ | with_reducible refine To.forInR (fun _ _ => ?_) _ | with_reducible refine To.foldl (fun _ _ => ?_) _ _ | with_reducible refine To.mapA (fun _ => ?_) _ | split | with_reducible intro _ | dsimp only | (refine To.seq ?_ (fun _ => ?_)))
@[simp] theorem to_Op_addrSub (k : IntKind) (a b : Addr) : To P Any (Op.addrSub k a b : Sem Value) := by
  unfold Op.addrSub
  repeat' (first | exact trivial | assumption | (simp; done) | with_reducible refine To.seq ?_ (fun _ => ?_) | with_reducible refine To.forInL (fun _ _ => ?_) _ | with_reducible refine To.forInA (fun _ _ => ?_) _ | with_reducible refine To.forInR (fun _ _ => ?_) _ | with_reducible refine To.foldl (fun _ _ => ?_) _ _ | with_reducible refine To.mapA (fun _ => ?_) _ | split | with_reducible intro _ | dsimp only | (refine To.seq ?_ (fun _ => ?_)))
@[simp] theorem to_Op_addrCmp (op : BinOp) (a b : Addr) : To P Any (Op.addrCmp op a b : Sem Value) := by
  unfold Op.addrCmp
  repeat' (first | exact trivial | assumption | (simp; done) | with_reducible refine To.seq ?_ (fun _ => ?_) | with_reducible refine To.forInL (fun _ _ => ?_) _ | with_reducible refine To.forInA (fun _ _ => ?_) _ | with_reducible refine To.forInR (fun _ _ => ?_) _ | with_reducible refine To.foldl (fun _ _ => ?_) _ _ | with_reducible refine To.mapA (fun _ => ?_) _ | split | with_reducible intro _ | dsimp only | (refine To.seq ?_ (fun _ => ?_)))
@[simp] theorem to_Op_addrMod (k : IntKind) (a : Addr) (n : Int) : To P Any (Op.addrMod k a n : Sem Value) := by
  unfold Op.addrMod
  repeat' (first | exact trivial | assumption | (simp; done) | with_reducible refine To.seq ?_ (fun _ => ?_) | with_reducible refine To.forInL (fun _ _ => ?_) _ | with_reducible refine To.forInA (fun _ _ => ?_) _ | with_reducible refine To.forInR (fun _ _ => ?_) _ | with_reducible refine To.foldl (fun _ _ => ?_) _ _ | with_reducible refine To.mapA (fun _ => ?_) _ | split | with_reducible intro _ | dsimp only | (refine To.seq ?_ (fun _ => ?_)))
@[simp] theorem to_Op_eqGuardIn  (a0 : Nat) : ∀ (a1 : TypeId) (a2 : Value) (a3 : Value), To P Any (Op.eqGuardIn a0 a1 a2 a3 : Sem Bool) := by
  induction a0 with
  | zero =>
    intro a1 a2 a3
    unfold Op.eqGuardIn
    repeat' (first | exact trivial | assumption | (simp; done) | with_reducible refine To.seq ?_ (fun _ => ?_) | with_reducible refine To.forInL (fun _ _ => ?_) _ | with_reducible refine To.forInA (fun _ _ => ?_) _ | with_reducible refine To.forInR (fun _ _ => ?_) _ | with_reducible refine To.foldl (fun _ _ => ?_) _ _ | with_reducible refine To.mapA (fun _ => ?_) _ | split | with_reducible intro _ | dsimp only | (refine To.seq ?_ (fun _ => ?_)))
  | succ n ih =>
    intro a1 a2 a3
    unfold Op.eqGuardIn
    repeat' (first | with_reducible apply ih | exact trivial | assumption | (simp; done) | with_reducible refine To.seq ?_ (fun _ => ?_) | with_reducible refine To.forInL (fun _ _ => ?_) _ | with_reducible refine To.forInA (fun _ _ => ?_) _ | with_reducible refine To.forInR (fun _ _ => ?_) _ | with_reducible refine To.foldl (fun _ _ => ?_) _ _ | with_reducible refine To.mapA (fun _ => ?_) _ | split | with_reducible intro _ | dsimp only | (refine To.seq ?_ (fun _ => ?_)))
@[simp] theorem to_Op_intArith (op : BinOp) (k : IntKind) (x y : Int) : To P Any (Op.intArith op k x y : Sem Value) := by
  unfold Op.intArith
  repeat' (first | exact trivial | assumption | (simp; done) | with_reducible refine To.seq ?_ (fun _ => ?_) | with_reducible refine To.forInL (fun _ _ => ?_) _ | with_reducible refine To.forInA (fun _ _ => ?_) _ | with_reducible refine To.forInR (fun _ _ => ?_) _ | with_reducible refine To.foldl (fun _ _ => ?_) _ _ | with_reducible refine To.mapA (fun _ => ?_) _ | split | with_reducible intro _ | dsimp only | (refine To.seq ?_ (fun _ => ?_)))
@[simp] theorem to_Op_intBits (op : BinOp) (k : IntKind) (x y : Int) : To P Any (Op.intBits op k x y : Sem Value) := by
  unfold Op.intBits
  repeat' (first | exact trivial | assumption | (simp; done) | with_reducible refine To.seq ?_ (fun _ => ?_) | with_reducible refine To.forInL (fun _ _ => ?_) _ | with_reducible refine To.forInA (fun _ _ => ?_) _ | with_reducible refine To.forInR (fun _ _ => ?_) _ | with_reducible refine To.foldl (fun _ _ => ?_) _ _ | with_reducible refine To.mapA (fun _ => ?_) _ | split | with_reducible intro _ | dsimp only | (refine To.seq ?_ (fun _ => ?_)))
@[simp] theorem to_Op_intCmp (op : BinOp) (x y : Int) : To P Any (Op.intCmp op x y : Sem Value) := by
  unfold Op.intCmp
  repeat' (first | exact trivial | assumption | (simp; done) | with_reducible refine To.seq ?_ (fun _ => ?_) | with_reducible refine To.forInL (fun _ _ => ?_) _ | with_reducible refine To.forInA (fun _ _ => ?_) _ | with_reducible refine To.forInR (fun _ _ => ?_) _ | with_reducible refine To.foldl (fun _ _ => ?_) _ _ | with_reducible refine To.mapA (fun _ => ?_) _ | split | with_reducible intro _ | dsimp only | (refine To.seq ?_ (fun _ => ?_)))
@[simp] theorem to_Op_intDiv (op : BinOp) (k : IntKind) (x y : Int) : To P Any (Op.intDiv op k x y : Sem Value) := by
  unfold Op.intDiv
  repeat' (first | exact trivial | assumption | (simp; done) | with_reducible refine To.seq ?_ (fun _ => ?_) | with_reducible refine To.forInL (fun _ _ => ?_) _ | with_reducible refine To.forInA (fun _ _ => ?_) _ | with_reducible refine To.forInR (fun _ _ => ?_) _ | with_reducible refine To.foldl (fun _ _ => ?_) _ _ | with_reducible refine To.mapA (fun _ => ?_) _ | split | with_reducible intro _ | dsimp only | (refine To.seq ?_ (fun _ => ?_)))
@[simp] theorem to_Op_shift (op : BinOp) (k : IntKind) (x : Int) (_yk : IntKind) (y : Int) : To P Any (Op.shift op k x _yk y : Sem Value) := by
  unfold Op.shift
  repeat' (first | exact trivial | assumption | (simp; done) | with_reducible refine To.seq ?_ (fun _ => ?_) | with_reducible refine To.forInL (fun _ _ => ?_) _ | with_reducible refine To.forInA (fun _ _ => ?_) _ | with_reducible refine To.forInR (fun _ _ => ?_) _ | with_reducible refine To.foldl (fun _ _ => ?_) _ _ | with_reducible refine To.mapA (fun _ => ?_) _ | split | with_reducible intro _ | dsimp only | (refine To.seq ?_ (fun _ => ?_)))
@[simp] theorem to_Op_stringOp (op : BinOp) (x y : ByteArray) : To P Any (Op.stringOp op x y : Sem Value) := by
  unfold Op.stringOp
  repeat' (first | exact trivial | assumption | (simp; done) | with_reducible refine To.seq ?_ (fun _ => ?_) | with_reducible refine To.forInL (fun _ _ => ?_) _ | with_reducible refine To.forInA (fun _ _ => ?_) _ | with_reducible refine To.forInR (fun _ _ => ?_) _ | with_reducible refine To.foldl (fun _ _ => ?_) _ _ | with_reducible refine To.mapA (fun _ => ?_) _ | split | with_reducible intro _ | dsimp only | (refine To.seq ?_ (fun _ => ?_)))
@[simp] theorem to_Op_unary (op : UnOp) (x : Value) : To P Any (Op.unary op x : Sem Value) := by
  unfold Op.unary
  repeat' (first | exact trivial | assumption | (simp; done) | with_reducible refine To.seq ?_ (fun _ => ?_) | with_reducible refine To.forInL (fun _ _ => ?_) _ | with_reducible refine To.forInA (fun _ _ => ?_) _ | with_reducible refine To.forInR (fun _ _ => ?_) _ | with_reducible refine To.foldl (fun _ _ => ?_) _ _ | with_reducible refine To.mapA (fun _ => ?_) _ | split | with_reducible intro _ | dsimp only | (refine To.seq ?_ (fun _ => ?_)))
@[simp] theorem to_Instr_sliceBound (x : Value) (y : Nat) (code : BoundsCode) : To P Any (Instr.sliceBound x y code : Sem Nat) := by
  unfold Instr.sliceBound
  repeat' (first | exact trivial | assumption | (simp; done) | with_reducible refine To.seq ?_ (fun _ => ?_) | with_reducible refine To.forInL (fun _ _ => ?_) _ | with_reducible refine To.forInA (fun _ _ => ?_) _ | with_reducible refine To.forInR (fun _ _ => ?_) _ | with_reducible refine To.foldl (fun _ _ => ?_) _ _ | with_reducible refine To.mapA (fun _ => ?_) _ | split | with_reducible intro _ | dsimp only | (refine To.seq ?_ (fun _ => ?_)))
@[simp] theorem to_Instr_sliceBounds (isSlice : Bool) (len cap : Nat) (low high max : Option Value) : To P Any (Instr.sliceBounds isSlice len cap low high max : Sem (Nat × Nat × Nat)) := by
  unfold Instr.sliceBounds
  repeat' (first | exact trivial | assumption | (simp; done) | with_reducible refine To.seq ?_ (fun _ => ?_) | with_reducible refine To.forInL (fun _ _ => ?_) _ | with_reducible refine To.forInA (fun _ _ => ?_) _ | with_reducible refine To.forInR (fun _ _ => ?_) _ | with_reducible refine To.foldl (fun _ _ => ?_) _ _ | with_reducible refine To.mapA (fun _ => ?_) _ | split | with_reducible intro _ | dsimp only | (refine To.seq ?_ (fun _ => ?_)))
@[simp] theorem to_Instr_slice (xType : TypeId) (x : Value) (low high max : Option Value) : To P Any (Instr.slice xType x low high max : Sem Value) := by
  unfold Instr.slice
  repeat' (first | exact trivial | assumption | (simp; done) | with_reducible refine To.seq ?_ (fun _ => ?_) | with_reducible refine To.forInL (fun _ _ => ?_) _ | with_reducible refine To.forInA (fun _ _ => ?_) _ | with_reducible refine To.forInR (fun _ _ => ?_) _ | with_reducible refine To.foldl (fun _ _ => ?_) _ _ | with_reducible refine To.mapA (fun _ => ?_) _ | split | with_reducible intro _ | dsimp only | (refine To.seq ?_ (fun _ => ?_)))
@[simp] theorem to_Conv_bytesToString (x : Value) : To P Any (Conv.bytesToString x : Sem Value) := by
  unfold Conv.bytesToString
  repeat' (first | exact trivial | assumption | (simp; done) | with_reducible refine To.seq ?_ (fun _ => ?_) | with_reducible refine To.forInL (fun _ _ => ?_) _ | with_reducible refine To.forInA (fun _ _ => ?_) _ | with_reducible refine To.forInR (fun _ _ => ?_) _ | with_reducible refine To.foldl (fun _ _ => ?_) _ _ | with_reducible refine To.mapA (fun _ => ?_) _ | split | with_reducible intro _ | dsimp only | (refine To.seq ?_ (fun _ => ?_)))
@[simp] theorem to_Conv_complexToComplex (src : FloatKind) (re im : Nat) (dst : FloatKind) : To P Any (Conv.complexToComplex src re im dst : Sem Value) := by
  unfold Conv.complexToComplex
  repeat' (first | exact trivial | assumption | (simp; done) | with_reducible refine To.seq ?_ (fun _ => ?_) | with_reducible refine To.forInL (fun _ _ => ?_) _ | with_reducible refine To.forInA (fun _ _ => ?_) _ | with_reducible refine To.forInR (fun _ _ => ?_) _ | with_reducible refine To.foldl (fun _ _ => ?_) _ _ | with_reducible refine To.mapA (fun _ => ?_) _ | split | with_reducible intro _ | dsimp only | (refine To.seq ?_ (fun _ => ?_)))
@[simp] theorem to_Conv_floatToInt (src : FloatKind) (bits : Nat) (dst : IntKind) : To P Any (Conv.floatToInt src bits dst : Sem Value) := by
  unfold Conv.floatToInt
  repeat' (first | exact trivial | assumption | (simp; done) | with_reducible refine To.seq ?_ (fun _ => ?_) | with_reducible refine To.forInL (fun _ _ => ?_) _ | with_reducible refine To.forInA (fun _ _ => ?_) _ | with_reducible refine To.forInR (fun _ _ => ?_) _ | with_reducible refine To.foldl (fun _ _ => ?_) _ _ | with_reducible refine To.mapA (fun _ => ?_) _ | split | with_reducible intro _ | dsimp only | (refine To.seq ?_ (fun _ => ?_)))
@[simp] theorem to_Conv_intToFloat (dst : FloatKind) (n : Int) : To P Any (Conv.intToFloat dst n : Sem Value) := by
  unfold Conv.intToFloat
  repeat' (first | exact trivial | assumption | (simp; done) | with_reducible refine To.seq ?_ (fun _ => ?_) | with_reducible refine To.forInL (fun _ _ => ?_) _ | with_reducible refine To.forInA (fun _ _ => ?_) _ | with_reducible refine To.forInR (fun _ _ => ?_) _ | with_reducible refine To.foldl (fun _ _ => ?_) _ _ | with_reducible refine To.mapA (fun _ => ?_) _ | split | with_reducible intro _ | dsimp only | (refine To.seq ?_ (fun _ => ?_)))
@[simp] theorem to_Conv_intToInt (dst : IntKind) (n : Int) : To P Any (Conv.intToInt dst n : Sem Value) := by
  unfold Conv.intToInt
  repeat' (first | exact trivial | assumption | (simp; done) | with_reducible refine To.seq ?_ (fun _ => ?_) | with_reducible refine To.forInL (fun _ _ => ?_) _ | with_reducible refine To.forInA (fun _ _ => ?_) _ | with_reducible refine To.forInR (fun _ _ => ?_) _ | with_reducible refine To.foldl (fun _ _ => ?_) _ _ | with_reducible refine To.mapA (fun _ => ?_) _ | split | with_reducible intro _ | dsimp only | (refine To.seq ?_ (fun _ => ?_)))
@[simp] theorem to_Conv_intToString (n : Int) : To P Any (Conv.intToString n : Sem Value) := by
  unfold Conv.intToString
  repeat' (first | exact trivial | assumption | (simp; done) | with_reducible refine To.seq ?_ (fun _ => ?_) | with_reducible refine To.forInL (fun _ _ => ?_) _ | with_reducible refine To.forInA (fun _ _ => ?_) _ | with_reducible refine To.forInR (fun _ _ => ?_) _ | with_reducible refine To.foldl (fun _ _ => ?_) _ _ | with_reducible refine To.mapA (fun _ => ?_) _ | split | with_reducible intro _ | dsimp only | (refine To.seq ?_ (fun _ => ?_)))
@[simp] theorem to_Conv_runesToString (x : Value) : To P Any (Conv.runesToString x : Sem Value) := by
  unfold Conv.runesToString
  repeat' (first | exact trivial | assumption | (simp; done) | with_reducible refine To.seq ?_ (fun _ => ?_) | with_reducible refine To.forInL (fun _ _ => ?_) _ | with_reducible refine To.forInA (fun _ _ => ?_) _ | with_reducible refine To.forInR (fun _ _ => ?_) _ | with_reducible refine To.foldl (fun _ _ => ?_) _ _ | with_reducible refine To.mapA (fun _ => ?_) _ | split | with_reducible intro _ | dsimp only | (refine To.seq ?_ (fun _ => ?_)))
@[simp] theorem to_Conv_stringToBytes (elem : TypeId) (s : ByteArray) : To P Any (Conv.stringToBytes elem s : Sem Value) := by
  unfold Conv.stringToBytes
  repeat' (first | exact trivial | assumption | (simp; done) | with_reducible refine To.seq ?_ (fun _ => ?_) | with_reducible refine To.forInL (fun _ _ => ?_) _ | with_reducible refine To.forInA (fun _ _ => ?_) _ | with_reducible refine To.forInR (fun _ _ => ?_) _ | with_reducible refine To.foldl (fun _ _ => ?_) _ _ | with_reducible refine To.mapA (fun _ => ?_) _ | split | with_reducible intro _ | dsimp only | (refine To.seq ?_ (fun _ => ?_)))
@[simp] theorem to_Conv_stringToRunes (elem : TypeId) (s : ByteArray) : To P Any (Conv.stringToRunes elem s : Sem Value) := by
  unfold Conv.stringToRunes
  repeat' (first | exact trivial | assumption | (simp; done) | with_reducible refine To.seq ?_ (fun _ => ?_) | with_reducible refine To.forInL (fun _ _ => ?_) _ | with_reducible refine To.forInA (fun _ _ => ?_) _ | with_reducible refine To.forInR (fun _ _ => ?_) _ | with_reducible refine To.foldl (fun _ _ => ?_) _ _ | with_reducible refine To.mapA (fun _ => ?_) _ | split | with_reducible intro _ | dsimp only | (refine To.seq ?_ (fun _ => ?_)))
@[simp] theorem to_Conv_seenAt (a : Addr) : To P Any (Conv.seenAt a : Sem Addr) := by
  unfold Conv.seenAt
  repeat' (first | exact trivial | assumption | (simp; done) | with_reducible refine To.seq ?_ (fun _ => ?_) | with_reducible refine To.forInL (fun _ _ => ?_) _ | with_reducible refine To.forInA (fun _ _ => ?_) _ | with_reducible refine To.forInR (fun _ _ => ?_) _ | with_reducible refine To.foldl (fun _ _ => ?_) _ _ | with_reducible refine To.mapA (fun _ => ?_) _ | split | with_reducible intro _ | dsimp only | (refine To.seq ?_ (fun _ => ?_)))
@[simp] theorem to_Instr_waits (g : Nat) : To P Any (Instr.waits g : Sem Value) := by
  unfold Instr.waits
  repeat' (first | exact trivial | assumption | (simp; done) | with_reducible refine To.seq ?_ (fun _ => ?_) | with_reducible refine To.forInL (fun _ _ => ?_) _ | with_reducible refine To.forInA (fun _ _ => ?_) _ | with_reducible refine To.forInR (fun _ _ => ?_) _ | with_reducible refine To.foldl (fun _ _ => ?_) _ _ | with_reducible refine To.mapA (fun _ => ?_) _ | split | with_reducible intro _ | dsimp only | (refine To.seq ?_ (fun _ => ?_)))
@[simp] theorem to_Conv_unsafePointer (src dst : TypeId) (x : Value) : To P Any (Conv.unsafePointer src dst x : Sem Value) := by
  unfold Conv.unsafePointer
  repeat' (first | exact trivial | assumption | (simp; done) | with_reducible refine To.seq ?_ (fun _ => ?_) | with_reducible refine To.forInL (fun _ _ => ?_) _ | with_reducible refine To.forInA (fun _ _ => ?_) _ | with_reducible refine To.forInR (fun _ _ => ?_) _ | with_reducible refine To.foldl (fun _ _ => ?_) _ _ | with_reducible refine To.mapA (fun _ => ?_) _ | split | with_reducible intro _ | dsimp only | (refine To.seq ?_ (fun _ => ?_)))
@[simp] theorem to_Instr_sureAddr (a0 : Value) : To P Any (Instr.sureAddr a0 : Sem Addr) := by
  unfold Instr.sureAddr
  repeat' (first | exact trivial | assumption | (simp; done) | with_reducible refine To.seq ?_ (fun _ => ?_) | with_reducible refine To.forInL (fun _ _ => ?_) _ | with_reducible refine To.forInA (fun _ _ => ?_) _ | with_reducible refine To.forInR (fun _ _ => ?_) _ | with_reducible refine To.foldl (fun _ _ => ?_) _ _ | with_reducible refine To.mapA (fun _ => ?_) _ | split | with_reducible intro _ | dsimp only | (refine To.seq ?_ (fun _ => ?_)))
@[simp] theorem to_Instr_loadAt (t : TypeId) (addr : Value) : To P Any (Instr.loadAt t addr : Sem Value) := by
  unfold Instr.loadAt
  repeat' (first | exact trivial | assumption | (simp; done) | with_reducible refine To.seq ?_ (fun _ => ?_) | with_reducible refine To.forInL (fun _ _ => ?_) _ | with_reducible refine To.forInA (fun _ _ => ?_) _ | with_reducible refine To.forInR (fun _ _ => ?_) _ | with_reducible refine To.foldl (fun _ _ => ?_) _ _ | with_reducible refine To.mapA (fun _ => ?_) _ | split | with_reducible intro _ | dsimp only | (refine To.seq ?_ (fun _ => ?_)))
@[simp] theorem to_Instr_storeAt (t : TypeId) (addr val : Value) : To P Any (Instr.storeAt t addr val : Sem Unit) := by
  unfold Instr.storeAt
  repeat' (first | exact trivial | assumption | (simp; done) | with_reducible refine To.seq ?_ (fun _ => ?_) | with_reducible refine To.forInL (fun _ _ => ?_) _ | with_reducible refine To.forInA (fun _ _ => ?_) _ | with_reducible refine To.forInR (fun _ _ => ?_) _ | with_reducible refine To.foldl (fun _ _ => ?_) _ _ | with_reducible refine To.mapA (fun _ => ?_) _ | split | with_reducible intro _ | dsimp only | (refine To.seq ?_ (fun _ => ?_)))
@[simp] theorem to_Instr_field (xType : TypeId) (x : Value) (field : Nat) : To P Any (Instr.field xType x field : Sem Value) := by
  unfold Instr.field
  repeat' (first | exact trivial | assumption | (simp; done) | with_reducible refine To.seq ?_ (fun _ => ?_) | with_reducible refine To.forInL (fun _ _ => ?_) _ | with_reducible refine To.forInA (fun _ _ => ?_) _ | with_reducible refine To.forInR (fun _ _ => ?_) _ | with_reducible refine To.foldl (fun _ _ => ?_) _ _ | with_reducible refine To.mapA (fun _ => ?_) _ | split | with_reducible intro _ | dsimp only | (refine To.seq ?_ (fun _ => ?_)))
@[simp] theorem to_Instr_fieldAt (s : TypeId) (addr : Value) (field : Nat) : To P Any (Instr.fieldAt s addr field : Sem Value) := by
  unfold Instr.fieldAt
  repeat' (first | exact trivial | assumption | (simp; done) | with_reducible refine To.seq ?_ (fun _ => ?_) | with_reducible refine To.forInL (fun _ _ => ?_) _ | with_reducible refine To.forInA (fun _ _ => ?_) _ | with_reducible refine To.forInR (fun _ _ => ?_) _ | with_reducible refine To.foldl (fun _ _ => ?_) _ _ | with_reducible refine To.mapA (fun _ => ?_) _ | split | with_reducible intro _ | dsimp only | (refine To.seq ?_ (fun _ => ?_)))
@[simp] theorem to_Instr_index (xType : TypeId) (x index : Value) : To P Any (Instr.index xType x index : Sem Value) := by
  unfold Instr.index
  repeat' (first | exact trivial | assumption | (simp; done) | with_reducible refine To.seq ?_ (fun _ => ?_) | with_reducible refine To.forInL (fun _ _ => ?_) _ | with_reducible refine To.forInA (fun _ _ => ?_) _ | with_reducible refine To.forInR (fun _ _ => ?_) _ | with_reducible refine To.foldl (fun _ _ => ?_) _ _ | with_reducible refine To.mapA (fun _ => ?_) _ | split | with_reducible intro _ | dsimp only | (refine To.seq ?_ (fun _ => ?_)))
@[simp] theorem to_Instr_range (xType : TypeId) (x : Value) : To P Any (Instr.range xType x : Sem Value) := by
  unfold Instr.range
  repeat' (first | exact trivial | assumption | (simp; done) | with_reducible refine To.seq ?_ (fun _ => ?_) | with_reducible refine To.forInL (fun _ _ => ?_) _ | with_reducible refine To.forInA (fun _ _ => ?_) _ | with_reducible refine To.forInR (fun _ _ => ?_) _ | with_reducible refine To.foldl (fun _ _ => ?_) _ _ | with_reducible refine To.mapA (fun _ => ?_) _ | split | with_reducible intro _ | dsimp only | (refine To.seq ?_ (fun _ => ?_)))
@[simp] theorem to_Instr_indexAt (t : TypeId) (x index : Value) : To P Any (Instr.indexAt t x index : Sem Value) := by
  unfold Instr.indexAt
  repeat' (first | exact trivial | assumption | (simp; done) | with_reducible refine To.seq ?_ (fun _ => ?_) | with_reducible refine To.forInL (fun _ _ => ?_) _ | with_reducible refine To.forInA (fun _ _ => ?_) _ | with_reducible refine To.forInR (fun _ _ => ?_) _ | with_reducible refine To.foldl (fun _ _ => ?_) _ _ | with_reducible refine To.mapA (fun _ => ?_) _ | split | with_reducible intro _ | dsimp only | (refine To.seq ?_ (fun _ => ?_)))
@[simp] theorem to_Instr_sliceAt (t : TypeId) (x : Value) (low high max : Option Value) : To P Any (Instr.sliceAt t x low high max : Sem Value) := by
  unfold Instr.sliceAt
  repeat' (first | exact trivial | assumption | (simp; done) | with_reducible refine To.seq ?_ (fun _ => ?_) | with_reducible refine To.forInL (fun _ _ => ?_) _ | with_reducible refine To.forInA (fun _ _ => ?_) _ | with_reducible refine To.forInR (fun _ _ => ?_) _ | with_reducible refine To.foldl (fun _ _ => ?_) _ _ | with_reducible refine To.mapA (fun _ => ?_) _ | split | with_reducible intro _ | dsimp only | (refine To.seq ?_ (fun _ => ?_)))
@[simp] theorem to_Instr_arrayAt (arr : TypeId) (x : Value) : To P Any (Instr.arrayAt arr x : Sem Value) := by
  unfold Instr.arrayAt
  repeat' (first | exact trivial | assumption | (simp; done) | with_reducible refine To.seq ?_ (fun _ => ?_) | with_reducible refine To.forInL (fun _ _ => ?_) _ | with_reducible refine To.forInA (fun _ _ => ?_) _ | with_reducible refine To.forInR (fun _ _ => ?_) _ | with_reducible refine To.foldl (fun _ _ => ?_) _ _ | with_reducible refine To.mapA (fun _ => ?_) _ | split | with_reducible intro _ | dsimp only | (refine To.seq ?_ (fun _ => ?_)))
@[simp] theorem to_Instr_alloc (elem : TypeId) (heap : Bool) (old : Value) : To P Any (Instr.alloc elem heap old : Sem Value) := by
  unfold Instr.alloc
  repeat' (first | exact trivial | assumption | (simp; done) | with_reducible refine To.seq ?_ (fun _ => ?_) | with_reducible refine To.forInL (fun _ _ => ?_) _ | with_reducible refine To.forInA (fun _ _ => ?_) _ | with_reducible refine To.forInR (fun _ _ => ?_) _ | with_reducible refine To.foldl (fun _ _ => ?_) _ _ | with_reducible refine To.mapA (fun _ => ?_) _ | split | with_reducible intro _ | dsimp only | (refine To.seq ?_ (fun _ => ?_)))
@[simp] theorem to_Instr_box (elem : TypeId) (v : Value) : To P Any (Instr.box elem v : Sem Value) := by
  unfold Instr.box
  repeat' (first | exact trivial | assumption | (simp; done) | with_reducible refine To.seq ?_ (fun _ => ?_) | with_reducible refine To.forInL (fun _ _ => ?_) _ | with_reducible refine To.forInA (fun _ _ => ?_) _ | with_reducible refine To.forInR (fun _ _ => ?_) _ | with_reducible refine To.foldl (fun _ _ => ?_) _ _ | with_reducible refine To.mapA (fun _ => ?_) _ | split | with_reducible intro _ | dsimp only | (refine To.seq ?_ (fun _ => ?_)))
@[simp] theorem to_Instr_build (t : TypeId) (parts : Array (Nat × Value)) : To P Any (Instr.build t parts : Sem Value) := by
  unfold Instr.build
  repeat' (first | exact trivial | assumption | (simp; done) | with_reducible refine To.seq ?_ (fun _ => ?_) | with_reducible refine To.forInL (fun _ _ => ?_) _ | with_reducible refine To.forInA (fun _ _ => ?_) _ | with_reducible refine To.forInR (fun _ _ => ?_) _ | with_reducible refine To.foldl (fun _ _ => ?_) _ _ | with_reducible refine To.mapA (fun _ => ?_) _ | split | with_reducible intro _ | dsimp only | (refine To.seq ?_ (fun _ => ?_)))
@[simp] theorem to_Instr_buildSlice (t : TypeId) (len : Nat) (parts : Array (Nat × Value)) : To P Any (Instr.buildSlice t len parts : Sem Value) := by
  unfold Instr.buildSlice
  repeat' (first | exact trivial | assumption | (simp; done) | with_reducible refine To.seq ?_ (fun _ => ?_) | with_reducible refine To.forInL (fun _ _ => ?_) _ | with_reducible refine To.forInA (fun _ _ => ?_) _ | with_reducible refine To.forInR (fun _ _ => ?_) _ | with_reducible refine To.foldl (fun _ _ => ?_) _ _ | with_reducible refine To.mapA (fun _ => ?_) _ | split | with_reducible intro _ | dsimp only | (refine To.seq ?_ (fun _ => ?_)))
@[simp] theorem to_Instr_entry (iter : Value) : To P Any (Instr.entry iter : Sem Value) := by
  unfold Instr.entry
  repeat' (first | exact trivial | assumption | (simp; done) | with_reducible refine To.seq ?_ (fun _ => ?_) | with_reducible refine To.forInL (fun _ _ => ?_) _ | with_reducible refine To.forInA (fun _ _ => ?_) _ | with_reducible refine To.forInR (fun _ _ => ?_) _ | with_reducible refine To.foldl (fun _ _ => ?_) _ _ | with_reducible refine To.mapA (fun _ => ?_) _ | split | with_reducible intro _ | dsimp only | (refine To.seq ?_ (fun _ => ?_)))
@[simp] theorem to_Instr_extract (tuple : Value) (index : Nat) : To P Any (Instr.extract tuple index : Sem Value) := by
  unfold Instr.extract
  repeat' (first | exact trivial | assumption | (simp; done) | with_reducible refine To.seq ?_ (fun _ => ?_) | with_reducible refine To.forInL (fun _ _ => ?_) _ | with_reducible refine To.forInA (fun _ _ => ?_) _ | with_reducible refine To.forInR (fun _ _ => ?_) _ | with_reducible refine To.foldl (fun _ _ => ?_) _ _ | with_reducible refine To.mapA (fun _ => ?_) _ | split | with_reducible intro _ | dsimp only | (refine To.seq ?_ (fun _ => ?_)))
@[simp] theorem to_Instr_checkKey (empty : Bool) (a0 : Nat) : ∀ (a1 : TypeId) (a2 : Value), To P Any (Instr.checkKey empty a0 a1 a2 : Sem Unit) := by
  induction a0 with
  | zero =>
    intro a1 a2
    unfold Instr.checkKey
    repeat' (first | exact trivial | assumption | (simp; done) | with_reducible refine To.seq ?_ (fun _ => ?_) | with_reducible refine To.forInL (fun _ _ => ?_) _ | with_reducible refine To.forInA (fun _ _ => ?_) _ | with_reducible refine To.forInR (fun _ _ => ?_) _ | with_reducible refine To.foldl (fun _ _ => ?_) _ _ | with_reducible refine To.mapA (fun _ => ?_) _ | split | with_reducible intro _ | dsimp only | (refine To.seq ?_ (fun _ => ?_)))
  | succ n ih =>
    intro a1 a2
    unfold Instr.checkKey
    repeat' (first | with_reducible apply ih | exact trivial | assumption | (simp; done) | with_reducible refine To.seq ?_ (fun _ => ?_) | with_reducible refine To.forInL (fun _ _ => ?_) _ | with_reducible refine To.forInA (fun _ _ => ?_) _ | with_reducible refine To.forInR (fun _ _ => ?_) _ | with_reducible refine To.foldl (fun _ _ => ?_) _ _ | with_reducible refine To.mapA (fun _ => ?_) _ | split | with_reducible intro _ | dsimp only | (refine To.seq ?_ (fun _ => ?_)))
@[simp] theorem to_findAsking (keyType : TypeId) (k : Value) (es : List MapEntry) : ∀ i, To P Any (Instr.findAsking keyType k es i) := by
  induction es with
  | nil => exact fun i => trivial
  | cons e es ih =>
    intro i
    refine To.seq (to_Op_equal _ _ _) fun b => ?_
    split
    · trivial
    · exact ih _
@[simp] theorem to_Instr_findKey (keyType : TypeId) (k : Value) (es : List MapEntry) : To P Any (Instr.findKey keyType k es) := by
  unfold Instr.findKey
  refine To.seq (to_underlying _) fun d => ?_
  split
  · trivial
  · exact to_findAsking _ _ _ _
@[simp] theorem to_Instr_lookup (xType : TypeId) (x index : Value) (commaOk : Bool) : To P Any (Instr.lookup xType x index commaOk : Sem Value) := by
  unfold Instr.lookup
  repeat' (first | exact trivial | assumption | (simp; done) | with_reducible refine To.seq ?_ (fun _ => ?_) | with_reducible refine To.forInL (fun _ _ => ?_) _ | with_reducible refine To.forInA (fun _ _ => ?_) _ | with_reducible refine To.forInR (fun _ _ => ?_) _ | with_reducible refine To.foldl (fun _ _ => ?_) _ _ | with_reducible refine To.mapA (fun _ => ?_) _ | split | with_reducible intro _ | dsimp only | (refine To.seq ?_ (fun _ => ?_)))
@[simp] theorem to_Instr_makeChan (t : TypeId) (size : Value) : To P Any (Instr.makeChan t size : Sem Value) := by
  unfold Instr.makeChan
  repeat' (first | exact trivial | assumption | (simp; done) | with_reducible refine To.seq ?_ (fun _ => ?_) | with_reducible refine To.forInL (fun _ _ => ?_) _ | with_reducible refine To.forInA (fun _ _ => ?_) _ | with_reducible refine To.forInR (fun _ _ => ?_) _ | with_reducible refine To.foldl (fun _ _ => ?_) _ _ | with_reducible refine To.mapA (fun _ => ?_) _ | split | with_reducible intro _ | dsimp only | (refine To.seq ?_ (fun _ => ?_)))
@[simp] theorem to_Instr_makeFunc (fn : Fn) (first captured : Array Value) : To P Any (Instr.makeFunc fn first captured : Sem Value) := by
  unfold Instr.makeFunc
  repeat' (first | exact trivial | assumption | (simp; done) | with_reducible refine To.seq ?_ (fun _ => ?_) | with_reducible refine To.forInL (fun _ _ => ?_) _ | with_reducible refine To.forInA (fun _ _ => ?_) _ | with_reducible refine To.forInR (fun _ _ => ?_) _ | with_reducible refine To.foldl (fun _ _ => ?_) _ _ | with_reducible refine To.mapA (fun _ => ?_) _ | split | with_reducible intro _ | dsimp only | (refine To.seq ?_ (fun _ => ?_)))
@[simp] theorem to_Instr_makeInterface (xType : TypeId) (x : Value) : To P Any (Instr.makeInterface xType x : Sem Value) := by
  unfold Instr.makeInterface
  repeat' (first | exact trivial | assumption | (simp; done) | with_reducible refine To.seq ?_ (fun _ => ?_) | with_reducible refine To.forInL (fun _ _ => ?_) _ | with_reducible refine To.forInA (fun _ _ => ?_) _ | with_reducible refine To.forInR (fun _ _ => ?_) _ | with_reducible refine To.foldl (fun _ _ => ?_) _ _ | with_reducible refine To.mapA (fun _ => ?_) _ | split | with_reducible intro _ | dsimp only | (refine To.seq ?_ (fun _ => ?_)))
@[simp] theorem to_Instr_makeMap (t : TypeId) (reserve : Option Value) : To P Any (Instr.makeMap t reserve : Sem Value) := by
  unfold Instr.makeMap
  repeat' (first | exact trivial | assumption | (simp; done) | with_reducible refine To.seq ?_ (fun _ => ?_) | with_reducible refine To.forInL (fun _ _ => ?_) _ | with_reducible refine To.forInA (fun _ _ => ?_) _ | with_reducible refine To.forInR (fun _ _ => ?_) _ | with_reducible refine To.foldl (fun _ _ => ?_) _ _ | with_reducible refine To.mapA (fun _ => ?_) _ | split | with_reducible intro _ | dsimp only | (refine To.seq ?_ (fun _ => ?_)))
@[simp] theorem to_Instr_makeSlice (t : TypeId) (len cap : Value) : To P Any (Instr.makeSlice t len cap : Sem Value) := by
  unfold Instr.makeSlice
  repeat' (first | exact trivial | assumption | (simp; done) | with_reducible refine To.seq ?_ (fun _ => ?_) | with_reducible refine To.forInL (fun _ _ => ?_) _ | with_reducible refine To.forInA (fun _ _ => ?_) _ | with_reducible refine To.forInR (fun _ _ => ?_) _ | with_reducible refine To.foldl (fun _ _ => ?_) _ _ | with_reducible refine To.mapA (fun _ => ?_) _ | split | with_reducible intro _ | dsimp only | (refine To.seq ?_ (fun _ => ?_)))
@[simp] theorem to_Instr_keyThatStays (old new : Value) : To P Any (Instr.keyThatStays old new : Sem Value) := by
  unfold Instr.keyThatStays
  repeat' (first | exact trivial | assumption | (simp; done) | with_reducible refine To.seq ?_ (fun _ => ?_) | with_reducible refine To.forInL (fun _ _ => ?_) _ | with_reducible refine To.forInA (fun _ _ => ?_) _ | with_reducible refine To.forInR (fun _ _ => ?_) _ | with_reducible refine To.foldl (fun _ _ => ?_) _ _ | with_reducible refine To.mapA (fun _ => ?_) _ | split | with_reducible intro _ | dsimp only | (refine To.seq ?_ (fun _ => ?_)))
@[simp] theorem to_Instr_mapEntry (mapType : TypeId) (map key : Value) : To P Any (Instr.mapEntry mapType map key : Sem Value) := by
  unfold Instr.mapEntry
  repeat' (first | exact trivial | assumption | (simp; done) | with_reducible refine To.seq ?_ (fun _ => ?_) | with_reducible refine To.forInL (fun _ _ => ?_) _ | with_reducible refine To.forInA (fun _ _ => ?_) _ | with_reducible refine To.forInR (fun _ _ => ?_) _ | with_reducible refine To.foldl (fun _ _ => ?_) _ _ | with_reducible refine To.mapA (fun _ => ?_) _ | split | with_reducible intro _ | dsimp only | (refine To.seq ?_ (fun _ => ?_)))
@[simp] theorem to_Instr_entryStore (_mapType : TypeId) (map stamp value : Value) : To P Any (Instr.entryStore _mapType map stamp value : Sem Unit) := by
  unfold Instr.entryStore
  repeat' (first | exact trivial | assumption | (simp; done) | with_reducible refine To.seq ?_ (fun _ => ?_) | with_reducible refine To.forInL (fun _ _ => ?_) _ | with_reducible refine To.forInA (fun _ _ => ?_) _ | with_reducible refine To.forInR (fun _ _ => ?_) _ | with_reducible refine To.foldl (fun _ _ => ?_) _ _ | with_reducible refine To.mapA (fun _ => ?_) _ | split | with_reducible intro _ | dsimp only | (refine To.seq ?_ (fun _ => ?_)))
@[simp] theorem to_Instr_mapUpdate (mapType : TypeId) (map key value : Value) : To P Any (Instr.mapUpdate mapType map key value : Sem Unit) := by
  unfold Instr.mapUpdate
  repeat' (first | exact trivial | assumption | (simp; done) | with_reducible refine To.seq ?_ (fun _ => ?_) | with_reducible refine To.forInL (fun _ _ => ?_) _ | with_reducible refine To.forInA (fun _ _ => ?_) _ | with_reducible refine To.forInR (fun _ _ => ?_) _ | with_reducible refine To.foldl (fun _ _ => ?_) _ _ | with_reducible refine To.mapA (fun _ => ?_) _ | split | with_reducible intro _ | dsimp only | (refine To.seq ?_ (fun _ => ?_)))
@[simp] theorem to_sysEnv : To P Any (sys Sys.env) := ⟨rfl, fun _ => trivial⟩
@[simp] theorem to_Instr_panicnil : To P Any Instr.panicnil := by
  unfold Instr.panicnil
  refine To.seq to_sysEnv fun r => ?_
  split
  · refine To.seq to_program_any fun _ => trivial
  · trivial
@[simp] theorem to_Instr_panic (x : Value) : To P Any (Instr.panic x : Sem Value) := by
  unfold Instr.panic
  repeat' (first | exact trivial | assumption | (simp; done) | with_reducible refine To.seq ?_ (fun _ => ?_) | with_reducible refine To.forInL (fun _ _ => ?_) _ | with_reducible refine To.forInA (fun _ _ => ?_) _ | with_reducible refine To.forInR (fun _ _ => ?_) _ | with_reducible refine To.foldl (fun _ _ => ?_) _ _ | with_reducible refine To.mapA (fun _ => ?_) _ | split | with_reducible intro _ | dsimp only | (refine To.seq ?_ (fun _ => ?_)))
@[simp] theorem to_Builtin_holdsCells (a : Addr) (cells : Nat) : To P Any (Builtin.holdsCells a cells : Sem Bool) := by
  unfold Builtin.holdsCells
  repeat' (first | exact trivial | assumption | (simp; done) | with_reducible refine To.seq ?_ (fun _ => ?_) | with_reducible refine To.forInL (fun _ _ => ?_) _ | with_reducible refine To.forInA (fun _ _ => ?_) _ | with_reducible refine To.forInR (fun _ _ => ?_) _ | with_reducible refine To.foldl (fun _ _ => ?_) _ _ | with_reducible refine To.mapA (fun _ => ?_) _ | split | with_reducible intro _ | dsimp only | (refine To.seq ?_ (fun _ => ?_)))
@[simp] theorem to_Builtin_mayShare (size sLen n : Nat) (base : Option Addr) (x : Value) : To P Any (Builtin.mayShare size sLen n base x : Sem Bool) := by
  unfold Builtin.mayShare
  repeat' (first | exact trivial | assumption | (simp; done) | with_reducible refine To.seq ?_ (fun _ => ?_) | with_reducible refine To.forInL (fun _ _ => ?_) _ | with_reducible refine To.forInA (fun _ _ => ?_) _ | with_reducible refine To.forInR (fun _ _ => ?_) _ | with_reducible refine To.foldl (fun _ _ => ?_) _ _ | with_reducible refine To.mapA (fun _ => ?_) _ | split | with_reducible intro _ | dsimp only | (refine To.seq ?_ (fun _ => ?_)))
@[simp] theorem to_Builtin_lenOf (a0 : Value) : To P Any (Builtin.lenOf a0 : Sem Nat) := by
  unfold Builtin.lenOf
  repeat' (first | exact trivial | assumption | (simp; done) | with_reducible refine To.seq ?_ (fun _ => ?_) | with_reducible refine To.forInL (fun _ _ => ?_) _ | with_reducible refine To.forInA (fun _ _ => ?_) _ | with_reducible refine To.forInR (fun _ _ => ?_) _ | with_reducible refine To.foldl (fun _ _ => ?_) _ _ | with_reducible refine To.mapA (fun _ => ?_) _ | split | with_reducible intro _ | dsimp only | (refine To.seq ?_ (fun _ => ?_)))
@[simp] theorem to_Builtin_firstCells (size n : Nat) (a0 : Value) : To P Any (Builtin.firstCells size n a0 : Sem (Array Value)) := by
  unfold Builtin.firstCells
  repeat' (first | exact trivial | assumption | (simp; done) | with_reducible refine To.seq ?_ (fun _ => ?_) | with_reducible refine To.forInL (fun _ _ => ?_) _ | with_reducible refine To.forInA (fun _ _ => ?_) _ | with_reducible refine To.forInR (fun _ _ => ?_) _ | with_reducible refine To.foldl (fun _ _ => ?_) _ _ | with_reducible refine To.mapA (fun _ => ?_) _ | split | with_reducible intro _ | dsimp only | (refine To.seq ?_ (fun _ => ?_)))
theorem To.cut {A B : Prop} (ha : A) (hb : A → B) : B := hb ha
@[simp] theorem to_Builtin_append_ (argTypes : Array TypeId) (_type : TypeId) (args : Array Value) : To P Any (Builtin.append_ argTypes _type args : Sem Value) := by
  unfold Builtin.append_
  split
  rotate_left
  · exact to_stuck _
  refine To.seq (to_underlying _) fun d => ?_
  split
  rotate_left
  · exact to_stuck _
  split
  rotate_left
  · exact to_stuck _
  refine To.seq (to_sizeOf _) fun size => ?_
  extract_lets -underBinder jp1
  have h1 : ∀ y, To P Any (jp1 y) := by
    intro zeros
    show To P Any (jp1 zeros)
    unfold jp1
    extract_lets -underBinder jp2
    have h2 : ∀ y, To P Any (jp2 y) := by
      intro n
      unfold jp2
      extract_lets -underBinder appended need
      have ha : To P Any appended := by
        unfold appended
        refine To.ite' (to_Builtin_firstCells _ _ _) (To.ite' To.any (To.seq (to_zeroValue _) fun _ => To.any))
      clear_value appended need
      refine To.ite' ?_ ?_
      · refine To.seq ha fun new => ?_
        extract_lets -underBinder jp
        split
        · exact To.seq (to_storeCells _ _ _) fun _ => To.any
        · exact To.any
      · refine To.seq (to_typeInfo _) fun ti => ?_
        extract_lets -underBinder jp3
        have h3 : ∀ y, To P Any (jp3 y) := by
          intro _
          unfold jp3
          refine To.seq (to_typeInfo _) fun ti => ?_
          extract_lets -underBinder jp4
          have h4 : ∀ y, To P Any (jp4 y) := by
            intro _
            unfold jp4
            refine To.seq (to_choose _) fun nc => ?_
            refine To.seq (to_typeInfo _) fun ti => ?_
            refine To.seq (to_askRoom _) fun _ => ?_
            refine To.seq (to_Builtin_firstCells _ _ _) fun _ => ?_
            refine To.seq ha fun _ => ?_
            refine To.seq (to_zeroValue _) fun _ => ?_
            exact To.seq (to_newRow _ _) fun _ => To.any
          clear_value jp4
          refine To.ite' ?_ (h4 _)
          refine To.seq ?_ fun _ => h4 _
          refine To.ite' (by simp) ?_
          refine To.seq (to_Builtin_mayShare _ _ _ _ _) fun b => ?_
          extract_lets -underBinder jp5
          exact To.ite' (To.seq ⟨.inl rfl, trivial⟩ fun _ => to_unsupported _) (to_unsupported _)
        clear_value jp3
        exact To.ite' (To.seq (by simp) fun _ => h3 _) (h3 _)
    clear_value jp2
    refine To.ite' ?_ (To.seq (to_Builtin_lenOf _) fun _ => h2 _)
    refine To.seq (to_asInt _) fun l => ?_
    extract_lets -underBinder l' jp6
    have h6 : ∀ y, To P Any (jp6 y) := by
      intro _
      unfold jp6
      refine To.seq (to_typeInfo _) fun ti => ?_
      extract_lets -underBinder jp7
      have h7 : ∀ y, To P Any (jp7 y) := fun _ => To.seq To.any fun _ => h2 _
      clear_value jp7
      exact To.ite' (To.seq (to_choose _) fun _ => To.seq (by simp) fun _ => h7 _) (h7 _)
    clear_value jp6
    exact To.ite' (To.seq (by simp) fun _ => h6 _) (h6 _)
  clear_value jp1
  split
  · exact To.seq (to_underlying _) fun _ => To.seq To.any fun _ => h1 _
  · exact To.seq To.any fun _ => h1 _
@[simp] theorem to_Builtin_cap_ (argTypes : Array TypeId) (_type : TypeId) (args : Array Value) : To P Any (Builtin.cap_ argTypes _type args : Sem Value) := by
  unfold Builtin.cap_
  repeat' (first | exact trivial | assumption | (simp; done) | with_reducible refine To.seq ?_ (fun _ => ?_) | with_reducible refine To.forInL (fun _ _ => ?_) _ | with_reducible refine To.forInA (fun _ _ => ?_) _ | with_reducible refine To.forInR (fun _ _ => ?_) _ | with_reducible refine To.foldl (fun _ _ => ?_) _ _ | with_reducible refine To.mapA (fun _ => ?_) _ | split | with_reducible intro _ | dsimp only | (refine To.seq ?_ (fun _ => ?_)))
@[simp] theorem to_Builtin_clear_ (argTypes : Array TypeId) (_type : TypeId) (args : Array Value) : To P Any (Builtin.clear_ argTypes _type args : Sem Value) := by
  unfold Builtin.clear_
  repeat' (first | exact trivial | assumption | (simp; done) | with_reducible refine To.seq ?_ (fun _ => ?_) | with_reducible refine To.forInL (fun _ _ => ?_) _ | with_reducible refine To.forInA (fun _ _ => ?_) _ | with_reducible refine To.forInR (fun _ _ => ?_) _ | with_reducible refine To.foldl (fun _ _ => ?_) _ _ | with_reducible refine To.mapA (fun _ => ?_) _ | split | with_reducible intro _ | dsimp only | (refine To.seq ?_ (fun _ => ?_)))
@[simp] theorem to_Builtin_close_ (_argTypes : Array TypeId) (_type : TypeId) (args : Array Value) : To P Any (Builtin.close_ _argTypes _type args) := by
  unfold Builtin.close_
  obtain ⟨l, rfl⟩ : ∃ l : List Value, args = l.toArray := ⟨args.toList, by simp⟩
  rcases l with _ | ⟨a, _ | ⟨b, _ | ⟨c, l⟩⟩⟩
  all_goals (try cases a)
  all_goals (first | (simp; done) | (rename_i r; cases r) | skip)
  all_goals repeat' (first | exact trivial | assumption | (simp; done) | with_reducible refine To.seq ?_ (fun _ => ?_) | with_reducible refine To.forInL (fun _ _ => ?_) _ | with_reducible refine To.forInA (fun _ _ => ?_) _ | with_reducible refine To.forInR (fun _ _ => ?_) _ | split | with_reducible intro _ | dsimp only | (refine To.seq ?_ (fun _ => ?_)))
@[simp] theorem to_Builtin_complex_ (_argTypes : Array TypeId) (_type : TypeId) (args : Array Value) : To P Any (Builtin.complex_ _argTypes _type args : Sem Value) := by
  obtain ⟨l, rfl⟩ : ∃ l : List Value, args = l.toArray := ⟨args.toList, by simp⟩
  rcases l with _ | ⟨a, _ | ⟨b, _ | ⟨c, l⟩⟩⟩
  all_goals (try cases a)
  all_goals (try cases b)
  all_goals (first | exact trivial | (refine To.ite' ?_ ?_ <;> exact trivial))
@[simp] theorem to_Builtin_copy_ (argTypes : Array TypeId) (_type : TypeId) (args : Array Value) : To P Any (Builtin.copy_ argTypes _type args : Sem Value) := by
  unfold Builtin.copy_
  repeat' (first | exact trivial | assumption | (simp; done) | with_reducible refine To.seq ?_ (fun _ => ?_) | with_reducible refine To.forInL (fun _ _ => ?_) _ | with_reducible refine To.forInA (fun _ _ => ?_) _ | with_reducible refine To.forInR (fun _ _ => ?_) _ | with_reducible refine To.foldl (fun _ _ => ?_) _ _ | with_reducible refine To.mapA (fun _ => ?_) _ | split | with_reducible intro _ | dsimp only | (refine To.seq ?_ (fun _ => ?_)))
@[simp] theorem to_Builtin_delete_ (argTypes : Array TypeId) (_type : TypeId) (args : Array Value) : To P Any (Builtin.delete_ argTypes _type args : Sem Value) := by
  unfold Builtin.delete_
  repeat' (first | exact trivial | assumption | (simp; done) | with_reducible refine To.seq ?_ (fun _ => ?_) | with_reducible refine To.forInL (fun _ _ => ?_) _ | with_reducible refine To.forInA (fun _ _ => ?_) _ | with_reducible refine To.forInR (fun _ _ => ?_) _ | with_reducible refine To.foldl (fun _ _ => ?_) _ _ | with_reducible refine To.mapA (fun _ => ?_) _ | split | with_reducible intro _ | dsimp only | (refine To.seq ?_ (fun _ => ?_)))
@[simp] theorem to_Builtin_imag_ (_argTypes : Array TypeId) (_type : TypeId) (args : Array Value) : To P Any (Builtin.imag_ _argTypes _type args) := by
  unfold Builtin.imag_
  obtain ⟨l, rfl⟩ : ∃ l : List Value, args = l.toArray := ⟨args.toList, by simp⟩
  rcases l with _ | ⟨a, _ | ⟨b, _ | ⟨c, l⟩⟩⟩
  all_goals (try cases a)
  all_goals (first | (simp; done) | (rename_i r; cases r) | skip)
  all_goals repeat' (first | exact trivial | assumption | (simp; done) | with_reducible refine To.seq ?_ (fun _ => ?_) | with_reducible refine To.forInL (fun _ _ => ?_) _ | with_reducible refine To.forInA (fun _ _ => ?_) _ | with_reducible refine To.forInR (fun _ _ => ?_) _ | split | with_reducible intro _ | dsimp only | (refine To.seq ?_ (fun _ => ?_)))
@[simp] theorem to_Builtin_len_ (argTypes : Array TypeId) (_type : TypeId) (args : Array Value) : To P Any (Builtin.len_ argTypes _type args : Sem Value) := by
  unfold Builtin.len_
  repeat' (first | exact trivial | assumption | (simp; done) | with_reducible refine To.seq ?_ (fun _ => ?_) | with_reducible refine To.forInL (fun _ _ => ?_) _ | with_reducible refine To.forInA (fun _ _ => ?_) _ | with_reducible refine To.forInR (fun _ _ => ?_) _ | with_reducible refine To.foldl (fun _ _ => ?_) _ _ | with_reducible refine To.mapA (fun _ => ?_) _ | split | with_reducible intro _ | dsimp only | (refine To.seq ?_ (fun _ => ?_)))
@[simp] theorem to_Builtin_max2 (a0 : Value) (a1 : Value) : To P Any (Builtin.max2 a0 a1 : Sem Value) := by
  unfold Builtin.max2
  repeat' (first | exact trivial | assumption | (simp; done) | with_reducible refine To.seq ?_ (fun _ => ?_) | with_reducible refine To.forInL (fun _ _ => ?_) _ | with_reducible refine To.forInA (fun _ _ => ?_) _ | with_reducible refine To.forInR (fun _ _ => ?_) _ | with_reducible refine To.foldl (fun _ _ => ?_) _ _ | with_reducible refine To.mapA (fun _ => ?_) _ | split | with_reducible intro _ | dsimp only | (refine To.seq ?_ (fun _ => ?_)))
@[simp] theorem to_Builtin_max_ (_argTypes : Array TypeId) (_type : TypeId) (args : Array Value) : To P Any (Builtin.max_ _argTypes _type args : Sem Value) := by
  unfold Builtin.max_
  repeat' (first | exact trivial | assumption | (simp; done) | with_reducible refine To.seq ?_ (fun _ => ?_) | with_reducible refine To.forInL (fun _ _ => ?_) _ | with_reducible refine To.forInA (fun _ _ => ?_) _ | with_reducible refine To.forInR (fun _ _ => ?_) _ | with_reducible refine To.foldl (fun _ _ => ?_) _ _ | with_reducible refine To.mapA (fun _ => ?_) _ | split | with_reducible intro _ | dsimp only | (refine To.seq ?_ (fun _ => ?_)))
@[simp] theorem to_Builtin_min2 (a0 : Value) (a1 : Value) : To P Any (Builtin.min2 a0 a1 : Sem Value) := by
  unfold Builtin.min2
  repeat' (first | exact trivial | assumption | (simp; done) | with_reducible refine To.seq ?_ (fun _ => ?_) | with_reducible refine To.forInL (fun _ _ => ?_) _ | with_reducible refine To.forInA (fun _ _ => ?_) _ | with_reducible refine To.forInR (fun _ _ => ?_) _ | with_reducible refine To.foldl (fun _ _ => ?_) _ _ | with_reducible refine To.mapA (fun _ => ?_) _ | split | with_reducible intro _ | dsimp only | (refine To.seq ?_ (fun _ => ?_)))
@[simp] theorem to_Builtin_min_ (_argTypes : Array TypeId) (_type : TypeId) (args : Array Value) : To P Any (Builtin.min_ _argTypes _type args : Sem Value) := by
  unfold Builtin.min_
  repeat' (first | exact trivial | assumption | (simp; done) | with_reducible refine To.seq ?_ (fun _ => ?_) | with_reducible refine To.forInL (fun _ _ => ?_) _ | with_reducible refine To.forInA (fun _ _ => ?_) _ | with_reducible refine To.forInR (fun _ _ => ?_) _ | with_reducible refine To.foldl (fun _ _ => ?_) _ _ | with_reducible refine To.mapA (fun _ => ?_) _ | split | with_reducible intro _ | dsimp only | (refine To.seq ?_ (fun _ => ?_)))
@[simp] theorem to_Builtin_real_ (_argTypes : Array TypeId) (_type : TypeId) (args : Array Value) : To P Any (Builtin.real_ _argTypes _type args) := by
  unfold Builtin.real_
  obtain ⟨l, rfl⟩ : ∃ l : List Value, args = l.toArray := ⟨args.toList, by simp⟩
  rcases l with _ | ⟨a, _ | ⟨b, _ | ⟨c, l⟩⟩⟩
  all_goals (try cases a)
  all_goals (first | (simp; done) | (rename_i r; cases r) | skip)
  all_goals repeat' (first | exact trivial | assumption | (simp; done) | with_reducible refine To.seq ?_ (fun _ => ?_) | with_reducible refine To.forInL (fun _ _ => ?_) _ | with_reducible refine To.forInA (fun _ _ => ?_) _ | with_reducible refine To.forInR (fun _ _ => ?_) _ | split | with_reducible intro _ | dsimp only | (refine To.seq ?_ (fun _ => ?_)))
@[simp] theorem to_Builtin_unsafeAdd_ (argTypes : Array TypeId) (_type : TypeId) (args : Array Value) : To P Any (Builtin.unsafeAdd_ argTypes _type args) := by
  unfold Builtin.unsafeAdd_
  obtain ⟨l, rfl⟩ : ∃ l : List Value, args = l.toArray := ⟨args.toList, by simp⟩
  rcases l with _ | ⟨a, _ | ⟨b, _ | ⟨c, l⟩⟩⟩
  all_goals (try cases a)
  all_goals (try (rename_i p; cases p))
  all_goals repeat' (first | exact trivial | assumption | (simp; done) | with_reducible refine To.seq ?_ (fun _ => ?_) | with_reducible refine To.forInL (fun _ _ => ?_) _ | with_reducible refine To.forInA (fun _ _ => ?_) _ | with_reducible refine To.forInR (fun _ _ => ?_) _ | with_reducible refine To.foldl (fun _ _ => ?_) _ _ | with_reducible refine To.mapA (fun _ => ?_) _ | split | with_reducible intro _ | dsimp only | (refine To.seq ?_ (fun _ => ?_)))
@[simp] theorem to_Builtin_unsafeSlice_ (argTypes : Array TypeId) (_type : TypeId) (args : Array Value) : To P Any (Builtin.unsafeSlice_ argTypes _type args) := by
  unfold Builtin.unsafeSlice_
  obtain ⟨l, rfl⟩ : ∃ l : List Value, args = l.toArray := ⟨args.toList, by simp⟩
  rcases l with _ | ⟨a, _ | ⟨b, _ | ⟨c, l⟩⟩⟩
  all_goals (try cases a)
  all_goals (first | exact trivial | skip)
  refine To.seq (to_asInt _) fun n => ?_
  split
  rotate_left
  · exact to_stuck _
  refine To.seq (to_elemOf _) fun e => ?_
  extract_lets -underBinder jp1
  have h1 : ∀ y, To P Any (jp1 y) := by
    intro _
    unfold jp1
    extract_lets -underBinder jp2
    have h2 : ∀ y, To P Any (jp2 y) := by
      intro _
      unfold jp2
      split
      · exact To.ite' To.any (by simp)
      · refine To.seq (to_typeInfo _) fun _ => ?_
        extract_lets -underBinder jp3
        have h3 : ∀ y, To P Any (jp3 y) := by
          intro _
          unfold jp3
          refine To.seq (to_sizeOf _) fun _ => To.seq (to_variablesAt _ _ _) fun _ => ?_
          refine To.ite' To.any ?_
          refine To.seq (to_viewAt _) fun _ => ?_
          split
          · extract_lets -underBinder jp4
            have h4 : ∀ y, To P Any (jp4 y) := by
              intro _
              unfold jp4
              refine To.seq (to_typeInfo _) fun _ => ?_
              extract_lets -underBinder jp5
              have h5 : ∀ y, To P Any (jp5 y) := by
                intro _
                unfold jp5
                refine To.seq to_program_any fun _ => ?_
                split
                · exact To.seq (to_newObj _) fun _ => To.any
                · exact to_unsupported _
              clear_value jp5
              exact To.ite' (To.seq (to_unsupported _) fun _ => h5 _) (h5 _)
            clear_value jp4
            exact To.ite' (To.seq (to_unsupported _) fun _ => h4 _) (h4 _)
          · exact to_unsupported _
        clear_value jp3
        exact To.ite' (To.seq (to_unsupported _) fun _ => h3 _) (h3 _)
    clear_value jp2
    exact To.ite' (To.seq (to_unsupported _) fun _ => h2 _) (h2 _)
  clear_value jp1
  exact To.ite' (To.seq (by simp) fun _ => h1 _) (h1 _)
@[simp] theorem to_Builtin_unsafeSliceData_ (_argTypes : Array TypeId) (_type : TypeId) (args : Array Value) : To P Any (Builtin.unsafeSliceData_ _argTypes _type args : Sem Value) := by
  obtain ⟨l, rfl⟩ : ∃ l : List Value, args = l.toArray := ⟨args.toList, by simp⟩
  rcases l with _ | ⟨a, _ | ⟨b, _ | ⟨c, l⟩⟩⟩
  all_goals (try cases a)
  all_goals (first | exact trivial | (rename_i p _ _; cases p))
  all_goals (first | exact trivial | (refine To.ite' ?_ ?_))
  all_goals repeat' (first | exact trivial | assumption | (simp; done) | with_reducible refine To.seq ?_ (fun _ => ?_) | split | with_reducible intro _ | dsimp only | (refine To.seq ?_ (fun _ => ?_)))
@[simp] theorem to_Builtin_unsafeString_ (argTypes : Array TypeId) (_type : TypeId) (args : Array Value) : To P Any (Builtin.unsafeString_ argTypes _type args) := by
  unfold Builtin.unsafeString_
  obtain ⟨l, rfl⟩ : ∃ l : List Value, args = l.toArray := ⟨args.toList, by simp⟩
  rcases l with _ | ⟨a, _ | ⟨b, _ | ⟨c, l⟩⟩⟩
  all_goals (try cases a)
  all_goals (first | exact trivial | skip)
  refine To.seq (to_asInt _) fun n => ?_
  split
  rotate_left
  · exact to_stuck _
  extract_lets -underBinder jp1
  have h1 : ∀ y, To P Any (jp1 y) := by
    intro _
    unfold jp1
    extract_lets -underBinder jp2
    have h2 : ∀ y, To P Any (jp2 y) := by
      intro _
      unfold jp2
      split
      · exact To.ite' To.any (by simp)
      · refine To.ite' To.any ?_
        refine To.seq (to_elemOf _) fun _ => To.seq (to_variablesAt _ _ _) fun _ => ?_
        exact To.ite' (To.seq (to_loadBytes _ _ _) fun _ => To.seq (to_freeze _ _) fun _ => To.any) (to_unsupported _)
    clear_value jp2
    exact To.ite' (To.seq (to_unsupported _) fun _ => h2 _) (h2 _)
  clear_value jp1
  exact To.ite' (To.seq (by simp) fun _ => h1 _) (h1 _)
@[simp] theorem to_Builtin_unsafeStringData_ (_argTypes : Array TypeId) (_type : TypeId) (args : Array Value) : To P Any (Builtin.unsafeStringData_ _argTypes _type args : Sem Value) := by
  obtain ⟨l, rfl⟩ : ∃ l : List Value, args = l.toArray := ⟨args.toList, by simp⟩
  rcases l with _ | ⟨a, _ | ⟨b, _ | ⟨c, l⟩⟩⟩
  all_goals (try cases a)
  all_goals (first | exact trivial | (refine To.ite' ?_ ?_))
  all_goals repeat' (first | exact trivial | assumption | (simp; done) | with_reducible refine To.seq ?_ (fun _ => ?_) | split | with_reducible intro _ | dsimp only | (refine To.seq ?_ (fun _ => ?_)))
@[simp] theorem to_Builtin_ssaWrapNilChk_ (argTypes : Array TypeId) (_type : TypeId) (args : Array Value) : To P Any (Builtin.ssaWrapNilChk_ argTypes _type args) := by
  unfold Builtin.ssaWrapNilChk_
  obtain ⟨l, rfl⟩ : ∃ l : List Value, args = l.toArray := ⟨args.toList, by simp⟩
  rcases l with _ | ⟨a, _ | ⟨b, _ | ⟨c, _ | ⟨d, l⟩⟩⟩⟩
  all_goals (try cases b)
  all_goals (try cases c)
  all_goals (first | exact trivial | skip)
  cases a with
  | pointer p =>
    cases p with
    | some a => exact To.any
    | none =>
      refine To.seq (to_choose _) fun n => ?_
      extract_lets -underBinder jp1
      have h1 : ∀ y, To P Any (jp1 y) := by
        intro _
        unfold jp1
        split
        rotate_left
        · exact to_stuck _
        refine To.seq (to_underlying _) fun _ => ?_
        split
        rotate_left
        · exact to_stuck _
        refine To.seq (to_typeInfo _) fun _ => ?_
        split
        rotate_left
        · exact to_stuck _
        split
        rotate_left
        · exact to_stuck _
        extract_lets -underBinder b1 b2
        split
        · simp
        · exact to_unsupported _
      clear_value jp1
      exact To.ite' (To.seq (by simp) fun _ => h1 _) (h1 _)
  | _ => exact trivial
@[simp] theorem to_follow  (a0 : List FieldStep) : ∀ (a1 : TypeId) (a2 : Place), To P Any (follow a0 a1 a2 : Sem (TypeId × Place)) := by
  induction a0 with
  | nil =>
    intro a1 a2
    unfold follow
    repeat' (first | exact trivial | assumption | (simp; done) | with_reducible refine To.seq ?_ (fun _ => ?_) | with_reducible refine To.forInL (fun _ _ => ?_) _ | with_reducible refine To.forInA (fun _ _ => ?_) _ | with_reducible refine To.forInR (fun _ _ => ?_) _ | with_reducible refine To.foldl (fun _ _ => ?_) _ _ | with_reducible refine To.mapA (fun _ => ?_) _ | split | with_reducible intro _ | dsimp only | (refine To.seq ?_ (fun _ => ?_)))
  | cons x l ih =>
    intro a1 a2
    unfold follow
    repeat' (first | with_reducible apply ih | exact trivial | assumption | (simp; done) | with_reducible refine To.seq ?_ (fun _ => ?_) | with_reducible refine To.forInL (fun _ _ => ?_) _ | with_reducible refine To.forInA (fun _ _ => ?_) _ | with_reducible refine To.forInR (fun _ _ => ?_) _ | with_reducible refine To.foldl (fun _ _ => ?_) _ _ | with_reducible refine To.mapA (fun _ => ?_) _ | split | with_reducible intro _ | dsimp only | (refine To.seq ?_ (fun _ => ?_)))
@[simp] theorem to_receiverAt (xt : TypeId) (x : Place) (pointerReceiver : Bool) (wrapper : Option String) : To P Any (receiverAt xt x pointerReceiver wrapper : Sem Value) := by
  unfold receiverAt
  repeat' (first | exact trivial | assumption | (simp; done) | with_reducible refine To.seq ?_ (fun _ => ?_) | with_reducible refine To.forInL (fun _ _ => ?_) _ | with_reducible refine To.forInA (fun _ _ => ?_) _ | with_reducible refine To.forInR (fun _ _ => ?_) _ | with_reducible refine To.foldl (fun _ _ => ?_) _ _ | with_reducible refine To.mapA (fun _ => ?_) _ | split | with_reducible intro _ | dsimp only | (refine To.seq ?_ (fun _ => ?_)))
@[simp] theorem to_receiverVia (t : TypeId) (v : Value) (path : Array FieldStep) (pointerReceiver : Bool) : To P Any (receiverVia t v path pointerReceiver : Sem Value) := by
  unfold receiverVia
  repeat' (first | exact trivial | assumption | (simp; done) | with_reducible refine To.seq ?_ (fun _ => ?_) | with_reducible refine To.forInL (fun _ _ => ?_) _ | with_reducible refine To.forInA (fun _ _ => ?_) _ | with_reducible refine To.forInR (fun _ _ => ?_) _ | with_reducible refine To.foldl (fun _ _ => ?_) _ _ | with_reducible refine To.mapA (fun _ => ?_) _ | split | with_reducible intro _ | dsimp only | (refine To.seq ?_ (fun _ => ?_)))
@[simp] theorem to_Instr_getLoop (l : Nat) : To P Any (Instr.getLoop l : Sem Loop) := by
  unfold Instr.getLoop
  repeat' (first | exact trivial | assumption | (simp; done) | with_reducible refine To.seq ?_ (fun _ => ?_) | with_reducible refine To.forInL (fun _ _ => ?_) _ | with_reducible refine To.forInA (fun _ _ => ?_) _ | with_reducible refine To.forInR (fun _ _ => ?_) _ | with_reducible refine To.foldl (fun _ _ => ?_) _ _ | with_reducible refine To.mapA (fun _ => ?_) _ | split | with_reducible intro _ | dsimp only | (refine To.seq ?_ (fun _ => ?_)))
@[simp] theorem to_Instr_yield (l : Nat) (args : Array Value) : To P Any (Instr.yield l args : Sem Next) := by
  unfold Instr.yield
  repeat' (first | exact trivial | assumption | (simp; done) | with_reducible refine To.seq ?_ (fun _ => ?_) | with_reducible refine To.forInL (fun _ _ => ?_) _ | with_reducible refine To.forInA (fun _ _ => ?_) _ | with_reducible refine To.forInR (fun _ _ => ?_) _ | with_reducible refine To.foldl (fun _ _ => ?_) _ _ | with_reducible refine To.mapA (fun _ => ?_) _ | split | with_reducible intro _ | dsimp only | (refine To.seq ?_ (fun _ => ?_)))
@[simp] theorem to_method  (a0 : Nat) : ∀ (a1 : TypeId) (a2 : Value) (a3 : String), To P Any (method a0 a1 a2 a3 : Sem (FuncId × Value)) := by
  induction a0 with
  | zero =>
    intro a1 a2 a3
    unfold method
    repeat' (first | exact trivial | assumption | (simp; done) | with_reducible refine To.seq ?_ (fun _ => ?_) | with_reducible refine To.forInL (fun _ _ => ?_) _ | with_reducible refine To.forInA (fun _ _ => ?_) _ | with_reducible refine To.forInR (fun _ _ => ?_) _ | with_reducible refine To.foldl (fun _ _ => ?_) _ _ | with_reducible refine To.mapA (fun _ => ?_) _ | split | with_reducible intro _ | dsimp only | (refine To.seq ?_ (fun _ => ?_)))
  | succ n ih =>
    intro a1 a2 a3
    unfold method
    repeat' (first | with_reducible apply ih | exact trivial | assumption | (simp; done) | with_reducible refine To.seq ?_ (fun _ => ?_) | with_reducible refine To.forInL (fun _ _ => ?_) _ | with_reducible refine To.forInA (fun _ _ => ?_) _ | with_reducible refine To.forInR (fun _ _ => ?_) _ | with_reducible refine To.foldl (fun _ _ => ?_) _ _ | with_reducible refine To.mapA (fun _ => ?_) _ | split | with_reducible intro _ | dsimp only | (refine To.seq ?_ (fun _ => ?_)))
@[simp] theorem to_followBlind  (a0 : List FieldStep) : ∀ (a1 : TypeId) (a2 : Option Value), To P Any (followBlind a0 a1 a2 : Sem (Except (Option Bool) (TypeId × Option Value))) := by
  induction a0 with
  | nil =>
    intro a1 a2
    unfold followBlind
    repeat' (first | exact trivial | assumption | (simp; done) | with_reducible refine To.seq ?_ (fun _ => ?_) | with_reducible refine To.forInL (fun _ _ => ?_) _ | with_reducible refine To.forInA (fun _ _ => ?_) _ | with_reducible refine To.forInR (fun _ _ => ?_) _ | with_reducible refine To.foldl (fun _ _ => ?_) _ _ | with_reducible refine To.mapA (fun _ => ?_) _ | split | with_reducible intro _ | dsimp only | (refine To.seq ?_ (fun _ => ?_)))
  | cons x l ih =>
    intro a1 a2
    unfold followBlind
    repeat' (first | with_reducible apply ih | exact trivial | assumption | (simp; done) | with_reducible refine To.seq ?_ (fun _ => ?_) | with_reducible refine To.forInL (fun _ _ => ?_) _ | with_reducible refine To.forInA (fun _ _ => ?_) _ | with_reducible refine To.forInR (fun _ _ => ?_) _ | with_reducible refine To.foldl (fun _ _ => ?_) _ _ | with_reducible refine To.mapA (fun _ => ?_) _ | split | with_reducible intro _ | dsimp only | (refine To.seq ?_ (fun _ => ?_)))
@[simp] theorem to_nilAhead  (a0 : Nat) : ∀ (a1 : TypeId) (a2 : Value) (a3 : String), To P Any (nilAhead a0 a1 a2 a3 : Sem (Option Bool)) := by
  induction a0 with
  | zero =>
    intro a1 a2 a3
    unfold nilAhead
    repeat' (first | exact trivial | assumption | (simp; done) | with_reducible refine To.seq ?_ (fun _ => ?_) | with_reducible refine To.forInL (fun _ _ => ?_) _ | with_reducible refine To.forInA (fun _ _ => ?_) _ | with_reducible refine To.forInR (fun _ _ => ?_) _ | with_reducible refine To.foldl (fun _ _ => ?_) _ _ | with_reducible refine To.mapA (fun _ => ?_) _ | split | with_reducible intro _ | dsimp only | (refine To.seq ?_ (fun _ => ?_)))
  | succ n ih =>
    intro a1 a2 a3
    unfold nilAhead
    repeat' (first | with_reducible apply ih | exact trivial | assumption | (simp; done) | with_reducible refine To.seq ?_ (fun _ => ?_) | with_reducible refine To.forInL (fun _ _ => ?_) _ | with_reducible refine To.forInA (fun _ _ => ?_) _ | with_reducible refine To.forInR (fun _ _ => ?_) _ | with_reducible refine To.foldl (fun _ _ => ?_) _ _ | with_reducible refine To.mapA (fun _ => ?_) _ | split | with_reducible intro _ | dsimp only | (refine To.seq ?_ (fun _ => ?_)))
@[simp] theorem to_Instr_next (iter : Value) (isString : Bool) (_type : TypeId) : To P Any (Instr.next iter isString _type : Sem Value) := by
  unfold Instr.next
  repeat' (first | exact trivial | assumption | (simp; done) | with_reducible refine To.seq ?_ (fun _ => ?_) | with_reducible refine To.forInL (fun _ _ => ?_) _ | with_reducible refine To.forInA (fun _ _ => ?_) _ | with_reducible refine To.forInR (fun _ _ => ?_) _ | with_reducible refine To.foldl (fun _ _ => ?_) _ _ | with_reducible refine To.mapA (fun _ => ?_) _ | split | with_reducible intro _ | dsimp only | (refine To.seq ?_ (fun _ => ?_)))
@[simp] theorem to_Instr_enterLoop (fn : FuncId) (tmps : Array Value) (params : Array Tmp) (assign body : Code) (around : Option Nat) : To P Any (Instr.enterLoop fn tmps params assign body around : Sem (Nat × List Deferred)) := by
  unfold Instr.enterLoop
  repeat' (first | exact trivial | assumption | (simp; done) | with_reducible refine To.seq ?_ (fun _ => ?_) | with_reducible refine To.forInL (fun _ _ => ?_) _ | with_reducible refine To.forInA (fun _ _ => ?_) _ | with_reducible refine To.forInR (fun _ _ => ?_) _ | with_reducible refine To.foldl (fun _ _ => ?_) _ _ | with_reducible refine To.mapA (fun _ => ?_) _ | split | with_reducible intro _ | dsimp only | (refine To.seq ?_ (fun _ => ?_)))
@[simp] theorem to_Instr_beginRound (l : Nat) : To P Any (Instr.beginRound l : Sem Unit) := by
  unfold Instr.beginRound
  repeat' (first | exact trivial | assumption | (simp; done) | with_reducible refine To.seq ?_ (fun _ => ?_) | with_reducible refine To.forInL (fun _ _ => ?_) _ | with_reducible refine To.forInA (fun _ _ => ?_) _ | with_reducible refine To.forInR (fun _ _ => ?_) _ | with_reducible refine To.foldl (fun _ _ => ?_) _ _ | with_reducible refine To.mapA (fun _ => ?_) _ | split | with_reducible intro _ | dsimp only | (refine To.seq ?_ (fun _ => ?_)))
@[simp] theorem to_Instr_endRound (l : Nat) (jump : Option Code) : To P Any (Instr.endRound l jump : Sem Value) := by
  unfold Instr.endRound
  repeat' (first | exact trivial | assumption | (simp; done) | with_reducible refine To.seq ?_ (fun _ => ?_) | with_reducible refine To.forInL (fun _ _ => ?_) _ | with_reducible refine To.forInA (fun _ _ => ?_) _ | with_reducible refine To.forInR (fun _ _ => ?_) _ | with_reducible refine To.foldl (fun _ _ => ?_) _ _ | with_reducible refine To.mapA (fun _ => ?_) _ | split | with_reducible intro _ | dsimp only | (refine To.seq ?_ (fun _ => ?_)))
@[simp] theorem to_Instr_endLoop (l : Nat) : To P Any (Instr.endLoop l : Sem (Option Code)) := by
  unfold Instr.endLoop
  repeat' (first | exact trivial | assumption | (simp; done) | with_reducible refine To.seq ?_ (fun _ => ?_) | with_reducible refine To.forInL (fun _ _ => ?_) _ | with_reducible refine To.forInA (fun _ _ => ?_) _ | with_reducible refine To.forInR (fun _ _ => ?_) _ | with_reducible refine To.foldl (fun _ _ => ?_) _ _ | with_reducible refine To.mapA (fun _ => ?_) _ | split | with_reducible intro _ | dsimp only | (refine To.seq ?_ (fun _ => ?_)))
@[simp] theorem to_Instr_deferInRound (l : Nat) (d : Deferred) : To P Any (Instr.deferInRound l d : Sem Unit) := by
  unfold Instr.deferInRound
  repeat' (first | exact trivial | assumption | (simp; done) | with_reducible refine To.seq ?_ (fun _ => ?_) | with_reducible refine To.forInL (fun _ _ => ?_) _ | with_reducible refine To.forInA (fun _ _ => ?_) _ | with_reducible refine To.forInR (fun _ _ => ?_) _ | with_reducible refine To.foldl (fun _ _ => ?_) _ _ | with_reducible refine To.mapA (fun _ => ?_) _ | split | with_reducible intro _ | dsimp only | (refine To.seq ?_ (fun _ => ?_)))
@[simp] theorem to_Instr_takeDeferred (block : Nat) : To P Any (Instr.takeDeferred block : Sem (List Deferred)) := by
  unfold Instr.takeDeferred
  repeat' (first | exact trivial | assumption | (simp; done) | with_reducible refine To.seq ?_ (fun _ => ?_) | with_reducible refine To.forInL (fun _ _ => ?_) _ | with_reducible refine To.forInA (fun _ _ => ?_) _ | with_reducible refine To.forInR (fun _ _ => ?_) _ | with_reducible refine To.foldl (fun _ _ => ?_) _ _ | with_reducible refine To.mapA (fun _ => ?_) _ | split | with_reducible intro _ | dsimp only | (refine To.seq ?_ (fun _ => ?_)))
@[simp] theorem to_Instr_ready (g : Nat) : To P Any (Instr.ready g : Sem Unit) := by
  unfold Instr.ready
  repeat' (first | exact trivial | assumption | (simp; done) | with_reducible refine To.seq ?_ (fun _ => ?_) | with_reducible refine To.forInL (fun _ _ => ?_) _ | with_reducible refine To.forInA (fun _ _ => ?_) _ | with_reducible refine To.forInR (fun _ _ => ?_) _ | with_reducible refine To.foldl (fun _ _ => ?_) _ _ | with_reducible refine To.mapA (fun _ => ?_) _ | split | with_reducible intro _ | dsimp only | (refine To.seq ?_ (fun _ => ?_)))
@[simp] theorem to_Instr_typeAssert (x : Value) (xType asserted : TypeId) (commaOk : Bool) : To P Any (Instr.typeAssert x xType asserted commaOk : Sem Value) := by
  unfold Instr.typeAssert
  repeat' (first | exact trivial | assumption | (simp; done) | with_reducible refine To.seq ?_ (fun _ => ?_) | with_reducible refine To.forInL (fun _ _ => ?_) _ | with_reducible refine To.forInA (fun _ _ => ?_) _ | with_reducible refine To.forInR (fun _ _ => ?_) _ | with_reducible refine To.foldl (fun _ _ => ?_) _ _ | with_reducible refine To.mapA (fun _ => ?_) _ | split | with_reducible intro _ | dsimp only | (refine To.seq ?_ (fun _ => ?_)))
@[simp] theorem to_movedNumber (t : TypeId) (x y : Value) : To P Any (movedNumber t x y : Sem Value) := by
  unfold movedNumber
  repeat' (first | exact trivial | assumption | (simp; done) | with_reducible refine To.seq ?_ (fun _ => ?_) | with_reducible refine To.forInL (fun _ _ => ?_) _ | with_reducible refine To.forInA (fun _ _ => ?_) _ | with_reducible refine To.forInR (fun _ _ => ?_) _ | with_reducible refine To.foldl (fun _ _ => ?_) _ _ | with_reducible refine To.mapA (fun _ => ?_) _ | split | with_reducible intro _ | dsimp only | (refine To.seq ?_ (fun _ => ?_)))
@[simp] theorem to_movedPointer (t : TypeId) (x y : Value) : To P Any (movedPointer t x y : Sem Value) := by
  unfold movedPointer
  repeat' (first | exact trivial | assumption | (simp; done) | with_reducible refine To.seq ?_ (fun _ => ?_) | with_reducible refine To.forInL (fun _ _ => ?_) _ | with_reducible refine To.forInA (fun _ _ => ?_) _ | with_reducible refine To.forInR (fun _ _ => ?_) _ | with_reducible refine To.foldl (fun _ _ => ?_) _ _ | with_reducible refine To.mapA (fun _ => ?_) _ | split | with_reducible intro _ | dsimp only | (refine To.seq ?_ (fun _ => ?_)))
@[simp] theorem to_eqGuard (op : BinOp) (t : TypeId) (x y : Operand) (a b : Value) : To P Any (eqGuard op t x y a b : Sem Unit) := by
  unfold eqGuard
  repeat' (first | exact trivial | assumption | (simp; done) | with_reducible refine To.seq ?_ (fun _ => ?_) | with_reducible refine To.forInL (fun _ _ => ?_) _ | with_reducible refine To.forInA (fun _ _ => ?_) _ | with_reducible refine To.forInR (fun _ _ => ?_) _ | with_reducible refine To.foldl (fun _ _ => ?_) _ _ | with_reducible refine To.mapA (fun _ => ?_) _ | split | with_reducible intro _ | dsimp only | (refine To.seq ?_ (fun _ => ?_)))
@[simp] theorem to_binOp (op : BinOp) (xType : TypeId) (x y : Value) : To P Any (binOp op xType x y : Sem Value) := by
  unfold binOp
  repeat' (first | exact trivial | assumption | (simp; done) | with_reducible refine To.seq ?_ (fun _ => ?_) | with_reducible refine To.forInL (fun _ _ => ?_) _ | with_reducible refine To.forInA (fun _ _ => ?_) _ | with_reducible refine To.forInR (fun _ _ => ?_) _ | with_reducible refine To.foldl (fun _ _ => ?_) _ _ | with_reducible refine To.mapA (fun _ => ?_) _ | split | with_reducible intro _ | dsimp only | (refine To.seq ?_ (fun _ => ?_)))
@[simp] theorem to_convert (src dst : TypeId) (x : Value) : To P Any (convert src dst x : Sem Value) := by
  unfold convert
  repeat' (first | exact trivial | assumption | (simp; done) | with_reducible refine To.seq ?_ (fun _ => ?_) | with_reducible refine To.forInL (fun _ _ => ?_) _ | with_reducible refine To.forInA (fun _ _ => ?_) _ | with_reducible refine To.forInR (fun _ _ => ?_) _ | with_reducible refine To.foldl (fun _ _ => ?_) _ _ | with_reducible refine To.mapA (fun _ => ?_) _ | split | with_reducible intro _ | dsimp only | (refine To.seq ?_ (fun _ => ?_)))
@[simp] theorem to_resolve (ρ : Operand → Value) (c : Call) (type : TypeId) : To P Any (resolve ρ c type : Sem Deferred) := by
  unfold resolve
  repeat' (first | exact trivial | assumption | (simp; done) | with_reducible refine To.seq ?_ (fun _ => ?_) | with_reducible refine To.forInL (fun _ _ => ?_) _ | with_reducible refine To.forInA (fun _ _ => ?_) _ | with_reducible refine To.forInR (fun _ _ => ?_) _ | with_reducible refine To.foldl (fun _ _ => ?_) _ _ | with_reducible refine To.mapA (fun _ => ?_) _ | split | with_reducible intro _ | dsimp only | (refine To.seq ?_ (fun _ => ?_)))

end Go.Lift

namespace Go.Lift
variable {P : Program}

/-- What a goroutine of this dump's may yield. -/
def Fine (n : Next) : Prop :=
  match n with
  | .callThen .. | .stack .. | .numGoroutine | .collect | .watch _ | .newcoro .. | .sleep _ | .timer _ | .alone .. => False
  | .row r _ => r = "runtime.print$piece"
  | .coroswitch _ e => e = true
  | _ => True

structure Plain (P : Program) : Prop where
  count : ∀ (f : FuncId) (fn : Func), P.funcs[f]? = some fn → (fn.name == "runtime.NumGoroutine") = false
  next : ∀ (f : FuncId) (fn : Func), P.funcs[f]? = some fn → fn.body.isNone = true → Extern.findNext fn = none
  outer : ∀ (f : FuncId) (fn : Func), P.funcs[f]? = some fn → fn.body.isNone = true → ∀ e, Extern.find fn = some e → ∀ args, To P Any (e args)

/-- The makes of what an operation does: all but the printing is 'To'. -/
inductive Fit (P : Program) : Sem Next → Prop
  | to {s : Sem Next} (h : To P Fine s) : Fit P s
  | piece (args : Array Value) : Fit P (Extern.PrintPieces.piece #[] #[] args)
  | bind {β : Type} (t : Sem β) (f : β → Sem Next) (h : To P Any t) (hf : ∀ b, Fit P (f b)) : Fit P (t >>= f)

theorem to_value {s : Sem Value} (h : To P Any s) : To P Fine (do pure (.value (← s)) : Sem Next) := To.seq h fun _ => trivial
theorem to_unit {s : Sem Unit} (h : To P Any s) : To P Fine (do s; pure .skip : Sem Next) := To.seq h fun _ => trivial
theorem to_gp {α : Type} {Q : α → Prop} (v : Value) : To P Q (goPanic v : Sem α) := trivial
theorem to_rp {α : Type} {Q : α → Prop} (e : RuntimeError) : To P Q (runtimePanic e : Sem α) := by
  unfold runtimePanic
  refine To.bind to_program fun p _ => ?_
  cases e
  case typeAssertion i c a m => exact To.seq (to_elemOf _) fun _ => To.seq (by simp) fun _ => trivial
  case panicNil => exact To.seq (to_elemOf _) fun _ => To.seq (by simp) fun _ => trivial
  all_goals exact trivial

theorem fine_callFunc (hP : Plain P) (f : FuncId) (args : Array Value) : To P Fine (callFunc f args) := by
  unfold callFunc
  refine To.bind to_program fun p hp => ?_
  subst hp
  split
  · exact to_stuck _
  · rename_i fn hf
    simp only [hP.count f fn hf, Bool.false_eq_true, if_false]
    by_cases hb : fn.body.isNone = true
    · rw [if_pos hb]
      refine To.seq ⟨.inr ⟨f, rfl⟩, trivial⟩ fun _ => ?_
      rw [hP.next f fn hf hb]
      dsimp only
      split
      · rename_i e he
        exact To.seq (hP.outer f fn hf hb e he args) fun _ => trivial
      · exact To.ite' trivial trivial
    · rw [if_neg hb]
      exact trivial

theorem fine_callMethod (hP : Plain P) (recv : Value) (name : String) (args : Array Value) : To P Fine (callMethod recv name args) := by
  unfold callMethod
  split
  · exact To.seq to_program_any fun _ => To.seq (to_method _ _ _ _) fun _ => fine_callFunc hP _ _
  · exact to_rp _
  · exact to_stuck _

theorem fine_yield (l : Nat) (args : Array Value) : To P Fine (Instr.yield l args) := by
  unfold Instr.yield
  refine To.seq (to_Instr_getLoop _) fun r => ?_
  extract_lets -underBinder jp
  have hj : ∀ y, To P Fine (jp y) := fun _ => trivial
  clear_value jp
  exact To.ite' (To.seq (to_stuck _) fun _ => hj _) (hj _)

theorem to_printOne (t : TypeId) (v : Value) : To P Any (Builtin.printOne t v) := by
  unfold Builtin.printOne
  refine To.seq (to_typeInfo _) fun d => ?_
  extract_lets -underBinder jp
  have hj : ∀ y, To P Any (jp y) := by
    intro _
    unfold jp
    cases v with
    | pointer p => cases p <;> exact trivial
    | map p => cases p <;> exact trivial
    | chan p => cases p <;> exact trivial
    | slice p _ _ => cases p <;> exact trivial
    | _ => exact trivial
  clear_value jp
  split
  · refine To.ite' (To.seq (to_unsupported _) fun _ => hj _) (hj _)
  · exact hj _

theorem To.forInL' {α β : Type} {l : List α} {f : (a : α) → a ∈ l → β → Sem (ForInStep β)} (h : ∀ a ha b, To P Any (f a ha b)) : ∀ b, To P Any (forIn' l b f) := by
  induction l with
  | nil => exact fun b => trivial
  | cons a l ih =>
    intro b
    rw [List.forIn'_cons]
    refine To.seq (h a _ b) fun x => ?_
    cases x with
    | done b => trivial
    | yield b => exact ih (fun a ha b => h a _ b) b
theorem To.forInR' {β : Type} {n : Nat} {f : (i : Nat) → i ∈ [:n] → β → Sem (ForInStep β)} (h : ∀ a ha b, To P Any (f a ha b)) (b : β) : To P Any (forIn' [:n] b f) := by
  rw [Std.Legacy.Range.forIn'_eq_forIn'_range']
  exact To.forInL' (fun a ha b => h a _ b) b

theorem to_pieces (ln : Bool) (consts : Array Bool) (argTypes : Array TypeId) (args : Array Value) : To P Any (Builtin.pieces ln consts argTypes args) := by
  unfold Builtin.pieces
  refine To.seq ?_ fun _ => ?_
  · refine To.forInR' (fun i hi out => ?_) _
    split
    · rename_i t _
      extract_lets -underBinder o jp o2
      have hj : ∀ x y, To P Any (jp x y) := by
        intro x y
        refine To.seq (to_printOne _ _) fun _ => To.seq (To.forInA (fun _ _ => ?_) _) fun _ => trivial
        exact trivial
      clear_value jp
      exact To.ite' (hj _ _) (hj _ _)
    · extract_lets -underBinder o jp o2
      have hj : ∀ x y, To P Any (jp x y) := by intro _ _; unfold jp; exact to_stuck _
      clear_value jp
      exact To.ite' (hj _ _) (hj _ _)
  · extract_lets -underBinder o jp o2
    have hj : ∀ x y, To P Any (jp x y) := fun _ _ => trivial
    clear_value jp
    exact To.ite' (hj _ _) (hj _ _)

theorem fit_print (ln : Bool) (consts : Array Bool) (argTypes : Array TypeId) (args : Array Value) : Fit P (Builtin.printMarked ln consts argTypes args) := by
  unfold Builtin.printMarked
  refine Fit.bind _ _ (to_pieces _ _ _ _) fun ps => ?_
  split
  · exact .to trivial
  · exact .piece _

theorem fit_builtin (b : Builtin) (argTypes : Array TypeId) (type : TypeId) (consts : Array Bool) (args : Array Value) : Fit P (builtin b argTypes type consts args) := by
  unfold builtin
  cases b
  case print => exact fit_print _ _ _ _
  case println => exact fit_print _ _ _ _
  case recover => exact .to trivial
  case panic => exact .to (to_value (by simp))
  all_goals refine .to ?_
  all_goals first | exact to_value (by simp) | exact to_stuck _ | exact to_unsupported _ | exact To.seq (by simp) fun _ => trivial

theorem fit_invoke (hP : Plain P) (t : Target) (args : Array Value) : Fit P (invoke t args) := by
  unfold invoke
  split
  · exact .to (to_rp _)
  · exact fit_builtin _ _ _ _ _
  · exact .to (fine_callFunc hP _ _)
  · split
    · exact .to (fine_callMethod hP _ _ _)
    · exact .to (to_stuck _)
  · split
    · exact .to (To.seq (to_underlying _) fun _ => fine_callMethod hP _ _ _)
    · exact .to (to_stuck _)
  · split
    · exact .to (To.seq (to_receiverVia _ _ _ _) fun _ => fine_callFunc hP _ _)
    · exact .to (to_stuck _)
  · exact .to (fine_yield _ _)
  · exact .to (to_stuck _)
  · exact .to (rfl : true = true)

theorem fit_execOp (hP : Plain P) (ρ : Operand → Value) (o : Oper) : Fit P (execOp ρ o) := by
  unfold execOp
  extract_lets -underBinder v u
  have hv : ∀ s, To P Any s → Fit P (v s) := fun s h => .to (to_value h)
  have hu : ∀ s, To P Any s → Fit P (u s) := fun s h => .to (to_unit h)
  clear_value v u
  split
  all_goals first
    | (refine hv _ ?_; simp; done)
    | (refine hv _ ?_; exact To.seq (by simp) fun _ => by simp)
    | (refine hu _ ?_; simp; done)
    | exact .to trivial
    | exact .to (To.seq (by simp) fun _ => trivial)
    | exact .bind _ _ (to_resolve _ _ _) fun d => fit_invoke hP _ _
    | skip
  · refine .to ?_
    split
    · exact to_rp _
    · exact to_rp _
    · exact to_rp _
    · split
      · exact to_rp _
      · refine To.seq to_program_any fun _ => To.seq (to_nilAhead _ _ _ _) fun _ => ?_
        exact To.ite' trivial trivial
      · exact trivial
    · exact trivial
  · refine .to (To.seq (to_underlying _) fun _ => ?_)
    split
    · exact To.seq (to_zeroValue _) fun _ => trivial
    · exact to_stuck _
  · refine .to (To.seq (To.mapA (fun _ => ?_) _) fun _ => trivial)
    refine To.seq (to_zeroValue _) fun _ => trivial
end Go.Lift
