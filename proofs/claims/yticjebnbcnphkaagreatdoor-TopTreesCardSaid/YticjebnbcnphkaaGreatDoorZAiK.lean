/- The abstract interpreter of the form in which the program is given. -/
import GoSem.Dispatch

namespace Go.Ai
noncomputable section
set_option linter.unusedVariables false


/-- sixteen slots -/
structure G16 (α : Type) where
  a0 : α
  a1 : α
  a2 : α
  a3 : α
  a4 : α
  a5 : α
  a6 : α
  a7 : α
  a8 : α
  a9 : α
  a10 : α
  a11 : α
  a12 : α
  a13 : α
  a14 : α
  a15 : α
def G16.s0 {α : Type} (v : α) (g : G16 α) : G16 α := @G16.rec α (fun _ => G16 α) (fun _ x1 x2 x3 x4 x5 x6 x7 x8 x9 x10 x11 x12 x13 x14 x15 => ⟨v, x1, x2, x3, x4, x5, x6, x7, x8, x9, x10, x11, x12, x13, x14, x15⟩) g
def G16.s1 {α : Type} (v : α) (g : G16 α) : G16 α := @G16.rec α (fun _ => G16 α) (fun x0 _ x2 x3 x4 x5 x6 x7 x8 x9 x10 x11 x12 x13 x14 x15 => ⟨x0, v, x2, x3, x4, x5, x6, x7, x8, x9, x10, x11, x12, x13, x14, x15⟩) g
def G16.s2 {α : Type} (v : α) (g : G16 α) : G16 α := @G16.rec α (fun _ => G16 α) (fun x0 x1 _ x3 x4 x5 x6 x7 x8 x9 x10 x11 x12 x13 x14 x15 => ⟨x0, x1, v, x3, x4, x5, x6, x7, x8, x9, x10, x11, x12, x13, x14, x15⟩) g
def G16.s3 {α : Type} (v : α) (g : G16 α) : G16 α := @G16.rec α (fun _ => G16 α) (fun x0 x1 x2 _ x4 x5 x6 x7 x8 x9 x10 x11 x12 x13 x14 x15 => ⟨x0, x1, x2, v, x4, x5, x6, x7, x8, x9, x10, x11, x12, x13, x14, x15⟩) g
def G16.s4 {α : Type} (v : α) (g : G16 α) : G16 α := @G16.rec α (fun _ => G16 α) (fun x0 x1 x2 x3 _ x5 x6 x7 x8 x9 x10 x11 x12 x13 x14 x15 => ⟨x0, x1, x2, x3, v, x5, x6, x7, x8, x9, x10, x11, x12, x13, x14, x15⟩) g
def G16.s5 {α : Type} (v : α) (g : G16 α) : G16 α := @G16.rec α (fun _ => G16 α) (fun x0 x1 x2 x3 x4 _ x6 x7 x8 x9 x10 x11 x12 x13 x14 x15 => ⟨x0, x1, x2, x3, x4, v, x6, x7, x8, x9, x10, x11, x12, x13, x14, x15⟩) g
def G16.s6 {α : Type} (v : α) (g : G16 α) : G16 α := @G16.rec α (fun _ => G16 α) (fun x0 x1 x2 x3 x4 x5 _ x7 x8 x9 x10 x11 x12 x13 x14 x15 => ⟨x0, x1, x2, x3, x4, x5, v, x7, x8, x9, x10, x11, x12, x13, x14, x15⟩) g
def G16.s7 {α : Type} (v : α) (g : G16 α) : G16 α := @G16.rec α (fun _ => G16 α) (fun x0 x1 x2 x3 x4 x5 x6 _ x8 x9 x10 x11 x12 x13 x14 x15 => ⟨x0, x1, x2, x3, x4, x5, x6, v, x8, x9, x10, x11, x12, x13, x14, x15⟩) g
def G16.s8 {α : Type} (v : α) (g : G16 α) : G16 α := @G16.rec α (fun _ => G16 α) (fun x0 x1 x2 x3 x4 x5 x6 x7 _ x9 x10 x11 x12 x13 x14 x15 => ⟨x0, x1, x2, x3, x4, x5, x6, x7, v, x9, x10, x11, x12, x13, x14, x15⟩) g
def G16.s9 {α : Type} (v : α) (g : G16 α) : G16 α := @G16.rec α (fun _ => G16 α) (fun x0 x1 x2 x3 x4 x5 x6 x7 x8 _ x10 x11 x12 x13 x14 x15 => ⟨x0, x1, x2, x3, x4, x5, x6, x7, x8, v, x10, x11, x12, x13, x14, x15⟩) g
def G16.s10 {α : Type} (v : α) (g : G16 α) : G16 α := @G16.rec α (fun _ => G16 α) (fun x0 x1 x2 x3 x4 x5 x6 x7 x8 x9 _ x11 x12 x13 x14 x15 => ⟨x0, x1, x2, x3, x4, x5, x6, x7, x8, x9, v, x11, x12, x13, x14, x15⟩) g
def G16.s11 {α : Type} (v : α) (g : G16 α) : G16 α := @G16.rec α (fun _ => G16 α) (fun x0 x1 x2 x3 x4 x5 x6 x7 x8 x9 x10 _ x12 x13 x14 x15 => ⟨x0, x1, x2, x3, x4, x5, x6, x7, x8, x9, x10, v, x12, x13, x14, x15⟩) g
def G16.s12 {α : Type} (v : α) (g : G16 α) : G16 α := @G16.rec α (fun _ => G16 α) (fun x0 x1 x2 x3 x4 x5 x6 x7 x8 x9 x10 x11 _ x13 x14 x15 => ⟨x0, x1, x2, x3, x4, x5, x6, x7, x8, x9, x10, x11, v, x13, x14, x15⟩) g
def G16.s13 {α : Type} (v : α) (g : G16 α) : G16 α := @G16.rec α (fun _ => G16 α) (fun x0 x1 x2 x3 x4 x5 x6 x7 x8 x9 x10 x11 x12 _ x14 x15 => ⟨x0, x1, x2, x3, x4, x5, x6, x7, x8, x9, x10, x11, x12, v, x14, x15⟩) g
def G16.s14 {α : Type} (v : α) (g : G16 α) : G16 α := @G16.rec α (fun _ => G16 α) (fun x0 x1 x2 x3 x4 x5 x6 x7 x8 x9 x10 x11 x12 x13 _ x15 => ⟨x0, x1, x2, x3, x4, x5, x6, x7, x8, x9, x10, x11, x12, x13, v, x15⟩) g
def G16.s15 {α : Type} (v : α) (g : G16 α) : G16 α := @G16.rec α (fun _ => G16 α) (fun x0 x1 x2 x3 x4 x5 x6 x7 x8 x9 x10 x11 x12 x13 x14 _ => ⟨x0, x1, x2, x3, x4, x5, x6, x7, x8, x9, x10, x11, x12, x13, x14, v⟩) g
def G16.gets (α : Type) : List (G16 α → α) := [G16.a0, G16.a1, G16.a2, G16.a3, G16.a4, G16.a5, G16.a6, G16.a7, G16.a8, G16.a9, G16.a10, G16.a11, G16.a12, G16.a13, G16.a14, G16.a15]
def G16.sets (α : Type) : List (α → G16 α → G16 α) := [G16.s0, G16.s1, G16.s2, G16.s3, G16.s4, G16.s5, G16.s6, G16.s7, G16.s8, G16.s9, G16.s10, G16.s11, G16.s12, G16.s13, G16.s14, G16.s15]
def G16.all {α : Type} (v : α) : G16 α := ⟨v, v, v, v, v, v, v, v, v, v, v, v, v, v, v, v⟩
inductive Dg where
  | d0 | d1 | d2 | d3 | d4 | d5 | d6 | d7 | d8 | d9 | d10 | d11 | d12 | d13 | d14 | d15
  deriving Repr, Inhabited, DecidableEq
abbrev Pa := List Dg

inductive AV where
  | nat (k : IntKind) (n : Nat)
  | neg (k : IntKind) (n : Nat)
  | bool (b : Bool)
  | str (s : List Nat)
  | nil (t : Nat)
  | ref (t : Nat) (b : Pa) (i n : Nat) (c : Option Nat)
  | com (t x : Nat) (a c : List AV)
  deriving Inhabited, Repr

/- nil: 0 pointer, 1 slice, 2 map, 3 func, 4 iface, 5 an empty slice that is not nil -/
/- ref: 0 pointer (element, cell), 1 slice (from, length, capacity), 2 map, 3 yield of a loop -/
/- com: 0 struct or array, 1 tuple, 2 func (x; first; captured), 3 iface (type x; [v]) -/
abbrev AV.agg (l : List AV) : AV := .com 0 0 l []
abbrev AV.tuple (l : List AV) : AV := .com 1 0 l []
abbrev AV.ptr (b : Pa) (i f : Nat) : AV := .ref 0 b i f none
abbrev AV.slc (b : Pa) (i n : Nat) (c : Option Nat) : AV := .ref 1 b i n c

inductive Tr (α : Type) where
  | lf
  | nd (v : Option α) (l r : Tr α)
  deriving Inhabited

abbrev Env := G16 (G16 AV)
abbrev Ev := Env → AV
abbrev Up := AV → Env → Env

inductive Jmp where
  | none | exit (id : Nat) | ret

structure ALoop where
  pend : Jmp
  env : Env
  n : Nat
  params : List Up
  assign : Code
  body : Code

inductive AO where
  | row (sz n : Nat) (t : Tr (List AV))
  | map (clock : Nat) (es : List (Nat × AV × AV))
  | iter (m : Option Pa) (since : Nat) (seen : List Nat) (stepped : Nat)
  | loop (busy : Bool) (l : ALoop)
  | dead

inductive HT where
  | lf
  | ob (o : AO)
  | nd (a0 a1 a2 a3 a4 a5 a6 a7 a8 a9 a10 a11 a12 a13 a14 a15 : HT)
  deriving Inhabited

structure AH where
  t : HT
  next : Pa
  cnt : Nat
  ph : Nat
  deriving Inhabited

abbrev KV := AV → AH → Bool
abbrev KE := Env → AH → Bool
abbrev KJ := Jmp → Env → AH → Bool
abbrev Run := Env → AH → KV → Bool

inductive CO where
  | op (f : KE → KE)
  | call (g : Option (Ev × Bool)) (d : Option Up) (f : Ev) (args : List Ev)
  | pan (x : Ev)

structure RE where
  g : Option (Ev × Bool)
  run : Run
  dst : Ev

inductive CC where
  | skip
  | bad
  | seq (a b : CC)
  | cond (x : Ev) (a b : CC)
  | block (id : Nat) (c : CC)
  | loop (c : CC)
  | exit (id : Nat)
  | ret
  | ops (l : List CO) (k : CC)
  | mix (l : List (CO × List RE)) (k : CC)
  | range (x : Ev) (params : List Up) (assign body : Code) (n : Nat)
  deriving Inhabited

inductive Tk where
  | call (g : FuncId) (args : List AV) (A : AH) (K H : KV)
  | yld (b : Pa) (args : List AV) (A : AH) (K H : KV)
  | loop (c : CC) (H : KV) (J : KJ) (e : Env) (A : AH)
def Tr.get {α : Type} (t : Tr α) : Nat → Option α := @Tr.rec α (fun _ => Nat → Option α) (fun _ => none)
  (fun v _ _ gl gr n => cond (Nat.beq n 0) v (cond (Nat.beq (Nat.mod n 2) 1) (gl (Nat.div n 2)) (gr (Nat.sub (Nat.div n 2) 1)))) t
def Tr.set {α : Type} (v : α) (f : Nat) : Tr α → Nat → Tr α := @Nat.rec (fun _ => Tr α → Nat → Tr α) (fun t _ => t)
  (fun _ ih t n => @Tr.casesOn α (fun _ => Tr α) t
    (cond (Nat.beq n 0) (.nd (some v) .lf .lf) (cond (Nat.beq (Nat.mod n 2) 1) (.nd none (ih .lf (Nat.div n 2)) .lf) (.nd none .lf (ih .lf (Nat.sub (Nat.div n 2) 1)))))
    (fun x l r => cond (Nat.beq n 0) (.nd (some v) l r) (cond (Nat.beq (Nat.mod n 2) 1) (.nd x (ih l (Nat.div n 2)) r) (.nd x l (ih r (Nat.sub (Nat.div n 2) 1)))))) f
def nth {α : Type} (l : List α) : Nat → Option α := @List.rec α (fun _ => Nat → Option α) (fun _ => none) (fun x _ ih n => cond (Nat.beq n 0) (some x) (ih (Nat.sub n 1))) l

def digs : List Dg := [.d0, .d1, .d2, .d3, .d4, .d5, .d6, .d7, .d8, .d9, .d10, .d11, .d12, .d13, .d14, .d15]
def digsOf (k : Nat) : Nat → Pa := @Nat.rec (fun _ => Nat → Pa) (fun _ => []) (fun _ ih n => (match nth digs (Nat.mod n 16) with | some d => d | none => .d0) :: ih (Nat.div n 16)) k
def idOf (n : Nat) : Pa := digsOf 5 n
def Dg.pick {α : Type} (d : Dg) (a0 a1 a2 a3 a4 a5 a6 a7 a8 a9 a10 a11 a12 a13 a14 a15 : α) : α := @Dg.rec (fun _ => α) a0 a1 a2 a3 a4 a5 a6 a7 a8 a9 a10 a11 a12 a13 a14 a15 d
def Dg.succ (d : Dg) : Dg := @Dg.rec (fun _ => Dg) .d1 .d2 .d3 .d4 .d5 .d6 .d7 .d8 .d9 .d10 .d11 .d12 .d13 .d14 .d15 .d0 d
def HT.get (p : Pa) : HT → Option AO := @List.rec Dg (fun _ => HT → Option AO) (fun t => @HT.rec (fun _ => Option AO) none (fun o => some o) (fun _ _ _ _ _ _ _ _ _ _ _ _ _ _ _ _ _ _ _ _ _ _ _ _ _ _ _ _ _ _ _ _ => none) t)
  (fun d _ ih t => @HT.casesOn (fun _ => Option AO) t none (fun _ => none) (fun a0 a1 a2 a3 a4 a5 a6 a7 a8 a9 a10 a11 a12 a13 a14 a15 => ih (Dg.pick d a0 a1 a2 a3 a4 a5 a6 a7 a8 a9 a10 a11 a12 a13 a14 a15))) p
def HT.upd (x : HT) (a0 a1 a2 a3 a4 a5 a6 a7 a8 a9 a10 a11 a12 a13 a14 a15 : HT) (d : Dg) : HT := @Dg.rec (fun _ => HT) (.nd x a1 a2 a3 a4 a5 a6 a7 a8 a9 a10 a11 a12 a13 a14 a15) (.nd a0 x a2 a3 a4 a5 a6 a7 a8 a9 a10 a11 a12 a13 a14 a15) (.nd a0 a1 x a3 a4 a5 a6 a7 a8 a9 a10 a11 a12 a13 a14 a15) (.nd a0 a1 a2 x a4 a5 a6 a7 a8 a9 a10 a11 a12 a13 a14 a15) (.nd a0 a1 a2 a3 x a5 a6 a7 a8 a9 a10 a11 a12 a13 a14 a15) (.nd a0 a1 a2 a3 a4 x a6 a7 a8 a9 a10 a11 a12 a13 a14 a15) (.nd a0 a1 a2 a3 a4 a5 x a7 a8 a9 a10 a11 a12 a13 a14 a15) (.nd a0 a1 a2 a3 a4 a5 a6 x a8 a9 a10 a11 a12 a13 a14 a15) (.nd a0 a1 a2 a3 a4 a5 a6 a7 x a9 a10 a11 a12 a13 a14 a15) (.nd a0 a1 a2 a3 a4 a5 a6 a7 a8 x a10 a11 a12 a13 a14 a15) (.nd a0 a1 a2 a3 a4 a5 a6 a7 a8 a9 x a11 a12 a13 a14 a15) (.nd a0 a1 a2 a3 a4 a5 a6 a7 a8 a9 a10 x a12 a13 a14 a15) (.nd a0 a1 a2 a3 a4 a5 a6 a7 a8 a9 a10 a11 x a13 a14 a15) (.nd a0 a1 a2 a3 a4 a5 a6 a7 a8 a9 a10 a11 a12 x a14 a15) (.nd a0 a1 a2 a3 a4 a5 a6 a7 a8 a9 a10 a11 a12 a13 x a15) (.nd a0 a1 a2 a3 a4 a5 a6 a7 a8 a9 a10 a11 a12 a13 a14 x) d
def HT.set (x : HT) (p : Pa) : HT → HT := @List.rec Dg (fun _ => HT → HT) (fun _ => x)
  (fun d _ ih t => @HT.casesOn (fun _ => HT) t (HT.upd (ih .lf) .lf .lf .lf .lf .lf .lf .lf .lf .lf .lf .lf .lf .lf .lf .lf .lf d) (fun _ => HT.upd (ih .lf) .lf .lf .lf .lf .lf .lf .lf .lf .lf .lf .lf .lf .lf .lf .lf .lf d) (fun a0 a1 a2 a3 a4 a5 a6 a7 a8 a9 a10 a11 a12 a13 a14 a15 => HT.upd (ih (Dg.pick d a0 a1 a2 a3 a4 a5 a6 a7 a8 a9 a10 a11 a12 a13 a14 a15)) a0 a1 a2 a3 a4 a5 a6 a7 a8 a9 a10 a11 a12 a13 a14 a15 d)) p
def inc (p : Pa) : Pa := @List.rec Dg (fun _ => Pa) [] (fun d p ih => @Dg.rec (fun _ => Pa) (.d1 :: p) (.d2 :: p) (.d3 :: p) (.d4 :: p) (.d5 :: p) (.d6 :: p) (.d7 :: p) (.d8 :: p) (.d9 :: p) (.d10 :: p) (.d11 :: p) (.d12 :: p) (.d13 :: p) (.d14 :: p) (.d15 :: p) (.d0 :: ih) d) p

/-- a slot -/
def getE (t : Nat) : Option Ev := match nth (G16.gets (G16 AV)) (Nat.div t 16), nth (G16.gets AV) (Nat.mod t 16) with
  | some f, some g => some fun e => g (f e)
  | _, _ => none
def setE (t : Nat) : Option Up := match nth (G16.gets (G16 AV)) (Nat.div t 16), nth (G16.sets (G16 AV)) (Nat.div t 16), nth (G16.sets AV) (Nat.mod t 16) with
  | some f, some s, some g => some fun v e => s (g v (f e)) e
  | _, _, _ => none
def env0 : Env := G16.all (G16.all (.tuple []))
def AH.get (A : AH) (b : Pa) : Option AO := match A with | ⟨t, _, _, _⟩ => HT.get b t
def AH.new (A : AH) (o : AO) : AH := match A with | ⟨t, n, c, h⟩ => ⟨HT.set (.ob o) n t, inc n, c, h⟩
def AH.put (A : AH) (b : Pa) (o : AO) : AH := match A with | ⟨t, n, c, h⟩ => ⟨HT.set (.ob o) b t, n, c, h⟩
def allZ : Pa → Bool
  | [] => true
  | d :: p => match d with | .d0 => allZ p | _ => false
def newK (A : AH) (o : AO) (f : Pa → AH → Bool) : Bool := bif allZ (inc A.next) then false else f A.next (A.new o)
def tick (A : AH) : AH := match A with | ⟨t, n, c, h⟩ => ⟨t, n, c + 1, h⟩

def oneA (v : AV) : Bool := match v with | .com t _ _ _ => Nat.blt 1 t | _ => true
mutual
def AV.ofV : Value → Option AV
  | .bool b => some (.bool b)
  | .int k n => match n with
    | .ofNat n => some (.nat k n)
    | .negSucc n => some (.neg k n)
  | .string s => some (.str (s.data.toList.map UInt8.toNat))
  | .pointer none => some (.nil 0)
  | .slice none 0 0 => some (.nil 1)
  | .map none => some (.nil 2)
  | .nilFunc => some (.nil 3)
  | .nilIface => some (.nil 4)
  | .agg ⟨cs⟩ => match AV.ofVs cs with
    | some l => bif l.all oneA then some (.agg l) else none
    | none => none
  | .tuple ⟨cs⟩ => match AV.ofVs cs with
    | some l => some (.tuple l)
    | none => none
  | _ => none
def AV.ofVs : List Value → Option (List AV)
  | [] => some []
  | v :: vs => match AV.ofV v, AV.ofVs vs with
    | some a, some as => some (a :: as)
    | _, _ => none
end

/- what a value is, asked -/
def optK {α : Type} (o : Option α) (f : α → Bool) : Bool := match o with | some x => f x | none => false
def cellsO (v : AV) : Option (List AV) := match v with
  | .com t _ a _ => bif Nat.beq t 0 then some a else bif Nat.beq t 1 then none else some [v]
  | _ => some [v]
def cellsK (s : Nat) (v : AV) (f : List AV → Bool) : Bool := optK (cellsO v) fun c => Nat.beq c.length s && f c
def asNat (x : AV) (f : IntKind → Nat → Bool) : Bool := match x with | .nat k n => f k n | _ => false
def asBool (x : AV) (f : Bool → Bool) : Bool := match x with | .bool b => f b | _ => false
def asStr (x : AV) (f : List Nat → Bool) : Bool := match x with | .str s => f s | _ => false
def asPtr (x : AV) (f : Pa → Nat → Nat → Bool) : Bool := match x with | .ref t b i n _ => Nat.beq t 0 && f b i n | _ => false
def asMap (x : AV) (f : Pa → Bool) : Bool := match x with | .ref t b _ _ _ => Nat.beq t 2 && f b | _ => false
def asCom (u : Nat) (x : AV) (f : Nat → List AV → List AV → Bool) : Bool := match x with | .com t n a c => Nat.beq t u && f n a c | _ => false
def oRow (o : AO) (f : Nat → Nat → Tr (List AV) → Bool) : Bool := match o with | .row s n t => f s n t | _ => false
def oMap (o : AO) (f : Nat → List (Nat × AV × AV) → Bool) : Bool := match o with | .map c es => f c es | _ => false
def oIter (o : AO) (f : Option Pa → Nat → List Nat → Nat → Bool) : Bool := match o with | .iter m s l c => f m s l c | _ => false
def oLoop (u : Bool) (o : AO) (f : ALoop → Bool) : Bool := match o with | .loop b l => (bif b then u else !u) && f l | _ => false
def isZ (d : Dg) : Bool := match d with | .d0 => true | _ => false
def rom (b : Pa) : Bool := match b with
  | [] => true
  | _ :: r => match r with
    | [] => true
    | _ :: r => match r with
      | [] => true
      | c :: r => isZ c && (match r with
        | [] => true
        | d :: r => isZ d && (match r with | [] => true | f :: _ => isZ f))
def asRow (A : AH) (b : Pa) (f : Nat → Nat → Tr (List AV) → Bool) : Bool := optK (A.get b) fun o => oRow o f

/- lists -/
def takeN {α : Type} : Nat → List α → Option (List α)
  | 0, _ => some []
  | n + 1, x :: xs => match takeN n xs with | some l => some (x :: l) | none => none
  | _ + 1, [] => none
def dropN {α : Type} : Nat → List α → Option (List α)
  | 0, l => some l
  | n + 1, _ :: xs => dropN n xs
  | _ + 1, [] => none
def sub {α : Type} (off n : Nat) (l : List α) : Option (List α) := match dropN off l with | some l => takeN n l | none => none
def setAt {α : Type} : Nat → List α → List α → Option (List α)
  | 0, [], c => some c
  | 0, _ :: _, [] => none
  | 0, x :: xs, _ :: c => match setAt 0 xs c with | some l => some (x :: l) | none => none
  | n + 1, xs, y :: c => match setAt n xs c with | some l => some (y :: l) | none => none
  | _ + 1, _, [] => none

/- memory -/
def elemK (i n : Nat) (t : Tr (List AV)) (f : List AV → Bool) : Bool := Nat.blt i n && optK (t.get i) f
def ld1 (x : AV) (A : AH) (K : KV) : Bool := asPtr x fun b i f => asRow A b fun _ n t => elemK i n t fun c => optK (nth c f) fun v => K v A
def ldN (m : Nat) (x : AV) (A : AH) (K : KV) : Bool := asPtr x fun b i f => asRow A b fun _ n t => elemK i n t fun c => optK (sub f m c) fun l => K (.agg l) A
def asRowW (A : AH) (b : Pa) (f : Nat → Nat → Tr (List AV) → Bool) : Bool := !rom b && asRow A b f
def st (m : Nat) (x v : AV) (A : AH) (K : KV) : Bool := asPtr x fun b i f => cellsK m v fun cs => asRowW A b fun s n t => elemK i n t fun c => optK (setAt f cs c) fun c' => K (.tuple []) (A.put b (.row s n (Tr.set c' 20 t i)))
def trOf : Nat → List (List AV) → Tr (List AV) → Tr (List AV)
  | _, [], t => t
  | i, x :: xs, t => trOf (i + 1) xs (Tr.set x 20 t i)
def newRow (s : Nat) (c : List AV) (A : AH) (K : KV) : Bool := newK A (.row s 1 (.nd (some c) .lf .lf)) fun b A => K (.ptr b 0 0) A
def ones : List AV → List (List AV)
  | [] => []
  | x :: xs => [x] :: ones xs
def newArr (n : Nat) (c : List AV) (A : AH) (K : KV) : Bool := Nat.ble n 65536 && newK A (.row 1 n (trOf 0 (ones c) .lf)) fun b A => K (.ptr b 0 0) A
def newSlc (s n : Nat) (c : Option Nat) (m : Nat) (l : List (List AV)) (A : AH) (K : KV) : Bool := Nat.ble m 65536 && newK A (.row s m (trOf 0 l .lf)) fun b A => K (.slc b 0 n c) A

def fill (place : Nat → Option (Nat × Nat)) : List (Nat × AV) → List AV → Option (List AV)
  | [], c => some c
  | (i, v) :: r, c => match place i, cellsO v with
    | some (off, sz), some cs => bif Nat.beq cs.length sz then (match setAt off cs c with | some c' => fill place r c' | none => none) else none
    | _, _ => none
def evs (e : Env) : List Ev → List AV
  | [] => []
  | x :: xs => x e :: evs e xs
def evps (e : Env) : List (Nat × Ev) → List (Nat × AV)
  | [] => []
  | (i, x) :: xs => (i, x e) :: evps e xs
def buildR (place : Nat → Option (Nat × Nat)) (z : List AV) (ps : List (Nat × Ev)) (e : Env) (A : AH) (K : KV) : Bool := optK (fill place (evps e ps) z) fun c => K (.agg c) A
def rowFrom (z : List AV) : Nat → List (List AV)
  | 0 => []
  | n + 1 => z :: rowFrom z n
def rowsC (s : Nat) : List AV → (List (List AV) → Bool) → Bool
  | [], f => f []
  | v :: r, f => cellsK s v fun c => rowsC s r fun l => f (c :: l)
def buildSlc (s n : Nat) (ps : List Ev) (e : Env) (A : AH) (K : KV) : Bool := rowsC s (evs e ps) fun l => newSlc s n (some n) n l A K

def minN (a b : Nat) : Nat := bif Nat.ble a b then a else b
/- numbers -/
def maxOf : IntKind → Nat
  | .i8 => 128 | .i16 => 32768 | .i32 => 2147483648 | .i64 => 9223372036854775808
  | .u8 => 256 | .u16 => 65536 | .u32 => 4294967296 | .u64 => 18446744073709551616
def kNum : IntKind → Nat
  | .i8 => 0 | .i16 => 1 | .i32 => 2 | .i64 => 3 | .u8 => 4 | .u16 => 5 | .u32 => 6 | .u64 => 7
def kEq (j k : IntKind) : Bool := Nat.beq (kNum j) (kNum k)
def ofInt (k : IntKind) (n : Int) : AV := match n with | .ofNat n => .nat k n | .negSucc n => .neg k n
def mkNat (k : IntKind) (n : Nat) (f : AV → Bool) : Bool := bif Nat.blt n (maxOf k) then f (.nat k n) else f (ofInt k (k.wrap (.ofNat n)))

def bytesEq : List Nat → List Nat → Bool
  | [], [] => true
  | a :: x, b :: y => bif Nat.beq a b then bytesEq x y else false
  | _, _ => false
def bytesLt : List Nat → List Nat → Bool
  | _, [] => false
  | [], _ :: _ => true
  | a :: x, b :: y => bif Nat.blt a b then true else bif Nat.beq a b then bytesLt x y else false

def sameC (c d : Option Nat) : Bool := match c with
  | none => (match d with | none => true | some _ => false)
  | some a => (match d with | none => false | some b => Nat.beq a b)
def samePa : Pa → Pa → Bool
  | [], [] => true
  | a :: x, b :: y => (match decEq a b with | isTrue _ => samePa x y | isFalse _ => false)
  | _, _ => false
def isNil (y : AV) (f : Bool → Bool) : Bool := match y with
  | .nil t => f (!Nat.beq t 5)
  | .ref .. => f false
  | .com t _ _ _ => bif Nat.blt 1 t then f false else false
  | _ => false
/-- the two are equal -/
def eqS (x y : AV) (f : Bool → Bool) : Bool := match x with
  | .nat j a => (match y with | .nat k b => kEq j k && f (Nat.beq a b) | .neg k _ => kEq j k && f false | _ => false)
  | .neg j a => (match y with | .neg k b => kEq j k && f (Nat.beq a b) | .nat k _ => kEq j k && f false | _ => false)
  | .str a => asStr y fun b => f (bytesEq a b)
  | _ => false
def eqB (x y : AV) (f : Bool → Bool) : Bool := asBool x fun a => asBool y fun b => f (bif a then b else !b)
def eqI (x y : AV) (f : Bool → Bool) : Bool := match x with
  | .str _ => false
  | _ => eqS x y f
def eqStr (x y : AV) (f : Bool → Bool) : Bool := asStr x fun a => asStr y fun b => f (bytesEq a b)
/-- kinds of fields: 0 a number, 1 a text, 2 a truth -/
def eqTy (k : Nat) (x y : AV) (f : Bool → Bool) : Bool := bif Nat.beq k 0 then eqI x y f else bif Nat.beq k 1 then eqStr x y f else eqB x y f
def eqL : List Nat → List AV → List AV → (Bool → Bool) → Bool
  | [], [], [], f => f true
  | k :: ks, a :: x, b :: y, f => eqTy k a b fun t => bif t then eqL ks x y f else f false
  | _, _, _, _ => false
def eqA (ks : List Nat) (x y : AV) (f : Bool → Bool) : Bool := asCom 0 x fun _ a _ => asCom 0 y fun _ b _ => eqL ks a b f
/-- kinds of what may be nil: 0 a pointer, 1 a slice, 2 a map, 3 a function, 4 an interface -/
def nilOf (kd : Nat) (y : AV) (f : Bool → Bool) : Bool := match y with
  | .nil t => bif Nat.beq t kd then f true else Nat.beq t 5 && Nat.beq kd 1 && f false
  | .ref t _ _ _ _ => Nat.beq t kd && f false
  | .com t _ _ _ => Nat.beq (t + 1) kd && Nat.blt 1 t && f false
  | _ => false
def eqNil (kd : Nat) (x y : AV) (f : Bool → Bool) : Bool := nilOf kd x fun i => nilOf kd y fun j => bif i then f j else j && f false
def ltK (x y : AV) (f : Bool → Bool) : Bool := match x with
  | .nat j a => (match y with | .nat k b => kEq j k && f (Nat.blt a b) | .neg k _ => kEq j k && f false | _ => false)
  | .neg j a => (match y with | .neg k b => kEq j k && f (Nat.blt b a) | .nat k _ => kEq j k && f true | _ => false)
  | .str a => asStr y fun b => f (bytesLt a b)
  | .com t n _ _ => Nat.beq t 5 && asNat y fun k b => kEq .i64 k && Nat.ble b n && f false
  | _ => false
def addK (x y : AV) (f : AV → Bool) : Bool := match x with
  | .nat j a => (match y with
    | .nat k b => kEq j k && mkNat j (a + b) f
    | .neg k b => kEq j k && (bif Nat.ble (b + 1) a then mkNat j (a - (b + 1)) f else f (ofInt j (j.wrap (.ofNat a + .negSucc b))))
    | _ => false)
  | .neg j b => asNat y fun k a => kEq j k && (bif Nat.ble (b + 1) a then mkNat j (a - (b + 1)) f else f (ofInt j (j.wrap (.negSucc b + .ofNat a))))
  | .str a => asStr y fun b => Nat.ble (a.length + b.length) 4611686018427387904 && f (.str (a ++ b))
  | _ => false
def subK (x y : AV) (f : AV → Bool) : Bool := asNat x fun j a => match y with
  | .nat k b => kEq j k && (bif Nat.ble b a then mkNat j (a - b) f else f (ofInt j (j.wrap (.ofNat a - .ofNat b))))
  | .neg k b => kEq j k && mkNat j (a + (b + 1)) f
  | _ => false
def bitK (g : Nat → Nat → Nat) (x y : AV) (f : AV → Bool) : Bool := asNat x fun j a => asNat y fun k b => kEq j k && Nat.blt a (maxOf j) && Nat.blt b (maxOf j) && mkNat j (g a b) f
def natK (g : Nat → Nat → Nat) (x y : AV) (f : AV → Bool) : Bool := asNat x fun j a => asNat y fun k b => kEq j k && mkNat j (g a b) f
def divK (g : Nat → Nat → Nat) (x y : AV) (f : AV → Bool) : Bool := asNat x fun j a => asNat y fun k b => kEq j k && (!Nat.beq b 0) && mkNat j (g a b) f
def remK (x y : AV) (f : AV → Bool) : Bool := asNat x fun j a => asNat y fun k b => kEq j k && (!Nat.beq b 0) && f (.nat j (a % b))
def bitsOf : IntKind → Nat
  | .i8 => 8 | .u8 => 8 | .i16 => 16 | .u16 => 16 | .i32 => 32 | .u32 => 32 | .i64 => 64 | .u64 => 64
def shlK (x y : AV) (f : AV → Bool) : Bool := asNat x fun j a => asNat y fun _ b => mkNat j (a * 2 ^ minN b (bitsOf j)) f
def shrK (x y : AV) (f : AV → Bool) : Bool := asNat x fun j a => asNat y fun _ b => f (.nat j (a / 2 ^ minN b (bitsOf j)))
def negK (x : AV) (f : AV → Bool) : Bool := match x with
  | .nat j a => f (ofInt j (j.wrap (0 - .ofNat a)))
  | .neg j a => f (ofInt j (j.wrap (0 - .negSucc a)))
  | _ => false

def binR (op : BinOp) : Option (AV → AV → AH → KV → Bool) := match op with
  | .lss => some fun x y A K => ltK x y fun b => K (.bool b) A
  | .gtr => some fun x y A K => ltK y x fun b => K (.bool b) A
  | .leq => some fun x y A K => ltK y x fun b => K (.bool (!b)) A
  | .geq => some fun x y A K => ltK x y fun b => K (.bool (!b)) A
  | .add => some fun x y A K => addK x y fun v => K v A
  | .sub => some fun x y A K => subK x y fun v => K v A
  | .mul => some fun x y A K => natK (· * ·) x y fun v => K v A
  | .quo => some fun x y A K => divK (· / ·) x y fun v => K v A
  | .rem => some fun x y A K => remK x y fun v => K v A
  | .and => some fun x y A K => bitK Nat.land x y fun v => K v A
  | .or => some fun x y A K => bitK Nat.lor x y fun v => K v A
  | .xor => some fun x y A K => bitK Nat.xor x y fun v => K v A
  | .shl => some fun x y A K => shlK x y fun v => K v A
  | .shr => some fun x y A K => shrK x y fun v => K v A
  | _ => none

def natOr (z : Nat) (e : Env) (o : Option Ev) (f : Nat → Bool) : Bool := match o with
  | none => f z
  | some x => asNat (x e) fun _ n => f n
def capOk (m len : Nat) (cap : Option Nat) : Bool := bif Nat.ble m len then true else (match cap with | some c => Nat.ble m c | none => false)
def cut (b : Pa) (i l h : Nat) (m : Option Nat) (len : Nat) (A : AH) (K : KV) : Bool := match m with
  | some c => bif Nat.beq c l then K (.nil 5) A else K (.slc b (i + l) (h - l) (some (c - l))) A
  | none => bif Nat.blt l len then K (.slc b (i + l) (h - l) none) A else bif Nat.beq l 0 then K (.slc b i (h - l) none) A else K (.nil 5) A
def sliceRow (sz : Nat) (b : Pa) (i len : Nat) (cap : Option Nat) (e : Env) (lo hi mx : Option Ev) (A : AH) (K : KV) : Bool := asRow A b fun s _ _ => Nat.beq s sz &&
  natOr 0 e lo fun l => match mx with
    | none => natOr len e hi fun h => Nat.ble l h && capOk h len cap && cut b i l h cap len A K
    | some m => optK hi fun hi => asNat (hi e) fun _ h => asNat (m e) fun _ m => Nat.ble l h && Nat.ble h m && capOk m len cap && cut b i l h (some m) len A K
def zeroOr (e : Env) (o : Option Ev) (f : Bool) : Bool := match o with
  | none => f
  | some x => asNat (x e) fun _ n => Nat.beq n 0 && f
def sliceStr (x : AV) (e : Env) (lo hi : Option Ev) (A : AH) (K : KV) : Bool := asStr x fun s => natOr 0 e lo fun l => natOr s.length e hi fun h => Nat.ble l h && optK (sub l (h - l) s) fun r => K (.str r) A
def sliceR (sz : Nat) (x : AV) (e : Env) (lo hi mx : Option Ev) (A : AH) (K : KV) : Bool := match x with
  | .ref t b i n c => Nat.beq t 1 && sliceRow sz b i n c e lo hi mx A K
  | .nil t => Nat.beq t 1 && (match mx with | none => zeroOr e lo (zeroOr e hi (K (.nil 1) A)) | some m => optK hi fun hi => zeroOr e lo (zeroOr e (some hi) (zeroOr e (some m) (K (.nil 1) A))))
  | _ => false
def sliceArr (n sz : Nat) (x : AV) (e : Env) (lo hi : Option Ev) (A : AH) (K : KV) : Bool := asPtr x fun b i f => Nat.beq f 0 && asRow A b fun s m _ => Nat.beq s sz && Nat.ble (i + n) m &&
  natOr 0 e lo fun l => natOr n e hi fun h => Nat.ble l h && Nat.ble h n && cut b i l h (some n) n A K

def faddr (off : Nat) (x : AV) (A : AH) (K : KV) : Bool := asPtr x fun b i f => K (.ptr b i (f + off)) A
def field1 (off : Nat) (x : AV) (A : AH) (K : KV) : Bool := asCom 0 x fun _ c _ => optK (nth c off) fun v => K v A
def fieldN (off n : Nat) (x : AV) (A : AH) (K : KV) : Bool := asCom 0 x fun _ c _ => optK (sub off n c) fun l => K (.agg l) A
def iaddr (sz : Nat) (x ix : AV) (A : AH) (K : KV) : Bool := match x with
  | .ref t b i n _ => Nat.beq t 1 && asNat ix fun _ j => Nat.blt j n && asRow A b fun s _ _ => Nat.beq s sz && K (.ptr b (i + j) 0) A
  | _ => false
def iaddrArr (n sz : Nat) (x ix : AV) (A : AH) (K : KV) : Bool := asPtr x fun b i f => asNat ix fun _ j => Nat.blt j n && asRow A b fun s _ _ =>
  bif Nat.beq s sz then K (.ptr b (i + j) f) A else K (.ptr b i (f + j * sz)) A
def indexS (x ix : AV) (A : AH) (K : KV) : Bool := asStr x fun s => asNat ix fun _ j => optK (nth s j) fun c => K (.nat .u8 c) A
def indexArr1 (n : Nat) (x ix : AV) (A : AH) (K : KV) : Bool := asCom 0 x fun _ c _ => asNat ix fun _ j => Nat.blt j n && optK (nth c j) fun v => K v A
def indexArrN (n sz : Nat) (x ix : AV) (A : AH) (K : KV) : Bool := asCom 0 x fun _ c _ => asNat ix fun _ j => Nat.blt j n && optK (sub (j * sz) sz c) fun l => K (.agg l) A

abbrev EqF := AV → AV → (Bool → Bool) → Bool
def findM (q : EqF) (k : AV) (f : Option (Nat × AV) → Bool) : List (Nat × AV × AV) → Bool
  | [] => f none
  | x :: r => q k x.2.1 fun t => bif t then f (some (x.1, x.2.2)) else findM q k f r
def putM (q : EqF) (k v : AV) : List (Nat × AV × AV) → (Option (List (Nat × AV × AV)) → Bool) → Bool
  | [], f => f none
  | x :: r, f => q k x.2.1 fun t => bif t then f (some ((x.1, k, v) :: r)) else putM q k v r fun l => match l with | some l => f (some (x :: l)) | none => f none
def delM (q : EqF) (k : AV) : List (Nat × AV × AV) → (List (Nat × AV × AV) → Bool) → Bool
  | [], f => f []
  | x :: r, f => q k x.2.1 fun t => bif t then f r else delM q k r fun l => f (x :: l)
def stM (s : Nat) (v : AV) : List (Nat × AV × AV) → Option (List (Nat × AV × AV))
  | [] => none
  | x :: r => bif Nat.beq x.1 s then some ((x.1, x.2.1, v) :: r) else match stM s v r with | some l => some (x :: l) | none => none
def entries (m : AV) (A : AH) (f : List (Nat × AV × AV) → Bool) : Bool := match m with
  | .nil t => Nat.beq t 2 && f []
  | .ref t b _ _ _ => Nat.beq t 2 && optK (A.get b) fun o => oMap o fun _ es => f es
  | _ => false
def okV (ok : Bool) (v : AV) (t : Bool) : AV := bif ok then .tuple [v, .bool t] else v
def lookupR (q : EqF) (z : AV) (ok : Bool) (m k : AV) (A : AH) (K : KV) : Bool := entries m A fun es => findM q k (fun o => match o with | some v => K (okV ok v.2 true) A | none => K (okV ok z false) A) es
def mapK (m : AV) (A : AH) (f : Pa → Nat → List (Nat × AV × AV) → Bool) : Bool := asMap m fun b => optK (A.get b) fun o => oMap o fun c es => f b c es
def updR (q : EqF) (m k v : AV) (A : AH) (K : KV) : Bool := mapK m A fun b c es => putM q k v es fun l => match l with
  | some es' => K (.tuple []) (A.put b (.map c es'))
  | none => K (.tuple []) (A.put b (.map (c + 1) (es ++ [(c, k, v)])))
def entryR (q : EqF) (z : AV) (m k : AV) (A : AH) (K : KV) : Bool := mapK m A fun b c es => findM q k (fun o => match o with
  | some v => K (.tuple [v.2, .nat .i64 v.1]) A
  | none => K (.tuple [z, .nat .i64 c]) (A.put b (.map (c + 1) (es ++ [(c, k, z)])))) es
def estR (m s v : AV) (A : AH) (K : KV) : Bool := mapK m A fun b c es => asNat s fun _ s => optK (stM s v es) fun es' => K (.tuple []) (A.put b (.map c es'))
def deleteR (q : EqF) (m k : AV) (A : AH) (K : KV) : Bool := mapK m A fun b c es => delM q k es fun es' => K (.tuple []) (A.put b (.map c es'))

def lenS (x : AV) (A : AH) (K : KV) : Bool := asStr x fun s => K (.nat .i64 s.length) A
def lenV (x : AV) (f : Nat → Bool) : Bool := match x with
  | .ref t _ _ n _ => Nat.beq t 1 && f n
  | .nil t => (Nat.beq t 1 || Nat.beq t 5) && f 0
  | _ => false
def lenL (x : AV) (A : AH) (K : KV) : Bool := lenV x fun n => K (.nat .i64 n) A
def lenM (x : AV) (A : AH) (K : KV) : Bool := match x with
  | .ref t b _ _ _ => Nat.beq t 2 && optK (A.get b) fun o => oMap o fun _ es => K (.nat .i64 es.length) A
  | .nil t => Nat.beq t 2 && K (.nat .i64 0) A
  | _ => false

def elems (t : Tr (List AV)) : Nat → Nat → Option (List (List AV))
  | 0, _ => some []
  | n + 1, i => match t.get i with
    | some c => (match elems t n (i + 1) with | some l => some (c :: l) | none => none)
    | none => none
def u8s : List Nat → List (List AV)
  | [] => []
  | c :: r => [.nat .u8 c] :: u8s r
/-- the elements of a slice, and how many they are -/
def rowOf (sz : Nat) (x : AV) (A : AH) (f : Nat → List (List AV) → Bool) : Bool := match x with
  | .nil t => (Nat.beq t 1 || Nat.beq t 5) && f 0 []
  | .ref t b i n _ => Nat.beq t 1 && asRow A b fun s m t => Nat.beq s sz && Nat.ble (i + n) m && optK (elems t n i) fun l => f n l
  | _ => false
def rowOrStr (sz : Nat) (x : AV) (A : AH) (f : Nat → List (List AV) → Bool) : Bool := match x with
  | .str s => Nat.beq sz 1 && f s.length (u8s s)
  | _ => rowOf sz x A f

def appendTo (s : Nat) (b : Pa) (i len : Nat) (cap : Option Nat) (new : List (List AV)) (n : Nat) (A : AH) (t : Tr (List AV)) (m : Nat) (K : KV) : Bool :=
  match cap with
  | none => bif Nat.beq i 0 then newK (A.put b .dead) (.row s (len + n) (trOf len new t)) fun b A => K (.slc b 0 (len + n) none) A
    else optK (elems t len i) fun old => newSlc s (len + n) none (len + n) (old ++ new) (A.put b .dead) K
  | some c => bif Nat.blt c (len + n) then (bif Nat.beq i 0 then newK A (.row s (len + n) (trOf len new t)) fun b A => K (.slc b 0 (len + n) none) A
      else optK (elems t len i) fun old => newSlc s (len + n) none (len + n) (old ++ new) A K)
    else Nat.ble (i + len + n) m && K (.slc b i (len + n) cap) (A.put b (.row s m (trOf (i + len) new t)))
def appendL (s : Nat) (x : AV) (new : List (List AV)) (n : Nat) (A : AH) (K : KV) : Bool := match x with
  | .nil t => bif Nat.beq n 0 then (Nat.beq t 1 || Nat.beq t 5) && K x A else Nat.beq t 1 && Nat.ble n 65536 && newSlc s n none n new A K
  | .ref t b i len cap => Nat.beq t 1 && (bif Nat.beq n 0 then K x A else asRowW A b fun z m t => Nat.beq z s && Nat.ble (i + len) m && Nat.ble (len + n) 65536 && appendTo s b i len cap new n A t m K)
  | _ => false
def appendZ (s : Nat) (z : List AV) (x y : AV) (A : AH) (K : KV) : Bool := asNat y fun _ n => Nat.ble n 65536 && appendL s x (rowFrom z n) n A K
def appendR (s : Nat) (x y : AV) (A : AH) (K : KV) : Bool := rowOrStr s y A fun n new => appendL s x new n A K
def copyR (sz : Nat) (d s : AV) (A : AH) (K : KV) : Bool := rowOrStr sz s A fun sn new => match d with
  | .nil t => (Nat.beq t 1 || Nat.beq t 5) && K (.nat .i64 0) A
  | .ref t b i n _ => Nat.beq t 1 && optK (takeN (minN n sn) new) fun new => asRowW A b fun z m t => Nat.beq z sz && Nat.ble (i + minN n sn) m && K (.nat .i64 (minN n sn)) (A.put b (.row z m (trOf i new t)))
  | _ => false
def clearR (sz : Nat) (z : List AV) (d : AV) (A : AH) (K : KV) : Bool := match d with
  | .ref t b i n _ => Nat.beq t 1 && asRowW A b fun s m t => Nat.beq s sz && Nat.ble (i + n) m && K (.tuple []) (A.put b (.row s m (trOf i (rowFrom z n) t)))
  | .nil t => (Nat.beq t 1 || Nat.beq t 5) && K (.tuple []) A
  | _ => false
def capR (x : AV) (A : AH) (K : KV) : Bool := match x with
  | .nil t => Nat.beq t 1 && K (.nat .i64 0) A
  | .ref t _ _ n c => Nat.beq t 1 && (match c with | some c => K (.nat .i64 c) A | none => K (.com 5 n [] []) A)
  | _ => false
def maxR (x y : AV) (A : AH) (K : KV) : Bool := ltK x y fun b => K (bif b then y else x) A
def minR (x y : AV) (A : AH) (K : KV) : Bool := ltK y x fun b => K (bif b then y else x) A

def bytesOf : List (List AV) → (List Nat → Bool) → Bool
  | [], f => f []
  | [] :: _, _ => false
  | (x :: _) :: r, f => asNat x fun k n => kEq k .u8 && Nat.blt n 256 && bytesOf r fun l => f (n :: l)
def toStr (x : AV) (A : AH) (K : KV) : Bool := rowOf 1 x A fun _ l => bytesOf l fun s => K (.str s) A
def toBytes (x : AV) (A : AH) (K : KV) : Bool := asStr x fun s => newSlc 1 s.length none s.length (u8s s) A K
def toKind (k : IntKind) (x : AV) (A : AH) (K : KV) : Bool := match x with
  | .nat _ n => mkNat k n fun v => K v A
  | .neg _ n => K (ofInt k (k.wrap (.negSucc n))) A
  | _ => false
def makeS (s : Nat) (z : List AV) (l c : AV) (A : AH) (K : KV) : Bool := asNat l fun _ l => asNat c fun _ c => Nat.ble l c && Nat.ble c 65536 && newSlc s l (some c) c (rowFrom z c) A K
def assertR (t : TypeId) (z : AV) (ok : Bool) (x : AV) (A : AH) (K : KV) : Bool := match x with
  | .com u n a _ => Nat.beq u 3 && (match a with
    | v :: _ => bif Nat.beq n t then K (okV ok v true) A else ok && K (okV ok z false) A
    | [] => false)
  | .nil u => Nat.beq u 4 && ok && K (okV ok z false) A
  | _ => false
def extractR (i : Nat) (x : AV) (A : AH) (K : KV) : Bool := asCom 1 x fun _ vs _ => optK (nth vs i) fun v => K v A
def pickR (c a b : AV) (A : AH) (K : KV) : Bool := asBool c fun t => K (bif t then a else b) A
def nilR (x : AV) (A : AH) (K : KV) : Bool := isNil x fun b => bif b then false else K x A
def rangeR (x : AV) (A : AH) (K : KV) : Bool := match x with
  | .nil t => Nat.beq t 2 && newK A (.iter none 0 [] 0) fun b A => K (.ptr b 0 0) A
  | .ref t m _ _ _ => Nat.beq t 2 && optK (A.get m) fun o => oMap o fun c _ => newK A (.iter (some m) c [] c) fun b A => K (.ptr b 0 0) A
  | _ => false
def memN (n : Nat) : List Nat → Bool
  | [] => false
  | x :: r => bif Nat.beq n x then true else memN n r
def leftM (seen : List Nat) : List (Nat × AV × AV) → List (Nat × AV × AV)
  | [] => []
  | x :: r => bif memN x.1 seen then leftM seen r else x :: leftM seen r
def anyOld (n : Nat) : List (Nat × AV × AV) → Bool
  | [] => false
  | x :: r => bif Nat.blt x.1 n then true else anyOld n r
def stepsOk (seen : List Nat) (last : Nat) (es : List (Nat × AV × AV)) : Bool := match seen with
  | [] => true
  | _ :: _ => (match es with | [] => true | _ :: _ => anyOld last es)
def nextIt (b m : Pa) (since : Nat) (seen : List Nat) (clock : Nat) (l : List (Nat × AV × AV)) (A : AH) (K : KV) : Bool := match l with
  | [] => K (.tuple [.bool false]) A
  | [(n, k, v)] => Nat.blt n since && K (.tuple [.bool true, k, v]) (A.put b (.iter (some m) since (seen ++ [n]) clock))
  | _ => false
def nextR (x : AV) (A : AH) (K : KV) : Bool := asPtr x fun b i f => Nat.beq i 0 && Nat.beq f 0 && optK (A.get b) fun o => oIter o fun m since seen last => match m with
  | none => K (.tuple [.bool false]) A
  | some m => optK (A.get m) fun o => oMap o fun clock es => stepsOk seen last es && nextIt b m since seen clock (leftM seen es) A K

def lastN : List Nat → Option Nat
  | [] => none
  | x :: r => match r with | [] => some x | _ :: _ => lastN r
def bornM (s : Nat) : List (Nat × AV × AV) → Option (AV × AV)
  | [] => none
  | x :: r => bif Nat.beq x.1 s then some x.2 else bornM s r
/-- the entry that the iterator has stepped to -/
def curR (x : AV) (A : AH) (K : KV) : Bool := asPtr x fun b i f => Nat.beq i 0 && Nat.beq f 0 && optK (A.get b) fun o => oIter o fun m _ seen stepped => optK m fun m => optK (A.get m) fun o => oMap o fun clock es =>
  Nat.beq clock stepped && optK (lastN seen) fun s => optK (bornM s es) fun kv => K (.tuple [kv.1, kv.2]) A

section
variable (P : Program)

def size (t : TypeId) : Option Nat := match P.info? t with | some i => some i.size | none => none
def isAgg (t : TypeId) : Option Bool := match P.underlying t with
  | some (.struct _) => some true
  | some (.array _ _) => some true
  | some _ => some false
  | none => none
def zeroV (t : TypeId) : Option AV := match P.info? t with
  | some i => (match i.zero with | some v => AV.ofV v | none => none)
  | none => none
/-- the cells of a type's zero value -/
def zeroC (t : TypeId) : Option (List AV) := match zeroV P t, size P t with
  | some z, some s => (match cellsO z with | some c => bif Nat.beq c.length s && c.all oneA then some c else none | none => none)
  | _, _ => none
/-- the size of an element that is no great one -/
def small (t : TypeId) : Option Nat := match P.info? t with | some i => bif Nat.ble i.bytes 65536 && Nat.blt 0 i.bytes && Nat.blt 0 i.size then some i.size else none | none => none
def elemTy (t : TypeId) : Option TypeId := match P.underlying t with
  | some (.slice e) => some e
  | _ => none
def fieldOf (t : TypeId) (i : Nat) : Option Field := match P.underlying t with
  | some (.struct fs) => nth fs.toList i
  | _ => none

/-- the kinds of a struct's fields, if each is one cell that is compared as it is -/
def flatS : Nat → List Field → Option (List Nat)
  | _, [] => some []
  | i, fd :: r => match flatS (i + 1) r, P.underlying fd.type with
    | some l, some (.int _) => bif Nat.beq fd.offset i && (fd.name != "_") then some (0 :: l) else none
    | some l, some .string => bif Nat.beq fd.offset i && (fd.name != "_") then some (1 :: l) else none
    | some l, some .bool => bif Nat.beq fd.offset i && (fd.name != "_") then some (2 :: l) else none
    | _, _ => none
/-- how two are compared -/
def eqT (t : TypeId) (cst : Bool) : Option (AV → AV → (Bool → Bool) → Bool) := match P.underlying t with
  | some (.int _) => some eqI
  | some .string => some eqStr
  | some .bool => some eqB
  | some (.pointer _) => some (eqNil 0)
  | some (.slice _) => some (eqNil 1)
  | some (.map _ _) => some (eqNil 2)
  | some (.func _ _ _) => some (eqNil 3)
  | some (.interface _) => bif cst then some (eqNil 4) else none
  | some (.array n el) => bif P.eqGuardType P.depth t then none else (match P.underlying el with
    | some (.int _) => (match size P el with | some 1 => some (eqA (List.replicate n 0)) | _ => none)
    | _ => none)
  | some (.struct fs) => bif P.eqGuardType P.depth t || P.stoodInHeld t then none else (match flatS P 0 fs.toList with | some ks => some (eqA ks) | none => none)
  | _ => none
def isCst (x : Operand) : Bool := match x with | .const _ => true | _ => false
/-- a map whose keys are numbers or texts: its elements' type, how its keys are compared -/
def mapTy (t : TypeId) : Option (TypeId × EqF) := match P.underlying t with
  | some (.map k el) => (match P.underlying k with
    | some (.int _) => some (el, eqI)
    | some .string => some (el, eqStr)
    | _ => none)
  | _ => none
/-- the variables that are laid -/
def glOk (g : Nat) : Bool := Nat.beq g 2 || Nat.beq g 1 || Nat.beq g 3 || Nat.beq g 4
/-- an operand -/
def cOpd : Operand → Option Ev
  | .tmp t => getE t
  | .const v => (match AV.ofV v with | some a => some fun _ => a | none => none)
  | .global g => bif glOk g then some fun _ => .ptr (idOf g) 0 0 else none
  | .func f => some fun _ => .com 2 f [] []
def cOpds : List Operand → Option (List Ev)
  | [] => some []
  | x :: xs => match cOpd x, cOpds xs with
    | some a, some l => some (a :: l)
    | _, _ => none
def cParts : List (Nat × Operand) → Option (List (Nat × Ev))
  | [] => some []
  | (i, x) :: xs => match cOpd x, cParts xs with
    | some a, some l => some ((i, a) :: l)
    | _, _ => none
def cOpt : Option Operand → Option (Option Ev)
  | none => some none
  | some x => match cOpd x with | some a => some (some a) | none => none

def c1 (x : Operand) (r : AV → AH → KV → Bool) : Option Run := match cOpd x with
  | some a => some fun e A K => r (a e) A K
  | none => none
def c2 (x y : Operand) (r : AV → AV → AH → KV → Bool) : Option Run := match cOpd x, cOpd y with
  | some a, some b => some fun e A K => r (a e) (b e) A K
  | _, _ => none
def c3 (x y z : Operand) (r : AV → AV → AV → AH → KV → Bool) : Option Run := match cOpd x, cOpd y, cOpd z with
  | some a, some b, some c => some fun e A K => r (a e) (b e) (c e) A K
  | _, _, _ => none

def cBuiltin (b : Builtin) (ts : List TypeId) (args : List Operand) : Option Run :=
  match b, args with
  | .len, [x] => (match ts with
    | t :: _ => (match P.underlying t with
      | some (.array n _) => (match cOpd x with | some _ => some fun _ A K => K (.nat .i64 n) A | none => none)
      | some (.pointer a) => (match P.underlying a, cOpd x with | some (.array n _), some _ => some fun _ A K => K (.nat .i64 n) A | _, _ => none)
      | some .string => c1 x lenS
      | some (.slice _) => c1 x lenL
      | some (.map _ _) => c1 x lenM
      | _ => none)
    | _ => none)
  | .cap, [x] => (match ts with
    | t :: _ => (match elemTy P t with | some _ => c1 x capR | none => none)
    | _ => none)
  | .append, [s, x] => (match ts with
    | t :: t2 :: _ => (match elemTy P t, P.underlying t2 with
      | some el, some d2 => (match small P el, zeroC P el with
        | some sz, some z => (match d2 with | .int _ => c2 s x (appendZ sz z) | _ => c2 s x (appendR sz))
        | _, _ => none)
      | _, _ => none)
    | _ => none)
  | .copy, [a, b] => (match ts with
    | t :: _ => (match elemTy P t with
      | some el => (match size P el with | some sz => bif Nat.beq sz 0 then none else c2 a b (copyR sz) | none => none)
      | none => none)
    | _ => none)
  | .clear, [a] => (match ts with
    | t :: _ => (match elemTy P t with
      | some el => (match size P el, zeroC P el with | some sz, some z => c1 a (clearR sz z) | _, _ => none)
      | none => none)
    | _ => none)
  | .delete, [m, k] => (match ts with
    | t :: _ => (match mapTy P t with | some e => c2 m k (deleteR e.2) | none => none)
    | _ => none)
  | .max, [x, y] => c2 x y maxR
  | .min, [x, y] => c2 x y minR
  | _, _ => none

def cAlloc (t : TypeId) (z : List AV) (s : Nat) : Run := match P.underlying t with
  | some (.array n el) => (match P.underlying el with
    | some (.int .u8) => fun _ A K => Nat.beq n s && newArr n z A K
    | _ => fun _ A K => newRow s z A K)
  | _ => fun _ A K => newRow s z A K
def places : List Field → Option (List (Nat × Nat))
  | [] => some []
  | f :: r => match size P f.type, places r with
    | some s, some l => some ((f.offset, s) :: l)
    | _, _ => none
def cBuild (t : TypeId) (z : List AV) (ps : List (Nat × Ev)) : Option Run := match P.underlying t with
  | some (.struct fs) => (match places P fs.toList with | some l => some fun e A K => buildR (nth l) z ps e A K | none => none)
  | some (.array _ el) => (match size P el with | some s => some fun e A K => buildR (fun i => some (i * s, s)) z ps e A K | none => none)
  | _ => none
def inOrder : Nat → List (Nat × Ev) → Bool
  | _, [] => true
  | i, x :: r => Nat.beq x.1 i && inOrder (i + 1) r
def cConvert (src dst : TypeId) (x : Operand) : Option Run := match P.underlying src with
  | some (.int _) => (match P.underlying dst with
    | some (.int k) => c1 x (toKind k)
    | _ => none)
  | some .string => (match P.underlying dst with
    | some .string => c1 x fun v A K => asStr v fun _ => K v A
    | some (.slice el) => (match P.underlying el, size P el with | some (.int .u8), some 1 => c1 x toBytes | _, _ => none)
    | _ => none)
  | some (.slice el) => (match P.underlying dst with
    | some .string => (match P.underlying el with | some (.int .u8) => c1 x toStr | _ => none)
    | _ => none)
  | _ => none
def cSlice (t : TypeId) (x : Operand) (lo hi mx : Option Ev) : Option Run := match P.underlying t with
  | some .string => (match mx with | none => c1x x fun v e A K => sliceStr v e lo hi A K | some _ => none)
  | some (.slice el) => (match size P el with | some sz => c1x x fun v e A K => sliceR sz v e lo hi mx A K | none => none)
  | some (.pointer a) => (match P.underlying a with
    | some (.array n el) => (match size P el, mx with | some s, none => c1x x fun v e A K => sliceArr n s v e lo hi A K | _, _ => none)
    | _ => none)
  | some (.array n el) => (match size P el, mx with | some s, none => c1x x fun v e A K => sliceArr n s v e lo hi A K | _, _ => none)
  | _ => none
where c1x (x : Operand) (r : AV → Env → AH → KV → Bool) : Option Run := match cOpd x with
  | some a => some fun e A K => r (a e) e A K
  | none => none

def cOp (o : Oper) : Option Run :=
  match o.op with
  | .move x | .assign x => c1 x fun v A K => K v A
  | .pick c a b => c3 c a b pickR
  | .alloc t => (match zeroC P t, size P t with
    | some z, some s => bif Nat.beq s 0 then none else some (cAlloc P t z s)
    | _, _ => none)
  | .box t x => (match size P t with | some s => bif Nat.beq s 0 then none else c1 x (fun v A K => cellsK s v fun c => newRow s c A K) | none => none)
  | .build t ps => (match zeroC P t, cParts ps.toList with
    | some z, some ps => cBuild P t z ps
    | _, _ => none)
  | .buildSlice t n ps => (match elemTy P t with
    | some el => (match size P el, zeroC P el, cParts ps.toList with
      | some s, some _, some ps => bif Nat.beq ps.length n && inOrder 0 ps && Nat.blt 0 s && Nat.ble (n * s) 65536 then some fun e A K => buildSlc s n (ps.map (·.2)) e A K else none
      | _, _, _ => none)
    | none => none)
  | .load t a => (match isAgg P t, size P t with
    | some true, some n => c1 a (ldN n)
    | some false, _ => c1 a ld1
    | _, _ => none)
  | .store t a x => (match size P t with | some n => c2 a x (st n) | none => none)
  | .nilCheck x => c1 x nilR
  | .binOp op t x y _ => (match op with
    | .eql => (match eqT P t (isCst x || isCst y) with | some q => c2 x y (fun v w A K => q v w fun b => K (.bool b) A) | none => none)
    | .neq => (match eqT P t (isCst x || isCst y) with | some q => c2 x y (fun v w A K => q v w fun b => K (.bool (!b)) A) | none => none)
    | op => (match binR op with | some r => c2 x y r | none => none))
  | .unOp op _ x => (match op with
    | .not => c1 x fun v A K => asBool v fun b => K (.bool !b) A
    | .neg => c1 x fun v A K => negK v fun v => K v A
    | _ => none)
  | .convert src dst x => cConvert P src dst x
  | .makeInterface t x => (match P.underlying t with
    | some (.interface _) => none
    | some _ => c1 x fun v A K => K (.com 3 t [v] []) A
    | none => none)
  | .makeFunc (.func g) first caps => (match cOpds first.toList, cOpds caps.toList with
    | some a, some c => some fun e A K => K (.com 2 g (evs e a) (evs e c)) A
    | _, _ => none)
  | .makeMap t r => (match P.underlying t, r with
    | some (.map _ _), none => some fun _ A K => newK A (.map 0 []) fun b A => K (.ref 2 b 0 0 none) A
    | some (.map _ _), some h => c1 h fun v A K => asNat v fun _ _ => newK A (.map 0 []) fun b A => K (.ref 2 b 0 0 none) A
    | _, none => none
    | _, some _ => none)
  | .makeSlice t l c => (match elemTy P t with
    | some el => (match small P el, zeroC P el with
      | some s, some z => c2 l c (makeS s z)
      | _, _ => none)
    | none => none)
  | .slice t x lo hi mx => (match cOpt lo, cOpt hi, cOpt mx with
    | some lo, some hi, some mx => cSlice P t x lo hi mx
    | _, _, _ => none)
  | .fieldAddr s x i => (match fieldOf P s i with
    | some fd => (match size P fd.type with | some m => bif Nat.beq m 0 then none else c1 x (faddr fd.offset) | none => none)
    | none => none)
  | .field t x i => (match fieldOf P t i with
    | some fd => (match isAgg P fd.type, size P fd.type with
      | some true, some n => c1 x (fieldN fd.offset n)
      | some false, _ => c1 x (field1 fd.offset)
      | _, _ => none)
    | none => none)
  | .indexAddr t x ix => (match P.underlying t with
    | some (.slice el) => (match size P el with | some sz => c2 x ix (iaddr sz) | none => none)
    | some (.array n el) => (match size P el with | some s => c2 x ix (iaddrArr n s) | none => none)
    | _ => none)
  | .index t x ix => (match P.underlying t with
    | some .string => c2 x ix indexS
    | some (.array n el) => (match isAgg P el, size P el with
      | some true, some s => c2 x ix (indexArrN n s)
      | some false, some 1 => c2 x ix (indexArr1 n)
      | _, _ => none)
    | _ => none)
  | .lookup t x k ok => (match mapTy P t with
    | some e => (match zeroV P e.1 with | some z => c2 x k (lookupR e.2 z ok) | none => none)
    | none => none)
  | .mapUpdate t m k x | .insert t m k x => (match mapTy P t with | some e => c3 m k x (updR e.2) | none => none)
  | .mapEntry t m k => (match mapTy P t with
    | some e => (match zeroV P e.1 with | some z => c2 m k (entryR e.2 z) | none => none)
    | none => none)
  | .entryStore _ m s x => c3 m s x estR
  | .range t x => (match P.underlying t with | some (.map _ _) => c1 x rangeR | _ => none)
  | .next it false => c1 it nextR
  | .entry it => c1 it curR
  | .typeAssert x _ asserted ok => (match P.underlying asserted with
    | some (.interface _) => none
    | some _ => (match zeroV P asserted with | some z => c1 x (assertR asserted z ok) | none => none)
    | none => none)
  | .extract t i => c1 t (extractR i)
  | .call c => (match c.callee with
    | .builtin b => cBuiltin P b c.argTypes.toList c.args.toList
    | _ => none)
  | _ => none

def calmOp (o : Oper) : Bool := o.dst.isSome && match o.op with
  | .convert _ dst _ => (match elemTy P dst with | some _ => false | none => true)
  | .move _ | .pick .. | .load .. | .fieldAddr .. | .field .. | .binOp .. | .unOp .. | .extract .. | .index .. | .indexAddr .. | .slice .. | .makeInterface .. | .makeFunc .. | .build .. | .nilCheck .. | .lookup .. | .alloc .. | .box .. | .buildSlice .. | .makeMap .. | .makeSlice .. => true
  | .call c => match c.callee with
    | .builtin .len | .builtin .min | .builtin .max | .builtin .cap => true
    | _ => false
  | _ => false

def allocOp (o : Oper) : Bool := match o.op with
  | .alloc .. | .box .. | .buildSlice .. | .makeMap .. | .makeSlice .. => true
  | _ => false
def ons (o : Oper) : List Nat := (o.after.toList.filter fun e => Region.binds .any e).map (·.on)
def readyL (ops : List Oper) (listed : List Nat) : List Nat → List Oper → List (Nat × Oper)
  | i :: is, o :: os => bif !listed.contains i && (ons o).all listed.contains then (i, o) :: readyL ops listed is os else readyL ops listed is os
  | _, _ => []
def plan (ops : List Oper) : Nat → List Nat → List Nat → Option (List Nat)
  | 0, _, acc => some acc.reverse
  | n + 1, listed, acc =>
    match (readyL ops listed (List.range ops.length) ops).find? (fun x => calmOp P x.2) with
    | some (i, _) => plan ops n (i :: listed) (i :: acc)
    | none => match readyL ops listed (List.range ops.length) ops with
      | [(i, _)] => plan ops n (i :: listed) (i :: acc)
      | _ => none
/-- what is ahead of each -/
def ancs : List Oper → List (List Nat) → List (List Nat)
  | [], acc => acc
  | o :: r, acc => ancs r (acc ++ [((ons o).flatMap fun j => j :: (nth acc j).getD []).eraseDups])
def tmpsOf (ops : List Oper) (o : Oper) : List Tmp := (o.op.operands.toList.filterMap fun x => match x with | .tmp t => some t | _ => none) ++ (match o.guard with
  | some (j, _) => (match nth ops j with | some oj => oj.dst.toList | none => [])
  | none => [])

def wantedA (e : Env) (g : Option (Ev × Bool)) : Bool := match g with
  | none => true
  | some pw => match pw with | (p, w) => match p e with | .bool b => bif b then w else !w | _ => false
def put (d : Option Up) (v : AV) (e : Env) : Env := match d with | some p => p v e | none => e
structure Wr where
  f : KE → KE
def opF (g : Option (Ev × Bool)) (u : Option Up) (run : Run) : Wr := match g with
  | none => (match u with
    | some u => ⟨fun r e A => run e A fun v A => r (u v e) A⟩
    | none => ⟨fun r e A => run e A fun _ A => r e A⟩)
  | some _ => ⟨fun r e A => bif wantedA e g then run e A fun v A => r (put u v e) A else r (put u (.tuple []) e) A⟩
def opW (w : Wr) : Option CO := match w with | ⟨f⟩ => some (.op f)
def cGuard (ops : List Oper) (o : Oper) : Option (Option (Ev × Bool)) := match o.guard with
  | none => some none
  | some (j, want) => (match nth ops j with
    | some oj => (match oj.dst with | some t => (match getE t with | some f => some (some (f, want)) | none => none) | none => none)
    | none => none)
def cDst (n : Nat) (o : Oper) : Option (Option Up) := match o.dst with
  | some t => (match setE t with | some u => bif Nat.blt t n then some (some u) else none | none => none)
  | none => some none
def cOper (n : Nat) (ops : List Oper) (o : Oper) : Option CO :=
  match cGuard ops o, cDst n o with
  | some g, some u => (match o.op with
    | .panic x => (match g, cOpd x with | none, some a => some (.pan a) | _, _ => none)
    | .call c => (match c.callee with
      | .value f => (match cOpd f, cOpds c.args.toList with | some f, some args => some (.call g u f args) | _, _ => none)
      | _ => (match cOp P o with | some r => opW (opF g u r) | none => none))
    | _ => (match cOp P o with | some r => opW (opF g u r) | none => none))
  | _, _ => none
def cOpers (n : Nat) (all : List Oper) : List Oper → Option (List CO)
  | [] => some []
  | o :: r => match cOper P n all o, cOpers n all r with
    | some a, some l => some (a :: l)
    | _, _ => none
/-- which calm operations that look at the heap may wait behind a special one: they are asked again -/
def cRe (all : List Oper) (S : List (List Nat)) (i : Nat) : List Nat → Option (List RE)
  | [] => some []
  | j :: r => match cRe all S i r, nth all j, nth S i with
    | some l, some oj, some Si =>
      bif memN j Si || !calmOp P oj || allocOp oj then some l else
      (match cGuard all oj, cOp P oj, oj.dst with
      | some g, some run, some t => (match getE t with | some f => some (⟨g, run, f⟩ :: l) | none => none)
      | _, _, _ => none)
    | _, _, _ => none
def cPlan (n : Nat) (all : List Oper) (S : List (List Nat)) : List Nat → List Nat → Option (List (CO × List RE))
  | _, [] => some []
  | done, i :: r => match nth all i with
    | some o => (match cOper P n all o, cPlan n all S (i :: done) r, (bif calmOp P o then some [] else cRe P all S i done) with
      | some a, some l, some re => some ((a, re) :: l)
      | _, _, _ => none)
    | none => none
def memT (t : Tmp) : List Tmp → Bool
  | [] => false
  | x :: r => bif Nat.beq t x then true else memT t r
/-- the slots: each is written once; what writes and what reads one are in order -/
def tmpOk1 (all : List Oper) (i : Nat) (oi : Oper) (Si : List Nat) (j : Nat) (oj : Oper) (Sj : List Nat) : Bool := match oi.dst with
  | none => true
  | some t => bif Nat.beq i j then !memT t (tmpsOf all oi) else
    (match oj.dst with | some u => !Nat.beq u t | none => true) && (!memT t (tmpsOf all oj) || memN i Sj || (memN j Si && !(calmOp P oi && calmOp P oj)))
def tmpOk (all : List Oper) (S : List (List Nat)) : Bool := (List.range all.length).all fun i => (List.range all.length).all fun j =>
  (match nth all i, nth all j, nth S i, nth S j with
  | some oi, some oj, some Si, some Sj => tmpOk1 P all i oi Si j oj Sj
  | _, _, _, _ => false)

def backOk (ops : List Oper) : Bool := (List.range ops.length).all fun i => match nth ops i with | some o => (ons o).all fun j => Nat.blt j i | none => false
def fullOk (n : Nat) (p : List Nat) : Bool := (List.range n).all fun i => memN i p
def cMix (n : Nat) (ops : List Oper) (S : List (List Nat)) (k : CC) : CC := bif tmpOk P ops S && backOk ops then (match plan P ops ops.length [] [] with
  | some p => bif fullOk ops.length p then (match cPlan P n ops S [] p with | some l => .mix l k | none => .bad) else .bad
  | none => .bad) else .bad
def cRegion (n : Nat) (ops : List Oper) (draw : Bool) (k : CC) : CC :=
  bif draw then cMix P n ops (ancs ops []) k
  else (match cOpers P n ops ops with | some l => .ops l k | none => .bad)

def noRange : Code → Bool
  | .seq a b => noRange a && noRange b
  | .cond _ a b => noRange a && noRange b
  | .block _ c => noRange c
  | .loop c => noRange c
  | .scope c => noRange c
  | .rangeFunc .. => false
  | _ => true

def ups (n : Nat) : List Tmp → Option (List Up)
  | [] => some []
  | t :: r => match setE t, ups n r with
    | some u, some l => bif Nat.blt t n then some (u :: l) else none
    | _, _ => none
def cCode (n : Nat) : Code → CC
  | .skip => .skip
  | .label _ => .skip
  | .seq (.region _ ops draw) b => cRegion P n ops.toList draw (cCode n b)
  | .seq a b => .seq (cCode n a) (cCode n b)
  | .region _ ops draw => cRegion P n ops.toList draw .skip
  | .cond x a b => (match cOpd x with | some x => .cond x (cCode n a) (cCode n b) | none => .bad)
  | .block id c => .block id (cCode n c)
  | .loop c => .loop (cCode n c)
  | .exit id => .exit id
  | .ret => .ret
  | .scope c => cCode n c
  | .rangeFunc f ps a b => bif noRange a && noRange b then (match cOpd f, ups n ps.toList with | some x, some l => .range x l a b n | _, _ => .bad) else .bad
  | _ => .bad

structure CF where
  calm : Bool
  cc : CC
  res : Env → AH → KV → Bool

def resOf (r : ResultVar) : Env → AH → KV → Bool := match r with
  | .tmp t => (match getE t with | some f => fun e A K => K (f e) A | none => fun _ _ _ => false)
  | .cell a t => match isAgg P t, size P t with
    | some true, some n => (match getE a with | some f => fun e A K => ldN n (f e) A K | none => fun _ _ _ => false)
    | some false, _ => (match getE a with | some f => fun e A K => ld1 (f e) A K | none => fun _ _ _ => false)
    | _, _ => fun _ _ _ => false
def ressOf (e : Env) (A : AH) : List ResultVar → (List AV → Bool) → Bool
  | [], f => f []
  | r :: rs, f => resOf P r e A fun v _ => ressOf e A rs fun l => f (v :: l)
def resAll (rs : List ResultVar) : Env → AH → KV → Bool := match rs with
  | [r] => resOf P r
  | rs => fun e A K => ressOf P e A rs fun l => K (.tuple l) A

def cFun (g : FuncId) : Option CF := match nth P.funcs.toList g with
  | some fn => (match fn.body with
    | some c => some ⟨noRange c, cCode P fn.ntmps c, resAll P fn.results.toList⟩
    | none => none)
  | none => none
end

def initE : Nat → List AV → Env → Env
  | _, [], t => t
  | i, v :: vs, t => initE (i + 1) vs (match setE i with | some u => u v t | none => t)

/- again -/
mutual
def sameV : AV → AV → Bool
  | .nat j a, .nat k b => kEq j k && Nat.beq a b
  | .neg j a, .neg k b => kEq j k && Nat.beq a b
  | .bool a, .bool b => bif a then b else !b
  | .str a, .str b => bytesEq a b
  | .nil s, .nil t => Nat.beq s t
  | .ref s b i n c, .ref t b' i' n' c' => Nat.beq s t && samePa b b' && Nat.beq i i' && Nat.beq n n' && sameC c c'
  | .com s x a c, .com t y a' c' => Nat.beq s t && Nat.beq x y && sameL a a' && sameL c c'
  | _, _ => false
def sameL : List AV → List AV → Bool
  | [], [] => true
  | a :: x, b :: y => sameV a b && sameL x y
  | _, _ => false
end
def reK (l : List RE) (e : Env) (A : AH) (r : KE) : Bool := match l with
  | [] => r e A
  | x :: l => bif wantedA e x.g then x.run e A fun v _ => sameV v (x.dst e) && reK l e A r else reK l e A r

/- summaries -/
def joinS (sep : List Nat) : List (List Nat) → List Nat
  | [] => []
  | [x] => x
  | x :: xs => x ++ sep ++ joinS sep xs
def idxByte (c : Nat) : List Nat → Nat → AV
  | [], _ => .neg .i64 0
  | x :: xs, i => bif Nat.beq x c then .nat .i64 i else idxByte c xs (i + 1)
def strsOf : List (List AV) → (List (List Nat) → Bool) → Bool
  | [], f => f []
  | [] :: _, _ => false
  | (x :: _) :: r, f => asStr x fun s => strsOf r fun l => f (s :: l)
def isW (c : Nat) : Bool := (Nat.ble 97 c && Nat.ble c 122) || (Nat.ble 65 c && Nat.ble c 90) || (Nat.ble 48 c && Nat.ble c 57) || Nat.beq c 95
def isB (c : Nat) : Bool := Nat.beq c 32 || Nat.beq c 10 || Nat.beq c 9 || Nat.beq c 13
def tk (p : Nat → Bool) : List Nat → List Nat
  | [] => []
  | c :: r => bif p c then c :: tk p r else []
def dk (p : Nat → Bool) : List Nat → List Nat
  | [] => []
  | c :: r => bif p c then dk p r else c :: r
def consO (x : Nat × Nat × List Nat) (o : Option (List (Nat × Nat × List Nat))) : Option (List (Nat × Nat × List Nat)) := match o with | some l => some (x :: l) | none => none
/-- a text's tokens: kind, place, text -/
def lexT : Nat → List Nat → Nat → Option (List (Nat × Nat × List Nat))
  | 0, s, _ => match s with | [] => some [] | _ :: _ => none
  | n + 1, s, p => match s with
    | [] => some []
    | c :: r => bif isW c then (fun w => consO (1, p, c :: w) (lexT n (dk isW r) (p + (w.length + 1)))) (tk isW r)
      else bif isB c then lexT n (dk isB r) (p + ((tk isB r).length + 1))
      else bif Nat.beq c 40 then consO (2, p, [c]) (lexT n r (p + 1))
      else bif Nat.beq c 41 then consO (3, p, [c]) (lexT n r (p + 1))
      else none
def tokA (x : Nat × Nat × List Nat) : List AV := [.nat .i64 x.1, .nat .i64 x.2.1, .str x.2.2]

/- what is known of calls -/
/-- a call: its arguments, what it finds, what it answers, what it leaves -/
structure Ora where
  args : List AV
  pre : List (Pa × AO)
  v : AV
  post : List (Pa × AO)
  nx : Pa
  ph : Nat
def sameOL (v w : Option (List AV)) : Bool := match v with
  | none => (match w with | none => true | some _ => false)
  | some a => (match w with | none => false | some b => sameL a b)
def sameTr : Tr (List AV) → Tr (List AV) → Bool
  | .lf, .lf => true
  | .nd v l r, .nd w l' r' => sameOL v w && (sameTr l l' && sameTr r r')
  | _, _ => false
def sameEs : List (Nat × AV × AV) → List (Nat × AV × AV) → Bool
  | [], [] => true
  | x :: a, y :: b => Nat.beq x.1 y.1 && (sameV x.2.1 y.2.1 && (sameV x.2.2 y.2.2 && sameEs a b))
  | _, _ => false
def sameOP (v w : Option Pa) : Bool := match v with
  | none => (match w with | none => true | some _ => false)
  | some a => (match w with | none => false | some b => samePa a b)
def sameO (x y : AO) : Bool := match x with
  | .row s n t => (match y with | .row s' n' t' => Nat.beq s s' && (Nat.beq n n' && sameTr t t') | _ => false)
  | .map c es => (match y with | .map c' es' => Nat.beq c c' && sameEs es es' | _ => false)
  | .iter m a l b => (match y with | .iter m' a' l' b' => sameOP m m' && (Nat.beq a a' && (bytesEq l l' && Nat.beq b b')) | _ => false)
  | .dead => (match y with | .dead => true | _ => false)
  | .loop _ _ => false
def objsIn : List (Pa × AO) → AH → Bool
  | [], _ => true
  | x :: r, A => optK (A.get x.1) (fun o => sameO x.2 o) && objsIn r A
def putAll : List (Pa × AO) → HT → HT
  | [], t => t
  | x :: r, t => putAll r (HT.set (.ob x.2) x.1 t)
def AH.lay (A : AH) (l : List (Pa × AO)) (nx : Pa) : AH := match A with | ⟨t, _, c, _⟩ => ⟨putAll l t, nx, c, 1⟩
def findO (g : Nat) (nx : Pa) : List (Nat × Pa × Ora) → Option Ora
  | [] => none
  | x :: r => bif Nat.beq g x.1 then (bif samePa nx x.2.1 then some x.2.2 else findO g nx r) else findO g nx r
def oraK (o : Ora) (args : List AV) (A : AH) (K : KV) : Bool := sameL o.args args && (Nat.beq A.ph o.ph && (objsIn o.pre A && K o.v (A.lay o.post o.nx)))
def hasPa (b : Pa) : List (Pa × AO) → Bool
  | [] => false
  | x :: r => bif samePa b x.1 then true else hasPa b r
def len4 (b : Pa) : Bool := Nat.beq b.length 5
/-- what a call must show -/
def oraA (nx : Pa) (o : Ora) : AH := ⟨putAll o.pre .lf, nx, 0, o.ph⟩
def oraE (o : Ora) (v : AV) (A : AH) : Bool := sameV v o.v && (Nat.beq A.ph 1 && (samePa A.next o.nx && objsIn o.post A))
def oraD (o : Ora) : Bool := (o.pre.all fun x => len4 x.1 && hasPa x.1 o.post) && (o.post.all fun x => len4 x.1)

structure Cfg where
  join : Nat
  ibs : Nat
  lex : Nat
  tr : Nat
  fault : Nat
  ora : List (Nat × Pa × Ora) := []

def sJoin (args : List AV) (A : AH) (K : KV) : Bool := match args with
  | [l, s] => asStr s fun sep => rowOf 1 l A fun _ r => strsOf r fun ss => (fun x => Nat.ble x.length 65536 && K (.str x) A) (joinS sep ss)
  | _ => false
def sIbs (args : List AV) (A : AH) (K : KV) : Bool := match args with
  | [s, c] => asStr s fun s => asNat c fun k c => kEq k .u8 && (Nat.blt c 256 && K (idxByte c s 0) A)
  | _ => false
def AH.lexed (A : AH) : AH := match A with | ⟨t, n, c, _⟩ => ⟨t, n, c, 1⟩
def sLex (args : List AV) (A : AH) (K : KV) : Bool := match args with
  | [s] => asStr s fun s => Nat.beq A.ph 0 && (Nat.ble s.length 20000 && optK (lexT (s.length + 1) s 0) fun l => Nat.blt 0 l.length && newSlc 3 l.length none l.length (l.map tokA) A.lexed fun v A => K (.tuple [v, .nat .i64 0, .nat .i64 0]) A)
  | _ => false
def headV (v : AV) (f : AV → Bool) : Bool := optK (cellsO v) fun c => match c with | x :: r => (match r with | [] => f x | _ :: _ => false) | [] => false

section
variable (P : Program) (cf : Cfg) (ih : Tk → Bool)

def sTry (args : List AV) (A : AH) (K : KV) : Bool := match args with
  | [x] => asCom 2 x fun g a c => ih (.call g (a ++ c) A (fun _ A => K (.nat .i64 0) A) (fun v A => asCom 3 v fun t v _ => Nat.beq t cf.fault && (match v with | v :: _ => headV v fun v => K v A | [] => false)))
  | _ => false

/-- code, with what is behind it -/
def params : List Up → List AV → Env → (Env → Bool) → Bool
  | [], [], e, f => f e
  | p :: ps, a :: as, e, f => params ps as (p a e) f
  | _, _, _, _ => false
def jumpB (id : Nat) (j : Jmp) : Bool := match j with
  | .exit i => Nat.beq i id
  | _ => false
/-- a round of a loop over a function -/
def yldE (l : Pa) (j : Jmp) (b : Bool) (A : AH) (K : KV) : Bool := optK (A.get l) fun o => oLoop true o fun L => K (.bool b) (A.put l (.loop false ⟨j, L.env, L.n, L.params, L.assign, L.body⟩))
def jNone (j : Jmp) : Bool := match j with | .none => true | _ => false
def noJ : KJ := fun _ _ _ => false
def yldT (runCode : CC → KJ → KE → KE) (l : Pa) (args : List AV) (A : AH) (K : KV) : Bool := optK (A.get l) fun o => oLoop false o fun L => params L.params args L.env fun e =>
  runCode (cCode P L.n L.assign) noJ (fun e A => optK (A.get l) fun o => oLoop false o fun L' => jNone L'.pend &&
    runCode (cCode P L.n L.body)
      (fun j _ A => yldE l j false A K)
      (fun _ A => yldE l .none true A K) e (A.put l (.loop true L'))) e A
def callV (H : KV) (f : AV) (args : List AV) (A : AH) (K : KV) : Bool := match f with
  | .com t g a c => Nat.beq t 2 && ih (.call g (a ++ args ++ c) A K H)
  | .ref t b _ _ _ => Nat.beq t 3 && ih (.yld b args A K H)
  | _ => false
def runO1 (H : KV) (co : CO) (r : KE) (e : Env) (A : AH) : Bool := match co with
  | .op f => f r e A
  | .call g d f args => bif wantedA e g then callV ih H (f e) (evs e args) A fun v A => r (put d v e) A else r (put d (.tuple []) e) A
  | .pan x => asCom 3 (x e) fun _ _ _ => H (x e) A
def rangeEnd (l : Pa) (J : KJ) (k : KE) (e : Env) (A : AH) : Bool := optK (A.get l) fun o => oLoop false o fun L => match L.pend with
  | .none => k e (A.put l .dead)
  | j => J j e (A.put l .dead)
def rangeT (J : KJ) (k : KE) (x : Ev) (ps : List Up) (a b : Code) (n : Nat) (e : Env) (A : AH) : Bool := asCom 2 (x e) fun g fs caps =>
  newK A (.loop false ⟨.none, e, n, ps, a, b⟩) fun l A =>
  ih (.call g (fs ++ .ref 3 l 0 0 none :: caps) A (fun _ A' => rangeEnd l J k e A') (fun _ _ => false))
def runO (H : KV) (k : KE) (l : List CO) : KE := @List.rec CO (fun _ => KE) k (fun o _ r e A => runO1 ih H o r e A) l
def runM (H : KV) (k : KE) (l : List (CO × List RE)) : KE := @List.rec (CO × List RE) (fun _ => KE) k (fun o _ r e A => runO1 ih H o.1 (fun e A => reK o.2 e A r) e A) l
def runC (H : KV) (c : CC) : KJ → KE → KE := @CC.rec (fun _ => KJ → KE → KE)
  (fun _ k => k)
  (fun _ _ _ _ => false)
  (fun _ _ ia ib J k => ia J (ib J k))
  (fun x _ _ ia ib J k e A => asBool (x e) fun t => cond t (ia J k e A) (ib J k e A))
  (fun id _ ic J k => ic (fun j e A => bif jumpB id j then k e A else J j e A) k)
  (fun c _ J _ e A => ih (.loop c H J e A))
  (fun id J _ => J (.exit id))
  (fun J _ => J .ret)
  (fun l _ ic J k => runO ih H (ic J k) l)
  (fun l _ ic J k => runM ih H (ic J k) l)
  (fun x ps a b n J k e A => rangeT ih J k x ps a b n e A) c
def jRet (F : CF) (K : KV) (j : Jmp) (e : Env) (A : AH) : Bool := match j with
  | .ret => F.res e A K
  | _ => false
def callBody (F : CF) (args : List AV) (A : AH) (K H : KV) : Bool :=
  runC ih (bif F.calm then H else fun _ _ => false) F.cc (fun j e A => jRet F K j e A) (fun e A => F.res e A K) (initE 0 args env0) A
def callT (g : FuncId) (args : List AV) (A : AH) (K H : KV) : Bool := match findO g A.next cf.ora with
  | some o => oraK o args A K
  | none =>
  bif Nat.beq g cf.join then sJoin args A K
  else bif Nat.beq g cf.ibs then sIbs args A K
  else bif Nat.beq g cf.lex then sLex args A K
  else bif Nat.beq g cf.tr then sTry cf ih args A K
  else match cFun P g with | some F => callBody ih F args A K H | none => false
def body (t : Tk) : Bool := match t with
  | .call g args A K H => callT P cf ih g args A K H
  | .yld b args A K _ => yldT P (runC ih (fun _ _ => false)) b args A K
  | .loop c H J e A => runC ih H c J (fun e A => ih (.loop c H J e A)) e A
end
def run (P : Program) (cf : Cfg) (n : Nat) : Tk → Bool := @Nat.rec (fun _ => Tk → Bool) (fun _ => false) (fun _ ih t => body P cf ih t) n
end
end Go.Ai
