/- A part of the proof that the abstract interpreter is sound, and of the two goroutines of the lexer. -/
import Derived.Test.YticjebnbcnphkaaGreatDoorZAiK
import Derived.Calls

set_option linter.unusedSimpArgs false
set_option linter.unusedVariables false
set_option linter.unusedSectionVars false

namespace Go.Ai

/-- Where a block is. -/
inductive Sig where
  | pend
  | dead
  | at (cb base sz : Nat)

/-- where the blocks are, and how many cells a block of the machine's holds -/
structure Sub where
  f : Pa → Sig
  top : Nat → Option Nat
instance : CoeFun Sub (fun _ => Pa → Sig) := ⟨Sub.f⟩

def AV.bytes (s : List Nat) : ByteArray := ⟨(s.map UInt8.ofNat).toArray⟩

mutual
/-- The value of the machine that an abstract one stands for. -/
inductive VRel (σ : Sub) : AV → Value → Prop
  | nat (k : IntKind) (n : Nat) : VRel σ (.nat k n) (.int k (.ofNat n))
  | neg (k : IntKind) (n : Nat) : VRel σ (.neg k n) (.int k (.negSucc n))
  | bool (b : Bool) : VRel σ (.bool b) (.bool b)
  | str (s : List Nat) (h : ∀ c ∈ s, c < 256) : VRel σ (.str s) (.string (AV.bytes s))
  | nilp : VRel σ (.nil 0) (.pointer none)
  | nils : VRel σ (.nil 1) (.slice none 0 0)
  | nilm : VRel σ (.nil 2) (.map none)
  | nilf : VRel σ (.nil 3) .nilFunc
  | nili : VRel σ (.nil 4) .nilIface
  | emp (a : Addr) (c : Nat) : VRel σ (.nil 5) (.slice (some a) 0 c)
  | ptr (b : Pa) (i f : Nat) (c : Option Nat) (a : Addr) (h0 : σ b ≠ .pend) (h : ∀ cb base sz, σ b = .at cb base sz → a = ⟨cb, base + i * sz + f, none⟩) : VRel σ (.ref 0 b i f c) (.pointer (some a))
  | slc (b : Pa) (i n : Nat) (c : Option Nat) (a : Addr) (m : Nat) (h0 : σ b ≠ .pend) (h : ∀ cb base sz, σ b = .at cb base sz → a = ⟨cb, base + i * sz, none⟩) (hc : ∀ x, c = some x → m = x) (hn : n ≤ m) (ht : ∀ cb base sz, σ b = .at cb base sz → ∃ t, σ.top cb = some t ∧ base + (i + m) * sz ≤ t) : VRel σ (.ref 1 b i n c) (.slice (some a) n m)
  | map (b : Pa) (i n : Nat) (c : Option Nat) (r : Nat) (h : σ b = .at r 0 0) : VRel σ (.ref 2 b i n c) (.map (some r))
  | yld (b : Pa) (i n : Nat) (c : Option Nat) (r : Nat) (h : σ b = .at r 0 0) : VRel σ (.ref 3 b i n c) (.func (.yield r) #[] #[])
  | agg (x : Nat) (a c : List AV) (vs : Array Value) (h1 : a.all oneA = true) (h : VRels σ a vs.toList) : VRel σ (.com 0 x a c) (.agg vs)
  | tuple (x : Nat) (a c : List AV) (vs : Array Value) (h : VRels σ a vs.toList) : VRel σ (.com 1 x a c) (.tuple vs)
  | func (f : Nat) (a c : List AV) (as cs : Array Value) (ha : VRels σ a as.toList) (hc : VRels σ c cs.toList) : VRel σ (.com 2 f a c) (.func (.func f) as cs)
  | iface (t : Nat) (a : AV) (r c : List AV) (v : Value) (h : VRel σ a v) : VRel σ (.com 3 t (a :: r) c) (.iface t v)
  | atl (n : Nat) (a c : List AV) (m : Nat) (h : n ≤ m) : VRel σ (.com 5 n a c) (.int .i64 (.ofNat m))
inductive VRels (σ : Sub) : List AV → List Value → Prop
  | nil : VRels σ [] []
  | cons {a : AV} {v : Value} {as : List AV} {vs : List Value} (h : VRel σ a v) (hs : VRels σ as vs) : VRels σ (a :: as) (v :: vs)
end

/-- What was there stays there, or dies; what waited may be put. -/
structure Sub.le (σ σ' : Sub) : Prop where
  each : ∀ b, (σ b ≠ .pend → σ' b = σ b ∨ σ' b = .dead) ∧ (∀ r, σ b = .at r 0 0 → σ' b = .at r 0 0)
  top : ∀ cb t, σ.top cb = some t → σ'.top cb = some t

theorem Sub.le.refl (σ : Sub) : σ.le σ := ⟨fun b => ⟨fun _ => .inl rfl, fun _ h => h⟩, fun _ _ h => h⟩
theorem Sub.le.trans {a b c : Sub} (h : a.le b) (k : b.le c) : a.le c := ⟨fun x => ⟨fun hp => by
  rcases (h.each x).1 hp with h1 | h1
  · rcases (k.each x).1 (by rw [h1]; exact hp) with h2 | h2
    · exact .inl (h2.trans h1)
    · exact .inr h2
  · rcases (k.each x).1 (by rw [h1]; simp) with h2 | h2
    · exact .inr (h2.trans h1)
    · exact .inr h2, fun r hr => (k.each x).2 r ((h.each x).2 r hr)⟩, fun cb t ht => k.top cb t (h.top cb t ht)⟩
theorem Sub.le.back1 {a b : Sub} (h : a.le b) {x : Pa} (hp : a x ≠ .pend) {cb base sz : Nat} (e : b x = .at cb base sz) : a x = .at cb base sz := by
  rcases (h.each x).1 hp with e' | e'
  · rw [← e', e]
  · rw [e'] at e; cases e
theorem Sub.le.np {σ σ' : Sub} (h : σ.le σ') {b : Pa} (hb : σ b ≠ .pend) : σ' b ≠ .pend := by
  rcases (h.each b).1 hb with e | e
  · rw [e]; exact hb
  · rw [e]; simp
theorem Sub.le.back {σ σ' : Sub} (h : σ.le σ') {b : Pa} (hb : σ b ≠ .pend) {cb base sz : Nat} (e : σ' b = .at cb base sz) : σ b = .at cb base sz := by
  rcases (h.each b).1 hb with e' | e'
  · rw [← e', e]
  · rw [e'] at e; cases e

mutual
theorem VRel.mono {σ σ' : Sub} (h : σ.le σ') {a : AV} {v : Value} (r : VRel σ a v) : VRel σ' a v := match r with
  | .nat k n => .nat k n
  | .neg k n => .neg k n
  | .bool b => .bool b
  | .str s hs => .str s hs
  | .nilp => .nilp
  | .nils => .nils
  | .nilm => .nilm
  | .nilf => .nilf
  | .nili => .nili
  | .emp a c => .emp a c
  | .ptr b i f c a h0 ha => .ptr b i f c a (h.np h0) fun cb base sz e => ha cb base sz (h.back h0 e)
  | .slc b i n c a m h0 ha hc hn ht => .slc b i n c a m (h.np h0) (fun cb base sz e => ha cb base sz (h.back h0 e)) hc hn (fun cb base sz e => let ⟨t, h1, h2⟩ := ht cb base sz (h.back h0 e); ⟨t, h.top cb t h1, h2⟩)
  | .map b i n c r hr => .map b i n c r ((h.each b).2 r hr)
  | .yld b i n c r hr => .yld b i n c r ((h.each b).2 r hr)
  | .agg x a c vs h1 hs => .agg x a c vs h1 (VRels.mono h hs)
  | .tuple x a c vs hs => .tuple x a c vs (VRels.mono h hs)
  | .func f a c as cs ha hc => .func f a c as cs (VRels.mono h ha) (VRels.mono h hc)
  | .iface t a r c v hv => .iface t a r c v (VRel.mono h hv)
  | .atl n a c m hn => .atl n a c m hn
theorem VRels.mono {σ σ' : Sub} (h : σ.le σ') {a : List AV} {v : List Value} (r : VRels σ a v) : VRels σ' a v := match r with
  | .nil => .nil
  | .cons h1 h2 => .cons (VRel.mono h h1) (VRels.mono h h2)
end

theorem VRels.length {σ : Sub} {a : List AV} {v : List Value} (r : VRels σ a v) : a.length = v.length := by
  induction a generalizing v with
  | nil => cases r; rfl
  | cons x xs ih => cases r with | cons h hs => simp [ih hs]
theorem VRels.get {σ : Sub} {a : List AV} {v : List Value} (r : VRels σ a v) : ∀ (i : Nat) (x : AV), a[i]? = some x → ∃ y, v[i]? = some y ∧ VRel σ x y := by
  induction a generalizing v with
  | nil => intro i x h; simp at h
  | cons z zs ih =>
    cases r with
    | cons h hs =>
      intro i x hx
      cases i with
      | zero => simp at hx; subst hx; exact ⟨_, rfl, h⟩
      | succ i => simpa using ih hs i x (by simpa using hx)
theorem VRels.append {σ : Sub} {a b : List AV} {v w : List Value} (r : VRels σ a v) (s : VRels σ b w) : VRels σ (a ++ b) (v ++ w) := by
  induction a generalizing v with
  | nil => cases r; exact s
  | cons x xs ih => cases r with | cons h hs => exact .cons h (ih hs)
theorem VRels.drop {σ : Sub} {a : List AV} {v : List Value} (r : VRels σ a v) (n : Nat) : VRels σ (a.drop n) (v.drop n) := by
  induction n generalizing a v with
  | zero => simpa using r
  | succ n ih => cases r with
    | nil => simpa using VRels.nil
    | cons h hs => simpa using ih hs
theorem VRels.take {σ : Sub} {a : List AV} {v : List Value} (r : VRels σ a v) (n : Nat) : VRels σ (a.take n) (v.take n) := by
  induction n generalizing a v with
  | zero => simpa using VRels.nil
  | succ n ih => cases r with
    | nil => simpa using VRels.nil
    | cons h hs => simpa using VRels.cons h (ih hs)

/- slots -/
def undefV : Value := .tuple #[]

structure RelV (V : Nat → Prop) (σ : Sub) (n : Nat) (e : Env) (tmps : Array Value) : Prop where
  size : n ≤ tmps.size
  slot : ∀ t f, V t → getE t = some f → VRel σ (f e) (tmps.getD t undef)

abbrev RelE := RelV (fun _ => True)

theorem RelV.mono {V : Nat → Prop} {σ σ' : Sub} (h : σ.le σ') {n : Nat} {e : Env} {tmps : Array Value} (r : RelV V σ n e tmps) : RelV V σ' n e tmps := ⟨r.size, fun t f hv hf => (r.slot t f hv hf).mono h⟩
theorem RelV.weak {V V' : Nat → Prop} {σ : Sub} {n : Nat} {e : Env} {tmps : Array Value} (r : RelV V σ n e tmps) (h : ∀ t, V' t → V t) : RelV V' σ n e tmps := ⟨r.size, fun t f hv hf => r.slot t f (h t hv) hf⟩

def jCode : Jmp → Option Code
  | .none => none
  | .exit id => some (.exit id)
  | .ret => some .ret
def stOf (busy : Bool) (j : Jmp) : LoopState := bif busy then .busy else match j with | .none => .ready | _ => .done

/-- An object. -/
inductive ORel (σ : Sub) (w : World) (cb base sz : Nat) : AO → Prop
  | row (n : Nat) (t : Tr (List AV)) (c : Array Value) (elem : TypeId) (lo hi : Nat) (h0 : sz ≠ 0) (hb : n ≤ 65536) (hc : w.heap[cb]? = some (.cells c elem (lo, hi))) (ht : σ.top cb = some c.size) (hf : hi = 0 ∨ c.size ≤ lo) (hn : base + n * sz ≤ c.size)
      (h : ∀ i cs, i < n → t.get i = some cs → cs.length = sz ∧ cs.all oneA = true ∧ VRels σ cs ((c.toList.drop (base + i * sz)).take sz)) : ORel σ w cb base sz (.row sz n t)
  | map (clock : Nat) (es : List (Nat × AV × AV)) (ents : Array MapEntry) (h0 : base = 0 ∧ sz = 0) (hc : w.heap[cb]? = some (.map ents clock)) (hb : es.map (·.1) = ents.toList.map (·.born)) (hk : VRels σ (es.map (·.2.1)) (ents.toList.map (·.key))) (hv : VRels σ (es.map (·.2.2)) (ents.toList.map (·.val))) :
      ORel σ w cb base sz (.map clock es)
  | iter (m : Option Pa) (since : Nat) (seen : List Nat) (stepped : Nat) (mo : Option Nat) (h0 : base = 0 ∧ sz = 0) (hc : w.heap[cb]? = some (.mapIter mo since seen.toArray stepped)) (hm : match m with | none => mo = none | some b => ∃ r, mo = some r ∧ σ b = .at r 0 0) :
      ORel σ w cb base sz (.iter m since seen stepped)
  | loop (busy : Bool) (L : ALoop) (lp : Loop) (h0 : base = 0 ∧ sz = 0) (hc : w.heap[cb]? = some (.loop lp)) (hs : lp.state = stOf busy L.pend) (hp : lp.pending = jCode L.pend) (he : RelE σ L.n L.env lp.tmps) (hu : ups L.n lp.params.toList = some L.params) (ha : lp.assign = L.assign) (hb : lp.body = L.body)
      (hn : noRange L.assign = true ∧ noRange L.body = true) : ORel σ w cb base sz (.loop busy L)
  | gone (h0 : base = 0 ∧ sz = 0) (hc : cb < w.heap.size) : ORel σ w cb base sz .dead

def Dg.num (d : Dg) : Nat := match d with | .d0 => 0 | .d1 => 1 | .d2 => 2 | .d3 => 3 | .d4 => 4 | .d5 => 5 | .d6 => 6 | .d7 => 7 | .d8 => 8 | .d9 => 9 | .d10 => 10 | .d11 => 11 | .d12 => 12 | .d13 => 13 | .d14 => 14 | .d15 => 15
def val : Pa → Nat
  | [] => 0
  | d :: p => d.num + 16 * val p

/-- The heap. -/
structure Rel (σ : Sub) (A : AH) (w : World) : Prop where
  fresh : ∀ b, b.length = 5 → val A.next ≤ val b → σ b = .pend ∧ A.get b = none
  obj : ∀ b o, A.get b = some o → σ b = .pend ∨ (o = .dead ∧ σ b = .dead) ∨ ∃ cb base sz, σ b = .at cb base sz ∧ ORel σ w cb base sz o
  inj : ∀ b b' cb base sz base' sz', σ b = .at cb base sz → σ b' = .at cb base' sz' → b = b' ∨ (rom b = true ∧ rom b' = true)
  glob : ∀ g, glOk g = true → σ (idOf g) = .dead ∨ ∃ sz, σ (idOf g) = .at g 0 sz
  low : ∀ b cb base sz, σ b = .at cb base sz → cb < w.heap.size
  four : ∀ b, b.length ≠ 5 → σ b = .pend
  tops : ∀ k, w.heap.size ≤ k → σ.top k = Option.none
  len : A.next.length = 5
  high : 256 ≤ val A.next
  roms : ∀ b, b.length = 5 → rom b = true → σ b = .dead ∨ ∃ cb base sz, σ b = .at cb base sz ∧ sz ≠ 0

/-- What a part of the run does to the heap. -/
structure Ext (σ : Sub) (A : AH) (w : World) (σ' : Sub) (A' : AH) (w' : World) : Prop where
  le : σ.le σ'
  size : w.heap.size ≤ w'.heap.size
  keep : ∀ k, k < w.heap.size → (∀ b base sz, σ b = .at k base sz → A.get b = none ∨ rom b = true) → w'.heap[k]? = w.heap[k]? ∧ ∀ b base sz, σ' b = .at k base sz → σ b = .at k base sz ∧ (A'.get b = none ∨ rom b = true)
  pend : ∀ b, b.length = 5 → val b < val A.next → σ b = .pend → σ' b = .pend ∧ A'.get b = A.get b
  next : val A.next ≤ val A'.next
  same : ∀ b, σ b ≠ .pend → A.get b = none → σ' b = σ b ∧ A'.get b = none
  os : w'.os = w.os
  out : w'.output = w.output

theorem Ext.refl (σ : Sub) (A : AH) (w : World) : Ext σ A w σ A w := ⟨Sub.le.refl σ, Nat.le_refl _, fun _ _ h => ⟨rfl, fun b base sz hb => ⟨hb, h b base sz hb⟩⟩, fun _ _ _ h => ⟨h, rfl⟩, Nat.le_refl _, fun _ _ h => ⟨rfl, h⟩, rfl, rfl⟩
theorem Ext.trans {σ σ1 σ2 : Sub} {A A1 A2 : AH} {w w1 w2 : World} (h : Ext σ A w σ1 A1 w1) (k : Ext σ1 A1 w1 σ2 A2 w2) : Ext σ A w σ2 A2 w2 :=
  ⟨h.le.trans k.le, Nat.le_trans h.size k.size, fun i hi hn => by
    obtain ⟨h1, h2⟩ := h.keep i hi hn
    obtain ⟨k1, k2⟩ := k.keep i (Nat.lt_of_lt_of_le hi h.size) (fun b base sz hb => (h2 b base sz hb).2)
    exact ⟨k1.trans h1, fun b base sz hb => by
      obtain ⟨q1, q2⟩ := k2 b base sz hb
      exact ⟨(h2 b base sz q1).1, q2⟩⟩, fun b hl hv hb => by
    obtain ⟨h1, h2⟩ := h.pend b hl hv hb
    obtain ⟨k1, k2⟩ := k.pend b hl (Nat.lt_of_lt_of_le hv h.next) h1
    exact ⟨k1, k2.trans h2⟩, Nat.le_trans h.next k.next, fun b hp hg => by
    obtain ⟨h1, h2⟩ := h.same b hp hg
    obtain ⟨k1, k2⟩ := k.same b (by rw [h1]; exact hp) h2
    exact ⟨k1.trans h1, k2⟩, k.os.trans h.os, k.out.trans h.out⟩
/-- a block that nobody knows stays -/
theorem Ext.unowned {σ σ' : Sub} {A A' : AH} {w w' : World} (h : Ext σ A w σ' A' w') {k : Nat} (hk : k < w.heap.size) (hn : ∀ b base sz, σ b ≠ .at k base sz) : w'.heap[k]? = w.heap[k]? ∧ ∀ b base sz, σ' b ≠ .at k base sz := by
  obtain ⟨h1, h2⟩ := h.keep k hk (fun b base sz hb => absurd hb (hn b base sz))
  exact ⟨h1, fun b base sz hb => hn b base sz (h2 b base sz hb).1⟩

theorem val_inj : ∀ {p q : Pa}, p.length = q.length → val p = val q → p = q
  | [], [], _, _ => rfl
  | [], _ :: _, h, _ => by simp at h
  | _ :: _, [], h, _ => by simp at h
  | a :: p, b :: q, hl, hv => by
    simp only [val] at hv
    have ha : a.num < 16 := by cases a <;> decide
    have hb : b.num < 16 := by cases b <;> decide
    have h1 : a.num = b.num := by omega
    have h2 : val p = val q := by omega
    have h3 : a = b := by cases a <;> cases b <;> first | rfl | (exact absurd h1 (by decide))
    rw [h3, val_inj (by simpa using hl) h2]
theorem inc_val : ∀ {p : Pa}, allZ (inc p) = false → val (inc p) = val p + 1
  | [], h => by cases h
  | d :: p, h => by
    cases d
    case d15 =>
      have h' : allZ (inc p) = false := h
      have := inc_val h'
      show 0 + 16 * val (inc p) = 15 + 16 * val p + 1
      omega
    all_goals (show _ + 16 * val p = _ + 16 * val p + 1; simp only [Dg.num]; omega)

/- the heap's own laws -/
theorem Dg.pick_set (d e : Dg) (x a0 a1 a2 a3 a4 a5 a6 a7 a8 a9 a10 a11 a12 a13 a14 a15 : HT) (q : Pa) :
    HT.get (e :: q) (HT.upd x a0 a1 a2 a3 a4 a5 a6 a7 a8 a9 a10 a11 a12 a13 a14 a15 d) = if e = d then HT.get q x else HT.get q (Dg.pick e a0 a1 a2 a3 a4 a5 a6 a7 a8 a9 a10 a11 a12 a13 a14 a15) := by
  cases d <;> cases e <;> rfl
theorem HT.get_nil (t : HT) : HT.get [] t = match t with | .ob o => some o | _ => none := by cases t <;> rfl
theorem HT.get_lf (q : Pa) : HT.get q .lf = none := by cases q <;> rfl
theorem HT.get_cons_lf (d : Dg) (q : Pa) : HT.get (d :: q) .lf = none := rfl
theorem HT.get_cons_ob (d : Dg) (q : Pa) (o : AO) : HT.get (d :: q) (.ob o) = none := rfl
theorem HT.get_cons_nd (d : Dg) (q : Pa) (a0 a1 a2 a3 a4 a5 a6 a7 a8 a9 a10 a11 a12 a13 a14 a15 : HT) : HT.get (d :: q) (.nd a0 a1 a2 a3 a4 a5 a6 a7 a8 a9 a10 a11 a12 a13 a14 a15) = HT.get q (Dg.pick d a0 a1 a2 a3 a4 a5 a6 a7 a8 a9 a10 a11 a12 a13 a14 a15) := rfl
theorem Dg.pick_lf (d : Dg) : Dg.pick d HT.lf .lf .lf .lf .lf .lf .lf .lf .lf .lf .lf .lf .lf .lf .lf .lf = .lf := by cases d <;> rfl
theorem HT.get_set (o : AO) : ∀ (p q : Pa) (t : HT), p.length = q.length → HT.get q (HT.set (.ob o) p t) = if q = p then some o else HT.get q t
  | [], [], t, _ => rfl
  | [], _ :: _, _, h => by simp at h
  | _ :: _, [], _, h => by simp at h
  | d :: p, e :: q, t, h => by
    have ih := HT.get_set o p q
    have hl : p.length = q.length := by simpa using h
    cases t with
    | lf =>
      show HT.get (e :: q) (HT.upd (HT.set (.ob o) p .lf) .lf .lf .lf .lf .lf .lf .lf .lf .lf .lf .lf .lf .lf .lf .lf .lf d) = _
      rw [Dg.pick_set, ih _ hl, Dg.pick_lf]
      by_cases h1 : e = d <;> by_cases h2 : q = p <;> simp [h1, h2, HT.get_lf, HT.get_cons_lf]
    | ob o' =>
      show HT.get (e :: q) (HT.upd (HT.set (.ob o) p .lf) .lf .lf .lf .lf .lf .lf .lf .lf .lf .lf .lf .lf .lf .lf .lf .lf d) = _
      rw [Dg.pick_set, ih _ hl, Dg.pick_lf]
      by_cases h1 : e = d <;> by_cases h2 : q = p <;> simp [h1, h2, HT.get_lf, HT.get_cons_ob]
    | nd a0 a1 a2 a3 a4 a5 a6 a7 a8 a9 a10 a11 a12 a13 a14 a15 =>
      show HT.get (e :: q) (HT.upd (HT.set (.ob o) p (Dg.pick d a0 a1 a2 a3 a4 a5 a6 a7 a8 a9 a10 a11 a12 a13 a14 a15)) a0 a1 a2 a3 a4 a5 a6 a7 a8 a9 a10 a11 a12 a13 a14 a15 d) = _
      rw [Dg.pick_set, ih _ hl, HT.get_cons_nd]
      by_cases h1 : e = d <;> by_cases h2 : q = p <;> simp [h1, h2]

theorem AH.get_eq (A : AH) (b : Pa) : A.get b = HT.get b A.t := by cases A; rfl
theorem AH.get_put {A : AH} {b b' : Pa} {o : AO} (h : b.length = b'.length) : (A.put b o).get b' = if b' = b then some o else A.get b' := by
  cases A
  exact HT.get_set o b b' _ h
theorem AH.get_new {A : AH} {b : Pa} {o : AO} (h : A.next.length = b.length) : (A.new o).get b = if b = A.next then some o else A.get b := by
  cases A
  exact HT.get_set o _ b _ h
theorem inc_length : ∀ (p : Pa), (inc p).length = p.length
  | [] => rfl
  | d :: p => by
    have := inc_length p
    cases d <;> first | rfl | (show ((inc p).length + 1) = _; simp [this])
@[simp] theorem AH.put_next (A : AH) (b : Pa) (o : AO) : (A.put b o).next = A.next := by cases A; rfl
@[simp] theorem AH.new_next (A : AH) (o : AO) : (A.new o).next = inc A.next := by cases A; rfl
@[simp] theorem AH.put_ph (A : AH) (b : Pa) (o : AO) : (A.put b o).ph = A.ph := by cases A; rfl
@[simp] theorem AH.new_ph (A : AH) (o : AO) : (A.new o).ph = A.ph := by cases A; rfl

theorem rom_val : ∀ {b : Pa}, b.length = 5 → (rom b = true ↔ val b < 256)
  | [a, e, c, d, f], _ => by
    have ha : a.num < 16 := by cases a <;> decide
    have he : e.num < 16 := by cases e <;> decide
    have e1 : val [a, e, c, d, f] = a.num + 16 * (e.num + 16 * (c.num + 16 * (d.num + 16 * (f.num + 16 * 0)))) := rfl
    have e2 : rom [a, e, c, d, f] = (isZ c && (isZ d && isZ f)) := rfl
    have hz : ∀ x : Dg, isZ x = true ↔ x.num = 0 := by intro x; cases x <;> simp [isZ, Dg.num]
    rw [e1, e2, Bool.and_eq_true, Bool.and_eq_true, hz, hz, hz]
    omega
theorem Rel.nrom_next {σ : Sub} {A : AH} {w : World} (hA : Rel σ A w) : rom A.next = false := by
  cases h : rom A.next with
  | false => rfl
  | true => have := (rom_val hA.len).1 h; have := hA.high; omega
theorem Rel.nrom_pend {σ : Sub} {A : AH} {w : World} (hA : Rel σ A w) {b : Pa} (hl : b.length = 5) (hb : σ b = .pend) : rom b = false := by
  cases h : rom b with
  | false => rfl
  | true =>
    rcases hA.roms b hl h with e | ⟨_, _, _, e, _⟩
    · rw [hb] at e; cases e
    · rw [hb] at e; cases e
theorem Rel.nrom_zero {σ : Sub} {A : AH} {w : World} (hA : Rel σ A w) {b : Pa} {cb base : Nat} (hb : σ b = .at cb base 0) : rom b = false := by
  cases h : rom b with
  | false => rfl
  | true =>
    have hl : b.length = 5 := by
      rcases Nat.decEq b.length 5 with hl | hl
      · rw [hA.four b hl] at hb; cases hb
      · exact hl
    rcases hA.roms b hl h with e | ⟨_, _, _, e, hz⟩
    · rw [hb] at e; cases e
    · rw [hb] at e; cases e; exact absurd rfl hz
theorem Rel.inj1 {σ : Sub} {A : AH} {w : World} (hA : Rel σ A w) {b b' : Pa} (hr : rom b = false) {cb base sz base' sz' : Nat} (h : σ b = .at cb base sz) (h' : σ b' = .at cb base' sz') : b' = b := by
  rcases hA.inj b b' cb base sz base' sz' h h' with e | ⟨e, _⟩
  · exact e.symm
  · rw [hr] at e; cases e
end Go.Ai
