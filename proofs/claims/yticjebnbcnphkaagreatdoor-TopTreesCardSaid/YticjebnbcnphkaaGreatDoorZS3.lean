/- A part of the proof that the abstract interpreter is sound, and of the two goroutines of the lexer. -/
import Derived.Test.YticjebnbcnphkaaGreatDoorZS2
import Derived.Laws.Entries
import Derived.Laws.Cells

set_option linter.unusedSimpArgs false
set_option linter.unusedVariables false
set_option linter.unusedSectionVars false

namespace Go.Ai
open Go
variable {P : Program}

/-- What an operation comes to. -/
def Out (P : Program) (s : Sem Next) (σ : Sub) (A : AH) (w : World) (v : AV) (A' : AH) : Prop :=
  ∃ σ' x w', (s.run P w = .ok (.value x) w' ∨ (s.run P w = .ok .skip w' ∧ x = undef)) ∧ A'.ph = A.ph ∧ Ext σ A w σ' A' w' ∧ Rel σ' A' w' ∧ VRel σ' v x

def AH.Sub (A A2 : AH) : Prop := ∀ b, b.length = 5 → A.get b ≠ none → A2.get b = A.get b
theorem AH.Sub.refl (A : AH) : A.Sub A := fun _ _ _ => rfl
theorem AH.Sub.get {A A2 : AH} (h : A.Sub A2) {b : Pa} (hl : b.length = 5) {o : AO} (hb : A.get b = some o) : A2.get b = some o := by rw [h b hl (by rw [hb]; simp), hb]
theorem AH.Sub.trans {A B C : AH} (h : A.Sub B) (k : B.Sub C) : A.Sub C := fun b hl hb => by
  have h1 := h b hl hb
  exact (k b hl (by rw [h1]; exact hb)).trans h1

abbrev Opnd (o : Oper) (t : Nat) : Prop := Operand.tmp t ∈ o.op.operands

def OpSem (P : Program) (n : Nat) (o : Oper) (e : Env) (A : AH) (v : AV) (A' : AH) : Prop :=
  ∀ σ tmps w, RelV (Opnd o) σ n e tmps → Rel σ A w → Out P (execOp (evT tmps) o) σ A w v A'
/-- a value, the world as it was -/
def PureSem (P : Program) (n : Nat) (o : Oper) (e : Env) (A : AH) (v : AV) : Prop :=
  ∀ A2 σ tmps w, A.Sub A2 → RelV (Opnd o) σ n e tmps → Rel σ A2 w → ∃ x, (execOp (evT tmps) o).run P w = .ok (.value x) w ∧ VRel σ v x
def csz : Obj → Nat
  | .cells c _ _ => c.size
  | _ => 0
def Globs (σ : Ai.Sub) : Prop := ∀ g, glOk g = true → σ (idOf g) = .dead ∨ ∃ sz, σ (idOf g) = .at g 0 sz
/-- a new block -/
def NewSem (P : Program) (n : Nat) (o : Oper) (e : Env) (mk : Pa → AV) (obj : AO) : Prop :=
  ∀ σ tmps w, Globs σ → RelV (Opnd o) σ n e tmps → ∃ (cobj : Obj) (mkx : Nat → Value) (sz : Nat), (execOp (evT tmps) o).run P w = .ok (.value (mkx w.heap.size)) { w with heap := w.heap.push cobj } ∧
    ∀ σ' w' b, σ.le σ' → w'.heap[w.heap.size]? = some cobj → σ' b = .at w.heap.size 0 sz → σ'.top w.heap.size = some (csz cobj) → ORel σ' w' w.heap.size 0 sz obj ∧ VRel σ' (mk b) (mkx w.heap.size)

def SoundP (P : Program) (n : Nat) (o : Oper) (run : Run) : Prop := ∀ e A K, run e A K = true → ∃ v, K v A = true ∧ PureSem P n o e A v
def SoundN (P : Program) (n : Nat) (o : Oper) (run : Run) : Prop := ∀ e A K, run e A K = true → ∃ mk obj, allZ (inc A.next) = false ∧ K (mk A.next) (A.new obj) = true ∧ NewSem P n o e mk obj
def Sound (P : Program) (n : Nat) (o : Oper) (run : Run) : Prop := ∀ e A K, run e A K = true → ∃ v A', K v A' = true ∧ OpSem P n o e A v A'

theorem Out.pure {s : Sem Next} {σ : Ai.Sub} {A : AH} {w : World} {v : AV} {x : Value} (hr : s.run P w = .ok (.value x) w) (hA : Rel σ A w) (hv : VRel σ v x) : Out P s σ A w v A :=
  ⟨σ, x, w, .inl hr, rfl, Ext.refl .., hA, hv⟩
theorem SoundP.sound {n : Nat} {o : Oper} {run : Run} (h : SoundP P n o run) : Sound P n o run := fun e A K hk => by
  obtain ⟨v, hK, hs⟩ := h e A K hk
  exact ⟨v, A, hK, fun σ tmps w hE hA => by obtain ⟨x, hx, hv⟩ := hs A σ tmps w (AH.Sub.refl A) hE hA; exact Out.pure hx hA hv⟩

/- an object stays what it is where its block does -/
theorem ORel.keep {σ σ' : Ai.Sub} {w w' : World} {cb base sz : Nat} {o : AO} (h : ORel σ w cb base sz o) (hs : σ.le σ') (hw : w'.heap[cb]? = w.heap[cb]?) (hsz : w.heap.size ≤ w'.heap.size) : ORel σ' w' cb base sz o := by
  cases h with
  | row n t c elem lo hi h0 hb hc ht' hf hn h => exact .row n t c elem lo hi h0 hb (hw.trans hc) (hs.top _ _ ht') hf hn fun i cs hi' ht => by obtain ⟨a, b, d⟩ := h i cs hi' ht; exact ⟨a, b, VRels.mono hs d⟩
  | map clock es ents h0 hc hb hk hv => exact .map clock es ents h0 (hw.trans hc) hb (VRels.mono hs hk) (VRels.mono hs hv)
  | iter m since seen stepped mo h0 hc hm =>
    refine .iter m since seen stepped mo h0 (hw.trans hc) ?_
    cases m with
    | none => exact hm
    | some b => obtain ⟨r, h1, h2⟩ := hm; exact ⟨r, h1, (hs.each b).2 r h2⟩
  | loop busy L lp h0 hc hs' hp he hu ha hb hn => exact .loop busy L lp h0 (hw.trans hc) hs' hp (he.mono hs) hu ha hb hn
  | gone h0 hc => exact .gone h0 (Nat.lt_of_lt_of_le hc hsz)

theorem Rel.next_pend {σ : Ai.Sub} {A : AH} {w : World} (h : Rel σ A w) : σ A.next = .pend := (h.fresh _ h.len (Nat.le_refl _)).1
theorem Rel.next_none {σ : Ai.Sub} {A : AH} {w : World} (h : Rel σ A w) : A.get A.next = none := (h.fresh _ h.len (Nat.le_refl _)).2

def Sub.upd (σ : Ai.Sub) (b : Pa) (k base sz tp : Nat) : Ai.Sub := ⟨fun z => if z = b then .at k base sz else σ z, fun c => if c = k then some tp else σ.top c⟩
theorem Sub.upd_self (σ : Ai.Sub) (b : Pa) (k base sz tp : Nat) : σ.upd b k base sz tp b = .at k base sz := by simp [Sub.upd]
theorem Sub.upd_ne {σ : Ai.Sub} {b z : Pa} {k base sz tp : Nat} (h : z ≠ b) : σ.upd b k base sz tp z = σ z := by simp [Sub.upd, h]
theorem Sub.upd_top (σ : Ai.Sub) (b : Pa) (k base sz tp : Nat) : (σ.upd b k base sz tp).top k = some tp := by simp [Sub.upd]
theorem Sub.upd_top_ne {σ : Ai.Sub} {b : Pa} {k base sz tp c : Nat} (h : c ≠ k) : (σ.upd b k base sz tp).top c = σ.top c := by simp [Sub.upd, h]
theorem Sub.le_upd {σ : Ai.Sub} {b : Pa} {k base sz tp : Nat} (h : σ b = .pend) (hk : σ.top k = none ∨ σ.top k = some tp) : σ.le (σ.upd b k base sz tp) := ⟨fun z => by
  by_cases hz : z = b
  · subst hz; exact ⟨fun hp => absurd h hp, fun r hr => by rw [h] at hr; cases hr⟩
  · rw [Sub.upd_ne hz]; exact ⟨fun _ => .inl rfl, fun _ hr => hr⟩, fun cb t ht => by
  by_cases hc : cb = k
  · subst hc
    rcases hk with hk | hk
    · rw [hk] at ht; cases ht
    · rw [hk] at ht; cases ht; exact Sub.upd_top ..
  · rw [Sub.upd_top_ne hc]; exact ht⟩
theorem Rel.fresh_at {σ : Ai.Sub} {A : AH} {w : World} {tp : Nat} (h : Rel σ A w) : σ.top w.heap.size = Option.none ∨ σ.top w.heap.size = some tp := .inl (h.tops _ (Nat.le_refl _))

/-- a block that waited is put: the heap's other blocks stay -/
theorem Rel.place {σ : Ai.Sub} {A : AH} {w : World} (hA : Rel σ A w) {b : Pa} {o : AO} {cobj : Obj} {sz : Nat} (hb : σ b = .pend) (hl : b.length = 5) (hg : A.get b = some o)
    (ho : ORel (σ.upd b w.heap.size 0 sz (csz cobj)) { w with heap := w.heap.push cobj } w.heap.size 0 sz o) : Rel (σ.upd b w.heap.size 0 sz (csz cobj)) A { w with heap := w.heap.push cobj } where
  fresh z hzl hz := by
    obtain ⟨h1, h2⟩ := hA.fresh z hzl hz
    have : z ≠ b := fun e => by subst e; rw [hg] at h2; cases h2
    exact ⟨by rw [Sub.upd_ne this]; exact h1, h2⟩
  obj z o' hz := by
    by_cases h : z = b
    · subst h
      rw [hg] at hz; cases hz
      exact .inr (.inr ⟨_, _, _, Sub.upd_self .., ho⟩)
    · rw [Sub.upd_ne h]
      rcases hA.obj z o' hz with h1 | h1 | ⟨cb, base, s, h1, h2⟩
      · exact .inl h1
      · exact .inr (.inl h1)
      · have hlt := hA.low z cb base s h1
        exact .inr (.inr ⟨cb, base, s, h1, h2.keep (Sub.le_upd hb hA.fresh_at) (by simp [Array.getElem?_push, Nat.ne_of_lt hlt]) (by simp)⟩)
  inj z z' cb base s base' s' h h' := by
    by_cases h1 : z = b <;> by_cases h2 : z' = b
    · exact .inl (by rw [h1, h2])
    · subst h1; rw [Sub.upd_self] at h; rw [Sub.upd_ne h2] at h'; cases h; exact absurd (hA.low _ _ _ _ h') (Nat.lt_irrefl _)
    · subst h2; rw [Sub.upd_self] at h'; rw [Sub.upd_ne h1] at h; cases h'; exact absurd (hA.low _ _ _ _ h) (Nat.lt_irrefl _)
    · rw [Sub.upd_ne h1] at h; rw [Sub.upd_ne h2] at h'; exact hA.inj z z' cb base s base' s' h h'
  glob g hg' := by
    rcases hA.glob g hg' with hs | ⟨s, hs⟩
    · left
      rw [Sub.upd_ne (fun e => by rw [e, hb] at hs; cases hs)]; exact hs
    · refine .inr ⟨s, ?_⟩
      rw [Sub.upd_ne (fun e => by rw [e, hb] at hs; cases hs)]; exact hs
  low z cb base s h := by
    by_cases h1 : z = b
    · subst h1; rw [Sub.upd_self] at h; cases h; simp
    · rw [Sub.upd_ne h1] at h
      have := hA.low z cb base s h
      simp; omega
  four z hz := by
    have : z ≠ b := fun e => hz (by rw [e]; exact hl)
    rw [Sub.upd_ne this]; exact hA.four z hz
  tops k hk := by
    simp at hk
    rw [Sub.upd_top_ne (by omega)]; exact hA.tops k (by omega)
  len := hA.len
  high := hA.high
  roms z hl' hz := by
    have : z ≠ b := fun e => by subst e; rw [hA.nrom_pend hl hb] at hz; cases hz
    rw [Sub.upd_ne this]; exact hA.roms z hl' hz

theorem Rel.new_pend {σ : Ai.Sub} {A : AH} {w : World} (hA : Rel σ A w) (hn : allZ (inc A.next) = false) (o : AO) : Rel σ (A.new o) w where
  fresh z hzl hz := by
    rw [AH.new_next, inc_val hn] at hz
    obtain ⟨h1, h2⟩ := hA.fresh z hzl (by omega)
    refine ⟨h1, ?_⟩
    rw [AH.get_new (by rw [hA.len, hzl])]
    have : z ≠ A.next := fun e => by rw [e] at hz; omega
    simp [this, h2]
  obj z o' hz := by
    by_cases hl : z.length = 5
    · rw [AH.get_new (by rw [hA.len, hl])] at hz
      by_cases h : z = A.next
      · subst h; exact .inl hA.next_pend
      · simp [h] at hz; exact hA.obj z o' hz
    · exact .inl (hA.four z hl)
  inj := hA.inj
  glob := hA.glob
  low := hA.low
  four := hA.four
  tops := hA.tops
  len := by rw [AH.new_next, inc_length]; exact hA.len
  high := by rw [AH.new_next, inc_val hn]; have := hA.high; omega
  roms := hA.roms

theorem AH.get_new_self {A : AH} {o : AO} : (A.new o).get A.next = some o := by rw [AH.get_new rfl]; simp
theorem AH.get_new_ne {A : AH} {o : AO} {b : Pa} (hl : A.next.length = b.length) (h : b ≠ A.next) : (A.new o).get b = A.get b := by rw [AH.get_new hl]; simp [h]

theorem push_ext {σ : Ai.Sub} {A : AH} {w : World} {cobj : Obj} {sz : Nat} {o : AO} (hA : Rel σ A w) (hn : allZ (inc A.next) = false) :
    Ext σ A w (σ.upd A.next w.heap.size 0 sz (csz cobj)) (A.new o) { w with heap := w.heap.push cobj } :=
  ⟨Sub.le_upd hA.next_pend hA.fresh_at, by simp, fun k hk hno => by
    refine ⟨by simp [Array.getElem?_push, Nat.ne_of_lt hk], fun z base s h => ?_⟩
    by_cases h1 : z = A.next
    · subst h1; rw [Sub.upd_self] at h; injection h with h; omega
    · rw [Sub.upd_ne h1] at h
      have hzl : z.length = 5 := by
        rcases Nat.decEq z.length 5 with hl | hl
        · have := hA.four z hl; rw [this] at h; cases h
        · exact hl
      exact ⟨h, by rw [AH.get_new_ne (by rw [hA.len, hzl]) h1]; exact hno z base s h⟩, fun z hl hv hz => by
    have : z ≠ A.next := fun e => by rw [e] at hv; omega
    exact ⟨by rw [Sub.upd_ne this]; exact hz, AH.get_new_ne (by rw [hA.len, hl]) this⟩, by rw [AH.new_next, inc_val hn]; omega, fun z hz hg => by
    have h1 : z ≠ A.next := fun e => hz (by rw [e]; exact hA.next_pend)
    have hzl : z.length = 5 := by
      rcases Nat.decEq z.length 5 with hl | hl
      · exact absurd (hA.four z hl) hz
      · exact hl
    exact ⟨Sub.upd_ne h1, by rw [AH.get_new_ne (by rw [hA.len, hzl]) h1]; exact hg⟩, rfl, rfl⟩

theorem SoundN.sound {n : Nat} {o : Oper} {run : Run} (h : SoundN P n o run) : Sound P n o run := fun e A K hk => by
  obtain ⟨mk, obj, hn, hK, hs⟩ := h e A K hk
  refine ⟨_, _, hK, fun σ tmps w hE hA => ?_⟩
  obtain ⟨cobj, mkx, sz, hr, ho⟩ := hs σ tmps w hA.glob hE
  have hb := hA.next_pend
  obtain ⟨h1, h2⟩ := ho (σ.upd A.next w.heap.size 0 sz (csz cobj)) { w with heap := w.heap.push cobj } A.next (Sub.le_upd hb hA.fresh_at) (by simp) (Sub.upd_self ..) (Sub.upd_top ..)
  exact ⟨_, _, _, .inl hr, by simp, push_ext hA hn, (hA.new_pend hn obj).place hb hA.len AH.get_new_self h1, h2⟩

theorem vals (s : Sem Value) (x : Value) (w w' : World) (h : s.run P w = .ok x w') : (do Pure.pure (Next.value (← s)) : Sem Next).run P w = .ok (.value x) w' := by simp [h]

/- constants -/
theorem bytes_ofV (s : ByteArray) : AV.bytes (s.data.toList.map UInt8.toNat) = s := by
  cases s with
  | mk d => simp [AV.bytes, List.map_map, Function.comp_def]

mutual
theorem ofV_rel (σ : Ai.Sub) : ∀ (v : Value) (a : AV), AV.ofV v = some a → VRel σ a v
  | .bool b, a, h => by cases h; exact .bool b
  | .int k (.ofNat n), a, h => by cases h; exact .nat k n
  | .int k (.negSucc n), a, h => by cases h; exact .neg k n
  | .string s, a, h => by
    cases h
    have := VRel.str (σ := σ) (s.data.toList.map UInt8.toNat) (fun c hc => by
      obtain ⟨x, _, rfl⟩ := List.mem_map.1 hc
      exact x.toNat_lt)
    rwa [bytes_ofV] at this
  | .pointer none, a, h => by cases h; exact .nilp
  | .pointer (some _), a, h => by cases h
  | .slice none n m, a, h => by
    cases n with
    | zero => cases m with
      | zero => cases h; exact .nils
      | succ m => cases h
    | succ n => cases h
  | .slice (some _) _ _, a, h => by cases h
  | .map none, a, h => by cases h; exact .nilm
  | .map (some _), a, h => by cases h
  | .nilFunc, a, h => by cases h; exact .nilf
  | .nilIface, a, h => by cases h; exact .nili
  | .agg ⟨cs⟩, a, h => by
    simp only [AV.ofV] at h
    split at h
    · rename_i l hl
      have := ofVs_rel σ cs l hl
      cases hb : l.all oneA with
      | true => simp [hb] at h; subst h; exact .agg 0 l [] ⟨cs⟩ hb this
      | false => simp [hb] at h
    · cases h
  | .tuple ⟨cs⟩, a, h => by
    simp only [AV.ofV] at h
    split at h
    · rename_i l hl
      have := ofVs_rel σ cs l hl
      cases h; exact .tuple 0 l [] ⟨cs⟩ this
    · cases h
  | .float _ _, a, h => by cases h
  | .complex _ _ _, a, h => by cases h
  | .chan _, a, h => by cases h
  | .func _ _ _, a, h => by cases h
  | .iface _ _, a, h => by cases h
theorem ofVs_rel (σ : Ai.Sub) : ∀ (v : List Value) (a : List AV), AV.ofVs v = some a → VRels σ a v
  | [], a, h => by cases h; exact .nil
  | v :: vs, a, h => by
    simp only [AV.ofVs] at h
    split at h
    · rename_i x xs hx hxs
      cases h; exact .cons (ofV_rel σ v x hx) (ofVs_rel σ vs xs hxs)
    · cases h
end

/-- an operand -/
theorem cOpd_relG {x : Operand} {a : Ev} (h : cOpd x = some a) {V : Nat → Prop} (hV : ∀ t, x = .tmp t → V t) {σ : Ai.Sub} {n : Nat} {e : Env} {tmps : Array Value} (hE : RelV V σ n e tmps) (hG : Globs σ) : VRel σ (a e) (evT tmps x) := by
  cases x with
  | tmp t => exact hE.slot t a (hV t rfl) h
  | const v =>
    simp only [cOpd] at h
    split at h
    · rename_i c hc; cases h; exact ofV_rel σ v c hc
    · cases h
  | global g =>
    simp only [cOpd] at h
    cases hg : glOk g with
    | true =>
      rw [hg] at h; cases h
      rcases hG g hg with hs | ⟨sz, hs⟩
      · exact .ptr _ 0 0 none ⟨g, 0, none⟩ (by rw [hs]; simp) fun cb base sz' e => by rw [hs] at e; cases e
      · exact .ptr _ 0 0 none _ (by rw [hs]; simp) fun cb base sz' e => by rw [hs] at e; cases e; simp
    | false => rw [hg] at h; cases h
  | func f => cases h; exact .func f [] [] #[] #[] .nil .nil

theorem cOpd_rel {x : Operand} {a : Ev} (h : cOpd x = some a) {V : Nat → Prop} (hV : ∀ t, x = .tmp t → V t) {σ : Ai.Sub} {n : Nat} {e : Env} {tmps : Array Value} {A : AH} {w : World} (hE : RelV V σ n e tmps) (hA : Rel σ A w) : VRel σ (a e) (evT tmps x) := cOpd_relG h hV hE hA.glob

/- operations of one, two and three operands whose value is all that they come to -/
abbrev PG (P : Program) (A : AH) (u : AV) (s : Ai.Sub → Sem Value → Prop) : Prop := ∀ A2 σ w, A.Sub A2 → Rel σ A2 w → ∀ m, s σ m → ∃ y, m.run P w = .ok y w ∧ VRel σ u y

theorem pure1 {n : Nat} {o : Oper} {x : Operand} {r : AV → AH → KV → Bool} {run : Run} {F : Value → Sem Value} (hc : c1 x r = some run) (hx : x ∈ o.op.operands)
    (hF : ∀ tmps, execOp (evT tmps) o = (do Pure.pure (Next.value (← F (evT tmps x)))))
    (h : ∀ v A K, r v A K = true → ∃ u, K u A = true ∧ ∀ A2 σ w xv, A.Sub A2 → VRel σ v xv → Rel σ A2 w → ∃ y, (F xv).run P w = .ok y w ∧ VRel σ u y) : SoundP P n o run := by
  unfold c1 at hc
  split at hc
  · rename_i a ha
    cases hc
    intro e A K hk
    obtain ⟨u, hK, hs⟩ := h _ _ _ hk
    refine ⟨u, hK, fun A2 σ tmps w hS hE hA => ?_⟩
    obtain ⟨y, hy, hv⟩ := hs A2 σ w _ hS (cOpd_rel ha (fun t e => by subst e; exact hx) hE hA) hA
    exact ⟨y, by rw [hF]; exact vals _ y w w hy, hv⟩
  · cases hc
theorem pure2 {n : Nat} {o : Oper} {x y : Operand} {r : AV → AV → AH → KV → Bool} {run : Run} {F : Value → Value → Sem Value} (hc : c2 x y r = some run) (hx : x ∈ o.op.operands) (hy : y ∈ o.op.operands)
    (hF : ∀ tmps, execOp (evT tmps) o = (do Pure.pure (Next.value (← F (evT tmps x) (evT tmps y)))))
    (h : ∀ v v2 A K, r v v2 A K = true → ∃ u, K u A = true ∧ ∀ A2 σ w xv yv, A.Sub A2 → VRel σ v xv → VRel σ v2 yv → Rel σ A2 w → ∃ z, (F xv yv).run P w = .ok z w ∧ VRel σ u z) : SoundP P n o run := by
  unfold c2 at hc
  split at hc
  · rename_i a b ha hb
    cases hc
    intro e A K hk
    obtain ⟨u, hK, hs⟩ := h _ _ _ _ hk
    refine ⟨u, hK, fun A2 σ tmps w hS hE hA => ?_⟩
    obtain ⟨z, hz, hv⟩ := hs A2 σ w _ _ hS (cOpd_rel ha (fun t e => by subst e; exact hx) hE hA) (cOpd_rel hb (fun t e => by subst e; exact hy) hE hA) hA
    exact ⟨z, by rw [hF]; exact vals _ z w w hz, hv⟩
  · cases hc
theorem pure3 {n : Nat} {o : Oper} {x y z : Operand} {r : AV → AV → AV → AH → KV → Bool} {run : Run} {F : Value → Value → Value → Sem Value} (hc : c3 x y z r = some run) (hx : x ∈ o.op.operands) (hy : y ∈ o.op.operands) (hz : z ∈ o.op.operands)
    (hF : ∀ tmps, execOp (evT tmps) o = (do Pure.pure (Next.value (← F (evT tmps x) (evT tmps y) (evT tmps z)))))
    (h : ∀ v v2 v3 A K, r v v2 v3 A K = true → ∃ u, K u A = true ∧ ∀ A2 σ w xv yv zv, A.Sub A2 → VRel σ v xv → VRel σ v2 yv → VRel σ v3 zv → Rel σ A2 w → ∃ q, (F xv yv zv).run P w = .ok q w ∧ VRel σ u q) : SoundP P n o run := by
  unfold c3 at hc
  split at hc
  · rename_i a b c ha hb hcc
    cases hc
    intro e A K hk
    obtain ⟨u, hK, hs⟩ := h _ _ _ _ _ hk
    refine ⟨u, hK, fun A2 σ tmps w hS hE hA => ?_⟩
    obtain ⟨q, hq, hv⟩ := hs A2 σ w _ _ _ hS (cOpd_rel ha (fun t e => by subst e; exact hx) hE hA) (cOpd_rel hb (fun t e => by subst e; exact hy) hE hA) (cOpd_rel hcc (fun t e => by subst e; exact hz) hE hA) hA
    exact ⟨q, by rw [hF]; exact vals _ q w w hq, hv⟩
  · cases hc

/- operations that act, of one, two and three operands -/
theorem gen1 {n : Nat} {o : Oper} {x : Operand} {r : AV → AH → KV → Bool} {run : Run} {F : Value → Sem Next} (hc : c1 x r = some run) (hx : x ∈ o.op.operands) (hF : ∀ tmps, execOp (evT tmps) o = F (evT tmps x))
    (h : ∀ v A K, r v A K = true → ∃ u A', K u A' = true ∧ ∀ σ w xv, VRel σ v xv → Rel σ A w → Out P (F xv) σ A w u A') : Sound P n o run := by
  unfold c1 at hc
  split at hc
  · rename_i a ha
    cases hc
    intro e A K hk
    obtain ⟨u, A', hK, hs⟩ := h _ _ _ hk
    exact ⟨u, A', hK, fun σ tmps w hE hA => by rw [hF]; exact hs σ w _ (cOpd_rel ha (fun t e => by subst e; exact hx) hE hA) hA⟩
  · cases hc
theorem gen2 {n : Nat} {o : Oper} {x y : Operand} {r : AV → AV → AH → KV → Bool} {run : Run} {F : Value → Value → Sem Next} (hc : c2 x y r = some run) (hx : x ∈ o.op.operands) (hy : y ∈ o.op.operands) (hF : ∀ tmps, execOp (evT tmps) o = F (evT tmps x) (evT tmps y))
    (h : ∀ v v2 A K, r v v2 A K = true → ∃ u A', K u A' = true ∧ ∀ σ w xv yv, VRel σ v xv → VRel σ v2 yv → Rel σ A w → Out P (F xv yv) σ A w u A') : Sound P n o run := by
  unfold c2 at hc
  split at hc
  · rename_i a b ha hb
    cases hc
    intro e A K hk
    obtain ⟨u, A', hK, hs⟩ := h _ _ _ _ hk
    exact ⟨u, A', hK, fun σ tmps w hE hA => by rw [hF]; exact hs σ w _ _ (cOpd_rel ha (fun t e => by subst e; exact hx) hE hA) (cOpd_rel hb (fun t e => by subst e; exact hy) hE hA) hA⟩
  · cases hc
theorem gen3 {n : Nat} {o : Oper} {x y z : Operand} {r : AV → AV → AV → AH → KV → Bool} {run : Run} {F : Value → Value → Value → Sem Next} (hc : c3 x y z r = some run) (hx : x ∈ o.op.operands) (hy : y ∈ o.op.operands) (hz : z ∈ o.op.operands) (hF : ∀ tmps, execOp (evT tmps) o = F (evT tmps x) (evT tmps y) (evT tmps z))
    (h : ∀ v v2 v3 A K, r v v2 v3 A K = true → ∃ u A', K u A' = true ∧ ∀ σ w xv yv zv, VRel σ v xv → VRel σ v2 yv → VRel σ v3 zv → Rel σ A w → Out P (F xv yv zv) σ A w u A') : Sound P n o run := by
  unfold c3 at hc
  split at hc
  · rename_i a b c ha hb hcc
    cases hc
    intro e A K hk
    obtain ⟨u, A', hK, hs⟩ := h _ _ _ _ _ hk
    exact ⟨u, A', hK, fun σ tmps w hE hA => by rw [hF]; exact hs σ w _ _ _ (cOpd_rel ha (fun t e => by subst e; exact hx) hE hA) (cOpd_rel hb (fun t e => by subst e; exact hy) hE hA) (cOpd_rel hcc (fun t e => by subst e; exact hz) hE hA) hA⟩
  · cases hc

/- lists of operands -/
theorem cOpds_rel {xs : List Operand} {as : List Ev} (h : cOpds xs = some as) {V : Nat → Prop} (hV : ∀ t, .tmp t ∈ xs → V t) {σ : Ai.Sub} {n : Nat} {e : Env} {tmps : Array Value} {A : AH} {w : World} (hE : RelV V σ n e tmps) (hA : Rel σ A w) : VRels σ (evs e as) (xs.map (evT tmps)) := by
  induction xs generalizing as with
  | nil => cases h; exact .nil
  | cons x xs ih =>
    simp only [cOpds] at h
    split at h
    · rename_i a l ha hl
      cases h
      exact .cons (cOpd_rel ha (fun t e => hV t (by simp [e])) hE hA) (ih hl fun t ht => hV t (by simp [ht]))
    · cases h

/- types -/
theorem size_t {t n : Nat} (h : size P t = some n) : ∃ i, P.info? t = some i ∧ i.size = n := by
  unfold size at h
  split at h
  · rename_i i hi; cases h; exact ⟨i, hi, rfl⟩
  · cases h
theorem size_run {t n : Nat} (h : size P t = some n) (w : World) : (sizeOf t).run P w = .ok n w := by
  obtain ⟨i, hi, rfl⟩ := size_t h
  simp [sizeOf, typeInfo, hi]
theorem isAgg_run {t : Nat} {b : Bool} (h : isAgg P t = some b) (w : World) : (Go.isAgg t).run P w = .ok b w := by
  unfold isAgg at h
  cases hu : P.underlying t with
  | none => rw [hu] at h; cases h
  | some d =>
    rw [hu] at h
    have := run_underlying hu w
    cases d <;> (cases h; simp [Go.isAgg, this])

end Go.Ai

namespace Go.Ai
open Go
variable {P : Program}

theorem Rel.get_at {σ : Ai.Sub} {A : AH} {w : World} (hA : Rel σ A w) {b : Pa} {o : AO} (hg : A.get b = some o) (hd : o ≠ .dead) (hp : σ b ≠ .pend) : ∃ cb base sz, σ b = .at cb base sz ∧ ORel σ w cb base sz o := by
  rcases hA.obj b o hg with h | h | h
  · exact absurd h hp
  · exact absurd h.1 hd
  · exact h

theorem Rel.len4 {σ : Ai.Sub} {A : AH} {w : World} (hA : Rel σ A w) {b : Pa} (hp : σ b ≠ .pend) : b.length = 5 := by
  rcases Nat.decEq b.length 5 with h | h
  · exact absurd (hA.four b h) hp
  · exact h

/-- a block changes -/
theorem Rel.change {σ : Ai.Sub} {A : AH} {w w2 : World} (hA : Rel σ A w) {b : Pa} {cb base sz : Nat} {o o' : AO} (hr : rom b = false) (hsd : w2.os = w.os ∧ w2.output = w.output) (hg : A.get b = some o) (hb : σ b = .at cb base sz) (hk : ∀ k, k ≠ cb → w2.heap[k]? = w.heap[k]?) (hs : w2.heap.size = w.heap.size)
    (ho : ORel σ w2 cb base sz o') : Rel σ (A.put b o') w2 ∧ Ext σ A w σ (A.put b o') w2 := by
  have hbl : b.length = 5 := hA.len4 (by rw [hb]; simp)
  have hget : ∀ z, z.length = 5 → (A.put b o').get z = if z = b then some o' else A.get z := fun z hl => AH.get_put (by rw [hl, hbl])
  refine ⟨⟨fun z hzl hz => ?_, fun z o hz => ?_, hA.inj, hA.glob, fun z c base s h => by rw [hs]; exact hA.low z c base s h, hA.four, fun k hk => hA.tops k (by rw [← hs]; exact hk), by rw [AH.put_next]; exact hA.len, by rw [AH.put_next]; exact hA.high, hA.roms⟩, Sub.le.refl _, Nat.le_of_eq hs.symm, fun k hk' hno => ⟨hk k (fun e => ?_), fun z base' s' hz => ⟨hz, ?_⟩⟩, fun z hl hv hz => ⟨hz, ?_⟩, by rw [AH.put_next]; omega, fun z hz hzg => ⟨rfl, by
    have hne : z ≠ b := fun e => by rw [e, hg] at hzg; cases hzg
    rw [hget z (hA.len4 hz)]; simp [hne, hzg]⟩, hsd.1, hsd.2⟩
  · rw [AH.put_next] at hz
    obtain ⟨h1, h2⟩ := hA.fresh z hzl hz
    have : z ≠ b := fun e => by rw [e, hb] at h1; cases h1
    exact ⟨h1, by rw [hget z hzl]; simp [this, h2]⟩
  · by_cases hl : z.length = 5
    · rw [hget z hl] at hz
      by_cases h : z = b
      · subst h; simp at hz; subst hz; exact .inr (.inr ⟨cb, base, sz, hb, ho⟩)
      · simp [h] at hz
        rcases hA.obj z o hz with h1 | h1 | ⟨c, bs, s, h1, h2⟩
        · exact .inl h1
        · exact .inr (.inl h1)
        · have hne : c ≠ cb := fun e => h (hA.inj1 hr hb (e ▸ h1))
          exact .inr (.inr ⟨c, bs, s, h1, h2.keep (Sub.le.refl _) (hk c hne) (Nat.le_of_eq hs.symm)⟩)
    · exact .inl (hA.four z hl)
  · rcases hno b base sz (e ▸ hb) with this | this
    · rw [hg] at this; cases this
    · rw [hr] at this; cases this
  · have hzl := hA.len4 (b := z) (by rw [hz]; simp)
    rcases hno z base' s' hz with hzn | hzn
    · have hne : z ≠ b := fun e => by rw [e, hg] at hzn; cases hzn
      rw [hget z hzl]; simp [hne, hzn]
    · exact .inr hzn
  · have hne : z ≠ b := fun e => by rw [e, hb] at hz; cases hz
    rw [hget z hl]; simp [hne]

/-- nothing of the heap's changes -/
theorem Rel.same {σ : Ai.Sub} {A : AH} {w w2 : World} (hA : Rel σ A w) (hk : ∀ k, k < w.heap.size → w2.heap[k]? = w.heap[k]?) (hs : w.heap.size ≤ w2.heap.size) (hos : w2.os = w.os) (hou : w2.output = w.output) : Rel σ A w2 ∧ Ext σ A w σ A w2 :=
  ⟨⟨hA.fresh, fun z o hz => by
    rcases hA.obj z o hz with h1 | h1 | ⟨c, bs, s, h1, h2⟩
    · exact .inl h1
    · exact .inr (.inl h1)
    · exact .inr (.inr ⟨c, bs, s, h1, h2.keep (Sub.le.refl _) (hk c (hA.low z c bs s h1)) hs⟩), hA.inj, hA.glob, fun z c base s h => Nat.lt_of_lt_of_le (hA.low z c base s h) hs, hA.four, fun k hk' => hA.tops k (Nat.le_trans hs hk'), hA.len, hA.high, hA.roms⟩,
   Sub.le.refl _, hs, fun k hk' hno => ⟨hk k hk', fun b base sz hb => ⟨hb, hno b base sz hb⟩⟩, fun _ _ _ hz => ⟨hz, rfl⟩, Nat.le_refl _, fun _ _ h => ⟨rfl, h⟩, hos, hou⟩

/-- a block that nobody knows changes -/
theorem Rel.other {σ : Ai.Sub} {A : AH} {w w2 : World} (hA : Rel σ A w) {r : Nat} (hr : ∀ b base sz, σ b ≠ .at r base sz) (hk : ∀ k, k ≠ r → w2.heap[k]? = w.heap[k]?) (hs : w2.heap.size = w.heap.size) : Rel σ A w2 :=
  ⟨hA.fresh, fun z o hz => by
    rcases hA.obj z o hz with h1 | h1 | ⟨c, bs, s, h1, h2⟩
    · exact .inl h1
    · exact .inr (.inl h1)
    · exact .inr (.inr ⟨c, bs, s, h1, h2.keep (Sub.le.refl _) (hk c (fun e => hr z bs s (e ▸ h1))) (Nat.le_of_eq hs.symm)⟩), hA.inj, hA.glob, fun z c base s h => by rw [hs]; exact hA.low z c base s h, hA.four, fun k hk' => hA.tops k (by rw [← hs]; exact hk'), hA.len, hA.high, hA.roms⟩

/-- a new block -/
theorem Rel.push {σ : Ai.Sub} {A : AH} {w : World} (hA : Rel σ A w) (hn : allZ (inc A.next) = false) {cobj : Obj} {sz : Nat} {o : AO}
    (ho : ORel (σ.upd A.next w.heap.size 0 sz (csz cobj)) { w with heap := w.heap.push cobj } w.heap.size 0 sz o) :
    Rel (σ.upd A.next w.heap.size 0 sz (csz cobj)) (A.new o) { w with heap := w.heap.push cobj } ∧ Ext σ A w (σ.upd A.next w.heap.size 0 sz (csz cobj)) (A.new o) { w with heap := w.heap.push cobj } :=
  ⟨(hA.new_pend hn o).place hA.next_pend hA.len AH.get_new_self ho, push_ext hA hn⟩

theorem newK_t {A : AH} {o : AO} {f : Pa → AH → Bool} (h : newK A o f = true) : allZ (inc A.next) = false ∧ f A.next (A.new o) = true := by
  unfold newK at h
  cases hz : allZ (inc A.next) with
  | true => rw [hz] at h; cases h
  | false => rw [hz] at h; exact ⟨rfl, h⟩
end Go.Ai

namespace Go.Ai
open Go
variable {P : Program}

/-- a row -/
structure RowAt (σ : Ai.Sub) (w : World) (b : Pa) (s n : Nat) (t : Tr (List AV)) (cb base : Nat) (c : Array Value) (elem : TypeId) (lo hi : Nat) : Prop where
  at' : σ b = .at cb base s
  pos : s ≠ 0
  le : n ≤ 65536
  hc : w.heap[cb]? = some (.cells c elem (lo, hi))
  ht : σ.top cb = some c.size
  hf : hi = 0 ∨ c.size ≤ lo
  hn : base + n * s ≤ c.size
  h : ∀ i cs, i < n → t.get i = some cs → cs.length = s ∧ cs.all oneA = true ∧ VRels σ cs ((c.toList.drop (base + i * s)).take s)

theorem Rel.row {σ : Ai.Sub} {A : AH} {w : World} (hA : Rel σ A w) {b : Pa} {s n : Nat} {t : Tr (List AV)} (hg : A.get b = some (.row s n t)) (hp : σ b ≠ .pend) : ∃ cb base c elem lo hi, RowAt σ w b s n t cb base c elem lo hi := by
  obtain ⟨cb, base, sz, h1, h2⟩ := hA.get_at hg (by simp) hp
  cases h2 with
  | row n t c elem lo hi h0 hb hc ht hf hn h => exact ⟨cb, base, c, elem, lo, hi, h1, h0, hb, hc, ht, hf, hn, h⟩

theorem cell_at {w : World} {cb off : Nat} {c : Array Value} {elem : TypeId} {fz : Nat × Nat} (h : w.heap[cb]? = some (.cells c elem fz)) : w.cell? ⟨cb, off, none⟩ = c[off]? := by
  simp [World.cell?, h]
theorem addr_add (cb off j : Nat) : (⟨cb, off, none⟩ : Addr).add j = ⟨cb, off + j, none⟩ := by
  unfold Addr.add; split <;> simp_all

theorem get_drop_take {α : Type} {l : List α} {k s j : Nat} {y : α} (h : ((l.drop k).take s)[j]? = some y) : l[k + j]? = some y := by
  rw [List.getElem?_take] at h
  split at h
  · rwa [List.getElem?_drop] at h
  · cases h

/-- one cell -/
theorem ld1_run {x : AV} {A : AH} {K : KV} (h : ld1 x A K = true) : ∃ u, K u A = true ∧ ∀ A2 σ w xv, A.Sub A2 → VRel σ x xv → Rel σ A2 w → ∃ a y, xv = .pointer (some a) ∧ (load a).run P w = .ok y w ∧ VRel σ u y := by
  obtain ⟨b, i, f, c0, rfl, h⟩ := asPtr_t.1 h
  obtain ⟨s, n, t, hg, h⟩ := asRow_t.1 h
  obtain ⟨hi, cs, hcs, h⟩ := elemK_t.1 h
  obtain ⟨v, hv, h⟩ := optK_t.1 h
  refine ⟨v, h, fun A2 σ w xv hS hx hA => ?_⟩
  cases hx with
  | ptr b i f c a h0 ha =>
    obtain ⟨cb, base, c, elem, lo, hi', r⟩ := hA.row (hS.get (hA.len4 h0) hg) h0
    obtain ⟨_, _, hrel⟩ := r.h i cs hi hcs
    rw [nth_get] at hv
    obtain ⟨y, hy, hvy⟩ := hrel.get f v hv
    have hy' := get_drop_take hy
    refine ⟨a, y, rfl, ?_, hvy⟩
    have hcell : w.cell? a = some y := by
      rw [ha cb base s r.at', cell_at r.hc]
      simpa using hy'
    simp [load, Sem.run, hcell]

theorem all_sub {l r : List AV} {f m : Nat} (h : sub f m l = some r) (ha : l.all oneA = true) : r.all oneA = true := by
  obtain ⟨rfl, _⟩ := sub_eq h
  rw [List.all_eq_true] at ha ⊢
  exact fun x hx => ha x (List.mem_of_mem_drop (List.mem_of_mem_take hx))

/-- some cells -/
theorem ldN_run {x : AV} {A : AH} {K : KV} {m : Nat} (h : ldN m x A K = true) : ∃ u, K u A = true ∧ ∀ A2 σ w xv, A.Sub A2 → VRel σ x xv → Rel σ A2 w → ∃ a y, xv = .pointer (some a) ∧ (loadCells a m).run P w = .ok y w ∧ VRel σ u (.agg y) := by
  obtain ⟨b, i, f, c0, rfl, h⟩ := asPtr_t.1 h
  obtain ⟨s, n, t, hg, h⟩ := asRow_t.1 h
  obtain ⟨hi, cs, hcs, h⟩ := elemK_t.1 h
  obtain ⟨l, hl, h⟩ := optK_t.1 h
  refine ⟨_, h, fun A2 σ w xv hS hx hA => ?_⟩
  cases hx with
  | ptr b i f c a h0 ha =>
    obtain ⟨cb, base, c, elem, lo, hi', r⟩ := hA.row (hS.get (hA.len4 h0) hg) h0
    obtain ⟨hlen, hone, hrel⟩ := r.h i cs hi hcs
    have hl' := sub_eq hl
    have hsub : VRels σ l ((((c.toList.drop (base + i * s)).take s).drop f).take m) := by
      rw [hl'.1]; exact (hrel.drop f).take m
    have hlm : l.length = m := by rw [hl'.1]; simp; omega
    have hlen2 := hsub.length
    refine ⟨a, (((((c.toList.drop (base + i * s)).take s).drop f).take m)).toArray, rfl, ?_, .agg 0 l [] _ (all_sub hl hone) (by simpa using hsub)⟩
    have := run_loadCells_list (P := P) w a ((((c.toList.drop (base + i * s)).take s).drop f).take m) (fun j v hv => by
      rw [ha cb base s r.at', addr_add, cell_at r.hc]
      have h1 := get_drop_take hv
      have h2 := get_drop_take h1
      rw [← h2]
      simp [Nat.add_assoc])
    rw [← hlen2, hlm] at this
    exact this

/-- results -/
theorem loadVar_run {x : AV} {A : AH} {K : KV} {t : TypeId} (h : (match isAgg P t, size P t with | some true, some n => ldN n x A K | some false, _ => ld1 x A K | _, _ => false) = true) :
    ∃ u, K u A = true ∧ ∀ A2 σ w xv, A.Sub A2 → VRel σ x xv → Rel σ A2 w → ∃ a y, xv = .pointer (some a) ∧ (loadVar t a).run P w = .ok y w ∧ VRel σ u y := by
  split at h
  · rename_i n hg hn
    obtain ⟨u, hK, hs⟩ := ldN_run (P := P) h
    refine ⟨u, hK, fun A2 σ w xv hS hx hA => ?_⟩
    obtain ⟨a, y, h1, h2, h3⟩ := hs A2 σ w xv hS hx hA
    exact ⟨a, .agg y, h1, by simp [loadVar, isAgg_run hg, size_run hn, h2], h3⟩
  · rename_i hg
    obtain ⟨u, hK, hs⟩ := ld1_run (P := P) h
    refine ⟨u, hK, fun A2 σ w xv hS hx hA => ?_⟩
    obtain ⟨a, y, h1, h2, h3⟩ := hs A2 σ w xv hS hx hA
    exact ⟨a, y, h1, by
      simp only [loadVar, Sem.run_bind, isAgg_run hg, Result.andThen_ok, Bool.false_eq_true, if_false]; exact h2, h3⟩
  · cases h
end Go.Ai
