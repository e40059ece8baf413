/- A part of the proof that the abstract interpreter is sound, and of the two goroutines of the lexer. -/
import Derived.Test.YticjebnbcnphkaaGreatDoorZLiftN
import Derived.Orders

set_option linter.unusedSimpArgs false
set_option linter.unusedVariables false
set_option linter.unusedSectionVars false

namespace Go.Lift
open Go.Conc
variable {P : Program}

theorem count_one {p p' : Nat → Bool} {i : Nat} (hi : p i = true) (hi' : p' i = false) (hne : ∀ j, j ≠ i → p' j = p j) : ∀ (l : List Nat), l.Nodup → i ∈ l → l.countP p' + 1 = l.countP p := by
  have hnot : ∀ (l : List Nat), i ∉ l → l.countP p' = l.countP p := by
    intro l
    induction l with
    | nil => exact fun _ => rfl
    | cons x l ih =>
      intro hx
      have h1 : x ≠ i := fun e => hx (by rw [e]; exact List.mem_cons_self ..)
      rw [List.countP_cons, List.countP_cons, ih (fun h => hx (List.mem_cons_of_mem _ h)), hne x h1]
  intro l
  induction l with
  | nil => intro _ h; cases h
  | cons x l ih =>
    intro hnd hx
    rw [List.countP_cons, List.countP_cons]
    obtain ⟨h1, h2⟩ := List.nodup_cons.1 hnd
    by_cases hxi : x = i
    · subst hxi
      rw [hi, hi', hnot l h1]
      simp
    · have := ih h2 ((List.mem_cons.1 hx).resolve_left (Ne.symm hxi))
      rw [hne x hxi]
      omega

def left (ops : Array Oper) (listed : Array Bool) : Nat := (List.range ops.size).countP fun i => !listed.getD i true

theorem left_set {ops : Array Oper} {listed : Array Bool} {i : Nat} (hi : i < ops.size) (hsz : listed.size = ops.size) (h : listed.getD i true = false) : left ops (listed.setIfInBounds i true) + 1 = left ops listed := by
  refine count_one (i := i) (by simp only [h, Bool.not_false]) ?_ (fun j hj => ?_) _ List.nodup_range (List.mem_range.2 hi)
  · simp [hsz, hi]
  · simp only [getD_set_ne true (Ne.symm hj)]

/-- Edges point backwards; the operations from n on come one behind the other, and behind all that are ahead of n. -/
structure Shape (ops : Array Oper) (n : Nat) : Prop where
  le : n ≤ ops.size
  back : ∀ (i : Nat) (o : Oper), ops[i]? = some o → ∀ e ∈ o.after, Region.binds .any e = true → e.on < i
  row : ∀ (i : Nat) (o : Oper), ops[i]? = some o → n < i → ∃ e ∈ o.after, Region.binds .any e = true ∧ e.on = i - 1
  last : ∀ (o : Oper), ops[n]? = some o → ∀ listed : Array Bool, (∀ (i : Nat) (o : Oper), ops[i]? = some o → listed.getD i false = true → ∀ e ∈ o.after, Region.binds .any e = true → listed.getD e.on false = true) →
    (∀ e ∈ o.after, Region.binds .any e = true → listed.getD e.on false = true) → ∀ j, j < n → listed.getD j false = true

theorem go_pick (ops : Array Oper) (fuel t : Nat) (listed : Array Bool) : (Region.ready .any ops listed = [] ∧ Region.linearise.go .any ops (fuel + 1) t listed [] = []) ∨
    ∃ i t', i ∈ Region.ready .any ops listed ∧ Region.linearise.go .any ops (fuel + 1) t listed [] = i :: Region.linearise.go .any ops fuel t' (listed.setIfInBounds i true) [] := by
  simp only [Region.linearise.go]
  change (Region.ready .any ops listed = [] ∧ (match (Region.ready .any ops listed)[t % (Region.ready .any ops listed).length]? with
      | some i => Region.linearise.go .any ops fuel (t / (Region.ready .any ops listed).length) (listed.setIfInBounds i true) [i]
      | none => [].reverse) = []) ∨ ∃ i t', i ∈ Region.ready .any ops listed ∧ (match (Region.ready .any ops listed)[t % (Region.ready .any ops listed).length]? with
      | some i => Region.linearise.go .any ops fuel (t / (Region.ready .any ops listed).length) (listed.setIfInBounds i true) [i]
      | none => [].reverse) = i :: Region.linearise.go .any ops fuel t' (listed.setIfInBounds i true) []
  cases hi : (Region.ready .any ops listed)[t % (Region.ready .any ops listed).length]? with
  | none =>
    left
    refine ⟨?_, rfl⟩
    cases hr : Region.ready .any ops listed with
    | nil => rfl
    | cons x xs =>
      rw [hr] at hi
      have hlt : t % (x :: xs).length < (x :: xs).length := Nat.mod_lt _ (by simp)
      simp at hi
      simp at hlt
      omega
  | some i =>
    right
    refine ⟨i, t / (Region.ready .any ops listed).length, List.mem_of_getElem? hi, ?_⟩
    dsimp only
    rw [linearise_go_acc]
    rfl

theorem getD_lt {listed : Array Bool} {i : Nat} (h : i < listed.size) : listed.getD i true = listed.getD i false := by
  simp [Array.getD, h]

theorem tail_go {ops : Array Oper} {n : Nat} (hS : Shape ops n) : ∀ (fuel m t : Nat) (listed : Array Bool), listed.size = ops.size → n ≤ m → m + fuel = ops.size →
    (∀ j, j < m → listed.getD j false = true) → (∀ j, m ≤ j → j < ops.size → listed.getD j true = false) → Region.linearise.go .any ops fuel t listed [] = List.range' m fuel := by
  intro fuel
  induction fuel with
  | zero => intro m t listed _ _ _ _ _; rfl
  | succ fuel ih =>
    intro m t listed hsz hnm hmf h1 h2
    have hm : m < ops.size := by omega
    have hready : m ∈ Region.ready .any ops listed := by
      refine mem_ready.2 ⟨h2 m (Nat.le_refl _) hm, ops[m], Array.getElem?_eq_getElem hm, fun e he hb => ?_⟩
      exact h1 _ (hS.back m _ (Array.getElem?_eq_getElem hm) e he hb)
    rcases go_pick ops fuel t listed with ⟨h, _⟩ | ⟨i, t', hi, e⟩
    · rw [h] at hready; cases hready
    · have him : i = m := by
        obtain ⟨hi0, o, ho, hall⟩ := mem_ready.1 hi
        have hlt : i < ops.size := (Array.getElem?_eq_some_iff.1 ho).1
        rcases Nat.lt_trichotomy i m with h | h | h
        · rw [getD_lt (by omega), h1 i h] at hi0; cases hi0
        · exact h
        · obtain ⟨e, he, hb, hon⟩ := hS.row i o ho (by omega)
          have := hall e he hb
          rw [hon, ← getD_lt (by omega), h2 (i - 1) (by omega) (by omega)] at this
          cases this
      subst him
      rw [e, List.range'_succ, ih (i + 1) t' (listed.setIfInBounds i true) (by simpa using hsz) (by omega) (by omega) (fun j hj => ?_) (fun j hj1 hj2 => ?_)]
      · by_cases hji : j = i
        · subst hji; simp [hsz, hm]
        · exact getD_set_true (h1 j (by omega))
      · rw [getD_set_ne true (by omega)]
        exact h2 j (by omega) hj2

section
variable {main : Bool} {fn : FuncId} {Q : PostO} {O : Own}

/-- The calm operations' slots. -/
def slot? (ops : Array Oper) (i : Nat) : Option Tmp := (ops[i]?).bind (·.dst)

/-- A DRAWN REGION whose first n operations are calm (each yields its value in whatever company), with a row behind them: the state behind the calm ones is aF, whatever the order. -/
theorem opsO_drawn {ops : Array Oper} {n : Nat} (hS : Shape ops n) (hsel : Region.noSelect ops = true) {a aF : Act} {w : World}
    (hdef : aF.defers = a.defers) (hsize : aF.tmps.size = a.tmps.size)
    (hlooks : ∀ (i : Nat) (o : Oper), i < n → ops[i]? = some o → ∀ t ∈ o.looksAt ops, ∀ j, j < n → slot? ops j = some t → ∃ e ∈ o.after, Region.binds .any e = true ∧ e.on = j)
    (hone : ∀ i j t, i < n → j < n → slot? ops i = some t → slot? ops j = some t → i = j)
    (hout : ∀ t, (∀ i, i < n → slot? ops i ≠ some t) → aF.tmps[t]? = a.tmps[t]?)
    (hcalm : ∀ (i : Nat) (o : Oper), i < n → ops[i]? = some o → ∃ d, o.dst = some d ∧ d < a.tmps.size ∧
      ((Region.wanted o (yielded ops aF.tmps) = true ∧ ∀ w₁, Rely O w w₁ → (execOp aF.eval o).run P w₁ = .ok (.value (aF.tmps.getD d undef)) w₁ ∧ Guar O w₁ w₁ (Conc.listed P fn aF o w₁)) ∨
       (Region.wanted o (yielded ops aF.tmps) = false ∧ aF.tmps.getD d undef = undef)))
    (hrest : OpsO P main fn ops (List.range' n (ops.size - n)) Q aF O w) (t : Nat) : OpsO P main fn ops (Region.linearise .any ops t) Q a O w := by
  have key : ∀ (fuel t : Nat) (listed : Array Bool) (a' : Act) (w' : World), listed.size = ops.size → fuel = left ops listed →
      (∀ (i : Nat) (o : Oper), ops[i]? = some o → listed.getD i false = true → ∀ e ∈ o.after, Region.binds .any e = true → listed.getD e.on false = true) →
      (∀ i, n ≤ i → i < ops.size → listed.getD i true = false) →
      a'.defers = a.defers → a'.tmps.size = a.tmps.size →
      (∀ t, a'.tmps[t]? = aF.tmps[t]? ∨ ∃ i, i < n ∧ slot? ops i = some t ∧ listed.getD i true = false) →
      Rely O w w' → OpsO P main fn ops (Region.linearise.go .any ops fuel t listed []) Q a' O w' := by
    intro fuel
    induction fuel with
    | zero =>
      intro t listed a' w' hsz hf hdown htail hd hs hpart hrely
      have hall : ∀ i, i < ops.size → listed.getD i true = true := by
        intro i hi
        have := List.countP_eq_zero.1 hf.symm i (List.mem_range.2 hi)
        simpa using this
      have hn : n = ops.size := by
        rcases Nat.lt_or_ge n ops.size with h | h
        · have := htail n (Nat.le_refl _) h
          rw [hall n h] at this; cases this
        · exact Nat.le_antisymm hS.le h
      have ha : a' = aF := by
        have ht : a'.tmps = aF.tmps := by
          apply Array.ext_getElem?
          intro t
          rcases hpart t with h | ⟨i, hi, _, h⟩
          · exact h
          · rw [hall i (by omega)] at h; cases h
        cases a'; cases aF; simp_all
      subst ha
      have hr : ops.size - n = 0 := by omega
      rw [hr] at hrest
      simp only [Region.linearise.go, List.reverse_nil]
      intro b k cs Stop hb hk hc
      exact (hrest b k cs Stop hb hk hc).rely hrely
    | succ fuel ih =>
      intro t listed a' w' hsz hf hdown htail hd hs hpart hrely
      -- are all the calm ones listed?
      by_cases hcl : ∀ j, j < n → listed.getD j false = true
      · have hleft : left ops listed = ops.size - n := by
          unfold left
          have h1 : List.range ops.size = List.range n ++ List.range' n (ops.size - n) := by
            have h := List.range'_append_1 (s := 0) (m := n) (n := ops.size - n)
            rw [Nat.zero_add] at h
            rw [List.range_eq_range', List.range_eq_range', h]
            congr 1
            have := hS.le
            omega
          rw [h1, List.countP_append]
          have z : (List.range n).countP (fun i => !listed.getD i true) = 0 := by
            rw [List.countP_eq_zero]
            intro i hi
            have hi := List.mem_range.1 hi
            have hle := hS.le
            rw [getD_lt (by omega), hcl i hi]
            simp
          have f : (List.range' n (ops.size - n)).countP (fun i => !listed.getD i true) = (List.range' n (ops.size - n)).length := by
            rw [List.countP_eq_length]
            intro i hi
            have hi := List.mem_range'_1.1 hi
            rw [htail i hi.1 (by omega)]
            rfl
          rw [z, f, List.length_range']
          omega
        have hgo := tail_go hS (fuel + 1) n t listed hsz (Nat.le_refl _) (by omega) hcl htail
        rw [hgo, show fuel + 1 = ops.size - n by omega]
        have ha : a' = aF := by
          have ht : a'.tmps = aF.tmps := by
            apply Array.ext_getElem?
            intro t
            rcases hpart t with h | ⟨i, hi, _, h⟩
            · exact h
            · have hle := hS.le
              rw [getD_lt (by omega), hcl i hi] at h; cases h
          cases a'; cases aF; simp_all
        subst ha
        intro b k cs Stop hb hk hc
        exact (hrest b k cs Stop hb hk hc).rely hrely
      · rcases go_pick ops fuel t listed with ⟨hnil, _⟩ | ⟨i, t', hi, e⟩
        · -- something is ready
          exfalso
          have hex : ∃ j, j < ops.size ∧ listed.getD j true = false := by
            apply Classical.byContradiction
            intro hno
            refine hcl fun j hj => ?_
            have hle := hS.le
            cases hx : listed.getD j true with
            | true => rw [← getD_lt (by omega)]; exact hx
            | false => exact absurd ⟨j, by omega, hx⟩ hno
          have hmin : ∀ m, (∃ j, j < m ∧ j < ops.size ∧ listed.getD j true = false) → ∃ j, j < ops.size ∧ listed.getD j true = false ∧ ∀ i, i < j → listed.getD i true = true := by
            intro m
            induction m with
            | zero => rintro ⟨j, hj, _⟩; omega
            | succ m ihm =>
              rintro ⟨j, hj, hjs, hjf⟩
              by_cases hlow : ∃ j, j < m ∧ j < ops.size ∧ listed.getD j true = false
              · exact ihm hlow
              · refine ⟨j, hjs, hjf, fun i hi => ?_⟩
                cases hx : listed.getD i true with
                | true => rfl
                | false => exact absurd ⟨i, by omega, by omega, hx⟩ hlow
          obtain ⟨j, hjs, hjf⟩ := hex
          obtain ⟨j, hjs, hjf, hlow⟩ := hmin (j + 1) ⟨j, by omega, hjs, hjf⟩
          have : j ∈ Region.ready .any ops listed := by
            refine mem_ready.2 ⟨hjf, ops[j], Array.getElem?_eq_getElem hjs, fun e he hb => ?_⟩
            have hb' := hS.back j _ (Array.getElem?_eq_getElem hjs) e he hb
            rw [← getD_lt (by omega)]
            exact hlow _ hb'
          rw [hnil] at this
          cases this
        · obtain ⟨hi0, o, ho, hall⟩ := mem_ready.1 hi
          have hlt : i < ops.size := (Array.getElem?_eq_some_iff.1 ho).1
          have hin : i < n := by
            rcases Nat.lt_or_ge i n with h | h
            · exact h
            · exfalso
              rcases Nat.lt_or_ge n i with h' | h'
              · obtain ⟨e, he, hb, hon⟩ := hS.row i o ho h'
                have := hall e he hb
                rw [hon, ← getD_lt (by omega), htail (i - 1) (by omega) (by omega)] at this
                cases this
              · obtain rfl : i = n := by omega
                exact hcl (hS.last o ho listed hdown hall)
          obtain ⟨d, hdst, hdlt, hy⟩ := hcalm i o hin ho
          have hslot : slot? ops i = some d := by simp [slot?, ho, hdst]
          -- what it looks at is as at the end
          have hlook : ∀ t ∈ o.looksAt ops, a'.tmps[t]? = aF.tmps[t]? := by
            intro t ht
            rcases hpart t with h | ⟨j, hj, hjs, hjf⟩
            · exact h
            · obtain ⟨e, he, hb, hon⟩ := hlooks i o hin ho t ht j hj hjs
              have := hall e he hb
              have hle := hS.le
              rw [hon, ← getD_lt (by omega), hjf] at this
              cases this
          have hexec : execOp a'.eval o = execOp aF.eval o := by
            refine execOp_congr o (fun cs b => Region.noSelect_spec hsel i o cs b ho) fun x hx => ?_
            cases x with
            | tmp t =>
              have ht : t ∈ o.looksAt ops := List.mem_append_left _ (List.mem_filterMap.2 ⟨.tmp t, by simpa using hx, rfl⟩)
              have := hlook t ht
              simp [Act.eval, this]
            | _ => rfl
          have hwant : Region.wanted o (yielded ops a'.tmps) = Region.wanted o (yielded ops aF.tmps) := by
            unfold Region.wanted
            cases hg : o.guard with
            | none => rfl
            | some gw =>
              obtain ⟨g, want⟩ := gw
              dsimp only
              unfold yielded
              cases hgd : (ops[g]?).bind (·.dst) with
              | none => rfl
              | some t =>
                have ht : t ∈ o.looksAt ops := List.mem_append_right _ (by rw [hg]; simp [hgd])
                have := hlook t ht
                simp [this]
          have hput : ∀ v, v = aF.tmps.getD d undef → ∀ w'', Rely O w w'' → OpsO P main fn ops (Region.linearise.go .any ops fuel t' (listed.setIfInBounds i true) []) Q (a'.put o.dst v) O w'' := by
            intro v hv w'' hr''
            have hl : fuel = left ops (listed.setIfInBounds i true) := by
              have := left_set hlt hsz hi0
              omega
            refine ih t' _ _ w'' (by simpa using hsz) hl ?_ ?_ ?_ ?_ ?_ hr''
            · intro j oj hoj hj e1 he1 hb1
              by_cases hji : j = i
              · subst hji
                rw [ho] at hoj; cases hoj
                exact getD_set_true (hall e1 he1 hb1)
              · have hj' : listed.getD j false = true := by
                  rw [getD_set_ne false (Ne.symm hji)] at hj; exact hj
                exact getD_set_true (hdown j oj hoj hj' e1 he1 hb1)
            · intro j hj1 hj2
              rw [getD_set_ne true (by omega)]
              exact htail j hj1 hj2
            · rw [hdst]; exact hd
            · rw [hdst]; simpa [Act.put] using hs
            · intro t
              rw [hdst]
              by_cases htd : t = d
              · left
                have h2 : d < aF.tmps.size := by rw [hsize]; exact hdlt
                have h3 : d < a'.tmps.size := by rw [hs]; exact hdlt
                rw [htd]
                simp [Act.put, h3, hv, h2]
              · rcases hpart t with h | ⟨j, hj, hjs, hjf⟩
                · left
                  simp [Act.put, Array.getElem?_setIfInBounds_ne (Ne.symm htd), h]
                · by_cases hji : j = i
                  · subst hji
                    rw [hslot] at hjs
                    cases hjs
                    exact absurd rfl htd
                  · exact .inr ⟨j, hj, hjs, by rw [getD_set_ne true (Ne.symm hji)]; exact hjf⟩
          rw [e]
          rcases hy with ⟨hw1, hrun⟩ | ⟨hw1, hund⟩
          · refine opsO_cons ho (by rw [hwant]; exact hw1) fun w₁ h₁ => ?_
            obtain ⟨hr, hg⟩ := hrun w₁ (hrely.trans h₁)
            rw [hexec, hr]
            refine ⟨?_, ?_⟩
            · have : Conc.listed P fn a' o w₁ = Conc.listed P fn aF o w₁ := by unfold Conc.listed; rw [hexec]
              rw [this]; exact hg
            · rw [grow_same rfl]
              exact hput _ rfl w₁ (hrely.trans h₁)
          · exact opsO_unwanted ho (by rw [hwant]; exact hw1) (hput undef hund.symm w' hrely)
  unfold Region.linearise
  refine key ops.size t (Array.replicate ops.size false) a w (by simp) ?_ ?_ ?_ rfl rfl ?_ (Rely.refl _ _)
  · unfold left
    have : (List.range ops.size).countP (fun i => !(Array.replicate ops.size false).getD i true) = (List.range ops.size).length := by
      rw [List.countP_eq_length]
      intro i hi
      have hi := List.mem_range.1 hi
      simp [Array.getD, hi]
    rw [this, List.length_range]
  · intro i o ho h
    have hi : i < ops.size := (Array.getElem?_eq_some_iff.1 ho).1
    simp [Array.getD, hi] at h
  · intro i _ hi
    simp [Array.getD, hi]
  · intro t
    by_cases h : ∀ i, i < n → slot? ops i ≠ some t
    · exact .inl (hout t h).symm
    · right
      obtain ⟨i, hi⟩ := Classical.not_forall.1 h
      obtain ⟨hin, hs⟩ := Classical.not_imp.1 hi
      have hle := hS.le
      exact ⟨i, hin, Classical.not_not.1 hs, by simp [Array.getD, show i < ops.size by omega]⟩
end
end Go.Lift

namespace Go.Lift
open Go.Conc
variable {P : Program}

/-- What a select of one send and one receive hands back where the send is carried out. -/
def selRes (zq : Value) : Value := .tuple #[goInt 0, .bool false, zq]

section
variable {a a₂ b b₂ : Goroutine} {w w₁ : World} {sl : Option (Nat × Nat)} {es : Array Event} {c q s r s' r' : Nat} {z z' zq v : Value} {tm tq : Bool}

theorem runT_recv_meets_sel (h : stepG P true a w = .comm a₂ #[rcase c z] true (.recv true) w₁ es) (hc : w₁.heap[c]? = some (.chan 0 #[] false s r tm)) (hb : b = parked b₂ #[scase c v z', rcase q zq] .select) :
    runT P (duo a b w sl) 0 = (.next (duo (Conc.served a₂ (.tuple #[v, .bool true])) (Conc.served b₂ (selRes zq)) (w₁.passed c s r tm) sl),
      MemOp.ofEvents 0 a.frame.fn a.frame.place es ++ #[{ g := 1, fn := b₂.frame.fn, pos := b₂.frame.place, act := .send c s }, { g := 0, fn := a₂.frame.fn, pos := a₂.frame.place, act := .recv c r 0 },
        { g := 1, fn := b₂.frame.fn, pos := b₂.frame.place, act := .sendDone c s }, { g := 0, fn := a₂.frame.fn, pos := a₂.frame.place, act := .recvDone c r }]) := by
  subst hb
  simp [runT, duo, Array.swapAt!, Array.swapAt, h, GStep.es, communicate, ways, rcase, hc, partners, choose, Sem.run, Question.forced, bind, Sem.bind, pure, finishPartner, offeredValue, Goroutine.finishComm, commResult, parked, scase, Conc.served, World.passed, selRes, List.zipIdx]

theorem runT_sel_waits (h : stepG P false b w = .comm b₂ #[scase c v z', rcase q zq] true .select w₁ es) (hc : w₁.heap[c]? = some (.chan 0 #[] false s r tm)) (hq : w₁.heap[q]? = some (.chan 0 #[] false s' r' tq)) (ha : a.status ≠ .blocked) :
    runT P (duo a b w sl) 1 = (.next (duo a (parked b₂ #[scase c v z', rcase q zq] .select) w₁ sl), MemOp.ofEvents 1 b.frame.fn b.frame.place es) := by
  have hp : ∀ c s, partners #[a, { (default : Goroutine) with status := .finished }] c s = [] := by
    intro c s
    cases hs : a.status <;> simp_all [partners]
  simp [runT, duo, Array.swapAt!, Array.swapAt, h, GStep.es, communicate, ways, scase, rcase, hc, hq, hp, waitingAt, timerAhead, parked]

theorem runT_sel_meets (h : stepG P false b w = .comm b₂ #[scase c v z', rcase q zq] true .select w₁ es) (hc : w₁.heap[c]? = some (.chan 0 #[] false s r tm)) (hq : w₁.heap[q]? = some (.chan 0 #[] false s' r' tq)) (ha : a = parked a₂ #[rcase c z] (.recv true)) :
    runT P (duo a b w sl) 1 = (.next (duo (Conc.served a₂ (.tuple #[v, .bool true])) (Conc.served b₂ (selRes zq)) (w₁.passed c s r tm) sl),
      MemOp.ofEvents 1 b.frame.fn b.frame.place es ++ #[{ g := 1, fn := b₂.frame.fn, pos := b₂.frame.place, act := .send c s }, { g := 0, fn := a₂.frame.fn, pos := a₂.frame.place, act := .recv c r 0 },
        { g := 1, fn := b₂.frame.fn, pos := b₂.frame.place, act := .sendDone c s }, { g := 0, fn := a₂.frame.fn, pos := a₂.frame.place, act := .recvDone c r }]) := by
  subst ha
  simp [runT, duo, Array.swapAt!, Array.swapAt, h, GStep.es, communicate, ways, scase, hc, hq, partners, choose, Sem.run, Question.forced, bind, Sem.bind, pure, finishPartner, Goroutine.finishComm, commResult, parked, rcase, Conc.served, World.passed, selRes, List.zipIdx]
end
end Go.Lift

namespace Go.Lift
open Go.Conc
variable {P : Program}

def blk : Loc → Option Nat
  | .cell a => some a.block
  | .obj r => some r
  | _ => none

theorem blk_mem {l : Loc} (h : l.isMemory = true) : ∃ k, blk l = some k := by
  cases l <;> simp [Loc.isMemory] at h <;> exact ⟨_, rfl⟩

/-- The trace while two are at work: what lies in the child's blocks the child knows, what lies elsewhere goroutine 0 knows. -/
structure TI (c : Nat) (O1 : Own) (t : Trace) (w : World) : Prop where
  clean : ∀ said, ¬ Race said t
  mine : ∀ i x k, touchAt t i = some x → blk x.loc = some k → O1 k → Knows t 1 i
  other : ∀ i x k, touchAt t i = some x → blk x.loc = some k → ¬ O1 k → Knows t 0 i
  low : ∀ i x k, touchAt t i = some x → blk x.loc = some k → (k < w.heap.size ∧ k ≠ c) ∨ (Knows t 0 i ∧ Knows t 1 i)
  deaf0 : Deaf t 0 = 0
  deaf1 : ∀ j, 0 < j → Deaf t j = 0

theorem EvO.mark {O : Own} {w w' : World} {e : Event} (h : EvO O w w' e) : ∀ m, e.loc = .mark m → Neutral m := by
  intro m hm
  unfold EvO at h
  rw [hm] at h
  exact h

theorem EvO.blk {O : Own} {w w' : World} {e : Event} (h : EvO O w w' e) {k : Nat} (hk : Lift.blk e.loc = some k) : O k ∨ (w.heap.size ≤ k ∧ k < w'.heap.size) := by
  unfold EvO at h
  cases hl : e.loc <;> rw [hl] at h hk <;> simp [Lift.blk] at hk
  · subst hk; exact h
  · subst hk; exact h

theorem evs_deaf {O : Own} {w w' : World} {es : Array Event} (h : ∀ e ∈ es, EvO O w w' e) (d : Nat) : deafBehind d es = d :=
  deafBehind_still (fun e he => ⟨fun hm => ((h e he).mark _ hm).ne_disable rfl, fun hm => ((h e he).mark _ hm).ne_enable rfl⟩) d

theorem evs_touch {O : Own} {w w' : World} {es : Array Event} (h : ∀ e ∈ es, EvO O w w' e) {g : Nat} {fn : FuncId} {pos : String} {op : MemOp} (hop : op ∈ MemOp.ofEvents g fn pos es) {x : Touch} (hx : op.act.touch? = some x) {k : Nat} (hk : blk x.loc = some k) :
    op.g = g ∧ (O k ∨ (w.heap.size ≤ k ∧ k < w'.heap.size)) := by
  obtain ⟨e, he, rfl⟩ := Conc.mem_ofEvents hop
  obtain ⟨h1, _⟩ := ofEvent_touch (h e he).mark hx
  rw [h1] at hk
  exact ⟨rfl, (h e he).blk hk⟩

theorem TI.app {c : Nat} {O1 O1' : Own} {t u : Trace} {w w' : World} {g : Nat} (h : TI c O1 t w) (hg : g = 0 ∨ g = 1) (hu : ∀ op ∈ u, op.g = g) (hdeaf : Deaf (t ++ u) g = Deaf t g) (hsz : w.heap.size ≤ w'.heap.size)
    (hO : ∀ k, k < w.heap.size → (O1' k ↔ O1 k)) (ht : ∀ op ∈ u, ∀ x, op.act.touch? = some x → ∀ k, blk x.loc = some k → (k < w'.heap.size ∧ k ≠ c) ∧ ((g = 0 ∧ ¬ O1' k) ∨ (g = 1 ∧ O1' k))) : TI c O1' (t ++ u) w' := by
  have cases_ : ∀ i x, touchAt (t ++ u) i = some x → touchAt t i = some x ∨ ∃ op, op ∈ u ∧ op.act.touch? = some x ∧ (t ++ u)[i]? = some op := by
    intro i x hx
    obtain ⟨op, ho, hox⟩ := touch_of hx
    rcases getElem?_append_cases ho with ⟨_, ho'⟩ | ⟨_, hm⟩
    · exact .inl (by rw [touchAt_of ho']; exact hox)
    · exact .inr ⟨op, hm, hox, ho⟩
  refine ⟨fun said => noRace_append (g := g) (h.clean said) hu ?_, ?_, ?_, ?_, ?_, ?_⟩
  · intro i a ha op hop b hb hc
    obtain ⟨k, hk⟩ := blk_mem (hc.1 ▸ hc.2.1 : b.loc.isMemory = true)
    have hk' : blk a.loc = some k := by rw [hc.1]; exact hk
    rcases h.low i a k ha hk' with ⟨hlow, _⟩ | ⟨k0, k1⟩
    · rcases (ht op hop b hb k hk).2 with ⟨rfl, h1⟩ | ⟨rfl, h1⟩
      · exact h.other i a k ha hk' fun h2 => h1 ((hO k hlow).2 h2)
      · exact h.mine i a k ha hk' ((hO k hlow).1 h1)
    · rcases hg with rfl | rfl
      · exact k0
      · exact k1
  · intro i x k hx hk ho
    rcases cases_ i x hx with h1 | ⟨op, hm, hox, hop⟩
    · rcases h.low i x k h1 hk with ⟨hl, _⟩ | ⟨_, k1⟩
      · exact (h.mine i x k h1 hk ((hO k hl).1 ho)).app _
      · exact k1.app _
    · rcases (ht op hm x hox k hk).2 with ⟨_, h2⟩ | ⟨rfl, _⟩
      · exact absurd ho h2
      · have := knows_own hop
        rwa [hu op hm] at this
  · intro i x k hx hk ho
    rcases cases_ i x hx with h1 | ⟨op, hm, hox, hop⟩
    · rcases h.low i x k h1 hk with ⟨hl, _⟩ | ⟨k0, _⟩
      · exact (h.other i x k h1 hk fun h2 => ho ((hO k hl).2 h2)).app _
      · exact k0.app _
    · rcases (ht op hm x hox k hk).2 with ⟨rfl, _⟩ | ⟨_, h2⟩
      · have := knows_own hop
        rwa [hu op hm] at this
      · exact absurd h2 ho
  · intro i x k hx hk
    rcases cases_ i x hx with h1 | ⟨op, hm, hox, _⟩
    · rcases h.low i x k h1 hk with ⟨hl, hn⟩ | ⟨k0, k1⟩
      · exact .inl ⟨Nat.lt_of_lt_of_le hl hsz, hn⟩
      · exact .inr ⟨k0.app _, k1.app _⟩
    · exact .inl (ht op hm x hox k hk).1
  · rcases hg with rfl | rfl
    · rw [hdeaf]; exact h.deaf0
    · rw [Deaf_other t (g' := 1) (by omega) _ hu]; exact h.deaf0
  · intro j hj
    by_cases hjg : j = g
    · subst hjg; rw [hdeaf]; exact h.deaf1 j hj
    · rw [Deaf_other t (g' := g) (by omega) _ hu]; exact h.deaf1 j hj

theorem TI.own0 {c : Nat} {O0 O1 : Own} {t : Trace} {w w' : World} {es : Array Event} {fn : FuncId} {pos : String} (h : TI c O1 t w) (hcx : c < w.heap.size) (h0c : ¬ O0 c) (hg : Guar O0 w w' es) (hd : ∀ k, O0 k → ¬ O1 k) (hb0 : ∀ k, O0 k → k < w.heap.size) (hb : ∀ k, O1 k → k < w.heap.size) :
    TI c O1 (t ++ MemOp.ofEvents 0 fn pos es) w' := by
  refine h.app (.inl rfl) (fun op hop => by obtain ⟨e, _, rfl⟩ := Conc.mem_ofEvents hop; rfl) (by rw [Deaf_own, evs_deaf hg.evs]) hg.size (fun k _ => Iff.rfl) fun op hop x hx k hk => ?_
  have hsz := hg.size
  obtain ⟨_, ho | ho⟩ := evs_touch hg.evs hop hx hk
  · exact ⟨⟨Nat.lt_of_lt_of_le (hb0 k ho) hsz, fun e => h0c (e ▸ ho)⟩, .inl ⟨rfl, hd k ho⟩⟩
  · exact ⟨⟨ho.2, by omega⟩, .inl ⟨rfl, fun h1 => by have := hb k h1; omega⟩⟩

theorem TI.own1 {c : Nat} {O1 : Own} {t : Trace} {w w' : World} {es : Array Event} {fn : FuncId} {pos : String} (h : TI c O1 t w) (hcx : c < w.heap.size) (h1c : ¬ O1 c) (hg : Guar O1 w w' es) (hb : ∀ k, O1 k → k < w.heap.size) :
    TI c (Grow O1 w w') (t ++ MemOp.ofEvents 1 fn pos es) w' := by
  have hsz := hg.size
  refine h.app (.inr rfl) (fun op hop => by obtain ⟨e, _, rfl⟩ := Conc.mem_ofEvents hop; rfl) (by rw [Deaf_own, evs_deaf hg.evs]) hg.size (fun k hk => ?_) fun op hop x hx k hk => ?_
  · unfold Grow
    constructor
    · rintro (h1 | h1)
      · exact h1
      · omega
    · exact .inl
  · obtain ⟨_, ho | ho⟩ := evs_touch hg.evs hop hx hk
    · exact ⟨⟨Nat.lt_of_lt_of_le (hb k ho) hsz, fun e => h1c (e ▸ ho)⟩, .inr ⟨rfl, .inl ho⟩⟩
    · exact ⟨⟨ho.2, by omega⟩, .inr ⟨rfl, .inr ho⟩⟩

/-- What touches nothing and says no word. -/
def Mute (op : MemOp) : Prop := (op.g = 0 ∨ op.g = 1) ∧ op.act.touch? = none ∧ ∀ m, op.act ≠ .mark m

theorem TI.mute {c : Nat} {O1 : Own} {t : Trace} {w w' : World} (h : TI c O1 t w) (hsz : w'.heap.size = w.heap.size) : ∀ (l : List MemOp), (∀ op ∈ l, Mute op) → TI c O1 (t ++ l.toArray) w' := by
  intro l
  induction l generalizing t w with
  | nil =>
    intro _
    simp only [Array.append_empty]
    exact ⟨h.clean, h.mine, h.other, fun i x k a b => by rw [hsz]; exact h.low i x k a b, h.deaf0, h.deaf1⟩
  | cons op l ih =>
    intro hl
    obtain ⟨hg, ht, hm⟩ := hl op (List.mem_cons_self ..)
    have e : t ++ (op :: l).toArray = (t ++ #[op]) ++ l.toArray := by simp
    rw [e]
    have hd : ∀ g, Deaf (t ++ #[op]) g = Deaf t g := by
      intro g
      have : (#[op] : Array MemOp) = [op].toArray := rfl
      rw [this, Deaf_append]
      show deafStep g (Deaf t g) op = _
      unfold deafStep
      split
      · rename_i heq; exact absurd heq (hm _)
      · rename_i heq; exact absurd heq (hm _)
      · rfl
    refine ih (w := w) ?_ hsz fun y hy => hl y (List.mem_cons_of_mem _ hy)
    refine h.app (g := op.g) hg (fun y hy => by simp at hy; rw [hy]) (hd _) (Nat.le_refl _) (fun _ _ => Iff.rfl) fun y hy x hx => ?_
    simp at hy
    rw [hy, ht] at hx
    cases hx

/-- Behind the close, of which goroutine 0 does not know yet. -/
structure TC (c : Nat) (O1 : Own) (t : Trace) (w : World) (pc : Nat) : Prop where
  clean : ∀ said, ¬ Race said t
  before : ∀ i x k, touchAt t i = some x → blk x.loc = some k → O1 k → HappensBefore t i pc
  other : ∀ i x k, touchAt t i = some x → blk x.loc = some k → ¬ O1 k → Knows t 0 i ∨ (k = c ∧ HappensBefore t i pc)
  deaf0 : Deaf t 0 = 0
  deaf1 : ∀ j, 0 < j → Deaf t j = 0
  close : t.act? pc = some (.close c)
  heard : t.heard pc

theorem TC.app0 {c : Nat} {O0 O1 : Own} {t : Trace} {w w' : World} {pc : Nat} {es : Array Event} {fn : FuncId} {pos : String} (h : TC c O1 t w pc) (hcx : c < w.heap.size) (h0c : ¬ O0 c) (hg : Guar O0 w w' es) (hd : ∀ k, O0 k → ¬ O1 k) (hb0 : ∀ k, O0 k → k < w.heap.size) (hb : ∀ k, O1 k → k < w.heap.size) :
    TC c O1 (t ++ MemOp.ofEvents 0 fn pos es) w' pc := by
  have hu : ∀ op ∈ MemOp.ofEvents 0 fn pos es, op.g = 0 := fun op hop => by obtain ⟨e, _, rfl⟩ := Conc.mem_ofEvents hop; rfl
  have hsz := hg.size
  have ht : ∀ op ∈ MemOp.ofEvents 0 fn pos es, ∀ x, op.act.touch? = some x → ∀ k, blk x.loc = some k → k ≠ c ∧ ¬ O1 k := by
    intro op hop x hx k hk
    obtain ⟨_, ho | ho⟩ := evs_touch hg.evs hop hx hk
    · exact ⟨fun e => h0c (e ▸ ho), hd k ho⟩
    · exact ⟨by omega, fun h1 => by have := hb k h1; omega⟩
  have cases_ : ∀ i x, touchAt (t ++ MemOp.ofEvents 0 fn pos es) i = some x → touchAt t i = some x ∨ ∃ op, op ∈ MemOp.ofEvents 0 fn pos es ∧ op.act.touch? = some x ∧ (t ++ MemOp.ofEvents 0 fn pos es)[i]? = some op := by
    intro i x hx
    obtain ⟨op, ho, hox⟩ := touch_of hx
    rcases getElem?_append_cases ho with ⟨_, ho'⟩ | ⟨_, hm⟩
    · exact .inl (by rw [touchAt_of ho']; exact hox)
    · exact .inr ⟨op, hm, hox, ho⟩
  have hpc : pc < t.size := lt_of_act? h.close
  refine ⟨fun said => noRace_append (g := 0) (h.clean said) hu ?_, ?_, ?_, ?_, ?_, ?_, ?_⟩
  · intro i a ha op hop b hb' hc
    obtain ⟨k, hk⟩ := blk_mem (hc.1 ▸ hc.2.1 : b.loc.isMemory = true)
    have hk' : blk a.loc = some k := by rw [hc.1]; exact hk
    rcases h.other i a k ha hk' (ht op hop b hb' k hk).2 with h1 | ⟨h1, _⟩
    · exact h1
    · exact absurd h1 (ht op hop b hb' k hk).1
  · intro i x k hx hk ho
    rcases cases_ i x hx with h1 | ⟨op, hm, hox, _⟩
    · exact hb_app _ (h.before i x k h1 hk ho)
    · exact absurd ho (ht op hm x hox k hk).2
  · intro i x k hx hk ho
    rcases cases_ i x hx with h1 | ⟨op, hm, hox, hop⟩
    · exact (h.other i x k h1 hk ho).imp (fun h2 => h2.app _) (fun h2 => ⟨h2.1, hb_app _ h2.2⟩)
    · have := knows_own hop
      rw [hu op hm] at this
      exact .inl this
  · rw [Deaf_own, evs_deaf hg.evs]; exact h.deaf0
  · intro j hj; rw [Deaf_other t (g' := 0) (by omega) _ hu]; exact h.deaf1 j hj
  · rw [act?_old hpc]; exact h.close
  · exact (heard_old hpc).2 h.heard

/-- The child's last word: the close. -/
theorem TI.close {O1 : Own} {t : Trace} {w w' : World} {es : Array Event} {fn : FuncId} {pos : String} {c : Nat} (h : TI c O1 t w) (hes : ∀ e ∈ es, EvO O1 w w e) (hb : ∀ k, O1 k → k < w.heap.size) (hcx : c < w.heap.size) (h1c : ¬ O1 c) :
    ∃ pc, TC c O1 (t ++ MemOp.ofEvents 1 fn pos ((es.push ⟨.obj c, false, true⟩).push ⟨.obj c, true, true⟩)) w' pc := by
  have h1 : TI c O1 (t ++ MemOp.ofEvents 1 fn pos es) w := by
    have := h.own1 hcx h1c (fn := fn) (pos := pos) (w' := w) ⟨Nat.le_refl _, fun _ _ _ => rfl, rfl, rfl, hes⟩ hb
    rwa [grow_same rfl] at this
  rw [ofEvents_push, ofEvents_push, ← Array.push_append, ← Array.push_append]
  generalize t ++ MemOp.ofEvents 1 fn pos es = u at h1 ⊢
  let x1 : MemOp := { g := 1, fn := fn, pos := pos, act := .access ⟨.obj c, false, true⟩ }
  let x2 : MemOp := { g := 1, fn := fn, pos := pos, act := .close c }
  have e : (u.push { g := 1, fn := fn, pos := pos, act := .ofEvent ⟨.obj c, false, true⟩ }).push { g := 1, fn := fn, pos := pos, act := .ofEvent ⟨.obj c, true, true⟩ } = u ++ #[x1, x2] := by
    apply Array.toList_inj.1
    simp [MemAct.ofEvent, x1, x2]
  have e2 : u ++ #[x1, x2] = (u ++ #[x1]) ++ #[x2] := by
    apply Array.toList_inj.1
    simp
  rw [e]
  have hu : ∀ op ∈ #[x1, x2], op.g = 1 := fun op hop => by simp at hop; rcases hop with rfl | rfl <;> rfl
  have g1 : (u ++ #[x1, x2])[u.size]? = some x1 := by rw [Array.getElem?_append_right (Nat.le_refl _)]; simp
  have g2 : (u ++ #[x1, x2])[u.size + 1]? = some x2 := by rw [Array.getElem?_append_right (by omega)]; simp
  have g1' : (u ++ #[x1])[u.size]? = some x1 := by rw [Array.getElem?_append_right (Nat.le_refl _)]; simp
  have hps : (u ++ #[x1]).size = u.size + 1 := by simp
  have newb : ∀ i, Knows (u ++ #[x1]) 1 i → HappensBefore (u ++ #[x1, x2]) i (u.size + 1) := fun i hk => by
    rw [e2]
    have hl : ((u ++ #[x1]) ++ #[x2])[u.size + 1]? = some x2 := by rw [← e2]; exact g2
    rw [← hps] at hl ⊢
    exact hk.hb_new (Nat.le_refl _) hl rfl
  have touches : ∀ i x, touchAt (u ++ #[x1, x2]) i = some x → touchAt u i = some x ∨ (i = u.size ∧ x.loc = .obj c) := fun i x hx => by
    obtain ⟨op, hop, hox⟩ := touch_of hx
    rcases getElem?_append_cases hop with ⟨_, hop'⟩ | ⟨hle, hm⟩
    · exact .inl (by rw [touchAt_of hop']; exact hox)
    · right
      have hlt := (Array.getElem?_eq_some_iff.1 hop).1
      simp at hlt
      rcases Nat.lt_or_ge u.size i with h2 | h2
      · have : i = u.size + 1 := by omega
        subst this
        rw [g2] at hop; cases hop; cases hox
      · have : i = u.size := Nat.le_antisymm h2 hle
        subst this
        rw [g1] at hop; cases hop
        cases hox
        exact ⟨rfl, rfl⟩
  have dz : ∀ g, Deaf (u ++ #[x1, x2]) g = Deaf u g := fun g => by
    have : (#[x1, x2] : Array MemOp) = [x1, x2].toArray := rfl
    rw [this, Deaf_append]
    rfl
  refine ⟨u.size + 1, fun said => noRace_append (g := 1) (h1.clean said) hu ?_, ?_, ?_, by rw [dz]; exact h1.deaf0, fun j hj => by rw [dz]; exact h1.deaf1 j hj, by rw [act?_of g2], ?_⟩
  · intro i a ha op hop b hb' hc
    simp at hop
    rcases hop with rfl | rfl
    · cases hb'
      have hk : blk a.loc = some c := by rw [hc.1]; rfl
      rcases h1.low i a c ha hk with ⟨_, hn⟩ | ⟨_, k1⟩
      · exact absurd rfl hn
      · exact k1
    · cases hb'
  · intro i x k hx hk ho
    rcases touches i x hx with h2 | ⟨_, h2⟩
    · exact newb i ((h1.mine i x k h2 hk ho).app _)
    · rw [h2] at hk; cases hk; exact absurd ho h1c
  · intro i x k hx hk ho
    rcases touches i x hx with h2 | ⟨rfl, h2⟩
    · exact .inl ((h1.other i x k h2 hk ho).app _)
    · rw [h2] at hk; cases hk
      exact .inr ⟨rfl, newb _ (knows_own g1')⟩
  · refine ⟨1, by simp [Trace.g?, g2, x2], ?_⟩
    have : Deaf (u ++ #[x1, x2]) 1 = 0 := by rw [dz]; exact h1.deaf1 1 (by omega)
    rw [e2, ← hps, deaf_old (Nat.le_refl _)]
    have h3 : Deaf (u ++ #[x1]) 1 = Deaf u 1 := by
      have : (#[x1] : Array MemOp) = [x1].toArray := rfl
      rw [this, Deaf_append]
      rfl
    show Deaf (u ++ #[x1]) 1 = 0
    rw [h3]; exact h1.deaf1 1 (by omega)

/-- Goroutine 0 finds it closed: it knows all. -/
theorem TC.seen {c : Nat} {O1 : Own} {t : Trace} {w : World} {pc : Nat} {fn : FuncId} {pos : String} (h : TC c O1 t w pc) : PastE (t ++ #[{ g := 0, fn := fn, pos := pos, act := .recvClosed c }]) ∧ ∀ j, 0 < j → Deaf (t ++ #[({ g := 0, fn := fn, pos := pos, act := .recvClosed c } : MemOp)]) j = 0 := by
  have hlast : (t ++ #[({ g := 0, fn := fn, pos := pos, act := .recvClosed c } : MemOp)])[t.size]? = some { g := 0, fn := fn, pos := pos, act := .recvClosed c } := by
    rw [Array.getElem?_append_right (Nat.le_refl _)]; simp
  have hpc : pc < t.size := lt_of_act? h.close
  have hheard : (t ++ #[({ g := 0, fn := fn, pos := pos, act := .recvClosed c } : MemOp)]).heard t.size := ⟨0, by simp [Trace.g?, hlast], by rw [deaf_old (Nat.le_refl _)]; exact h.deaf0⟩
  have hedge : HappensBefore (t ++ #[({ g := 0, fn := fn, pos := pos, act := .recvClosed c } : MemOp)]) pc t.size :=
    .single (.inr ⟨.closed (c := c) (by rw [act?_old hpc]; exact h.close) (by rw [act?_of hlast]), (heard_old hpc).2 h.heard, hheard⟩)
  have hu : ∀ op ∈ (#[({ g := 0, fn := fn, pos := pos, act := .recvClosed c } : MemOp)] : Array MemOp), op.g = 0 := fun op hop => by simp at hop; subst hop; rfl
  have hkn : ∀ i x, touchAt (t ++ #[({ g := 0, fn := fn, pos := pos, act := .recvClosed c } : MemOp)]) i = some x → x.loc.isMemory = true → Knows (t ++ #[({ g := 0, fn := fn, pos := pos, act := .recvClosed c } : MemOp)]) 0 i := by
    intro i x hx hm
    obtain ⟨k, hk⟩ := blk_mem hm
    obtain ⟨op, hop, hox⟩ := touch_of hx
    rcases getElem?_append_cases hop with ⟨_, hop'⟩ | ⟨_, hmm⟩
    · have hx' : touchAt t i = some x := by rw [touchAt_of hop']; exact hox
      by_cases ho : O1 k
      · exact ⟨t.size, _, hlast, rfl, .inr ((hb_app _ (h.before i x k hx' hk ho)).trans hedge)⟩
      · rcases h.other i x k hx' hk ho with h2 | ⟨_, h2⟩
        · exact h2.app _
        · exact ⟨t.size, _, hlast, rfl, .inr ((hb_app _ h2).trans hedge)⟩
    · simp at hmm; subst hmm; cases hox
  have hdeaf : ∀ g, Deaf (t ++ #[({ g := 0, fn := fn, pos := pos, act := .recvClosed c } : MemOp)]) g = Deaf t g := by
    intro g
    have : (#[({ g := 0, fn := fn, pos := pos, act := .recvClosed c } : MemOp)] : Array MemOp) = [({ g := 0, fn := fn, pos := pos, act := .recvClosed c } : MemOp)].toArray := rfl
    rw [this, Deaf_append]
    rfl
  obtain ⟨B, hB⟩ := low_ops (t ++ #[({ g := 0, fn := fn, pos := pos, act := .recvClosed c } : MemOp)])
  refine ⟨⟨B, fun said => noRace_append (g := 0) (h.clean said) hu (fun i a _ op hop b hb _ => by simp at hop; subst hop; cases hb), fun i x hx hm => .inl (hkn i x hx hm), ?_, by rw [hdeaf]; exact h.deaf0, hB⟩, fun j hj => by rw [hdeaf]; exact h.deaf1 j hj⟩
  intro i g hg hne hc
  obtain ⟨x, hx, hm⟩ := hc
  obtain ⟨q, z, hq, hz, hbef⟩ := hkn i x hx hm.1
  refine ⟨q, by unfold Trace.g?; rw [hq]; simp [hz], ?_⟩
  rcases hbef with rfl | hbef
  · exfalso
    have : (some z.g : Option Nat) = some g := by
      rw [← hg]; unfold Trace.g?; rw [hq]; rfl
    cases this
    exact hne hz
  · exact hbef
end Go.Lift

namespace Go.Lift
open Go.Conc
variable {P : Program}

/-- What lies where while two are at work: O0 goroutine 0's, O1 the child's; what lay there before is as it was but for the channel c. -/
structure Env (c base : Nat) (W0 : World) (O0 O1 : Own) (w : World) : Prop where
  dis : ∀ k, O0 k → ¬ O1 k
  b0 : ∀ k, O0 k → base ≤ k ∧ k < w.heap.size
  b1 : ∀ k, O1 k → base ≤ k ∧ k < w.heap.size
  old : ∀ k, k < base → k ≠ c → w.heap[k]? = W0.heap[k]?
  size : base ≤ w.heap.size
  os : w.os = W0.os
  out : w.output = W0.output

section
variable {c base : Nat} {W0 : World} {O0 O1 : Own} {w w' : World} {es : Array Event}

theorem Env.rely1 (h : Env c base W0 O0 O1 w) (g : Guar O0 w w' es) : Rely O1 w w' :=
  ⟨g.size, fun k hk hlt => g.keep k (fun h0 => h.dis k h0 hk) hlt, g.os, g.out⟩
theorem Env.rely0 (h : Env c base W0 O0 O1 w) (g : Guar O1 w w' es) : Rely O0 w w' :=
  ⟨g.size, fun k hk hlt => g.keep k (h.dis k hk) hlt, g.os, g.out⟩
theorem Env.step0 (h : Env c base W0 O0 O1 w) (g : Guar O0 w w' es) : Env c base W0 (Grow O0 w w') O1 w' := by
  have hsz := g.size
  refine ⟨fun k hk h1 => ?_, fun k hk => ?_, fun k hk => ?_, fun k hk hc => ?_, Nat.le_trans h.size hsz, g.os.trans h.os, g.out.trans h.out⟩
  · rcases hk with hk | hk
    · exact h.dis k hk h1
    · have := (h.b1 k h1).2; omega
  · rcases hk with hk | hk
    · have := h.b0 k hk; omega
    · have := h.size; omega
  · have := h.b1 k hk; omega
  · have hlt := h.size
    rw [g.keep k (fun h0 => by have := (h.b0 k h0).1; omega) (by omega)]
    exact h.old k hk hc
theorem Env.step1 (h : Env c base W0 O0 O1 w) (g : Guar O1 w w' es) : Env c base W0 O0 (Grow O1 w w') w' := by
  have hsz := g.size
  refine ⟨fun k hk h1 => ?_, fun k hk => ?_, fun k hk => ?_, fun k hk hc => ?_, Nat.le_trans h.size hsz, g.os.trans h.os, g.out.trans h.out⟩
  · rcases h1 with h1 | h1
    · exact h.dis k hk h1
    · have := (h.b0 k hk).2; omega
  · have := h.b0 k hk; omega
  · rcases hk with hk | hk
    · have := h.b1 k hk; omega
    · have := h.size; omega
  · have hlt := h.size
    rw [g.keep k (fun h0 => by have := (h.b1 k h0).1; omega) (by omega)]
    exact h.old k hk hc
theorem Env.at (h : Env c base W0 O0 O1 w) (d : Nat) : Env c base W0 O0 O1 (w.at d) := ⟨h.dis, h.b0, h.b1, h.old, h.size, h.os, h.out⟩
theorem Env.put (h : Env c base W0 O0 O1 w) (o : Obj) : Env c base W0 O0 O1 { w with heap := w.heap.setIfInBounds c o } :=
  ⟨h.dis, fun k hk => by simpa using h.b0 k hk, fun k hk => by simpa using h.b1 k hk, fun k hk hc => by simpa [Array.getElem?_setIfInBounds_ne (Ne.symm hc)] using h.old k hk hc, by simpa using h.size, h.os, h.out⟩
theorem rely_at (O : Own) (w : World) (d : Nat) : Rely O w (w.at d) := ⟨Nat.le_refl _, fun _ _ _ => rfl, rfl, rfl⟩
theorem rely_put {O : Own} (hc : ¬ O c) (w : World) (o : Obj) : Rely O w { w with heap := w.heap.setIfInBounds c o } :=
  ⟨by simp, fun k hk _ => by
    have : c ≠ k := fun e => hc (e ▸ hk)
    simp [Array.getElem?_setIfInBounds_ne this], rfl, rfl⟩
theorem Env.no0 (h : Env c base W0 O0 O1 w) (hc : c < base) : ¬ O0 c := fun h0 => by have := (h.b0 c h0).1; omega
theorem Env.no1 (h : Env c base W0 O0 O1 w) (hc : c < base) : ¬ O1 c := fun h0 => by have := (h.b1 c h0).1; omega
end

section
variable (P : Program) (c q : Nat) (z : Value)

def AtRecv (Next : Own → Goroutine → World → Prop) (O : Own) (g : Goroutine) (w : World) : Prop :=
  g.status = .running ∧ ∃ es, stepG P true g w = .comm (core g) #[rcase c z] true (.recv true) w es ∧ (∀ e ∈ es, EvO O w w e) ∧ ∀ w₂, Rely O w w₂ → Next O (core g) w₂

/-- The child stands at its select of a send and a receive. -/
def AtSel (v : Value) (Next : Own → Goroutine → World → Prop) (O : Own) (g : Goroutine) (w : World) : Prop :=
  g.status = .running ∧ ∃ g₂ z' zq es, stepG P false g w = .comm g₂ #[scase c v z', rcase q zq] true .select w es ∧ (∀ e ∈ es, EvO O w w e) ∧ ∀ w₂, Rely O w w₂ → Next O (Conc.served g₂ (selRes zq)) w₂

def AtShut (O : Own) (g : Goroutine) (w : World) : Prop :=
  g.status = .running ∧ mayWake P g = true ∧ ∀ s r tm, w.heap[c]? = some (.chan 0 #[] false s r tm) → ∃ (g₂ : Goroutine) (es : Array Event) (n : Nat), stepG P false g w = .go g₂ (w.shut c s r tm) ((es.push ⟨.obj c, false, true⟩).push ⟨.obj c, true, true⟩) ∧
    (∀ e ∈ es, EvO O w w e) ∧ QuitsIn P n g₂

def SendsO : List Value → Own → Goroutine → World → Prop
  | [], O, g, w => FinO P false (AtShut P c) O g w
  | v :: vs, O, g, w => FinO P false (AtSel P c q v (SendsO vs)) O g w

def StopBO : List Value → Own → Goroutine → World → Prop
  | [] => AtShut P c
  | v :: vs => AtSel P c q v (SendsO P c q vs)
theorem sendsO_iff (vs : List Value) (O : Own) (g : Goroutine) (w : World) : SendsO P c q vs O g w ↔ FinO P false (StopBO P c q vs) O g w := by cases vs <;> exact Iff.rfl

def RecvsO (Fi : Own → Goroutine → World → Prop) : List Value → Own → Goroutine → World → Prop
  | [], O, g, w => FinO P true (AtRecv P c z fun O g₂ w₂ => Fi O (Conc.served g₂ (.tuple #[z, .bool false])) w₂) O g w
  | v :: vs, O, g, w => FinO P true (AtRecv P c z fun O g₂ w₂ => RecvsO Fi vs O (Conc.served g₂ (.tuple #[v, .bool true])) w₂) O g w

def StopAO (Fi : Own → Goroutine → World → Prop) : List Value → Own → Goroutine → World → Prop
  | [] => AtRecv P c z fun O g₂ w₂ => Fi O (Conc.served g₂ (.tuple #[z, .bool false])) w₂
  | v :: vs => AtRecv P c z fun O g₂ w₂ => RecvsO P c z Fi vs O (Conc.served g₂ (.tuple #[v, .bool true])) w₂
theorem recvsO_iff (Fi : Own → Goroutine → World → Prop) (vs : List Value) (O : Own) (g : Goroutine) (w : World) : RecvsO P c z Fi vs O g w ↔ FinO P true (StopAO P c z Fi vs) O g w := by cases vs <;> exact Iff.rfl

/-- The machine of two comes to where goroutine 0 has found the channel closed; the child only leaves. -/
def Reach (base : Nat) (W0 : World) (Fi : Own → Goroutine → World → Prop) (m : Machine) (t : Trace) : Prop :=
  ∃ N a b w sl t' O0 O1 k s r tm, runNT P N m t = (.next (duo a b w sl), t') ∧ Fi O0 a w ∧ Env c base W0 O0 O1 w ∧ QuitsIn P k b ∧ PastE t' ∧ (∀ j, 0 < j → Deaf t' j = 0) ∧ w.heap[c]? = some (.chan 0 #[] true s r tm)
end

section
variable {c q base : Nat} {z : Value} {W0 : World} {Fi : Own → Goroutine → World → Prop}

theorem Reach.step {m m' : Machine} {ops : Array MemOp} {t : Trace} (h : stepT P m = (.next m', ops)) (k : Reach P c base W0 Fi m' (t ++ ops)) : Reach P c base W0 Fi m t := by
  obtain ⟨N, a, b, w, sl, t', O0, O1, k', s, r, tm, h1, rest⟩ := k
  exact ⟨N + 1, a, b, w, sl, t', O0, O1, k', s, r, tm, by simp only [runNT, h]; exact h1, rest⟩

theorem StopAO.running {vs : List Value} {O : Own} {g : Goroutine} {w : World} (h : StopAO P c z Fi vs O g w) : g.status = .running := by cases vs <;> exact h.1
theorem StopBO.running {vs : List Value} {O : Own} {g : Goroutine} {w : World} (h : StopBO P c q vs O g w) : g.status = .running := by cases vs <;> exact h.1
theorem FinO.running {main : Bool} {Stop : Own → Goroutine → World → Prop} (hS : ∀ O g w, Stop O g w → g.status = .running) {O : Own} {g : Goroutine} {w : World} (h : FinO P main Stop O g w) : g.status = .running := by
  cases h with
  | stop h => exact hS _ _ _ (h w (Rely.refl _ _))
  | step hr => exact hr
theorem StopAO.comm {vs : List Value} {O : Own} {g : Goroutine} {w : World} (h : StopAO P c z Fi vs O g w) : ∃ es, stepG P true g w = .comm (core g) #[rcase c z] true (.recv true) w es ∧ ∀ e ∈ es, EvO O w w e := by
  cases vs <;> exact let ⟨_, es, h1, h2, _⟩ := h; ⟨es, h1, h2⟩
theorem StopAO.again {vs : List Value} {O : Own} {g : Goroutine} {w : World} (h : StopAO P c z Fi vs O g w) : StopAO P c z Fi vs O { parked (core g) #[rcase c z] (.recv true) with status := .running } w := by
  have e : stepG P true { parked (core g) #[rcase c z] (.recv true) with status := .running } w = stepG P true g w := stepG_same rfl rfl rfl w
  cases vs <;> exact let ⟨_, es, h1, h2, h3⟩ := h; ⟨rfl, es, by rw [e]; exact h1, h2, h3⟩

theorem commOps_mute {l : List MemOp} (h : ∀ op ∈ l, (op.g = 0 ∨ op.g = 1) ∧ op.act.touch? = none ∧ ∀ m, op.act ≠ .mark m) : ∀ op ∈ l, Mute op := h

/-- Closed, and goroutine 0 has not seen it yet. -/
theorem pipe_shut (hcb : c < base) {O0 : Own} {a : Goroutine} {wa : World} (hA : FinO P true (StopAO P c z Fi []) O0 a wa) :
    ∀ (k : Nat) (b : Goroutine) (w : World) (sl : Option (Nat × Nat)) (t : Trace) (O1 : Own) (pc s r : Nat) (tm : Bool), Rely O0 wa w → Env c base W0 O0 O1 w → w.heap[c]? = some (.chan 0 #[] true s r tm) → QuitsIn P k b → TC c O1 t w pc →
      Reach P c base W0 Fi (duo a b w sl) t := by
  have quits : ∀ {a b : Goroutine} {w : World} {sl : Option (Nat × Nat)} {t : Trace} {k : Nat}, a.status = .running → QuitsIn P (k + 1) b → b.status = .running → ∀ d sl',
      stepT P (duo a b w sl) = runT P (duo a b (w.at d) sl') 1 → (∀ b', QuitsIn P k b' → Reach P c base W0 Fi (duo a b' (w.at d) sl') t) → Reach P c base W0 Fi (duo a b w sl) t := by
    intro a b w sl t k ha hQ hb d sl' hst hnext
    rcases hQ with hf | ⟨_, b', hw, hq⟩
    · rw [hf] at hb; cases hb
    · refine Reach.step (hst.trans (runT_duo1 (hw _))) ?_
      rw [woken_running ha, ofEvents_none, Array.append_empty]
      exact hnext b' hq
  induction hA with
  | @stop O0 a wa h =>
    intro k
    have hra : a.status = .running := (h wa (Rely.refl _ _)).running
    have recv : ∀ (b : Goroutine) (w : World) (sl sl' : Option (Nat × Nat)) (t : Trace) (O1 : Own) (pc s r : Nat) (tm : Bool) (k d : Nat), Rely O0 wa w → Env c base W0 O0 O1 w → w.heap[c]? = some (.chan 0 #[] true s r tm) → QuitsIn P k b → TC c O1 t w pc →
        stepT P (duo a b w sl) = runT P (duo a b (w.at d) sl') 0 → Reach P c base W0 Fi (duo a b w sl) t := by
      intro b w sl sl' t O1 pc s r tm k d hrel hE hc hQ hT hst
      have hat := h (w.at d) (hrel.trans (rely_at _ _ _))
      obtain ⟨_, es, hcomm, hes, hnext⟩ := hat
      have hbs : b.status ≠ .blocked := by rcases hQ.status with h | h <;> rw [h] <;> simp
      have hg : Guar O0 (w.at d) (w.at d) es := ⟨Nat.le_refl _, fun _ _ _ => rfl, rfl, rfl, hes⟩
      have hT2 := (TC.app0 (fn := a.frame.fn) (pos := a.frame.place) (w := w.at d) ⟨hT.clean, hT.before, hT.other, hT.deaf0, hT.deaf1, hT.close, hT.heard⟩ (Nat.lt_of_lt_of_le hcb hE.size) (hE.no0 hcb) hg hE.dis (fun k hk => (hE.b0 k hk).2) (fun k hk => (hE.b1 k hk).2)).seen (fn := (core a).frame.fn) (pos := (core a).frame.place)
      refine ⟨1, _, b, w.at d, sl', t ++ (MemOp.ofEvents 0 a.frame.fn a.frame.place es ++ #[{ g := 0, fn := (core a).frame.fn, pos := (core a).frame.place, act := .recvClosed c }]), O0, O1, k, s, r, tm, ?_, hnext _ (Rely.refl _ _), hE.at d, hQ, ?_, ?_, hc⟩
      · simp only [runNT]
        rw [hst, runT_recv_closed hcomm (by exact hc) hbs]
      · rw [← Array.append_assoc]; exact hT2.1
      · rw [← Array.append_assoc]; exact hT2.2
    induction k with
    | zero =>
      intro b w sl t O1 pc s r tm hrel hE hc hQ hT
      obtain ⟨d, sl', hmv⟩ := duo_pick (P := P) (w := w) (sl := sl) (awake_of (.inl hra)) (awake_of (.inr (.inr hQ))) (.inl hra)
      rcases hmv with ⟨_, hst⟩ | ⟨hrb, _⟩
      · exact recv b w sl sl' t O1 pc s r tm 0 d hrel hE hc hQ hT hst
      · rw [show b.status = .finished from hQ] at hrb; cases hrb
    | succ k ihk =>
      intro b w sl t O1 pc s r tm hrel hE hc hQ hT
      obtain ⟨d, sl', hmv⟩ := duo_pick (P := P) (w := w) (sl := sl) (awake_of (.inl hra)) (awake_of (hQ.status.elim .inl fun h => .inr (.inr h))) (.inl hra)
      rcases hmv with ⟨_, hst⟩ | ⟨hrb, hst⟩
      · exact recv b w sl sl' t O1 pc s r tm (k + 1) d hrel hE hc hQ hT hst
      · exact quits hra hQ hrb d sl' hst fun b' hq => ihk b' (w.at d) sl' t O1 pc s r tm (hrel.trans (rely_at _ _ _)) (hE.at d) hc hq ⟨hT.clean, hT.before, hT.other, hT.deaf0, hT.deaf1, hT.close, hT.heard⟩
  | @step O0 a wa hr nx h hf ih =>
    intro k
    have own : ∀ (b : Goroutine) (w : World) (sl sl' : Option (Nat × Nat)) (t : Trace) (O1 : Own) (pc s r : Nat) (tm : Bool) (k d : Nat), Rely O0 wa w → Env c base W0 O0 O1 w → w.heap[c]? = some (.chan 0 #[] true s r tm) → QuitsIn P k b → TC c O1 t w pc →
        stepT P (duo a b w sl) = runT P (duo a b (w.at d) sl') 0 → Reach P c base W0 Fi (duo a b w sl) t := by
      intro b w sl sl' t O1 pc s r tm k d hrel hE hc hQ hT hst
      have hrel' := hrel.trans (rely_at O0 w d)
      obtain ⟨hgo, hg⟩ := h (w.at d) hrel'
      refine Reach.step (hst.trans (runT_duo0 hgo)) ?_
      rw [woken_quits hQ]
      have hE' := (hE.at d).step0 hg
      refine ih (w.at d) hrel' k b _ sl' _ O1 pc s r tm (Rely.refl _ _) hE' ?_ hQ ?_
      · rw [hg.keep c (hE.no0 hcb) (by have := hE.size; exact Nat.lt_of_lt_of_le hcb this)]
        exact hc
      · exact TC.app0 (w := w.at d) ⟨hT.clean, hT.before, hT.other, hT.deaf0, hT.deaf1, hT.close, hT.heard⟩ (Nat.lt_of_lt_of_le hcb hE.size) (hE.no0 hcb) hg hE.dis (fun k hk => (hE.b0 k hk).2) (fun k hk => (hE.b1 k hk).2)
    induction k with
    | zero =>
      intro b w sl t O1 pc s r tm hrel hE hc hQ hT
      obtain ⟨d, sl', hmv⟩ := duo_pick (P := P) (w := w) (sl := sl) (awake_of (.inl hr)) (awake_of (.inr (.inr hQ))) (.inl hr)
      rcases hmv with ⟨_, hst⟩ | ⟨hrb, _⟩
      · exact own b w sl sl' t O1 pc s r tm 0 d hrel hE hc hQ hT hst
      · rw [show b.status = .finished from hQ] at hrb; cases hrb
    | succ k ihk =>
      intro b w sl t O1 pc s r tm hrel hE hc hQ hT
      obtain ⟨d, sl', hmv⟩ := duo_pick (P := P) (w := w) (sl := sl) (awake_of (.inl hr)) (awake_of (hQ.status.elim .inl fun h => .inr (.inr h))) (.inl hr)
      rcases hmv with ⟨_, hst⟩ | ⟨hrb, hst⟩
      · exact own b w sl sl' t O1 pc s r tm (k + 1) d hrel hE hc hQ hT hst
      · exact quits hr hQ hrb d sl' hst fun b' hq => ihk b' (w.at d) sl' t O1 pc s r tm (hrel.trans (rely_at _ _ _)) (hE.at d) hc hq ⟨hT.clean, hT.before, hT.other, hT.deaf0, hT.deaf1, hT.close, hT.heard⟩
end
end Go.Lift

namespace Go.Lift
open Go.Conc
variable {P : Program}

section
variable {c q base sq rq : Nat} {tq : Bool} {z : Value} {W0 : World} {Fi : Own → Goroutine → World → Prop}

theorem again_parked2 {g : Goroutine} {v z' zq : Value} {w : World} {s r : Nat} {tm : Bool} (hc : w.heap[c]? = some (.chan 0 #[] false s r tm)) (hq : w.heap[q]? = some (.chan 0 #[] false sq rq tq)) :
    (parked g #[scase c v z', rcase q zq] .select).again w = parked g #[scase c v z', rcase q zq] .select := by
  simp [Goroutine.again, parked, scase, rcase, hc, hq]

theorem woken_parked1 {g g' x : Goroutine} {w' : World} {s r : Nat} {tm : Bool} (hc : w'.heap[c]? = some (.chan 0 #[] false s r tm)) : woken P g g' w' (parked x #[rcase c z] (.recv true)) = parked x #[rcase c z] (.recv true) := by
  unfold woken
  split
  · exact again_parked_open rfl hc
  · rfl
theorem woken_parked2 {g g' x : Goroutine} {v z' zq : Value} {w' : World} {s r : Nat} {tm : Bool} (hc : w'.heap[c]? = some (.chan 0 #[] false s r tm)) (hq : w'.heap[q]? = some (.chan 0 #[] false sq rq tq)) :
    woken P g g' w' (parked x #[scase c v z', rcase q zq] .select) = parked x #[scase c v z', rcase q zq] .select := by
  unfold woken
  split
  · exact again_parked2 hc hq
  · rfl

theorem TI.at {c : Nat} {O1 : Own} {t : Trace} {w : World} (h : TI c O1 t w) (d : Nat) : TI c O1 t (w.at d) := ⟨h.clean, h.mine, h.other, h.low, h.deaf0, h.deaf1⟩

theorem evs_guar {O : Own} {w : World} {es : Array Event} (h : ∀ e ∈ es, EvO O w w e) : Guar O w w es := ⟨Nat.le_refl _, fun _ _ _ => rfl, rfl, rfl, h⟩

/-- The four words of a meeting. -/
theorem TI.meet {c : Nat} {O1 : Own} {t : Trace} {w w' : World} (h : TI c O1 t w) (hsz : w'.heap.size = w.heap.size) (f0 f1 : FuncId) (p0 p1 : String) (s r : Nat) :
    TI c O1 (t ++ #[({ g := 1, fn := f1, pos := p1, act := .send c s } : MemOp), { g := 0, fn := f0, pos := p0, act := .recv c r 0 }, { g := 1, fn := f1, pos := p1, act := .sendDone c s }, { g := 0, fn := f0, pos := p0, act := .recvDone c r }]) w' := by
  have := h.mute hsz [({ g := 1, fn := f1, pos := p1, act := .send c s } : MemOp), { g := 0, fn := f0, pos := p0, act := .recv c r 0 }, { g := 1, fn := f1, pos := p1, act := .sendDone c s }, { g := 0, fn := f0, pos := p0, act := .recvDone c r }]
    (fun op hop => by
      simp at hop
      rcases hop with rfl | rfl | rfl | rfl
      · exact ⟨.inr rfl, rfl, fun m hm => by cases hm⟩
      · exact ⟨.inl rfl, rfl, fun m hm => by cases hm⟩
      · exact ⟨.inr rfl, rfl, fun m hm => by cases hm⟩
      · exact ⟨.inl rfl, rfl, fun m hm => by cases hm⟩)
  simpa using this

/-- What is asked of the rest. -/
def Claim (P : Program) (c q base : Nat) (z : Value) (W0 : World) (Fi : Own → Goroutine → World → Prop) (vs : List Value) : Prop :=
  ∀ (O0 O1 : Own) (a b : Goroutine) (w : World) (sl : Option (Nat × Nat)) (t : Trace) (s r : Nat) (tm : Bool), RecvsO P c z Fi vs O0 a w → SendsO P c q vs O1 b w → Env c base W0 O0 O1 w →
    w.heap[c]? = some (.chan 0 #[] false s r tm) → TI c O1 t w → Reach P c base W0 Fi (duo a b w sl) t

variable (hcb : c < base) (hqb : q < base) (hcq : q ≠ c) (hq0 : W0.heap[q]? = some (.chan 0 #[] false sq rq tq))
include hcb hqb hcq hq0

theorem env_q {O0 O1 : Own} {w : World} (h : Env c base W0 O0 O1 w) : w.heap[q]? = some (.chan 0 #[] false sq rq tq) := (h.old q hqb hcq).trans hq0

/-- Goroutine 0 waits. -/
theorem pipe_parkA {vs : List Value} (IH : ∀ v vs', vs = v :: vs' → Claim P c q base z W0 Fi vs') {O1 : Own} {b : Goroutine} {wb : World} (hB : FinO P false (StopBO P c q vs) O1 b wb) :
    ∀ (O0 : Own) (g : Goroutine) (w : World) (sl : Option (Nat × Nat)) (t : Trace) (s r : Nat) (tm : Bool), (∀ w₁, Rely O0 w w₁ → StopAO P c z Fi vs O0 g w₁) → Rely O1 wb w → Env c base W0 O0 O1 w →
      w.heap[c]? = some (.chan 0 #[] false s r tm) → TI c O1 t w → Reach P c base W0 Fi (duo (parked (core g) #[rcase c z] (.recv true)) b w sl) t := by
  have hrb := hB.running (fun _ _ _ => StopBO.running)
  induction hB with
  | @stop O1 b wb h =>
    intro O0 g w sl t s r tm hPA hrel hE hc hT
    obtain ⟨d, sl', hmv⟩ := duo_pick (P := P) (a := parked (core g) #[rcase c z] (.recv true)) (w := w) (sl := sl) (awake_of (.inr (.inl rfl))) (awake_of (.inl hrb)) (.inr hrb)
    rcases hmv with ⟨hra, _⟩ | ⟨_, hst⟩
    · cases hra
    have hat := h (w.at d) (hrel.trans (rely_at _ _ _))
    have hE1 := hE.at d
    have hc1 : (w.at d).heap[c]? = some (.chan 0 #[] false s r tm) := hc
    cases vs with
    | nil =>
      obtain ⟨_, hwake, hshut⟩ := hat
      obtain ⟨g₂, es, nq, hgo, hes, hqt⟩ := hshut s r tm hc1
      have hc2 : ((w.at d).shut c s r tm).heap[c]? = some (.chan 0 #[] true s r tm) := heap_put hc1
      have hwk : woken P b g₂ ((w.at d).shut c s r tm) (parked (core g) #[rcase c z] (.recv true)) = { parked (core g) #[rcase c z] (.recv true) with status := .running } := by
        unfold woken
        have : (mayWake P b && g₂.status != .blocked && g₂.status != .waiting) = true := by rcases hqt.status with h | h <;> simp [hwake, h]
        rw [if_pos this]
        exact again_parked_shut rfl hc2
      refine Reach.step (hst.trans (runT_duo1 hgo)) ?_
      rw [hwk]
      have hE2 : Env c base W0 O0 O1 ((w.at d).shut c s r tm) := hE1.put _
      obtain ⟨pc, hTC⟩ := (hT.at d).close (w' := (w.at d).shut c s r tm) (fn := b.frame.fn) (pos := b.frame.place) hes (fun k hk => (hE.b1 k hk).2) (Nat.lt_of_lt_of_le hcb hE.size) (hE.no1 hcb)
      refine pipe_shut hcb (wa := (w.at d).shut c s r tm) (.stop fun w₁ h₁ => (hPA w₁ (((rely_at O0 w d).trans (rely_put (hE.no0 hcb) _ _)).trans h₁)).again) nq g₂ _ sl' _ O1 _ s r tm (Rely.refl _ _) hE2 hc2 hqt
        hTC
    | cons v vs' =>
      obtain ⟨_, g₂, z', zq, es, hcomm, hes, hnext⟩ := hat
      have hq1 := env_q hcb hqb hcq hq0 hE1
      refine Reach.step (hst.trans (runT_sel_meets hcomm hc1 hq1 rfl)) ?_
      have hp : Rely O0 (w.at d) ((w.at d).passed c s r tm) := rely_put (hE.no0 hcb) _ _
      have hp1 : Rely O1 (w.at d) ((w.at d).passed c s r tm) := rely_put (hE.no1 hcb) _ _
      have hA := hPA (w.at d) (rely_at _ _ _)
      obtain ⟨_, _, _, _, hA3⟩ := hA
      refine IH v vs' rfl O0 O1 _ _ _ sl' _ (s + 1) (r + 1) tm (hA3 _ hp) (hnext _ hp1) (hE1.put _) (heap_put hc1) ?_
      rw [← Array.append_assoc]
      have h1 := (hT.at d).own1 (Nat.lt_of_lt_of_le hcb hE.size) (hE.no1 hcb) (fn := b.frame.fn) (pos := b.frame.place) (evs_guar hes) (fun k hk => (hE.b1 k hk).2)
      rw [grow_same rfl] at h1
      exact h1.meet (by simp [World.passed]) _ _ _ _ _ _
  | @step O1 b wb hr nx h hf ih =>
    intro O0 g w sl t s r tm hPA hrel hE hc hT
    obtain ⟨d, sl', hmv⟩ := duo_pick (P := P) (a := parked (core g) #[rcase c z] (.recv true)) (w := w) (sl := sl) (awake_of (.inr (.inl rfl))) (awake_of (.inl hr)) (.inr hr)
    rcases hmv with ⟨hra, _⟩ | ⟨_, hst⟩
    · cases hra
    have hrel' := hrel.trans (rely_at O1 w d)
    obtain ⟨hgo, hg⟩ := h (w.at d) hrel'
    have hE1 := hE.at d
    have hc' : (nx (w.at d)).2.1.heap[c]? = some (.chan 0 #[] false s r tm) := by
      rw [hg.keep c (hE.no1 hcb) (by have := hE.size; exact Nat.lt_of_lt_of_le hcb this)]; exact hc
    refine Reach.step (hst.trans (runT_duo1 hgo)) ?_
    rw [woken_parked1 hc']
    exact ih (w.at d) hrel' ((hf (w.at d) hrel').running (fun _ _ _ => StopBO.running)) O0 g _ sl' _ s r tm (fun w₁ h₁ => hPA w₁ (((rely_at O0 w d).trans (hE1.rely0 hg)).trans h₁)) (Rely.refl _ _) (hE1.step1 hg) hc' ((hT.at d).own1 (Nat.lt_of_lt_of_le hcb hE.size) (hE.no1 hcb) hg (fun k hk => (hE.b1 k hk).2))

/-- The child waits. -/
theorem pipe_parkB {v : Value} {vs' : List Value} (IH : Claim P c q base z W0 Fi vs') {O0 : Own} {a : Goroutine} {wa : World} (hA : FinO P true (StopAO P c z Fi (v :: vs')) O0 a wa) :
    ∀ (O1 : Own) (g₂ : Goroutine) (z' zq : Value) (w : World) (sl : Option (Nat × Nat)) (t : Trace) (s r : Nat) (tm : Bool), (∀ w₁, Rely O1 w w₁ → SendsO P c q vs' O1 (Conc.served g₂ (selRes zq)) w₁) → Rely O0 wa w → Env c base W0 O0 O1 w →
      w.heap[c]? = some (.chan 0 #[] false s r tm) → TI c O1 t w → Reach P c base W0 Fi (duo a (parked g₂ #[scase c v z', rcase q zq] .select) w sl) t := by
  have hra := hA.running (fun _ _ _ => StopAO.running)
  induction hA with
  | @stop O0 a wa h =>
    intro O1 g₂ z' zq w sl t s r tm hPB hrel hE hc hT
    obtain ⟨d, sl', hmv⟩ := duo_pick (P := P) (b := parked g₂ #[scase c v z', rcase q zq] .select) (w := w) (sl := sl) (awake_of (.inl hra)) (awake_of (.inr (.inl rfl))) (.inl hra)
    rcases hmv with ⟨_, hst⟩ | ⟨hrb, _⟩
    rotate_left
    · cases hrb
    obtain ⟨_, es, hcomm, hes, hnext⟩ := h (w.at d) (hrel.trans (rely_at _ _ _))
    have hE1 := hE.at d
    have hc1 : (w.at d).heap[c]? = some (.chan 0 #[] false s r tm) := hc
    refine Reach.step (hst.trans (runT_recv_meets_sel hcomm hc1 rfl)) ?_
    have hp : Rely O0 (w.at d) ((w.at d).passed c s r tm) := rely_put (hE.no0 hcb) _ _
    have hp1 : Rely O1 w ((w.at d).passed c s r tm) := (rely_at O1 w d).trans (rely_put (hE.no1 hcb) _ _)
    refine IH O0 O1 _ _ _ sl' _ (s + 1) (r + 1) tm (hnext _ hp) (hPB _ hp1) (hE1.put _) (heap_put hc1) ?_
    rw [← Array.append_assoc]
    have h1 := (hT.at d).own0 (Nat.lt_of_lt_of_le hcb hE.size) (hE.no0 hcb) (fn := a.frame.fn) (pos := a.frame.place) (evs_guar hes) hE.dis (fun k hk => (hE.b0 k hk).2) (fun k hk => (hE.b1 k hk).2)
    exact h1.meet (by simp [World.passed]) _ _ _ _ _ _
  | @step O0 a wa hr nx h hf ih =>
    intro O1 g₂ z' zq w sl t s r tm hPB hrel hE hc hT
    obtain ⟨d, sl', hmv⟩ := duo_pick (P := P) (b := parked g₂ #[scase c v z', rcase q zq] .select) (w := w) (sl := sl) (awake_of (.inl hr)) (awake_of (.inr (.inl rfl))) (.inl hr)
    rcases hmv with ⟨_, hst⟩ | ⟨hrb, _⟩
    rotate_left
    · cases hrb
    have hrel' := hrel.trans (rely_at O0 w d)
    obtain ⟨hgo, hg⟩ := h (w.at d) hrel'
    have hE1 := hE.at d
    have hE2 := hE1.step0 hg
    have hc' : (nx (w.at d)).2.1.heap[c]? = some (.chan 0 #[] false s r tm) := by
      rw [hg.keep c (hE.no0 hcb) (by have := hE.size; exact Nat.lt_of_lt_of_le hcb this)]; exact hc
    refine Reach.step (hst.trans (runT_duo0 hgo)) ?_
    rw [woken_parked2 hc' (env_q hcb hqb hcq hq0 hE2)]
    exact ih (w.at d) hrel' ((hf (w.at d) hrel').running (fun _ _ _ => StopAO.running)) O1 g₂ z' zq _ sl' _ s r tm (fun w₁ h₁ => hPB w₁ (((rely_at O1 w d).trans (hE1.rely1 hg)).trans h₁)) (Rely.refl _ _) hE2 hc'
      ((hT.at d).own0 (Nat.lt_of_lt_of_le hcb hE.size) (hE.no0 hcb) hg hE.dis (fun k hk => (hE.b0 k hk).2) (fun k hk => (hE.b1 k hk).2))

/-- Both are on their way. -/
theorem pipe_both {vs : List Value} (IH : ∀ v vs', vs = v :: vs' → Claim P c q base z W0 Fi vs') {O0 : Own} {a : Goroutine} {wa : World} (hA : FinO P true (StopAO P c z Fi vs) O0 a wa) :
    ∀ {O1 : Own} {b : Goroutine} {wb : World} (_ : FinO P false (StopBO P c q vs) O1 b wb) (w : World) (sl : Option (Nat × Nat)) (t : Trace) (s r : Nat) (tm : Bool), Rely O0 wa w → Rely O1 wb w → Env c base W0 O0 O1 w →
      w.heap[c]? = some (.chan 0 #[] false s r tm) → TI c O1 t w → Reach P c base W0 Fi (duo a b w sl) t := by
  -- the child at its stop
  have bStop : ∀ {O0 : Own} {a : Goroutine} {wa : World} (_ : FinO P true (StopAO P c z Fi vs) O0 a wa) {O1 : Own} {b : Goroutine} {wb : World} (_ : ∀ w₁, Rely O1 wb w₁ → StopBO P c q vs O1 b w₁) (w : World) (sl sl' : Option (Nat × Nat)) (t : Trace) (s r d : Nat) (tm : Bool), Rely O0 wa w → Rely O1 wb w → Env c base W0 O0 O1 w →
      w.heap[c]? = some (.chan 0 #[] false s r tm) → TI c O1 t w → stepT P (duo a b w sl) = runT P (duo a b (w.at d) sl') 1 → Reach P c base W0 Fi (duo a b w sl) t := by
    intro O0 a wa hA O1 b wb h w sl sl' t s r d tm hra hrb hE hc hT hst
    have har := hA.running (fun _ _ _ => StopAO.running)
    have hat := h (w.at d) (hrb.trans (rely_at _ _ _))
    have hE1 := hE.at d
    have hc1 : (w.at d).heap[c]? = some (.chan 0 #[] false s r tm) := hc
    cases vs with
    | nil =>
      obtain ⟨_, hwake, hshut⟩ := hat
      obtain ⟨g₂, es, nq, hgo, hes, hqt⟩ := hshut s r tm hc1
      have hc2 : ((w.at d).shut c s r tm).heap[c]? = some (.chan 0 #[] true s r tm) := heap_put hc1
      refine Reach.step (hst.trans (runT_duo1 hgo)) ?_
      rw [woken_running har]
      obtain ⟨pc, hTC⟩ := (hT.at d).close (w' := (w.at d).shut c s r tm) (fn := b.frame.fn) (pos := b.frame.place) hes (fun k hk => (hE.b1 k hk).2) (Nat.lt_of_lt_of_le hcb hE.size) (hE.no1 hcb)
      exact pipe_shut hcb hA nq g₂ _ sl' _ O1 _ s r tm ((hra.trans (rely_at _ _ _)).trans (rely_put (hE.no0 hcb) _ _)) (hE1.put _) hc2 hqt hTC
    | cons v vs' =>
      obtain ⟨_, g₂, z', zq, es, hcomm, hes, hnext⟩ := hat
      have hq1 := env_q hcb hqb hcq hq0 hE1
      refine Reach.step (hst.trans (runT_sel_waits hcomm hc1 hq1 (by rw [har]; intro h; cases h))) ?_
      have h1 := (hT.at d).own1 (Nat.lt_of_lt_of_le hcb hE.size) (hE.no1 hcb) (fn := b.frame.fn) (pos := b.frame.place) (evs_guar hes) (fun k hk => (hE.b1 k hk).2)
      rw [grow_same rfl] at h1
      exact pipe_parkB hcb hqb hcq hq0 (IH v vs' rfl) hA O1 g₂ z' zq (w.at d) sl' _ s r tm (fun w₁ h₁ => hnext w₁ h₁) (hra.trans (rely_at _ _ _)) hE1 hc1 h1
  -- goroutine 0 at its stop
  have aStop : ∀ {O0 : Own} {a : Goroutine} {wa : World} (_ : ∀ w₁, Rely O0 wa w₁ → StopAO P c z Fi vs O0 a w₁) {O1 : Own} {b : Goroutine} {wb : World} (_ : FinO P false (StopBO P c q vs) O1 b wb) (w : World) (sl sl' : Option (Nat × Nat)) (t : Trace) (s r d : Nat) (tm : Bool), Rely O0 wa w → Rely O1 wb w → Env c base W0 O0 O1 w →
      w.heap[c]? = some (.chan 0 #[] false s r tm) → TI c O1 t w → stepT P (duo a b w sl) = runT P (duo a b (w.at d) sl') 0 → Reach P c base W0 Fi (duo a b w sl) t := by
    intro O0 a wa h O1 b wb hB w sl sl' t s r d tm hra hrb hE hc hT hst
    have hbr := hB.running (fun _ _ _ => StopBO.running)
    have hat := h (w.at d) (hra.trans (rely_at _ _ _))
    obtain ⟨es, hcomm, hes⟩ := hat.comm
    have hE1 := hE.at d
    refine Reach.step (hst.trans (runT_recv_waits hcomm (by exact hc) (by rw [hbr]; intro h; cases h))) ?_
    exact pipe_parkA hcb hqb hcq hq0 IH hB O0 a (w.at d) sl' _ s r tm (fun w₁ h₁ => h w₁ ((hra.trans (rely_at _ _ _)).trans h₁)) (hrb.trans (rely_at _ _ _)) hE1 hc
      ((hT.at d).own0 (Nat.lt_of_lt_of_le hcb hE.size) (hE.no0 hcb) (evs_guar hes) hE.dis (fun k hk => (hE.b0 k hk).2) (fun k hk => (hE.b1 k hk).2))
  -- a step of the child's own
  have bStep : ∀ {O0 : Own} {a : Goroutine} {wa : World} {O1 : Own} {b : Goroutine} {wb : World} (nx : World → Goroutine × World × Array Event), a.status = .running →
      (∀ w₁, Rely O1 wb w₁ → stepG P false b w₁ = .go (nx w₁).1 (nx w₁).2.1 (nx w₁).2.2 ∧ Guar O1 w₁ (nx w₁).2.1 (nx w₁).2.2) →
      (∀ w₁, Rely O1 wb w₁ → ∀ (w : World) (sl : Option (Nat × Nat)) (t : Trace) (s r : Nat) (tm : Bool), Rely O0 wa w → Rely (Grow O1 w₁ (nx w₁).2.1) (nx w₁).2.1 w → Env c base W0 O0 (Grow O1 w₁ (nx w₁).2.1) w → w.heap[c]? = some (.chan 0 #[] false s r tm) → TI c (Grow O1 w₁ (nx w₁).2.1) t w → Reach P c base W0 Fi (duo a (nx w₁).1 w sl) t) →
      ∀ (w : World) (sl sl' : Option (Nat × Nat)) (t : Trace) (s r d : Nat) (tm : Bool), Rely O0 wa w → Rely O1 wb w → Env c base W0 O0 O1 w → w.heap[c]? = some (.chan 0 #[] false s r tm) → TI c O1 t w → stepT P (duo a b w sl) = runT P (duo a b (w.at d) sl') 1 → Reach P c base W0 Fi (duo a b w sl) t := by
    intro O0 a wa O1 b wb nx har h ih w sl sl' t s r d tm hra hrb hE hc hT hst
    have hrel' := hrb.trans (rely_at O1 w d)
    obtain ⟨hgo, hg⟩ := h (w.at d) hrel'
    have hE1 := hE.at d
    have hc' : (nx (w.at d)).2.1.heap[c]? = some (.chan 0 #[] false s r tm) := by
      rw [hg.keep c (hE.no1 hcb) (by have := hE.size; exact Nat.lt_of_lt_of_le hcb this)]; exact hc
    refine Reach.step (hst.trans (runT_duo1 hgo)) ?_
    rw [woken_running har]
    exact ih (w.at d) hrel' _ sl' _ s r tm ((hra.trans (rely_at _ _ _)).trans (hE1.rely0 hg)) (Rely.refl _ _) (hE1.step1 hg) hc' ((hT.at d).own1 (Nat.lt_of_lt_of_le hcb hE.size) (hE.no1 hcb) hg (fun k hk => (hE.b1 k hk).2))
  induction hA with
  | @stop O0 a wa h =>
    intro O1 b wb hB
    have har : a.status = .running := (h wa (Rely.refl _ _)).running
    have hA : FinO P true (StopAO P c z Fi vs) O0 a wa := .stop h
    induction hB with
    | @stop O1 b wb hb =>
      intro w sl t s r tm hra hrb hE hc hT
      have hbr : b.status = .running := (hb wb (Rely.refl _ _)).running
      obtain ⟨d, sl', hmv⟩ := duo_pick (P := P) (w := w) (sl := sl) (awake_of (.inl har)) (awake_of (.inl hbr)) (.inl har)
      rcases hmv with ⟨_, hst⟩ | ⟨_, hst⟩
      · exact aStop h (.stop hb) w sl sl' t s r d tm hra hrb hE hc hT hst
      · exact bStop hA hb w sl sl' t s r d tm hra hrb hE hc hT hst
    | @step O1 b wb hbr nx hb hfb ihb =>
      intro w sl t s r tm hra hrb hE hc hT
      obtain ⟨d, sl', hmv⟩ := duo_pick (P := P) (w := w) (sl := sl) (awake_of (.inl har)) (awake_of (.inl hbr)) (.inl har)
      rcases hmv with ⟨_, hst⟩ | ⟨_, hst⟩
      · exact aStop h (.step hbr nx hb hfb) w sl sl' t s r d tm hra hrb hE hc hT hst
      · exact bStep nx har hb (fun w₁ h₁ w sl t s r tm => ihb w₁ h₁ w sl t s r tm) w sl sl' t s r d tm hra hrb hE hc hT hst
  | @step O0 a wa har nxa ha hfa iha =>
    intro O1 b wb hB
    have hA : FinO P true (StopAO P c z Fi vs) O0 a wa := .step har nxa ha hfa
    have aStep : ∀ {O1 : Own} {b : Goroutine} {wb : World} (_ : FinO P false (StopBO P c q vs) O1 b wb) (w : World) (sl sl' : Option (Nat × Nat)) (t : Trace) (s r d : Nat) (tm : Bool), Rely O0 wa w → Rely O1 wb w → Env c base W0 O0 O1 w →
        w.heap[c]? = some (.chan 0 #[] false s r tm) → TI c O1 t w → stepT P (duo a b w sl) = runT P (duo a b (w.at d) sl') 0 → Reach P c base W0 Fi (duo a b w sl) t := by
      intro O1 b wb hB w sl sl' t s r d tm hra hrb hE hc hT hst
      have hbr := hB.running (fun _ _ _ => StopBO.running)
      have hrel' := hra.trans (rely_at O0 w d)
      obtain ⟨hgo, hg⟩ := ha (w.at d) hrel'
      have hE1 := hE.at d
      have hc' : (nxa (w.at d)).2.1.heap[c]? = some (.chan 0 #[] false s r tm) := by
        rw [hg.keep c (hE.no0 hcb) (by have := hE.size; exact Nat.lt_of_lt_of_le hcb this)]; exact hc
      refine Reach.step (hst.trans (runT_duo0 hgo)) ?_
      rw [woken_running hbr]
      exact iha (w.at d) hrel' hB _ sl' _ s r tm (Rely.refl _ _) ((hrb.trans (rely_at _ _ _)).trans (hE1.rely1 hg)) (hE1.step0 hg) hc' ((hT.at d).own0 (Nat.lt_of_lt_of_le hcb hE.size) (hE.no0 hcb) hg hE.dis (fun k hk => (hE.b0 k hk).2) (fun k hk => (hE.b1 k hk).2))
    induction hB with
    | @stop O1 b wb hb =>
      intro w sl t s r tm hra hrb hE hc hT
      have hbr : b.status = .running := (hb wb (Rely.refl _ _)).running
      obtain ⟨d, sl', hmv⟩ := duo_pick (P := P) (w := w) (sl := sl) (awake_of (.inl har)) (awake_of (.inl hbr)) (.inl har)
      rcases hmv with ⟨_, hst⟩ | ⟨_, hst⟩
      · exact aStep (.stop hb) w sl sl' t s r d tm hra hrb hE hc hT hst
      · exact bStop hA hb w sl sl' t s r d tm hra hrb hE hc hT hst
    | @step O1 b wb hbr nx hb hfb ihb =>
      intro w sl t s r tm hra hrb hE hc hT
      obtain ⟨d, sl', hmv⟩ := duo_pick (P := P) (w := w) (sl := sl) (awake_of (.inl har)) (awake_of (.inl hbr)) (.inl har)
      rcases hmv with ⟨_, hst⟩ | ⟨_, hst⟩
      · exact aStep (.step hbr nx hb hfb) w sl sl' t s r d tm hra hrb hE hc hT hst
      · exact bStep nx har hb (fun w₁ h₁ w sl t s r tm => ihb w₁ h₁ w sl t s r tm) w sl sl' t s r d tm hra hrb hE hc hT hst

/-- THE PIPELINE: a child that sends out of a select, and closes; goroutine 0 receives till it is closed; each allots and writes its own. -/
theorem pipeline_own : ∀ vs : List Value, Claim P c q base z W0 Fi vs := by
  intro vs
  induction vs with
  | nil => exact fun O0 O1 a b w sl t s r tm hA hB hE hc hT => pipe_both hcb hqb hcq hq0 (fun _ _ h => by cases h) ((recvsO_iff ..).1 hA) ((sendsO_iff ..).1 hB) w sl t s r tm (Rely.refl _ _) (Rely.refl _ _) hE hc hT
  | cons v vs ih => exact fun O0 O1 a b w sl t s r tm hA hB hE hc hT => pipe_both hcb hqb hcq hq0 (fun _ _ h => by cases h; exact ih) ((recvsO_iff ..).1 hA) ((sendsO_iff ..).1 hB) w sl t s r tm (Rely.refl _ _) (Rely.refl _ _) hE hc hT
end
end Go.Lift

namespace Go.Lift
open Go.Conc
variable {P : Program}

/- slots, told by a list -/
def look : List (Nat × Value) → Nat → Option Value
  | [], _ => none
  | (s, v) :: S, t => if t = s then some v else look S t

structure Sl (S : List (Nat × Value)) (n : Nat) (ds : List Deferred) (a : Act) : Prop where
  defers : a.defers = ds
  size : a.tmps.size = n
  slot : ∀ t v, look S t = some v → a.tmps[t]? = some v

def evS (S : List (Nat × Value)) : Operand → Value
  | .tmp t => (look S t).getD undef
  | .const v => v
  | .global g => .pointer (some ⟨g, 0, none⟩)
  | .func f => .func (.func f) #[] #[]

def told (S : List (Nat × Value)) : Operand → Bool
  | .tmp t => (look S t).isSome
  | _ => true
def toldAll (S : List (Nat × Value)) (o : Oper) : Bool := o.op.operands.toList.all (told S) && match o.op with | .select _ _ => false | _ => true

variable {S : List (Nat × Value)} {n : Nat} {ds : List Deferred} {a : Act} {o : Oper} {O : Own} {w : World}

theorem Sl.eval (h : Sl S n ds a) {x : Operand} (hx : told S x = true) : a.eval x = evS S x := by
  cases x with
  | tmp t =>
    simp only [told, Option.isSome_iff_exists] at hx
    obtain ⟨v, hv⟩ := hx
    have := h.slot t v hv
    simp only [Act.eval, evS, hv, Option.getD_some]
    obtain ⟨h1, h2⟩ := Array.getElem?_eq_some_iff.1 this
    simp [Array.getD, h1, h2]
  | _ => rfl

theorem Sl.exec (h : Sl S n ds a) (ht : toldAll S o = true) : execOp a.eval o = execOp (evS S) o := by
  unfold toldAll at ht
  rw [Bool.and_eq_true, List.all_eq_true] at ht
  exact execOp_congr o (fun cs b he => by rw [he] at ht; cases ht.2) fun x hx => h.eval (ht.1 x (by simpa using hx))

theorem Sl.put (h : Sl S n ds a) {d : Nat} (hd : d < n) (v : Value) : Sl ((d, v) :: S) n ds (a.put (some d) v) := by
  refine ⟨h.defers, by simpa [Act.put] using h.size, fun t x ht => ?_⟩
  simp only [look] at ht
  by_cases hte : t = d
  · subst hte
    simp at ht; subst ht
    simp [Act.put, h.size, hd]
  · rw [if_neg hte] at ht
    simpa [Act.put, Array.getElem?_setIfInBounds_ne (Ne.symm hte)] using h.slot t x ht
theorem Sl.put_none (h : Sl S n ds a) (v : Value) : Sl S n ds (a.put none v) := h
theorem Sl.sub {S' : List (Nat × Value)} (h : Sl S n ds a) (hs : ∀ t v, look S' t = some v → look S t = some v) : Sl S' n ds a := ⟨h.defers, h.size, fun t v ht => h.slot t v (hs t v ht)⟩

/-- is it wanted? -/
def wS (S : List (Nat × Value)) (ops : Array Oper) (o : Oper) : Option Bool := match o.guard with
  | none => some true
  | some (j, want) => match (ops[j]?).bind (·.dst) with
    | some t => match look S t with
      | some (.bool b) => some (b == want)
      | some (.tuple _) => some false
      | _ => none
    | none => none
theorem Sl.wanted (h : Sl S n ds a) {ops : Array Oper} {q : Bool} (hw : wS S ops o = some q) : Region.wanted o (yielded ops a.tmps) = q := by
  unfold wS at hw
  unfold Region.wanted
  cases hg : o.guard with
  | none => rw [hg] at hw; cases hw; rfl
  | some jw =>
    obtain ⟨j, want⟩ := jw
    rw [hg] at hw
    simp only at hw ⊢
    cases hd : (ops[j]?).bind (·.dst) with
    | none => rw [hd] at hw; cases hw
    | some t =>
      rw [hd] at hw
      simp only at hw
      cases hl : look S t with
      | none => rw [hl] at hw; cases hw
      | some v =>
        rw [hl] at hw
        have := h.slot t v hl
        cases v <;> try (cases hw; done)
        · rename_i b
          simp only [Option.some.injEq] at hw
          unfold yielded
          rw [hd]
          simp only [Option.bind_some, this]
          subst hw
          cases b <;> cases want <;> rfl
        · simp only [Option.some.injEq] at hw
          unfold yielded
          rw [hd]
          simp only [Option.bind_some, this]
          subst hw
          cases want <;> rfl

theorem opsO_rely {main : Bool} {fn : FuncId} {ops : Array Oper} {todo : List Nat} {Q : PostO} {w₁ : World} (h : OpsO P main fn ops todo Q a O w) (hr : Rely O w w₁) : OpsO P main fn ops todo Q a O w₁ :=
  fun b k cs Stop hb hk hc => (h b k cs Stop hb hk hc).rely hr

/-- what an operation lists, by the told slots -/
def lst (P : Program) (fn : FuncId) (S : List (Nat × Value)) (o : Oper) (w : World) : Array Event := seen P fn ((execOp (evS S) o).events P w #[])
theorem Sl.listed (h : Sl S n ds a) (ht : toldAll S o = true) (fn : FuncId) (w : World) : listed P fn a o w = lst P fn S o w := by
  unfold Conc.listed lst; rw [h.exec ht]

theorem guar_nil {w : World} {es : Array Event} (h : es = #[]) : Guar O w w es := by rw [h]; exact Guar.idle O w

section ops
variable {main : Bool} {fn : FuncId} {ops : Array Oper} {i : Nat} {rest : List Nat} {Q : PostO}

theorem opsS_skip (hS : Sl S n ds a) (ho : ops[i]? = some o) (hw : wS S ops o = some false) {d : Nat} (hd : o.dst = some d) (hdn : d < n)
    (h : ∀ a', Sl ((d, undef) :: S) n ds a' → OpsO P main fn ops rest Q a' O w) : OpsO P main fn ops (i :: rest) Q a O w :=
  opsO_unwanted ho (hS.wanted hw) (h _ (by rw [hd]; exact hS.put hdn _))

/-- an operation that yields, and turns nothing -/
theorem opsS_val (hS : Sl S n ds a) (ho : ops[i]? = some o) (hw : wS S ops o = some true) (ht : toldAll S o = true) {d : Nat} (hd : o.dst = some d) (hdn : d < n) {v : Value}
    (hr : ∀ w₁, Rely O w w₁ → (execOp (evS S) o).run P w₁ = .ok (.value v) w₁ ∧ Guar O w₁ w₁ (lst P fn S o w₁))
    (h : ∀ a', Sl ((d, v) :: S) n ds a' → OpsO P main fn ops rest Q a' O w) : OpsO P main fn ops (i :: rest) Q a O w := by
  refine opsO_cons ho (hS.wanted hw) fun w₁ h₁ => ?_
  obtain ⟨h2, h3⟩ := hr w₁ h₁
  rw [hS.exec ht, h2, hS.listed ht]
  refine ⟨h3, ?_⟩
  rw [grow_same rfl]
  exact opsO_rely (h _ (by rw [hd]; exact hS.put hdn _)) h₁

/-- an operation that makes a block -/
theorem opsS_new (hS : Sl S n ds a) (ho : ops[i]? = some o) (hw : wS S ops o = some true) (ht : toldAll S o = true) {d : Nat} (hd : o.dst = some d) (hdn : d < n) {mk : Nat → Value} {obj : Obj}
    (hr : ∀ w₁, Rely O w w₁ → (execOp (evS S) o).run P w₁ = .ok (.value (mk w₁.heap.size)) { w₁ with heap := w₁.heap.push obj } ∧ ∀ e ∈ lst P fn S o w₁, ∃ ad, e.loc = .cell ad ∧ (O ad.block ∨ ad.block = w₁.heap.size))
    (h : ∀ (k : Nat) (O' : Own) (w' : World) a', O' k → w.heap.size ≤ k → k < w'.heap.size → w'.heap[k]? = some obj → (∀ j, O j → O' j) → (∀ j, O' j → O j ∨ w.heap.size ≤ j) → (∀ j, O j → j < w.heap.size → w'.heap[j]? = w.heap[j]?) → w.heap.size ≤ w'.heap.size →
      Sl ((d, mk k) :: S) n ds a' → OpsO P main fn ops rest Q a' O' w') : OpsO P main fn ops (i :: rest) Q a O w := by
  refine opsO_cons ho (hS.wanted hw) fun w₁ h₁ => ?_
  obtain ⟨h2, h3⟩ := hr w₁ h₁
  have hsz := h₁.size
  rw [hS.exec ht, h2, hS.listed ht]
  refine ⟨⟨by simp, fun k _ hk => by simp [Array.getElem?_push, Nat.ne_of_lt hk], rfl, rfl, fun e he => ?_⟩, ?_⟩
  · obtain ⟨ad, he, hb⟩ := h3 e he
    unfold EvO
    rw [he]
    rcases hb with hb | hb
    · exact .inl hb
    · exact .inr ⟨by rw [hb]; exact Nat.le_refl _, by rw [hb]; simp⟩
  · refine h w₁.heap.size _ _ _ (.inr ⟨Nat.le_refl _, by simp⟩) hsz (by simp) (by simp) (fun j hj => .inl hj) (fun j hj => ?_) (fun j hj hlt => ?_) (by simp; omega) (by rw [hd]; exact hS.put hdn _)
    · rcases hj with hj | hj
      · exact .inl hj
      · exact .inr (by omega)
    · have hlt' : j < w₁.heap.size := Nat.lt_of_lt_of_le hlt hsz
      simp only [Array.getElem?_push, Nat.ne_of_lt hlt', if_false]
      exact h₁.keep j hj hlt

/-- an operation that writes into a block of its own -/
theorem opsS_set (hS : Sl S n ds a) (ho : ops[i]? = some o) (hw : wS S ops o = some true) (ht : toldAll S o = true) (hd : o.dst = none) {b : Nat} {obj : Obj} (hb : O b)
    (hr : ∀ w₁, Rely O w w₁ → ∃ w₂, (execOp (evS S) o).run P w₁ = .ok .skip w₂ ∧ w₂.heap[b]? = some obj ∧ (∀ k, k ≠ b → w₂.heap[k]? = w₁.heap[k]?) ∧ w₂.heap.size = w₁.heap.size ∧ (w₂.os = w₁.os ∧ w₂.output = w₁.output) ∧ ∀ e ∈ lst P fn S o w₁, ∃ ad, e.loc = .cell ad ∧ O ad.block)
    (h : ∀ (w' : World) a', w'.heap[b]? = some obj → (∀ j, O j → j ≠ b → j < w.heap.size → w'.heap[j]? = w.heap[j]?) → w.heap.size ≤ w'.heap.size → Sl S n ds a' → OpsO P main fn ops rest Q a' O w') : OpsO P main fn ops (i :: rest) Q a O w := by
  refine opsO_cons ho (hS.wanted hw) fun w₁ h₁ => ?_
  obtain ⟨w₂, h2, h3, h4, h5, h6, h7⟩ := hr w₁ h₁
  have hsz := h₁.size
  rw [hS.exec ht, h2, hS.listed ht]
  refine ⟨⟨by omega, fun k hk _ => h4 k (fun e => hk (e ▸ hb)), h6.1, h6.2, fun e he => ?_⟩, ?_⟩
  · obtain ⟨ad, he, hb⟩ := h7 e he
    unfold EvO; rw [he]; exact .inl hb
  · rw [grow_same h5]
    exact h w₂ _ h3 (fun j hj hjb hlt => (h4 j hjb).trans (h₁.keep j hj hlt)) (by omega) (by rw [hd]; exact hS.put_none _)

/-- a call -/
theorem opsS_call (hS : Sl S n ds a) (ho : ops[i]? = some o) (hw : wS S ops o = some true) (ht : toldAll S o = true) {d : Nat} (hd : o.dst = some d) (hdn : d < n) {f : FuncId} {args : Array Value} {R : Value → Own → World → Prop}
    (hr : ∀ w₁, (execOp (evS S) o).run P w₁ = .ok (.enter f args) w₁ ∧ (execOp (evS S) o).events P w₁ #[] = #[])
    (hc : CallsO P main f args O w R) (h : ∀ v O' w' a', R v O' w' → Sl ((d, v) :: S) n ds a' → OpsO P main fn ops rest Q a' O' w') : OpsO P main fn ops (i :: rest) Q a O w :=
  opsO_enter ho (hS.wanted hw) (fun w₁ => by rw [hS.exec ht]; exact hr w₁) hc fun v O' w' r => h v O' w' _ r (by rw [hd]; exact hS.put hdn _)
end ops

/-- a drawn region, the calm operations' values being told -/
structure CalmV (P : Program) (fn : FuncId) (ops : Array Oper) (O : Own) (w : World) (S' : List (Nat × Value)) (n : Nat) (i : Nat) (o : Oper) : Prop where
  calm : ∃ d v, o.dst = some d ∧ d < n ∧ look S' d = some v ∧
    ((wS S' ops o = some true ∧ toldAll S' o = true ∧ ∀ w₁, Rely O w w₁ → (execOp (evS S') o).run P w₁ = .ok (.value v) w₁ ∧ Guar O w₁ w₁ (lst P fn S' o w₁)) ∨ (wS S' ops o = some false ∧ v = undef))

def putL (vs : List (Nat × Value)) (a : Act) : Act := vs.foldl (fun a x => a.put (some x.1) x.2) a
theorem putL_defers (vs : List (Nat × Value)) (a : Act) : (putL vs a).defers = a.defers := by
  induction vs generalizing a with
  | nil => rfl
  | cons x vs ih => exact (ih _).trans rfl
theorem putL_size (vs : List (Nat × Value)) (a : Act) : (putL vs a).tmps.size = a.tmps.size := by
  induction vs generalizing a with
  | nil => rfl
  | cons x vs ih => exact (ih _).trans (by simp [Act.put])
theorem putL_out (vs : List (Nat × Value)) (a : Act) (t : Nat) (h : ∀ x ∈ vs, x.1 ≠ t) : (putL vs a).tmps[t]? = a.tmps[t]? := by
  induction vs generalizing a with
  | nil => rfl
  | cons x vs ih =>
    refine (ih _ fun y hy => h y (List.mem_cons_of_mem _ hy)).trans ?_
    simp [Act.put, Array.getElem?_setIfInBounds_ne (h x (List.mem_cons_self ..))]
theorem sl_putL : ∀ (vs : List (Nat × Value)) (a : Act) (S : List (Nat × Value)), Sl S n ds a → (∀ x ∈ vs, x.1 < n) → Sl (vs.reverse ++ S) n ds (Lift.putL vs a)
  | [], _, _, h, _ => h
  | x :: vs, a, S, h, hv => by
    have := sl_putL vs (a.put (some x.1) x.2) ((x.1, x.2) :: S) (h.put (hv x (List.mem_cons_self ..)) _) fun y hy => hv y (List.mem_cons_of_mem _ hy)
    rw [List.reverse_cons, List.append_assoc]
    exact this

theorem opsS_drawn {main : Bool} {fn : FuncId} {ops : Array Oper} {Q : PostO} {m : Nat} (hS : Sl S n ds a) (hsh : Shape ops m) (hsel : Region.noSelect ops = true) (vs : List (Nat × Value))
    (hvn : ∀ x ∈ vs, x.1 < n)
    (hlooks : ∀ (i : Nat) (o : Oper), i < m → ops[i]? = some o → ∀ t ∈ o.looksAt ops, ∀ j, j < m → slot? ops j = some t → ∃ e ∈ o.after, Region.binds .any e = true ∧ e.on = j)
    (hone : ∀ i j t, i < m → j < m → slot? ops i = some t → slot? ops j = some t → i = j)
    (hcov : ∀ x ∈ vs, ∃ i, i < m ∧ slot? ops i = some x.1)
    (hcalm : ∀ (i : Nat) (o : Oper), i < m → ops[i]? = some o → CalmV P fn ops O w (vs.reverse ++ S) n i o)
    (hrest : ∀ a', Sl (vs.reverse ++ S) n ds a' → OpsO P main fn ops (List.range' m (ops.size - m)) Q a' O w) (t : Nat) : OpsO P main fn ops (Region.linearise .any ops t) Q a O w := by
  have hF := sl_putL vs a S hS hvn
  have hsize := putL_size vs a
  refine opsO_drawn hsh hsel (aF := putL vs a) (putL_defers vs a) hsize hlooks hone (fun t ht => putL_out vs a t fun x hx e => ?_) (fun i o hi ho => ?_) (hrest _ hF) t
  · obtain ⟨i, hi, hs⟩ := hcov x hx
    exact ht i hi (by rw [hs, e])
  · obtain ⟨d, v, h1, h2, h3, h4⟩ := (hcalm i o hi ho).calm
    have hv : (putL vs a).tmps.getD d undef = v := by
      have := hF.slot d v h3
      obtain ⟨q1, q2⟩ := Array.getElem?_eq_some_iff.1 this
      simp [Array.getD, q1, q2]
    refine ⟨d, h1, by rw [hS.size]; exact h2, ?_⟩
    rcases h4 with ⟨g1, g2, g3⟩ | ⟨g1, g2⟩
    · refine .inl ⟨hF.wanted g1, fun w₁ h₁ => ?_⟩
      obtain ⟨q1, q2⟩ := g3 w₁ h₁
      rw [hF.exec g2, hv, hF.listed g2]
      exact ⟨q1, q2⟩
    · exact .inr ⟨hF.wanted g1, by rw [hv]; exact g2⟩
end Go.Lift
