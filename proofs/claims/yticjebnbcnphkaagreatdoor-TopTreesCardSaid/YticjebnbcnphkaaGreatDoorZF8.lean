/- A part of the proof that the abstract interpreter is sound, and of the two goroutines of the lexer. -/
import Derived.Test.YticjebnbcnphkaaGreatDoorZF1
import Derived.Orders

set_option linter.unusedSimpArgs false
set_option linter.unusedVariables false
set_option linter.unusedSectionVars false

namespace Go.Ai
open Go
variable {P : Program} {G : Goal P}

/- what is ahead of what -/
inductive Anc (all : List Oper) : Nat → Nat → Prop
  | one {i o j} (h : all[i]? = some o) (hj : j ∈ ons o) : Anc all j i
  | more {i o j k} (h : all[i]? = some o) (hk : k ∈ ons o) (hj : Anc all j k) : Anc all j i

theorem memN_t {n : Nat} {l : List Nat} : memN n l = true ↔ n ∈ l := by
  induction l with
  | nil => simp [memN]
  | cons x l ih =>
    simp only [memN, List.mem_cons]
    cases h : Nat.beq n x with
    | true => simp [Nat.eq_of_beq_eq_true h]
    | false =>
      have : n ≠ x := fun e => by subst e; rw [Nat.beq_refl] at h; cases h
      simp [ih, this]
theorem memT_t {n : Nat} {l : List Nat} : memT n l = true ↔ n ∈ l := by
  induction l with
  | nil => simp [memT]
  | cons x l ih =>
    simp only [memT, List.mem_cons]
    cases h : Nat.beq n x with
    | true => simp [Nat.eq_of_beq_eq_true h]
    | false =>
      have : n ≠ x := fun e => by subst e; rw [Nat.beq_refl] at h; cases h
      simp [ih, this]

theorem ancs_go {all : List Oper} : ∀ (r pre : List Oper) (acc : List (List Nat)), all = pre ++ r → acc.length = pre.length → (∀ i l, acc[i]? = some l → ∀ x ∈ l, Anc all x i) → ∀ i l, (ancs r acc)[i]? = some l → ∀ x ∈ l, Anc all x i
  | [], pre, acc, _, _, h => h
  | o :: r, pre, acc, hall, hlen, h => by
    simp only [ancs]
    refine ancs_go r (pre ++ [o]) _ (by simp [hall]) (by simp [hlen]) ?_
    intro i l hi x hx
    rw [List.getElem?_append] at hi
    split at hi
    · exact h i l hi x hx
    · rename_i hge
      have hi0 : i = acc.length := by
        have := (List.getElem?_eq_some_iff.1 hi).1
        simp at this
        omega
      subst hi0
      simp at hi
      subst hi
      rw [List.mem_eraseDups, List.mem_flatMap] at hx
      obtain ⟨j, hj, hx⟩ := hx
      have hoi : all[acc.length]? = some o := by rw [hall, hlen]; simp
      rcases List.mem_cons.1 hx with rfl | hx
      · exact .one hoi hj
      · rw [nth_get] at hx
        cases hq : acc[j]? with
        | none => rw [hq] at hx; simp at hx
        | some l' => rw [hq] at hx; exact .more hoi hj (h j l' hq x hx)

theorem ancs_anc {all : List Oper} {i x : Nat} {l : List Nat} (h : nth (ancs all []) i = some l) (hx : memN x l = true) : Anc all x i := by
  rw [nth_get] at h
  exact ancs_go all [] [] (by simp) rfl (by simp) i l h x (memN_t.1 hx)

theorem anc_down {all : List Oper} {D : Nat → Prop} (hD : ∀ i o, D i → all[i]? = some o → ∀ j ∈ ons o, D j) {j i : Nat} (h : Anc all j i) (hi : ∀ o, all[i]? = some o → ∀ k ∈ ons o, D k) : D j := by
  induction h with
  | one h hj => exact hi _ h _ hj
  | more h hk _ ih => exact ih fun o ho => hD _ o (hi _ h _ hk) ho

/- the slots -/
theorem tmpOk_get {all : List Oper} {S : List (List Nat)} (h : tmpOk P all S = true) {i j : Nat} {oi oj : Oper} (hi : all[i]? = some oi) (hj : all[j]? = some oj) : ∃ Si Sj, nth S i = some Si ∧ nth S j = some Sj ∧ tmpOk1 P all i oi Si j oj Sj = true := by
  unfold tmpOk at h
  rw [List.all_eq_true] at h
  have h1 := h i (List.mem_range.2 (List.getElem?_eq_some_iff.1 hi).1)
  rw [List.all_eq_true] at h1
  have h2 := h1 j (List.mem_range.2 (List.getElem?_eq_some_iff.1 hj).1)
  rw [nth_get, nth_get, hi, hj] at h2
  split at h2
  · rename_i a b c d h3 h4 h5 h6
    cases h3; cases h4
    exact ⟨_, _, h5, h6, h2⟩
  · cases h2

/-- an operation's own slot is none of those that it reads -/
theorem tmpOk_self {all : List Oper} (h : tmpOk P all (ancs all []) = true) {i : Nat} {oi : Oper} (hi : all[i]? = some oi) {t : Tmp} (ht : oi.dst = some t) : t ∉ tmpsOf all oi := by
  obtain ⟨Si, Sj, h1, h2, h3⟩ := tmpOk_get h hi hi
  unfold tmpOk1 at h3
  rw [ht] at h3
  change (bif Nat.beq i i then !memT t (tmpsOf all oi) else _) = true at h3
  rw [Nat.beq_refl] at h3
  intro hm
  rw [memT_t.2 hm] at h3
  cases h3
theorem tmpOk_two {all : List Oper} (h : tmpOk P all (ancs all []) = true) {i j : Nat} {oi oj : Oper} (hi : all[i]? = some oi) (hj : all[j]? = some oj) (hij : i ≠ j) {t : Tmp} (ht : oi.dst = some t) :
    oj.dst ≠ some t ∧ (t ∈ tmpsOf all oj → Anc all i j ∨ (Anc all j i ∧ ¬ (calmOp P oi = true ∧ calmOp P oj = true))) := by
  obtain ⟨Si, Sj, h1, h2, h3⟩ := tmpOk_get h hi hj
  unfold tmpOk1 at h3
  rw [ht] at h3
  have hb : Nat.beq i j = false := by
    cases hb : Nat.beq i j with
    | false => rfl
    | true => exact absurd (Nat.eq_of_beq_eq_true hb) hij
  change (bif Nat.beq i j then _ else ((match oj.dst with | some u => !Nat.beq u t | none => true) && (!memT t (tmpsOf all oj) || memN i Sj || (memN j Si && !(calmOp P oi && calmOp P oj))))) = true at h3
  rw [hb] at h3
  simp only [cond_false, Bool.and_eq_true, Bool.or_eq_true] at h3
  obtain ⟨h4, h5⟩ := h3
  refine ⟨fun hd => ?_, fun hm => ?_⟩
  · rw [hd] at h4; simp [Nat.beq_refl] at h4
  · rcases h5 with (h5 | h5) | ⟨h5, h6⟩
    · rw [memT_t.2 hm] at h5; cases h5
    · exact .inl (ancs_anc h2 h5)
    · exact .inr ⟨ancs_anc h1 h5, fun ⟨a, b⟩ => by rw [a, b] at h6; cases h6⟩

/- the plan -/
def Rdy (all : List Oper) (Dn : List Nat) (i : Nat) (o : Oper) : Prop := all[i]? = some o ∧ i ∉ Dn ∧ ∀ j ∈ ons o, j ∈ Dn

theorem readyL_go {all : List Oper} {Dn : List Nat} : ∀ (r : List Oper) (k : Nat) (i : Nat) (o : Oper), (i, o) ∈ readyL all Dn (List.range' k r.length) r ↔ k ≤ i ∧ r[i - k]? = some o ∧ i ∉ Dn ∧ ∀ j ∈ ons o, j ∈ Dn
  | [], k, i, o => by simp [readyL]
  | x :: r, k, i, o => by
    have ih := readyL_go (all := all) (Dn := Dn) r (k + 1) i o
    simp only [List.length_cons, List.range'_succ, readyL]
    have hx : (!Dn.contains k && (ons x).all Dn.contains) = true ↔ k ∉ Dn ∧ ∀ j ∈ ons x, j ∈ Dn := by
      simp [List.all_eq_true]
    have key : (k + 1 ≤ i ∧ r[i - (k + 1)]? = some o ∧ i ∉ Dn ∧ ∀ j ∈ ons o, j ∈ Dn) ↔ (k + 1 ≤ i ∧ (x :: r)[i - k]? = some o ∧ i ∉ Dn ∧ ∀ j ∈ ons o, j ∈ Dn) := by
      constructor
      · rintro ⟨h1, h2⟩; refine ⟨h1, ?_⟩; rwa [show i - k = (i - (k + 1)) + 1 by omega]
      · rintro ⟨h1, h2⟩; refine ⟨h1, ?_⟩; rwa [show i - k = (i - (k + 1)) + 1 by omega] at h2
    cases hb : (!Dn.contains k && (ons x).all Dn.contains) with
    | true =>
      rw [hb] at hx
      simp only [cond_true, List.mem_cons, ih, key]
      constructor
      · rintro (h | ⟨h1, h2⟩)
        · cases h; exact ⟨Nat.le_refl _, by simp, hx.1 rfl⟩
        · exact ⟨by omega, h2⟩
      · rintro ⟨h1, h2, h3⟩
        by_cases hk : i = k
        · subst hk
          simp at h2
          subst h2
          exact .inl rfl
        · exact .inr ⟨by omega, h2, h3⟩
    | false =>
      rw [hb] at hx
      simp only [cond_false, ih, key]
      constructor
      · rintro ⟨h1, h2⟩; exact ⟨by omega, h2⟩
      · rintro ⟨h1, h2, h3⟩
        by_cases hk : i = k
        · subst hk
          simp at h2
          subst h2
          exact absurd (hx.2 h3) (by simp)
        · exact ⟨by omega, h2, h3⟩

theorem readyL_t {all : List Oper} {Dn : List Nat} {i : Nat} {o : Oper} : (i, o) ∈ readyL all Dn (List.range all.length) all ↔ Rdy all Dn i o := by
  rw [List.range_eq_range', readyL_go]
  simp [Rdy]

/-- a plan from here on -/
inductive PlanOk (P : Program) (all : List Oper) : List Nat → List Nat → Prop
  | nil (Dn : List Nat) : PlanOk P all Dn []
  | calm {Dn : List Nat} {i : Nat} {o : Oper} {q : List Nat} (h : Rdy all Dn i o) (hc : calmOp P o = true) (hq : PlanOk P all (i :: Dn) q) : PlanOk P all Dn (i :: q)
  | spec {Dn : List Nat} {i : Nat} {o : Oper} {q : List Nat} (h : Rdy all Dn i o) (hs : ∀ j oj, Rdy all Dn j oj → j = i) (hc : calmOp P o = false) (hq : PlanOk P all (i :: Dn) q) : PlanOk P all Dn (i :: q)

theorem plan_ok {all : List Oper} : ∀ (n : Nat) (Dn acc p : List Nat), plan P all n Dn acc = some p → ∃ q, p = acc.reverse ++ q ∧ PlanOk P all Dn q
  | 0, Dn, acc, p, h => by
    simp only [plan] at h
    cases h
    exact ⟨[], by simp, .nil _⟩
  | n + 1, Dn, acc, p, h => by
    simp only [plan] at h
    split at h
    · rename_i i o hf
      obtain ⟨q, h1, h2⟩ := plan_ok n _ _ _ h
      refine ⟨i :: q, by simp [h1], .calm (readyL_t.1 (List.mem_of_find?_eq_some hf)) ?_ h2⟩
      have := List.find?_some hf
      exact this
    · rename_i hf
      split at h
      · rename_i i o hl
        obtain ⟨q, h1, h2⟩ := plan_ok n _ _ _ h
        refine ⟨i :: q, by simp [h1], .spec (o := o) (readyL_t.1 (by rw [hl]; simp)) (fun j oj hj => ?_) ?_ h2⟩
        · have := readyL_t.2 hj
          rw [hl] at this
          simp at this
          exact this.1
        · have hnone := List.find?_eq_none.1 hf (i, o) (by rw [hl]; simp)
          simpa using hnone
      · cases h
end Go.Ai

namespace Go.Ai
open Go
variable {P : Program} {G : Goal P}

theorem put_other {n : Nat} {o : Oper} {u : Option Up} (hu : cDst n o = some u) {s : Nat} {f : Ev} (hf : getE s = some f) (hs : o.dst ≠ some s) (v : AV) (e : Env) : f (put u v e) = f e := by
  unfold cDst at hu
  cases hd : o.dst with
  | none => rw [hd] at hu; cases hu; rfl
  | some t =>
    rw [hd] at hu hs
    simp only at hu
    split at hu
    · rename_i p hp
      cases hb : Nat.blt t n with
      | false => rw [hb] at hu; cases hu
      | true =>
        rw [hb] at hu; cases hu
        show f (p v e) = f e
        rw [getE_setE hf hp, if_neg (fun e => hs (by rw [e]))]
    · cases hu
theorem put_self {n : Nat} {o : Oper} {u : Option Up} (hu : cDst n o = some u) {s : Nat} {f : Ev} (hf : getE s = some f) (hs : o.dst = some s) (v : AV) (e : Env) : f (put u v e) = v ∧ s < n := by
  unfold cDst at hu
  rw [hs] at hu
  simp only at hu
  split at hu
  · rename_i p hp
    cases hb : Nat.blt s n with
    | false => rw [hb] at hu; cases hu
    | true =>
      rw [hb] at hu; cases hu
      refine ⟨?_, by simpa using hb⟩
      show f (p v e) = v
      rw [getE_setE hf hp, if_pos rfl]
  · cases hu

def Agree (T : Nat → Prop) (e e' : Env) : Prop := ∀ s f, T s → getE s = some f → f e' = f e

theorem Agree.rel {T V : Nat → Prop} {e e' : Env} (h : Agree T e e') (hV : ∀ s, V s → T s) {σ : Sub} {n : Nat} {t : Array Value} (r : RelV V σ n e' t) : RelV V σ n e t := ⟨r.size, fun s f hs hf => by
  have := r.slot s f hs hf
  rwa [h s f (hV s hs) hf] at this⟩

theorem guard_agree {all : List Oper} {o : Oper} {g : Option (Ev × Bool)} (hg : cGuard all o = some g) {e e' : Env} (h : Agree (· ∈ tmpsOf all o) e e') : wantedA e' g = wantedA e g := by
  unfold cGuard at hg
  cases hgu : o.guard with
  | none => rw [hgu] at hg; cases hg; rfl
  | some jw =>
    obtain ⟨j, want⟩ := jw
    rw [hgu] at hg
    simp only at hg
    split at hg
    · rename_i oj hj
      split at hg
      · rename_i u hu
        split at hg
        · rename_i f hf
          cases hg
          have hs : u ∈ tmpsOf all o := by
            unfold tmpsOf
            refine List.mem_append.2 (.inr ?_)
            rw [hgu]; simp only; rw [hj]; simp [hu]
          show (match f e' with | .bool b => bif b then want else !want | _ => false) = (match f e with | .bool b => bif b then want else !want | _ => false)
          rw [h u f hs hf]
        · cases hg
      · cases hg
    · cases hg

/-- an operation that is planned, but not yet done -/
def MissAt (P : Program) (n : Nat) (all : List Oper) (σ : Sub) (A A0 : AH) (e : Env) (b : Pa) (oj : Oper) : Prop :=
  ∃ g s f, cGuard all oj = some g ∧ oj.dst = some s ∧ getE s = some f ∧ s < n ∧ calmOp P oj = true ∧
    ((wantedA e g = false ∧ f e = .tuple []) ∨ (wantedA e g = true ∧ allocOp oj = false ∧ PureSem P n oj e A (f e)) ∨
     (wantedA e g = true ∧ allocOp oj = true ∧ ∃ mk obj, f e = mk b ∧ NewSem P n oj e mk obj ∧ σ b = .pend ∧ A.get b = some obj ∧ val A0.next ≤ val b ∧ b.length = 5 ∧ val b < val A.next))

def IsNew (all : List Oper) (e : Env) (o : Oper) : Prop := allocOp o = true ∧ ∀ g, cGuard all o = some g → wantedA e g = true

theorem MissAt.move {n : Nat} {all : List Oper} {σ σ' : Sub} {A A' A0 : AH} {e e' : Env} {b : Pa} {oj : Oper} (h : MissAt P n all σ A A0 e b oj) (ha : Agree (· ∈ tmpsOf all oj) e e') (hd : ∀ s f, oj.dst = some s → getE s = some f → f e' = f e)
    (hp : ∀ v, allocOp oj = false → IsNew all e oj ∨ True → PureSem P n oj e A v → (∀ g, cGuard all oj = some g → wantedA e g = true) → (∀ s f, oj.dst = some s → getE s = some f → f e = v) → PureSem P n oj e' A' v)
    (hnx : val A.next ≤ val A'.next) (hb : IsNew all e oj → σ b = .pend → b.length = 5 → val b < val A.next → σ' b = .pend ∧ A'.get b = A.get b) : MissAt P n all σ' A' A0 e' b oj := by
  obtain ⟨g, s, f, h1, h2, h3, h4, h5, h6⟩ := h
  refine ⟨g, s, f, h1, h2, h3, h4, h5, ?_⟩
  rw [guard_agree h1 ha, hd s f h2 h3]
  have hg : ∀ g', cGuard all oj = some g' → g' = g := fun g' hg' => by rw [h1] at hg'; exact (Option.some.inj hg').symm
  rcases h6 with h6 | ⟨h6, h7, h8⟩ | ⟨h6, h7, mk, obj, h8, h9, h10, h11, h12, h13, h14⟩
  · exact .inl h6
  · refine .inr (.inl ⟨h6, h7, hp _ h7 (.inr trivial) h8 (fun g' hg' => by rw [hg g' hg']; exact h6) (fun s' f' hs' hf' => ?_)⟩)
    rw [h2] at hs'; cases hs'
    rw [h3] at hf'; cases hf'; rfl
  · obtain ⟨k1, k2⟩ := hb ⟨h7, fun g' hg' => by rw [hg g' hg']; exact h6⟩ h10 h13 h14
    refine .inr (.inr ⟨h6, h7, mk, obj, h8, fun σ t w hG hr => h9 σ t w hG (ha.rel (fun s hs => opnd_tmps hs) hr), k1, k2.trans h11, h12, h13, Nat.lt_of_lt_of_le h14 hnx⟩)

theorem PureSem.sub {n : Nat} {o : Oper} {e e' : Env} {A A' : AH} {v : AV} {all : List Oper} (h : PureSem P n o e A v) (hs : A.Sub A') (ha : Agree (· ∈ tmpsOf all o) e e') : PureSem P n o e' A' v :=
  fun A2 σ t w h2 hr hA => h A2 σ t w (hs.trans h2) (ha.rel (fun s hs => opnd_tmps hs) hr) hA

/-- where a region that draws its order stands -/
structure MInv (P : Program) (n : Nat) (ops : Array Oper) (σ0 : Sub) (A0 : AH) (w0 : World) (B : Nat → Pa) (listed : Array Bool) (Dn : List Nat) (e : Env) (A : AH) (σ : Sub) (t : Array Value) (w : World) : Prop where
  sz : listed.size = ops.size
  dn : ∀ i, listed.getD i false = true → i ∈ Dn
  down : ∀ i o, listed.getD i false = true → ops.toList[i]? = some o → ∀ j ∈ ons o, listed.getD j false = true
  dnDown : ∀ i o, i ∈ Dn → ops.toList[i]? = some o → ∀ j ∈ ons o, j ∈ Dn
  rel : Rel σ A w
  env : RelV (fun s => ∀ j oj, j ∈ Dn → listed.getD j false = false → ops.toList[j]? = some oj → oj.dst ≠ some s) σ n e t
  miss : ∀ j oj, j ∈ Dn → listed.getD j false = false → ops.toList[j]? = some oj → MissAt P n ops.toList σ A A0 e (B j) oj
  inj : ∀ j oj j' oj', j ∈ Dn → listed.getD j false = false → ops.toList[j]? = some oj → IsNew ops.toList e oj → j' ∈ Dn → listed.getD j' false = false → ops.toList[j']? = some oj' → IsNew ops.toList e oj' → B j = B j' → j = j'
  ext : Ext σ0 A0 w0 σ A w

theorem MissAt.calm {n : Nat} {all : List Oper} {σ : Sub} {A A0 : AH} {e : Env} {b : Pa} {oj : Oper} (h : MissAt P n all σ A A0 e b oj) : calmOp P oj = true := by
  obtain ⟨g, s, f, _, _, _, _, h5, _⟩ := h; exact h5

theorem calm_defer {o : Oper} (h : calmOp P o = true) (c : Call) : o.op ≠ .defer c := by
  intro hd
  unfold calmOp at h
  rw [hd] at h
  simp at h

variable {n : Nat} {ops : Array Oper} {σ0 : Sub} {A0 : AH} {w0 : World}

/-- one that waited is done -/
theorem miss_step (hR0 : Rel σ0 A0 w0) (htmp : tmpOk P ops.toList (ancs ops.toList []) = true) {b : Frame} {k : List Item} {cs : List Frame} {ds : List Deferred} {B : Nat → Pa} {listed : Array Bool} {Dn : List Nat} {e : Env} {A : AH} {σ : Sub} {t : Array Value} {w : World}
    (I : MInv P n ops σ0 A0 w0 B listed Dn e A σ t w) {i : Nat} {o : Oper} (ho : ops[i]? = some o) (hi : i ∈ Dn) (hl : listed.getD i false = false) (hrdy : ∀ j ∈ ons o, listed.getD j false = true) (rest : List Nat) :
    ∃ σ' t' w', step P (lone (onF b t (.inRegion ops (i :: rest) :: k) ds) cs w) = .next (lone (onF b t' (.inRegion ops rest :: k) ds) cs w') ∧ MInv P n ops σ0 A0 w0 B (listed.setIfInBounds i true) Dn e A σ' t' w' := by
  have hoL : ops.toList[i]? = some o := by simpa using ho
  have hlt : i < listed.size := by rw [I.sz]; exact (Array.getElem?_eq_some_iff.1 ho).1
  have hM := I.miss i o hi hl hoL
  have hcalm := hM.calm
  obtain ⟨g, s, f, hg, hd, hf, hsn, _, hM⟩ := hM
  -- what it reads is there
  have hV : ∀ u ∈ tmpsOf ops.toList o, ∀ j oj, j ∈ Dn → listed.getD j false = false → ops.toList[j]? = some oj → oj.dst ≠ some u := by
    intro u hu j oj hj hjl hoj hdj
    by_cases hji : j = i
    · subst hji
      rw [hoL] at hoj
      cases hoj
      exact tmpOk_self htmp hoL hdj hu
    · rcases (tmpOk_two htmp hoj hoL hji hdj).2 hu with h | ⟨h, h'⟩
      · have := anc_down (D := fun z => listed.getD z false = true) I.down h (fun o' ho' => by rw [hoL] at ho'; cases ho'; exact hrdy)
        rw [hjl] at this; cases this
      · exact h' ⟨(I.miss j oj hj hjl hoj).calm, hcalm⟩
  have hset : ∀ j, (listed.setIfInBounds i true).getD j false = true ↔ j = i ∨ listed.getD j false = true := by
    intro j
    by_cases hji : j = i
    · subst hji; simp [hlt]
    · simp [Ne.symm hji, Array.getD_eq_getD_getElem?, hji]
  have hsetf : ∀ j, (listed.setIfInBounds i true).getD j false = false → j ≠ i ∧ listed.getD j false = false := by
    intro j hj
    constructor
    · intro h; rw [(hset j).2 (.inl h)] at hj; cases hj
    · cases h : listed.getD j false with
      | false => rfl
      | true => rw [(hset j).2 (.inr h)] at hj; cases hj
  have hdown : ∀ i' o', (listed.setIfInBounds i true).getD i' false = true → ops.toList[i']? = some o' → ∀ j ∈ ons o', (listed.setIfInBounds i true).getD j false = true := by
    intro i' o' hi' ho' j hj
    rcases (hset i').1 hi' with rfl | h
    · rw [hoL] at ho'; cases ho'; exact (hset j).2 (.inr (hrdy j hj))
    · exact (hset j).2 (.inr (I.down i' o' h ho' j hj))
  have hdn : ∀ j, (listed.setIfInBounds i true).getD j false = true → j ∈ Dn := fun j hj => by
    rcases (hset j).1 hj with rfl | h
    · exact hi
    · exact I.dn j h
  -- the slot
  have henv : ∀ σ' x, σ.le σ' → VRel σ' (f e) x → RelV (fun u => ∀ j oj, j ∈ Dn → (listed.setIfInBounds i true).getD j false = false → ops.toList[j]? = some oj → oj.dst ≠ some u) σ' n e (putT t o.dst x) := by
    intro σ' x hle hx
    rw [hd]
    refine ⟨by simpa [putT] using I.env.size, fun u fu hu hfu => ?_⟩
    have hst : s < t.size := Nat.lt_of_lt_of_le hsn I.env.size
    by_cases hus : u = s
    · subst hus
      rw [hf] at hfu; cases hfu
      simpa [putT, hst] using hx
    · have := I.env.slot u fu (fun j oj hj hjl hoj => by
        by_cases hji : j = i
        · subst hji; rw [hoL] at hoj; cases hoj; rw [hd]; intro h; cases h; exact hus rfl
        · exact hu j oj hj (by cases h : (listed.setIfInBounds i true).getD j false with
            | false => rfl
            | true => rcases (hset j).1 h with h | h
                      · exact absurd h hji
                      · rw [hjl] at h; cases h) hoj) hfu
      have h2 := this.mono hle
      simpa [putT, Array.getD_eq_getD_getElem?, Array.getElem?_setIfInBounds_ne (Ne.symm hus)] using h2
  have hbase : ∀ σ' t' w', Rel σ' A w' → RelV (fun u => ∀ j oj, j ∈ Dn → (listed.setIfInBounds i true).getD j false = false → ops.toList[j]? = some oj → oj.dst ≠ some u) σ' n e t' → Ext σ0 A0 w0 σ' A w' →
      (∀ j oj, j ∈ Dn → j ≠ i → listed.getD j false = false → ops.toList[j]? = some oj → IsNew ops.toList e oj → σ (B j) = .pend → σ' (B j) = .pend) → MInv P n ops σ0 A0 w0 B (listed.setIfInBounds i true) Dn e A σ' t' w' := by
    intro σ' t' w' h1 h2 h3 h4
    refine ⟨by simpa using I.sz, hdn, hdown, I.dnDown, h1, h2, fun j oj hj hjl hoj => ?_, fun j oj j' oj' hj hjl hoj hn hj' hjl' hoj' hn' => I.inj j oj j' oj' hj (hsetf j hjl).2 hoj hn hj' (hsetf j' hjl').2 hoj' hn', h3⟩
    obtain ⟨q1, q2⟩ := hsetf j hjl
    exact (I.miss j oj hj q2 hoj).move (fun _ _ _ _ => rfl) (fun _ _ _ _ => rfl) (fun v _ _ hp _ _ => hp) (Nat.le_refl _) (fun hn hb _ _ => ⟨h4 j oj hj q1 q2 hoj hn hb, rfl⟩)
  have hw : Region.wanted o (yielded ops t) = wantedA e g := wanted_eq rfl hg hV I.env
  have hopnd : ∀ u, Opnd o u → ∀ j oj, j ∈ Dn → listed.getD j false = false → ops.toList[j]? = some oj → oj.dst ≠ some u := fun u hu => hV u (opnd_tmps hu)
  rcases hM with ⟨h6, h7⟩ | ⟨h6, h7, h8⟩ | ⟨h6, h7, mk, obj, h8, h9, h10, h11, h12, h13, h14⟩
  · exact ⟨σ, _, w, st_op_skip ho (by rw [hw]; exact h6), hbase σ _ w I.rel (henv σ undef (Sub.le.refl _) (by rw [h7]; exact .tuple 0 [] [] #[] .nil)) I.ext (fun _ _ _ _ _ _ _ h => h)⟩
  · obtain ⟨x, hx, hv⟩ := h8 A σ t w (AH.Sub.refl A) (I.env.weak hopnd) I.rel
    exact ⟨σ, _, w, st_op_value ho (calm_defer hcalm) (by rw [hw]; exact h6) hx, hbase σ _ w I.rel (henv σ x (Sub.le.refl _) hv) I.ext (fun _ _ _ _ _ _ _ h => h)⟩
  · obtain ⟨cobj, mkx, sz, hr, hobj⟩ := h9 σ t w I.rel.glob (I.env.weak hopnd)
    have hle : σ.le (σ.upd (B i) w.heap.size 0 sz (csz cobj)) := Sub.le_upd h10 I.rel.fresh_at
    obtain ⟨q1, q2⟩ := hobj (σ.upd (B i) w.heap.size 0 sz (csz cobj)) { w with heap := w.heap.push cobj } (B i) hle (by simp) (Sub.upd_self ..) (Sub.upd_top ..)
    refine ⟨_, _, _, st_op_value ho (calm_defer hcalm) (by rw [hw]; exact h6) hr, hbase _ _ _ (I.rel.place h10 h13 h11 q1) (henv _ _ hle (by rw [h8]; exact q2)) ?_ ?_⟩
    · refine ⟨I.ext.le.trans hle, by have := I.ext.size; simp; omega, fun z hz hno => ?_, fun z hzl hv hz => ?_, I.ext.next, fun z hz hzg => ?_, I.ext.os, I.ext.out⟩
      · obtain ⟨k1, k2⟩ := I.ext.keep z hz hno
        have hzw : z < w.heap.size := Nat.lt_of_lt_of_le hz I.ext.size
        refine ⟨by simp only [Array.getElem?_push, Nat.ne_of_lt hzw, if_false]; exact k1, fun q base s' hq => ?_⟩
        by_cases hqb : q = B i
        · subst hqb; rw [Sub.upd_self] at hq; injection hq with hq; omega
        · rw [Sub.upd_ne hqb] at hq; exact k2 q base s' hq
      · obtain ⟨k1, k2⟩ := I.ext.pend z hzl hv hz
        have : z ≠ B i := fun h => by rw [h] at hv; omega
        exact ⟨by rw [Sub.upd_ne this]; exact k1, k2⟩
      · obtain ⟨k1, k2⟩ := I.ext.same z hz hzg
        have : z ≠ B i := fun h => by rw [h, h10] at k1; rw [h] at hz; exact hz k1.symm
        exact ⟨by rw [Sub.upd_ne this]; exact k1, k2⟩
    · intro j oj hj hji hjl hoj hn hb
      have hni : IsNew ops.toList e o := ⟨h7, fun g' hg' => by rw [hg] at hg'; cases hg'; exact h6⟩
      rw [Sub.upd_ne (fun h => hji (I.inj j oj i o hj hjl hoj hn hi hl hoL hni h))]
      exact hb
end Go.Ai

namespace Go.Ai
open Go
variable {P : Program} {G : Goal P}
variable {n : Nat} {ops : Array Oper} {σ0 : Sub} {A0 : AH} {w0 : World}

theorem calm_kind {all : List Oper} {o : Oper} {co : CO} (hc : calmOp P o = true) (h : Kind1 P n all o co) : ∃ g u run, cGuard all o = some g ∧ cDst n o = some u ∧ cOp P o = some run ∧ co = .op (opF g u run).f := by
  cases h with
  | op g u run hg hu hr => exact ⟨g, u, run, hg, hu, hr, rfl⟩
  | call g u c fo f as hg hu ho hcal hf ha =>
    unfold calmOp at hc
    rw [ho] at hc
    simp [hcal] at hc
  | pan x a hg ho ha =>
    unfold calmOp at hc
    rw [ho] at hc
    simp at hc

/-- one more is planned -/
theorem plan_step (hopP : ∀ n o run, calmOp P o = true → allocOp o = false → cOp P o = some run → SoundP P n o run) (hopN : ∀ n o run, calmOp P o = true → allocOp o = true → cOp P o = some run → SoundN P n o run)
    (hR0 : Rel σ0 A0 w0) (htmp : tmpOk P ops.toList (ancs ops.toList []) = true) {ih : Tk → Bool} {H : KV} {r : KE} {B : Nat → Pa} {listed : Array Bool} {Dn : List Nat} {e : Env} {A : AH} {σ : Sub} {t : Array Value} {w : World}
    (I : MInv P n ops σ0 A0 w0 B listed Dn e A σ t w) {j : Nat} {oj : Oper} (hr : Rdy ops.toList Dn j oj) (hc : calmOp P oj = true) {co : CO} (hco : cOper P n ops.toList oj = some co) (hk : runO1 ih H co r e A = true) :
    ∃ e' A' B', r e' A' = true ∧ A'.ph = A.ph ∧ MInv P n ops σ0 A0 w0 B' listed (j :: Dn) e' A' σ t w := by
  obtain ⟨hoj, hjn, hdeps⟩ := hr
  obtain ⟨g, u, run, hg, hu, hrun, rfl⟩ := calm_kind hc (kind1 hco)
  have hjl : listed.getD j false = false := by
    cases h : listed.getD j false with
    | false => rfl
    | true => exact absurd (I.dn j h) hjn
  have hds : ∃ s f, oj.dst = some s ∧ getE s = some f := by
    have : oj.dst.isSome = true := by unfold calmOp at hc; exact (and_t.1 hc).1
    cases hd : oj.dst with
    | none => rw [hd] at this; cases this
    | some s =>
      have hu' := hu
      unfold cDst at hu'
      rw [hd] at hu'
      simp only at hu'
      split at hu'
      · rename_i p hp
        have : ∃ f, getE s = some f := by
          unfold setE at hp
          unfold getE
          split at hp
          · rename_i a b c ha hb hc'
            rw [nth_get] at hc'
            have h16 := (List.getElem?_eq_some_iff.1 hc').1
            have q2 : ∃ q, nth (G16.gets AV) (Nat.mod s 16) = some q := ⟨(G16.gets AV)[Nat.mod s 16]'h16, by rw [nth_get]; exact List.getElem?_eq_getElem (l := G16.gets AV) h16⟩
            obtain ⟨q, q2⟩ := q2
            rw [ha, q2]
            exact ⟨_, rfl⟩
          · cases hp
        obtain ⟨f, hf⟩ := this
        exact ⟨s, f, rfl, hf⟩
      · cases hu'
  obtain ⟨s, f, hd, hf⟩ := hds
  -- whatever it comes to
  have key : ∀ (v : AV) (A' : AH) (B' : Nat → Pa), (∀ b, b.length = 5 → val b < val A.next → A'.get b = A.get b) → val A.next ≤ val A'.next → (∀ b, A.get b = none → σ b ≠ .pend → A'.get b = none) → A.Sub A' → Rel σ A' w → (∀ k, k ≠ j → B' k = B k) → MissAt P n ops.toList σ A' A0 (put u v e) (B' j) oj →
      (IsNew ops.toList (put u v e) oj → ∀ k, k ∈ Dn → listed.getD k false = false → ∀ ok, ops.toList[k]? = some ok → IsNew ops.toList e ok → B k ≠ B' j) → MInv P n ops σ0 A0 w0 B' listed (j :: Dn) (put u v e) A' σ t w := by
    intro v A' B' hOld hnx hnn hS hA' hB hM hne
    have hother : ∀ k ok, k ∈ Dn → listed.getD k false = false → ops.toList[k]? = some ok → Agree (· ∈ tmpsOf ops.toList ok) e (put u v e) ∧ (∀ s f, ok.dst = some s → getE s = some f → f (put u v e) = f e) := by
      intro k ok hk' hkl hok
      have hkj : j ≠ k := fun h => hjn (h ▸ hk')
      have hkc := (I.miss k ok hk' hkl hok).calm
      refine ⟨fun z fz hz hfz => put_other hu hfz (fun hz' => ?_) v e, fun z fz hz hfz => put_other hu hfz (fun hz' => (tmpOk_two htmp hoj hok hkj hz').1 hz) v e⟩
      rcases (tmpOk_two htmp hoj hok hkj hz').2 hz with h | ⟨_, h⟩
      · exact hjn (anc_down (D := fun z => z ∈ Dn) (fun i o hi ho => I.dnDown i o hi ho) h (fun o ho => I.dnDown k o hk' ho))
      · exact h ⟨hc, hkc⟩
    have hnew : ∀ k ok, k ∈ Dn → listed.getD k false = false → ops.toList[k]? = some ok → IsNew ops.toList (put u v e) ok → IsNew ops.toList e ok := by
      intro k ok hk' hkl hok hn
      exact ⟨hn.1, fun g' hg' => by rw [← guard_agree hg' (hother k ok hk' hkl hok).1]; exact hn.2 g' hg'⟩
    refine ⟨I.sz, fun i hi => List.mem_cons_of_mem _ (I.dn i hi), I.down, fun i o hi ho k hk' => ?_, hA', ?_, fun k ok hk' hkl hok => ?_, ?_, ?_⟩
    · rcases List.mem_cons.1 hi with rfl | hi
      · rw [hoj] at ho; cases ho; exact List.mem_cons_of_mem _ (hdeps k hk')
      · exact List.mem_cons_of_mem _ (I.dnDown i o hi ho k hk')
    · refine ⟨I.env.size, fun z fz hz hfz => ?_⟩
      rw [put_other hu hfz (fun h => hz j oj (by simp) hjl hoj h)]
      exact I.env.slot z fz (fun k ok hk' hkl hok => hz k ok (List.mem_cons_of_mem _ hk') hkl hok) hfz
    · rcases List.mem_cons.1 hk' with rfl | hk'
      · rw [hoj] at hok; cases hok; exact hM
      · have hkj : k ≠ j := fun h => hjn (h ▸ hk')
        rw [hB k hkj]
        obtain ⟨q1, q2⟩ := hother k ok hk' hkl hok
        exact (I.miss k ok hk' hkl hok).move q1 q2 (fun v' _ _ hp _ _ => hp.sub hS q1) hnx (fun hn hb hbl hbn => ⟨hb, hOld _ hbl hbn⟩)
    · intro k ok k' ok' hk' hkl hok hn hk2 hkl2 hok2 hn2 hBB
      rcases List.mem_cons.1 hk' with e1 | m1 <;> rcases List.mem_cons.1 hk2 with e2 | m2
      · rw [e1, e2]
      · have hkj : k' ≠ j := fun h => hjn (h ▸ m2)
        rw [e1] at hok hBB
        rw [hoj] at hok; cases hok
        rw [hB k' hkj] at hBB
        exact absurd hBB.symm (hne hn k' m2 hkl2 ok' hok2 (hnew k' ok' m2 hkl2 hok2 hn2))
      · have hkj : k ≠ j := fun h => hjn (h ▸ m1)
        rw [e2] at hok2 hBB
        rw [hoj] at hok2; cases hok2
        rw [hB k hkj] at hBB
        exact absurd hBB (hne hn2 k m1 hkl ok hok (hnew k ok m1 hkl hok hn))
      · have h1 : k ≠ j := fun h => hjn (h ▸ m1)
        have h2 : k' ≠ j := fun h => hjn (h ▸ m2)
        rw [hB k h1, hB k' h2] at hBB
        exact I.inj k ok k' ok' m1 hkl hok (hnew k ok m1 hkl hok hn) m2 hkl2 hok2 (hnew k' ok' m2 hkl2 hok2 hn2) hBB
    · refine ⟨I.ext.le, I.ext.size, fun z hz hno => ?_, fun z hzl hv hz => ?_, Nat.le_trans I.ext.next hnx, fun z hz hzg => (fun k => ⟨k.1, hnn z k.2 (by rw [k.1]; exact hz)⟩) (I.ext.same z hz hzg), I.ext.os, I.ext.out⟩
      · obtain ⟨k1, k2⟩ := I.ext.keep z hz hno
        exact ⟨k1, fun b base sz hb => by
          obtain ⟨q1, q2⟩ := k2 b base sz hb
          exact ⟨q1, q2.imp (fun h => hnn b h (by rw [hb]; simp)) id⟩⟩
      · obtain ⟨k1, k2⟩ := I.ext.pend z hzl hv hz
        exact ⟨k1, (hOld z hzl (Nat.lt_of_lt_of_le hv I.ext.next)).trans k2⟩
  have hown : ∀ v, Agree (· ∈ tmpsOf ops.toList oj) e (put u v e) := fun v z fz hz hfz => put_other hu hfz (fun h => tmpOk_self htmp hoj h hz) v e
  rcases opF_eq hk with ⟨hw, hk⟩ | ⟨hw, hk⟩
  · cases hal : allocOp oj with
    | false =>
      obtain ⟨v, hK, hs⟩ := hopP n oj run hc hal hrun e A _ hk
      refine ⟨put u v e, A, B, hK, rfl, key v A B (fun _ _ _ => rfl) (Nat.le_refl _) (fun _ h _ => h) (AH.Sub.refl A) I.rel (fun _ _ => rfl) ⟨g, s, f, hg, hd, hf, (put_self hu hf hd v e).2, hc, ?_⟩ (fun h => by rw [IsNew, hal] at h; exact absurd h.1 (by simp))⟩
      rw [guard_agree hg (hown v), (put_self hu hf hd v e).1]
      exact .inr (.inl ⟨hw, hal, hs.sub (AH.Sub.refl A) (hown v)⟩)
    | true =>
      obtain ⟨mk, obj, hn, hK, hs⟩ := hopN n oj run hc hal hrun e A _ hk
      let B' : Nat → Pa := fun k => if k = j then A.next else B k
      have hBj : B' j = A.next := by simp [B']
      have hnl := I.rel.len
      refine ⟨put u (mk A.next) e, A.new obj, B', hK, by simp, key _ _ B' (fun z hz hv => AH.get_new_ne (by rw [hnl, hz]) (fun h => by rw [h] at hv; omega)) (by rw [AH.new_next, inc_val hn]; omega) (fun z hz hzp => by rw [AH.get_new_ne (by rw [hnl, I.rel.len4 hzp]) (fun h => hzp (by rw [h]; exact I.rel.next_pend))]; exact hz) (fun z hz hzn => AH.get_new_ne (by rw [hnl, hz]) (fun h => hzn (h ▸ I.rel.next_none))) (I.rel.new_pend hn obj) (fun k hkj => by simp [B', hkj]) ⟨g, s, f, hg, hd, hf, (put_self hu hf hd (mk A.next) e).2, hc, ?_⟩ (fun _ k hk' hkl ok hok hnk => ?_)⟩
      · rw [guard_agree hg (hown _), (put_self hu hf hd _ e).1, hBj]
        refine .inr (.inr ⟨hw, hal, mk, obj, rfl, fun σ t w hG hr => hs σ t w hG ((hown _).rel (fun z hz => opnd_tmps hz) hr), I.rel.next_pend, AH.get_new_self, I.ext.next, hnl, by rw [AH.new_next, inc_val hn]; omega⟩)
      · rw [hBj]
        obtain ⟨g', s', f', r1, r2, r3, r4, r5, r6⟩ := I.miss k ok hk' hkl hok
        intro hBk
        rcases r6 with ⟨r6, _⟩ | ⟨_, r7, _⟩ | ⟨_, _, mk', obj', _, _, _, r11, _⟩
        · rw [hnk.2 g' r1] at r6; cases r6
        · rw [hnk.1] at r7; cases r7
        · rw [hBk, I.rel.next_none] at r11; cases r11
  · refine ⟨put u (.tuple []) e, A, B, hk, rfl, key _ A B (fun _ _ _ => rfl) (Nat.le_refl _) (fun _ h _ => h) (AH.Sub.refl A) I.rel (fun _ _ => rfl) ⟨g, s, f, hg, hd, hf, (put_self hu hf hd (.tuple []) e).2, hc, ?_⟩ (fun h => ?_)⟩
    · rw [guard_agree hg (hown _), (put_self hu hf hd _ e).1]
      exact .inl ⟨hw, rfl⟩
    · have := h.2 g hg
      rw [guard_agree hg (hown _), hw] at this
      cases this
/- asked again -/
theorem sameC_t {c d : Option Nat} (h : sameC c d = true) : c = d := by
  cases c <;> cases d <;> first | rfl | (cases h; done) | (rw [Nat.eq_of_beq_eq_true h])
theorem samePa_t : ∀ {p q : Pa}, samePa p q = true → p = q
  | [], [], _ => rfl
  | [], _ :: _, h => by cases h
  | _ :: _, [], h => by cases h
  | a :: x, b :: y, h => by
    simp only [samePa] at h
    split at h
    · rename_i hab _; rw [hab, samePa_t h]
    · cases h
theorem bytesEq_t : ∀ {p q : List Nat}, bytesEq p q = true → p = q
  | [], [], _ => rfl
  | [], _ :: _, h => by cases h
  | _ :: _, [], h => by cases h
  | a :: x, b :: y, h => by
    simp only [bytesEq] at h
    cases hb : Nat.beq a b with
    | true => rw [hb] at h; rw [Nat.eq_of_beq_eq_true hb, bytesEq_t h]
    | false => rw [hb] at h; cases h
mutual
theorem sameV_t : ∀ (a b : AV), sameV a b = true → a = b
  | .nat j x, b, h => by
    cases b <;> first | (cases h; done) | skip
    simp only [sameV, Bool.and_eq_true] at h; rw [kEq_t.1 h.1, Nat.eq_of_beq_eq_true h.2]
  | .neg j x, b, h => by
    cases b <;> first | (cases h; done) | skip
    simp only [sameV, Bool.and_eq_true] at h; rw [kEq_t.1 h.1, Nat.eq_of_beq_eq_true h.2]
  | .bool x, b, h => by
    cases b <;> first | (cases h; done) | skip
    rename_i y
    cases x <;> cases y <;> first | rfl | cases h
  | .str x, b, h => by
    cases b <;> first | (cases h; done) | skip
    rw [bytesEq_t h]
  | .nil x, b, h => by
    cases b <;> first | (cases h; done) | skip
    rw [Nat.eq_of_beq_eq_true h]
  | .ref s p i n c, b, h => by
    cases b <;> first | (cases h; done) | skip
    simp only [sameV, Bool.and_eq_true] at h
    obtain ⟨⟨⟨⟨h1, h2⟩, h3⟩, h4⟩, h5⟩ := h
    rw [Nat.eq_of_beq_eq_true h1, samePa_t h2, Nat.eq_of_beq_eq_true h3, Nat.eq_of_beq_eq_true h4, sameC_t h5]
  | .com s x a c, b, h => by
    cases b <;> first | (cases h; done) | skip
    simp only [sameV, Bool.and_eq_true] at h
    obtain ⟨⟨⟨h1, h2⟩, h3⟩, h4⟩ := h
    rw [Nat.eq_of_beq_eq_true h1, Nat.eq_of_beq_eq_true h2, sameL_t _ _ h3, sameL_t _ _ h4]
theorem sameL_t : ∀ (a b : List AV), sameL a b = true → a = b
  | [], [], _ => rfl
  | [], _ :: _, h => by cases h
  | _ :: _, [], h => by cases h
  | a :: x, b :: y, h => by
    simp only [sameL, Bool.and_eq_true] at h
    rw [sameV_t _ _ h.1, sameL_t _ _ h.2]
end

theorem reK_t {n : Nat} {e : Env} {A : AH} {r : KE} : ∀ {l : List RE}, (∀ x ∈ l, ∃ oj, SoundP P n oj x.run) → reK l e A r = true → r e A = true ∧ ∀ x ∈ l, wantedA e x.g = true → ∀ oj, SoundP P n oj x.run → PureSem P n oj e A (x.dst e)
  | [], _, h => ⟨h, by simp⟩
  | x :: l, hs, h => by
    have hs' : ∀ y ∈ l, ∃ oj, SoundP P n oj y.run := fun y hy => hs y (List.mem_cons_of_mem _ hy)
    cases hw : wantedA e x.g with
    | true =>
      simp only [reK, hw, cond_true] at h
      have hx : ∀ oj, SoundP P n oj x.run → PureSem P n oj e A (x.dst e) ∧ reK l e A r = true := fun oj ho => by
        obtain ⟨v, hK, hv⟩ := ho e A _ h
        obtain ⟨h1, h2⟩ := and_t.1 hK
        rw [sameV_t _ _ h1] at hv
        exact ⟨hv, h2⟩
      obtain ⟨oj0, ho0⟩ := hs x (by simp)
      obtain ⟨h1, h2⟩ := reK_t hs' (hx oj0 ho0).2
      refine ⟨h1, fun y hy hwy oj ho => ?_⟩
      rcases List.mem_cons.1 hy with rfl | hy
      · exact (hx oj ho).1
      · exact h2 y hy hwy oj ho
    | false =>
      simp only [reK, hw, cond_false] at h
      obtain ⟨h1, h2⟩ := reK_t hs' h
      refine ⟨h1, fun y hy hwy oj ho => ?_⟩
      rcases List.mem_cons.1 hy with rfl | hy
      · rw [hw] at hwy; cases hwy
      · exact h2 y hy hwy oj ho

theorem cRe_t {all : List Oper} {i : Nat} : ∀ {done : List Nat} {l : List RE}, cRe P all (ancs all []) i done = some l →
    (∀ x ∈ l, ∃ oj, calmOp P oj = true ∧ allocOp oj = false ∧ cOp P oj = some x.run) ∧
    ∀ j ∈ done, ∀ oj, all[j]? = some oj → calmOp P oj = true → allocOp oj = false → ¬ Anc all j i → ∃ x ∈ l, cGuard all oj = some x.g ∧ cOp P oj = some x.run ∧ ∃ s, oj.dst = some s ∧ getE s = some x.dst
  | [], l, h => by cases h; simp
  | j :: r, l, h => by
    simp only [cRe] at h
    split at h
    · rename_i l' oj Si h1 h2 h3
      obtain ⟨k1, k2⟩ := cRe_t h1
      rw [nth_get] at h2
      cases hb : memN j Si || !calmOp P oj || allocOp oj with
      | true =>
        rw [hb] at h
        cases h
        refine ⟨k1, fun j' hj' oj' hoj' hc ha hn => ?_⟩
        rcases List.mem_cons.1 hj' with rfl | hj'
        · rw [h2] at hoj'; cases hoj'
          rw [hc, ha] at hb
          simp at hb
          exact absurd (ancs_anc h3 hb) hn
        · exact k2 j' hj' oj' hoj' hc ha hn
      | false =>
        rw [hb] at h
        simp only [cond_false] at h
        simp only [Bool.or_eq_false_iff, Bool.not_eq_false'] at hb
        split at h
        · rename_i g run t hg hrun ht
          split at h
          · rename_i f hf
            cases h
            refine ⟨fun x hx => ?_, fun j' hj' oj' hoj' hc ha hn => ?_⟩
            · rcases List.mem_cons.1 hx with rfl | hx
              · exact ⟨oj, hb.1.2, hb.2, hrun⟩
              · exact k1 x hx
            · rcases List.mem_cons.1 hj' with rfl | hj'
              · rw [h2] at hoj'; cases hoj'
                exact ⟨_, List.mem_cons_self .., hg, hrun, t, ht, hf⟩
              · obtain ⟨x, hx, q⟩ := k2 j' hj' oj' hoj' hc ha hn
                exact ⟨x, List.mem_cons_of_mem _ hx, q⟩
          · cases h
        · cases h
    · cases h

/-- a special one is done -/
theorem spec_step (hopP : ∀ n o run, calmOp P o = true → allocOp o = false → cOp P o = some run → SoundP P n o run)
    (htmp : tmpOk P ops.toList (ancs ops.toList []) = true) {B : Nat → Pa} {listed : Array Bool} {Dn : List Nat} {e : Env} {A : AH} {σ : Sub} {t : Array Value} {w : World}
    (I : MInv P n ops σ0 A0 w0 B listed Dn e A σ t w) {i : Nat} {o : Oper} (hr : Rdy ops.toList Dn i o) (hrdy : ∀ j ∈ ons o, listed.getD j false = true) {re : List RE} (hre : cRe P ops.toList (ancs ops.toList []) i Dn = some re)
    {u : Option Up} (hu : cDst n o = some u) {v : AV} {A' : AH} {σ' : Sub} {x : Value} {w' : World} {r : KE} (hk : reK re (put u v e) A' r = true) (hX : Ext σ A w σ' A' w') (hA' : Rel σ' A' w') (hv : VRel σ' v x) :
    r (put u v e) A' = true ∧ MInv P n ops σ0 A0 w0 B (listed.setIfInBounds i true) (i :: Dn) (put u v e) A' σ' (putT t o.dst x) w' := by
  obtain ⟨hoL, hin, hdeps⟩ := hr
  have ho : ops[i]? = some o := by simpa using hoL
  have hlt : i < listed.size := by rw [I.sz]; exact (Array.getElem?_eq_some_iff.1 ho).1
  obtain ⟨c1, c2⟩ := cRe_t hre
  obtain ⟨hk1, hk2⟩ := reK_t (P := P) (n := n) (fun x hx => by obtain ⟨oj, a, b, c⟩ := c1 x hx; exact ⟨oj, hopP n oj _ a b c⟩) hk
  refine ⟨hk1, ?_⟩
  have hset : ∀ j, (listed.setIfInBounds i true).getD j false = true ↔ j = i ∨ listed.getD j false = true := by
    intro j
    by_cases hji : j = i
    · subst hji; simp [hlt]
    · simp [Ne.symm hji, Array.getD_eq_getD_getElem?, hji]
  have hsetf : ∀ j, (listed.setIfInBounds i true).getD j false = false → j ≠ i ∧ listed.getD j false = false := by
    intro j hj
    constructor
    · intro h; rw [(hset j).2 (.inl h)] at hj; cases hj
    · cases h : listed.getD j false with
      | false => rfl
      | true => rw [(hset j).2 (.inr h)] at hj; cases hj
  have hnanc : ∀ k, listed.getD k false = false → ¬ Anc ops.toList k i := fun k hk h => by
    have := anc_down (D := fun z => listed.getD z false = true) I.down h (fun o' ho' => by rw [hoL] at ho'; cases ho'; exact hrdy)
    rw [hk] at this; cases this
  have hother : ∀ k ok, k ∈ Dn → listed.getD k false = false → ops.toList[k]? = some ok → Agree (· ∈ tmpsOf ops.toList ok) e (put u v e) ∧ (∀ s f, ok.dst = some s → getE s = some f → f (put u v e) = f e) := by
    intro k ok hk' hkl hok
    have hki : i ≠ k := fun h => hin (h ▸ hk')
    refine ⟨fun z fz hz hfz => put_other hu hfz (fun hz' => ?_) v e, fun z fz hz hfz => put_other hu hfz (fun hz' => (tmpOk_two htmp hoL hok hki hz').1 hz) v e⟩
    rcases (tmpOk_two htmp hoL hok hki hz').2 hz with h | ⟨h, _⟩
    · exact hin (anc_down (D := fun z => z ∈ Dn) (fun i o hi ho => I.dnDown i o hi ho) h (fun o ho => I.dnDown k o hk' ho))
    · exact hnanc k hkl h
  have hnew : ∀ k ok, k ∈ Dn → listed.getD k false = false → ops.toList[k]? = some ok → IsNew ops.toList (put u v e) ok → IsNew ops.toList e ok := by
    intro k ok hk' hkl hok hn
    exact ⟨hn.1, fun g' hg' => by rw [← guard_agree hg' (hother k ok hk' hkl hok).1]; exact hn.2 g' hg'⟩
  have hmem : ∀ k, k ∈ i :: Dn → (listed.setIfInBounds i true).getD k false = false → k ∈ Dn ∧ listed.getD k false = false := fun k hk hkl => by
    obtain ⟨q1, q2⟩ := hsetf k hkl
    exact ⟨(List.mem_cons.1 hk).resolve_left q1, q2⟩
  refine ⟨by simpa using I.sz, fun j hj => ?_, fun j oj hj hoj k hk' => ?_, fun j oj hj hoj k hk' => ?_, hA', ?_, fun k ok hk' hkl hok => ?_, fun k ok k' ok' hk' hkl hok hn hk2 hkl2 hok2 hn2 => ?_, I.ext.trans hX⟩
  · rcases (hset j).1 hj with rfl | h
    · simp
    · exact List.mem_cons_of_mem _ (I.dn j h)
  · rcases (hset j).1 hj with rfl | h
    · rw [hoL] at hoj; cases hoj; exact (hset k).2 (.inr (hrdy k hk'))
    · exact (hset k).2 (.inr (I.down j oj h hoj k hk'))
  · rcases List.mem_cons.1 hj with rfl | hj
    · rw [hoL] at hoj; cases hoj; exact List.mem_cons_of_mem _ (hdeps k hk')
    · exact List.mem_cons_of_mem _ (I.dnDown j oj hj hoj k hk')
  · refine putT_put (I.env.mono hX.le) hu (fun s hs => ?_) hv
    by_cases h : o.dst = some s
    · exact .inl h
    · refine .inr fun j oj hj hjl hoj => hs j oj (List.mem_cons_of_mem _ hj) ?_ hoj
      cases hq : (listed.setIfInBounds i true).getD j false with
      | false => rfl
      | true =>
        rcases (hset j).1 hq with rfl | h'
        · exact absurd hj hin
        · rw [hjl] at h'; cases h'
  · obtain ⟨hkd, hkl'⟩ := hmem k hk' hkl
    obtain ⟨q1, q2⟩ := hother k ok hkd hkl' hok
    have hM := I.miss k ok hkd hkl' hok
    have hkc := hM.calm
    refine hM.move q1 q2 (fun v' hal _ hp hwant hval => ?_) hX.next (fun hn hb hbl hbn => hX.pend _ hbl hbn hb)
    obtain ⟨y, hy, hyg, hyr, s, hs, hsd⟩ := c2 k hkd ok hok hkc hal (hnanc k hkl')
    have hw : wantedA (put u v e) y.g = true := by rw [guard_agree hyg q1]; exact hwant _ hyg
    have := hk2 y hy hw ok (hopP n ok _ hkc hal hyr)
    rwa [q2 s _ hs hsd, hval s _ hs hsd] at this
  · obtain ⟨a1, a2⟩ := hmem k hk' hkl
    obtain ⟨b1, b2⟩ := hmem k' hk2 hkl2
    exact I.inj k ok k' ok' a1 a2 hok (hnew k ok a1 a2 hok hn) b1 b2 hok2 (hnew k' ok' b1 b2 hok2 hn2)
end Go.Ai

namespace Go.Ai
open Go
variable {P : Program} {G : Goal P}

/-- how many are not yet listed -/
def leftN (ops : Array Oper) (listed : Array Bool) : Nat := (List.range ops.size).countP fun i => !listed.getD i false

theorem count_one {p p' : Nat → Bool} {i : Nat} (hi : p i = true) (hi' : p' i = false) (hne : ∀ j, j ≠ i → p' j = p j) : ∀ (l : List Nat), l.Nodup → i ∈ l → l.countP p' + 1 = l.countP p := by
  intro l
  induction l with
  | nil => intro _ h; cases h
  | cons x xs ih =>
    intro hnd hm
    obtain ⟨hnx, hnd⟩ := List.nodup_cons.1 hnd
    rw [List.countP_cons, List.countP_cons]
    rcases List.mem_cons.1 hm with rfl | hm
    · have : xs.countP p' = xs.countP p := by
        apply List.countP_congr
        intro j hj
        rw [hne j (fun e => hnx (e ▸ hj))]
      rw [this, hi, hi']
      simp
    · have hxi : x ≠ i := fun e => hnx (e ▸ hm)
      rw [hne x hxi]
      have := ih hnd hm
      omega

theorem leftN_set {ops : Array Oper} {listed : Array Bool} {i : Nat} (hi : i < ops.size) (hsz : listed.size = ops.size) (h : listed.getD i false = false) : leftN ops (listed.setIfInBounds i true) + 1 = leftN ops listed := by
  refine count_one (i := i) (by simp only [h, Bool.not_false]) ?_ (fun j hj => ?_) _ List.nodup_range (List.mem_range.2 hi)
  · simp [hsz, hi]
  · simp [Array.getD_eq_getD_getElem?, Array.getElem?_setIfInBounds_ne (Ne.symm hj)]

theorem leftN_zero {ops : Array Oper} {listed : Array Bool} (h : leftN ops listed = 0) : ∀ i, i < ops.size → listed.getD i false = true := by
  intro i hi
  have := List.countP_eq_zero.1 h i (List.mem_range.2 hi)
  simpa using this

theorem go_pick (ops : Array Oper) (fuel t : Nat) (listed : Array Bool) : (Region.ready .any ops listed = [] ∧ Region.linearise.go .any ops (fuel + 1) t listed [] = []) ∨
    ∃ i t', i ∈ Region.ready .any ops listed ∧ Region.linearise.go .any ops (fuel + 1) t listed [] = i :: Region.linearise.go .any ops fuel t' (listed.setIfInBounds i true) [] := by
  simp only [Region.linearise.go]
  change (Region.ready .any ops listed = [] ∧ (match (Region.ready .any ops listed)[t % (Region.ready .any ops listed).length]? with
      | some i => Region.linearise.go .any ops fuel (t / (Region.ready .any ops listed).length) (listed.setIfInBounds i true) [i]
      | none => [].reverse) = []) ∨ ∃ i t', i ∈ Region.ready .any ops listed ∧ (match (Region.ready .any ops listed)[t % (Region.ready .any ops listed).length]? with
      | some i => Region.linearise.go .any ops fuel (t / (Region.ready .any ops listed).length) (listed.setIfInBounds i true) [i]
      | none => [].reverse) = i :: Region.linearise.go .any ops fuel t' (listed.setIfInBounds i true) []
  cases hi : (Region.ready .any ops listed)[t % (Region.ready .any ops listed).length]? with
  | none =>
    left
    refine ⟨?_, rfl⟩
    cases hr : Region.ready .any ops listed with
    | nil => rfl
    | cons x xs =>
      rw [hr] at hi
      have hlt : t % (x :: xs).length < (x :: xs).length := Nat.mod_lt _ (by simp)
      simp at hi
      simp at hlt
      omega
  | some i =>
    right
    refine ⟨i, t / (Region.ready .any ops listed).length, List.mem_of_getElem? hi, ?_⟩
    dsimp only
    rw [linearise_go_acc]
    rfl

theorem ons_t {o : Oper} {j : Nat} : j ∈ ons o ↔ ∃ e ∈ o.after, Region.binds .any e = true ∧ e.on = j := by
  unfold ons
  simp only [List.mem_map, List.mem_filter, Array.mem_toList_iff]
  constructor
  · rintro ⟨e, ⟨h1, h2⟩, h3⟩; exact ⟨e, h1, h2, h3⟩
  · rintro ⟨e, h1, h2, h3⟩; exact ⟨e, ⟨h1, h2⟩, h3⟩

theorem ready_some {ops : Array Oper} (hback : backOk ops.toList = true) {listed : Array Bool} (hsz : listed.size = ops.size) (h : leftN ops listed ≠ 0) : Region.ready .any ops listed ≠ [] := by
  -- the first that is not listed
  have : ∃ i, i < ops.size ∧ listed.getD i false = false := by
    apply Classical.byContradiction
    intro hn
    refine h (List.countP_eq_zero.2 fun i hi => ?_)
    have hi' := List.mem_range.1 hi
    cases hl : listed.getD i false with
    | true => simp
    | false => exact absurd ⟨i, hi', hl⟩ hn
  have hmin : ∃ i, (i < ops.size ∧ listed.getD i false = false) ∧ ∀ j, j < i → ¬ (j < ops.size ∧ listed.getD j false = false) := by
    obtain ⟨i, hi⟩ := this
    induction i using Nat.strongRecOn with
    | _ i ih =>
      by_cases hq : ∃ j, j < i ∧ (j < ops.size ∧ listed.getD j false = false)
      · obtain ⟨j, hj, hj'⟩ := hq; exact ih j hj hj'
      · exact ⟨i, hi, fun j hj hj' => hq ⟨j, hj, hj'⟩⟩
  obtain ⟨i, ⟨hi, hl⟩, hm⟩ := hmin
  intro hr
  have hmem : i ∈ Region.ready .any ops listed := by
    rw [mem_ready]
    refine ⟨by simpa [hsz, hi, Array.getD] using hl, ops[i], Array.getElem?_eq_getElem hi, fun e he hb => ?_⟩
    have hlt : e.on < i := by
      unfold backOk at hback
      rw [List.all_eq_true] at hback
      have := hback i (List.mem_range.2 (by simpa using hi))
      rw [nth_get] at this
      have hoi : ops.toList[i]? = some ops[i] := by simp [hi]
      rw [hoi] at this
      simp only [List.all_eq_true] at this
      simpa using this e.on (ons_t.2 ⟨e, he, hb, rfl⟩)
    cases hq : listed.getD e.on false with
    | true => rfl
    | false => exact absurd ⟨by omega, hq⟩ (hm e.on hlt)
  rw [hr] at hmem
  cases hmem

variable {n : Nat} {ops : Array Oper} {σ0 : Sub} {A0 : AH} {w0 : World}

theorem mix_go {ih : Tk → Bool} (IH : ∀ t, ih t = true → TaskS G t) (hop : ∀ n o run, cOp P o = some run → Sound P n o run) (hopP : ∀ n o run, calmOp P o = true → allocOp o = false → cOp P o = some run → SoundP P n o run) (hopN : ∀ n o run, calmOp P o = true → allocOp o = true → cOp P o = some run → SoundN P n o run)
    (hR0 : Rel σ0 A0 w0) (htmp : tmpOk P ops.toList (ancs ops.toList []) = true) (hback : backOk ops.toList = true) {X : Ctx} {H : KV} {r : KE} {ds : List Deferred} (hds : DsOk X.calm X.lo σ0 w0 ds) (hr : KEs G X r σ0 A0 w0) (hH : KHs G X H σ0 A0 w0) :
    ∀ (fuel : Nat) (q : List Nat) (Dn : List Nat) (l : List (CO × List RE)) (tt : Nat) (listed : Array Bool) (B : Nat → Pa) (e : Env) (A : AH) (σ : Sub) (t : Array Value) (w : World),
      MInv P X.n ops σ0 A0 w0 B listed Dn e A σ t w → PlanOk P ops.toList Dn q → cPlan P X.n ops.toList (ancs ops.toList []) Dn q = some l → (∀ i, i < ops.size → i ∈ Dn ∨ i ∈ q) → leftN ops listed = fuel → runM ih H r l e A = true →
      G.ok A.ph (lone (onF X.b t (.inRegion ops (Region.linearise.go .any ops fuel tt listed []) :: X.k) ds) X.cs w) := by
  intro fuel
  induction fuel with
  | zero =>
    intro q Dn l tt listed B e A σ t w I hP hl hfull hleft hk
    have hall := leftN_zero hleft
    have hq : q = [] := by
      cases hP with
      | nil => rfl
      | calm h hc hq => exact absurd (I.dn _ (hall _ (by have := (List.getElem?_eq_some_iff.1 h.1).1; simpa using this))) h.2.1
      | spec h hs hc hq => exact absurd (I.dn _ (hall _ (by have := (List.getElem?_eq_some_iff.1 h.1).1; simpa using this))) h.2.1
    subst hq
    cases hl
    have : Region.linearise.go .any ops 0 tt listed [] = [] := rfl
    rw [this]
    refine G.back st_region_end (hr e A σ t ds w hk I.ext I.rel (I.env.weak fun s _ j oj hj hjl hoj => ?_) (hds.ext I.ext))
    have := hall j (by have := (List.getElem?_eq_some_iff.1 hoj).1; simpa using this)
    rw [this] at hjl; cases hjl
  | succ fuel ihf =>
    intro q
    induction q with
    | nil =>
      intro Dn l tt listed B e A σ t w I hP hl hfull hleft hk
      rcases go_pick ops fuel tt listed with ⟨h, _⟩ | ⟨i, t', hi, hgo⟩
      · exact absurd h (ready_some hback I.sz (by omega))
      · rw [hgo]
        obtain ⟨hil, o, ho, hdeps⟩ := mem_ready.1 hi
        have hlt := (Array.getElem?_eq_some_iff.1 ho).1
        have hil' : listed.getD i false = false := by have hs : i < listed.size := (by rw [I.sz]; exact hlt); simpa [Array.getD, hs] using hil
        have hdn : i ∈ Dn := (hfull i hlt).resolve_right (by simp)
        obtain ⟨σ', t2, w', hst, I'⟩ := miss_step hR0 htmp (k := X.k) (cs := X.cs) (ds := ds) (b := X.b) I ho hdn hil' (fun j hj => by obtain ⟨ed, h1, h2, rfl⟩ := ons_t.1 hj; exact hdeps ed h1 h2) (Region.linearise.go .any ops fuel t' (listed.setIfInBounds i true) [])
        have := leftN_set hlt I.sz hil'
        exact G.back hst (ihf [] Dn l t' _ B e A σ' t2 w' I' hP hl hfull (by omega) hk)
    | cons j q ihq =>
      intro Dn l tt listed B e A σ t w I hP hl hfull hleft hk
      rcases go_pick ops fuel tt listed with ⟨h, _⟩ | ⟨i, t', hi, hgo⟩
      · exact absurd h (ready_some hback I.sz (by omega))
      · obtain ⟨hil, o, ho, hdeps⟩ := mem_ready.1 hi
        have hlt := (Array.getElem?_eq_some_iff.1 ho).1
        have hil' : listed.getD i false = false := by have hs : i < listed.size := (by rw [I.sz]; exact hlt); simpa [Array.getD, hs] using hil
        have hrdy : ∀ j ∈ ons o, listed.getD j false = true := fun j hj => by obtain ⟨ed, h1, h2, rfl⟩ := ons_t.1 hj; exact hdeps ed h1 h2
        have hoL : ops.toList[i]? = some o := by simpa using ho
        have hl2 := leftN_set hlt I.sz hil'
        by_cases hdn : i ∈ Dn
        · rw [hgo]
          obtain ⟨σ', t2, w', hst, I'⟩ := miss_step hR0 htmp (k := X.k) (cs := X.cs) (ds := ds) (b := X.b) I ho hdn hil' hrdy (Region.linearise.go .any ops fuel t' (listed.setIfInBounds i true) [])
          exact G.back hst (ihf (j :: q) Dn l t' _ B e A σ' t2 w' I' hP hl hfull (by omega) hk)
        · -- the plan goes on
          simp only [cPlan] at hl
          split at hl
          · rename_i oj hoj
            rw [nth_get] at hoj
            split at hl
            · rename_i co l' re h1 h2 h3
              cases hl
              cases hP with
              | calm h hc hq =>
                have hojj := h.1
                rw [hoj] at hojj
                cases hojj
                rw [hc] at h3
                cases h3
                have hk' : runO1 ih H co (runM ih H r l') e A = true := hk
                obtain ⟨e', A', B', hk2, hph, I'⟩ := plan_step hopP hopN hR0 htmp I h hc h1 hk'
                rw [← hph]
                exact ihq (j :: Dn) l' tt listed B' e' A' σ t w I' hq h2 (fun z hz => by
                  rcases hfull z hz with h | h
                  · exact .inl (List.mem_cons_of_mem _ h)
                  · rcases List.mem_cons.1 h with rfl | h
                    · exact .inl (List.mem_cons_self ..)
                    · exact .inr h) hleft hk2
              | spec h hs hc hq =>
                have hojj := h.1
                rw [hoj] at hojj
                cases hojj
                have hij : i = j := hs i o ⟨hoL, hdn, fun z hz => I.dn z (hrdy z hz)⟩
                subst hij
                rw [hoL] at hoj
                cases hoj
                rw [hc] at h3
                simp only [cond_false] at h3
                rw [hgo]
                have hk' : runO1 ih H co (fun e A => reK re e A (runM ih H r l')) e A = true := hk
                refine op1_sound IH hop rfl ho h1 hk' (V := fun s => ∀ j oj, j ∈ Dn → listed.getD j false = false → ops.toList[j]? = some oj → oj.dst ≠ some s) I.env ?_ I.rel (hds.ext I.ext) ?_ (hH.ext I.ext)
                · intro s hs' k ok hk'' hkl hok hdk
                  have hki : k ≠ i := fun e => hdn (e ▸ hk'')
                  rcases (tmpOk_two htmp hok hoL hki hdk).2 hs' with h' | ⟨h', _⟩
                  · have := anc_down (D := fun z => listed.getD z false = true) I.down h' (fun o' ho' => by rw [hoL] at ho'; cases ho'; exact hrdy)
                    rw [hkl] at this; cases this
                  · exact hdn (anc_down (D := fun z => z ∈ Dn) (fun i o hi ho => I.dnDown i o hi ho) h' (fun o ho => I.dnDown k o hk'' ho))
                · intro v A' σ' x w' u hu hk2 hX hA' hv
                  obtain ⟨hk3, I'⟩ := spec_step hopP htmp I h hrdy h3 hu hk2 hX hA' hv
                  exact ihf q (i :: Dn) l' t' _ B _ A' σ' _ w' I' hq h2 (fun z hz => by
                    rcases hfull z hz with h | h
                    · exact .inl (List.mem_cons_of_mem _ h)
                    · rcases List.mem_cons.1 h with rfl | h
                      · exact .inl (List.mem_cons_self ..)
                      · exact .inr h) (by omega) hk3
            · cases hl
          · cases hl

theorem mix_sound (hmo : P.follows .mixedOrders = true) {ih : Tk → Bool} (IH : ∀ t, ih t = true → TaskS G t) (hop : ∀ n o run, cOp P o = some run → Sound P n o run) (hopP : ∀ n o run, calmOp P o = true → allocOp o = false → cOp P o = some run → SoundP P n o run)
    (hopN : ∀ n o run, calmOp P o = true → allocOp o = true → cOp P o = some run → SoundN P n o run) : MixS G ih := by
  intro X H r id ops p l e A σ t ds w htmp hback hp hfull hl hk hE hA hds hr hH
  refine G.back st_region_draw ?_
  have hsch : ∀ tt, Region.schedule (P.follows .mixedOrders) ops tt = Region.linearise.go .any ops ops.size tt (Array.replicate ops.size false) [] := fun tt => by
    simp [Region.schedule, hmo, Region.linearise]
  rw [hsch]
  obtain ⟨q, hpq, hP⟩ := plan_ok _ _ _ _ hp
  simp only [List.reverse_nil, List.nil_append] at hpq
  subst hpq
  obtain ⟨hA1, hX1⟩ := hA.same (w2 := { w with drawn := w.drawn + 1 }) (fun _ _ => rfl) (Nat.le_refl _) rfl rfl
  have hno : ∀ i, (Array.replicate ops.size false).getD i false = false := fun i => by
    simp [Array.getD_eq_getD_getElem?, Array.getElem?_replicate]; split <;> rfl
  have hleft : leftN ops (Array.replicate ops.size false) = ops.size := by
    unfold leftN
    have : (List.range ops.size).countP (fun i => !(Array.replicate ops.size false).getD i false) = (List.range ops.size).length := List.countP_eq_length.2 fun i _ => by rw [hno]; rfl
    rw [this]; simp
  refine mix_go IH hop hopP hopN (σ0 := σ) (A0 := A) (w0 := { w with drawn := w.drawn + 1 }) hA1 htmp hback (hds.ext hX1) (hr.ext hX1) (hH.ext hX1) ops.size p [] l _ _ (fun _ => []) e A σ t _
    ⟨by simp, fun i hi => (by rw [hno] at hi; cases hi), fun i o hi => (by rw [hno] at hi; cases hi), fun i o hi => (by simp at hi), hA1, hE.weak fun _ _ => trivial, fun j oj hj => (by simp at hj), fun j oj j' oj' hj => (by simp at hj), Ext.refl ..⟩
    hP hl (fun i hi => .inr ?_) hleft hk
  unfold fullOk at hfull
  rw [List.all_eq_true] at hfull
  exact memN_t.1 (hfull i (List.mem_range.2 (by simpa using hi)))
end Go.Ai
