/- A part of the proof that the abstract interpreter is sound, and of the two goroutines of the lexer. -/
import Derived.Test.YticjebnbcnphkaaGreatDoorZS6
import Derived.Laws.StructEq
import Derived.DeepKeys

set_option linter.unusedSimpArgs false
set_option linter.unusedVariables false
set_option linter.unusedSectionVars false

namespace Go.Ai
open Go
variable {P : Program}

/-- numbers, texts and truths that are compared -/
def EqV (xv yv : Value) (b : Bool) : Prop :=
  (∃ j p q, xv = .int j p ∧ yv = .int j q ∧ (p == q) = b) ∨ (∃ s t, xv = .string s ∧ yv = .string t ∧ (s.toList == t.toList) = b)

theorem beq_nat {a b : Nat} : Nat.beq a b = (a == b) := by rw [Bool.eq_iff_iff, beq_t]; simp

theorem eqS_sound {x y : AV} {f : Bool → Bool} (h : eqS x y f = true) : ∃ b, f b = true ∧ ∀ σ xv yv, VRel σ x xv → VRel σ y yv → EqV xv yv b := by
  have hcast : ∀ p q : Nat, ((p : Int) == (q : Int)) = (p == q) := fun p q => by rw [Bool.eq_iff_iff]; simp; omega
  unfold eqS at h
  split at h
  · split at h
    · obtain ⟨h1, h2⟩ := kEq_and h
      subst h1
      refine ⟨_, h2, fun σ xv yv hx hy => .inl ⟨_, _, _, nat_inv hx, nat_inv hy, ?_⟩⟩
      rw [beq_nat]; exact hcast _ _
    · obtain ⟨h1, h2⟩ := kEq_and h
      subst h1
      exact ⟨_, h2, fun σ xv yv hx hy => .inl ⟨_, _, _, nat_inv hx, neg_inv hy, rfl⟩⟩
    · cases h
  · split at h
    · obtain ⟨h1, h2⟩ := kEq_and h
      subst h1
      refine ⟨_, h2, fun σ xv yv hx hy => .inl ⟨_, _, _, neg_inv hx, neg_inv hy, ?_⟩⟩
      rw [beq_nat, Bool.eq_iff_iff]; simp
    · obtain ⟨h1, h2⟩ := kEq_and h
      subst h1
      exact ⟨_, h2, fun σ xv yv hx hy => .inl ⟨_, _, _, neg_inv hx, nat_inv hy, rfl⟩⟩
    · cases h
  · obtain ⟨b, hy, h1⟩ := asStr_t.1 h
    subst hy
    refine ⟨_, h1, fun σ xv yv hx hy => ?_⟩
    obtain ⟨hx1, ha⟩ := str_inv hx
    obtain ⟨hy1, hb⟩ := str_inv hy
    exact .inr ⟨_, _, hx1, hy1, by rw [bytes_list, bytes_list, bytesEq_eq _ _ ha hb]⟩
  · cases h
theorem eqI_sound {x y : AV} {f : Bool → Bool} (h : eqI x y f = true) : ∃ b, f b = true ∧ ∀ σ xv yv, VRel σ x xv → VRel σ y yv → ∃ j p q, xv = .int j p ∧ yv = .int j q ∧ (p == q) = b := by
  have hs : eqS x y f = true ∧ ∀ s, x ≠ .str s := by
    unfold eqI at h
    split at h
    · cases h
    · rename_i hne; exact ⟨h, fun s e => hne s e⟩
  obtain ⟨b, hb, hr⟩ := eqS_sound hs.1
  refine ⟨b, hb, fun σ xv yv hx hy => ?_⟩
  rcases hr σ xv yv hx hy with h1 | ⟨s, t, h1, _⟩
  · exact h1
  · subst h1
    cases hx with
    | str s _ => exact absurd rfl (hs.2 s)
theorem eqStr_sound {x y : AV} {f : Bool → Bool} (h : eqStr x y f = true) : ∃ b, f b = true ∧ ∀ σ xv yv, VRel σ x xv → VRel σ y yv → ∃ s t, xv = .string s ∧ yv = .string t ∧ (s.toList == t.toList) = b := by
  obtain ⟨a, hx, h1⟩ := asStr_t.1 h
  obtain ⟨b, hy, h2⟩ := asStr_t.1 h1
  subst hx; subst hy
  refine ⟨_, h2, fun σ xv yv hx hy => ?_⟩
  obtain ⟨hx1, ha⟩ := str_inv hx
  obtain ⟨hy1, hb⟩ := str_inv hy
  exact ⟨_, _, hx1, hy1, by rw [bytes_list, bytes_list, bytesEq_eq _ _ ha hb]⟩
theorem eqB_sound {x y : AV} {f : Bool → Bool} (h : eqB x y f = true) : ∃ b, f b = true ∧ ∀ σ xv yv, VRel σ x xv → VRel σ y yv → ∃ p q, xv = .bool p ∧ yv = .bool q ∧ (p == q) = b := by
  obtain ⟨a, hx, h1⟩ := asBool_t.1 h
  obtain ⟨b, hy, h2⟩ := asBool_t.1 h1
  subst hx; subst hy
  exact ⟨_, h2, fun σ xv yv hx hy => ⟨_, _, bool_inv hx, bool_inv hy, by cases a <;> cases b <;> rfl⟩⟩

/-- the type that a field's kind stands for -/
def KindOk (P : Program) (k : Nat) (t : TypeId) : Prop := (k = 0 ∧ ∃ q, P.underlying t = some (.int q)) ∨ (k = 1 ∧ P.underlying t = some .string) ∨ (k = 2 ∧ P.underlying t = some .bool)

theorem eqTy_sound {k : Nat} {x y : AV} {f : Bool → Bool} (h : eqTy k x y f = true) : ∃ b, f b = true ∧ ∀ σ xv yv t d w, VRel σ x xv → VRel σ y yv → KindOk P k t → (Op.equalIn (d + 1) t xv yv).run P w = .ok b w := by
  unfold eqTy at h
  cases h0 : Nat.beq k 0 with
  | true =>
    rw [h0] at h
    have := Nat.eq_of_beq_eq_true h0
    subst this
    obtain ⟨b, hb, hr⟩ := eqI_sound h
    refine ⟨b, hb, fun σ xv yv t d w hx hy hk => ?_⟩
    obtain ⟨j, p, q, h1, h2, h3⟩ := hr σ xv yv hx hy
    rcases hk with ⟨_, q', hk⟩ | ⟨hk, _⟩ | ⟨hk, _⟩
    · rw [h1, h2, run_equalIn_int w d t j q' p q hk, h3]
    · cases hk
    · cases hk
  | false =>
    rw [h0] at h
    simp only [cond_false] at h
    cases h1 : Nat.beq k 1 with
    | true =>
      rw [h1] at h
      have := Nat.eq_of_beq_eq_true h1
      subst this
      obtain ⟨b, hb, hr⟩ := eqStr_sound h
      refine ⟨b, hb, fun σ xv yv t d w hx hy hk => ?_⟩
      obtain ⟨p, q, h1, h2, h3⟩ := hr σ xv yv hx hy
      rcases hk with ⟨hk, _⟩ | ⟨_, hk⟩ | ⟨hk, _⟩
      · cases hk
      · rw [h1, h2, run_equalIn_string w d t p q hk, h3]
      · cases hk
    | false =>
      rw [h1] at h
      obtain ⟨b, hb, hr⟩ := eqB_sound h
      refine ⟨b, hb, fun σ xv yv t d w hx hy hk => ?_⟩
      obtain ⟨p, q, g1, g2, g3⟩ := hr σ xv yv hx hy
      rcases hk with ⟨hk, _⟩ | ⟨hk, _⟩ | ⟨_, hk⟩
      · subst hk; cases h0
      · subst hk; cases h1
      · rw [g1, g2, run_equalIn_bool w d t p q hk, g3]

theorem kind_agg {k : Nat} {t : TypeId} (h : KindOk P k t) (w : World) : (Go.isAgg t).run P w = .ok false w := by
  rcases h with ⟨_, q, h⟩ | ⟨_, h⟩ | ⟨_, h⟩ <;> simp [Go.isAgg, run_underlying h w]
theorem part_run {k : Nat} {t : TypeId} (h : KindOk P k t) {cs : Array Value} {off : Nat} {v : Value} (hv : cs[off]? = some v) (w : World) : (part t cs off).run P w = .ok v w := by
  simp [part, kind_agg h w, hv]
theorem drop_cons {xs : List Value} {i : Nat} {v : Value} {r : List Value} (h : xs.drop i = v :: r) : xs[i]? = some v ∧ xs.drop (i + 1) = r := by
  constructor
  · have : (xs.drop i)[0]? = some v := by rw [h]; rfl
    rwa [List.getElem?_drop, Nat.add_zero] at this
  · have : (xs.drop i).drop 1 = r := by rw [h]; rfl
    rwa [List.drop_drop] at this

theorem eqL_fields : ∀ (fs : List Field) (i : Nat) (ks : List Nat) (a b : List AV) (f : Bool → Bool), flatS P i fs = some ks → eqL ks a b f = true →
    ∃ r, f r = true ∧ ∀ (σ : Ai.Sub) (xs ys : Array Value) d w, VRels σ a (xs.toList.drop i) → VRels σ b (ys.toList.drop i) → (Op.eqFields (d + 1) xs ys fs).run P w = .ok r w
  | [], i, ks, a, b, f, hf, h => by
    cases hf
    cases a <;> cases b <;> first | (cases h; done) | exact ⟨true, h, fun _ _ _ _ _ _ _ => rfl⟩
  | fd :: fs, i, ks, a, b, f, hf, h => by
    have hk : ∃ k l, flatS P (i + 1) fs = some l ∧ ks = k :: l ∧ KindOk P k fd.type ∧ fd.offset = i ∧ fd.name ≠ "_" := by
      simp only [flatS] at hf
      split at hf
      · rename_i l q h1 h2
        cases hb : (Nat.beq fd.offset i && fd.name != "_") with
        | true => rw [hb] at hf; cases hf; obtain ⟨b1, b2⟩ := and_t.1 hb; exact ⟨0, l, h1, rfl, .inl ⟨rfl, _, h2⟩, Nat.eq_of_beq_eq_true b1, by simpa using b2⟩
        | false => rw [hb] at hf; cases hf
      · rename_i l h1 h2
        cases hb : (Nat.beq fd.offset i && fd.name != "_") with
        | true => rw [hb] at hf; cases hf; obtain ⟨b1, b2⟩ := and_t.1 hb; exact ⟨1, l, h1, rfl, .inr (.inl ⟨rfl, h2⟩), Nat.eq_of_beq_eq_true b1, by simpa using b2⟩
        | false => rw [hb] at hf; cases hf
      · rename_i l h1 h2
        cases hb : (Nat.beq fd.offset i && fd.name != "_") with
        | true => rw [hb] at hf; cases hf; obtain ⟨b1, b2⟩ := and_t.1 hb; exact ⟨2, l, h1, rfl, .inr (.inr ⟨rfl, h2⟩), Nat.eq_of_beq_eq_true b1, by simpa using b2⟩
        | false => rw [hb] at hf; cases hf
      · cases hf
    obtain ⟨k, l, h1, rfl, hkd, hoff, hnm⟩ := hk
    cases a with
    | nil => cases h
    | cons x xs0 => cases b with
      | nil => cases h
      | cons y ys0 =>
        simp only [eqL] at h
        obtain ⟨r, hr, hs⟩ := eqTy_sound (P := P) h
        have run1 : ∀ (σ : Ai.Sub) (xs ys : Array Value) d w, VRels σ (x :: xs0) (xs.toList.drop i) → VRels σ (y :: ys0) (ys.toList.drop i) → (Op.eqFields (d + 1) xs ys (fd :: fs)).run P w = (if r = true then (Op.eqFields (d + 1) xs ys fs).run P w else .ok false w) ∧ VRels σ xs0 (xs.toList.drop (i + 1)) ∧ VRels σ ys0 (ys.toList.drop (i + 1)) := by
          intro σ xs ys d w hx hy
          generalize hxd : xs.toList.drop i = xd at hx
          generalize hyd : ys.toList.drop i = yd at hy
          cases hx with
          | cons hx1 hx2 => cases hy with
            | cons hy1 hy2 =>
              obtain ⟨e1, e2⟩ := drop_cons hxd
              obtain ⟨e3, e4⟩ := drop_cons hyd
              refine ⟨?_, by rw [e2]; exact hx2, by rw [e4]; exact hy2⟩
              have p1 := part_run (P := P) hkd (cs := xs) (off := fd.offset) (by rw [hoff]; simpa using e1) w
              have p2 := part_run (P := P) hkd (cs := ys) (off := fd.offset) (by rw [hoff]; simpa using e3) w
              have p3 := hs σ _ _ fd.type d w hx1 hy1 hkd
              simp only [Op.eqFields, hnm, ne_eq, not_false_eq_true, if_true, Sem.run_bind, p1, p2, p3, Result.andThen_ok]
              cases r <;> simp
        cases r with
        | true =>
          obtain ⟨r', hr', hs'⟩ := eqL_fields fs (i + 1) l xs0 ys0 f h1 hr
          refine ⟨r', hr', fun σ xs ys d w hx hy => ?_⟩
          obtain ⟨q1, q2, q3⟩ := run1 σ xs ys d w hx hy
          rw [q1, if_pos rfl]
          exact hs' σ xs ys d w q2 q3
        | false =>
          refine ⟨false, hr, fun σ xs ys d w hx hy => ?_⟩
          obtain ⟨q1, _, _⟩ := run1 σ xs ys d w hx hy
          rw [q1]; rfl

theorem eqL_items {e : TypeId} (hkd : KindOk P 0 e) : ∀ (m i : Nat) (a b : List AV) (f : Bool → Bool), eqL (List.replicate m 0) a b f = true →
    ∃ r, f r = true ∧ ∀ (σ : Ai.Sub) (xs ys : Array Value) d w, VRels σ a (xs.toList.drop i) → VRels σ b (ys.toList.drop i) → (Op.eqItems (d + 1) e 1 xs ys (List.range' i m)).run P w = .ok r w
  | 0, i, a, b, f, h => by
    cases a <;> cases b <;> first | (cases h; done) | exact ⟨true, h, fun _ _ _ _ _ _ _ => rfl⟩
  | m + 1, i, a, b, f, h => by
    cases a with
    | nil => cases h
    | cons x xs0 => cases b with
      | nil => cases h
      | cons y ys0 =>
        simp only [List.replicate_succ, eqL] at h
        obtain ⟨r, hr, hs⟩ := eqTy_sound (P := P) h
        have run1 : ∀ (σ : Ai.Sub) (xs ys : Array Value) d w, VRels σ (x :: xs0) (xs.toList.drop i) → VRels σ (y :: ys0) (ys.toList.drop i) → (Op.eqItems (d + 1) e 1 xs ys (List.range' i (m + 1))).run P w = (if r = true then (Op.eqItems (d + 1) e 1 xs ys (List.range' (i + 1) m)).run P w else .ok false w) ∧ VRels σ xs0 (xs.toList.drop (i + 1)) ∧ VRels σ ys0 (ys.toList.drop (i + 1)) := by
          intro σ xs ys d w hx hy
          generalize hxd : xs.toList.drop i = xd at hx
          generalize hyd : ys.toList.drop i = yd at hy
          cases hx with
          | cons hx1 hx2 => cases hy with
            | cons hy1 hy2 =>
              obtain ⟨e1, e2⟩ := drop_cons hxd
              obtain ⟨e3, e4⟩ := drop_cons hyd
              refine ⟨?_, by rw [e2]; exact hx2, by rw [e4]; exact hy2⟩
              have p1 := part_run (P := P) hkd (cs := xs) (off := i * 1) (by simpa using e1) w
              have p2 := part_run (P := P) hkd (cs := ys) (off := i * 1) (by simpa using e3) w
              have p3 := hs σ _ _ e d w hx1 hy1 hkd
              simp only [List.range'_succ, Op.eqItems, Sem.run_bind, p1, p2, p3, Result.andThen_ok]
              cases r <;> simp
        cases r with
        | true =>
          obtain ⟨r', hr', hs'⟩ := eqL_items hkd m (i + 1) xs0 ys0 f hr
          refine ⟨r', hr', fun σ xs ys d w hx hy => ?_⟩
          obtain ⟨q1, q2, q3⟩ := run1 σ xs ys d w hx hy
          rw [q1, if_pos rfl]
          exact hs' σ xs ys d w q2 q3
        | false =>
          refine ⟨false, hr, fun σ xs ys d w hx hy => ?_⟩
          obtain ⟨q1, _, _⟩ := run1 σ xs ys d w hx hy
          rw [q1]; rfl

/-- what may be nil -/
def NilV (kd : Nat) (v : Value) (b : Bool) : Prop :=
  (kd = 0 ∧ ∃ a, v = .pointer a ∧ a.isNone = b) ∨ (kd = 1 ∧ ∃ a n c, v = .slice a n c ∧ a.isNone = b) ∨ (kd = 2 ∧ ∃ a, v = .map a ∧ a.isNone = b) ∨
  (kd = 3 ∧ ((b = true ∧ v = .nilFunc) ∨ (b = false ∧ ∃ fn x c, v = .func fn x c))) ∨ (kd = 4 ∧ ((b = true ∧ v = .nilIface) ∨ (b = false ∧ ∃ t x, v = .iface t x)))

theorem nilOf_sound {kd : Nat} {y : AV} {f : Bool → Bool} (h : nilOf kd y f = true) (hk : kd < 5) : ∃ b, f b = true ∧ ∀ σ yv, VRel σ y yv → NilV kd yv b := by
  unfold nilOf at h
  split at h
  · rename_i t
    cases hb : Nat.beq t kd with
    | true =>
      rw [hb] at h
      have := Nat.eq_of_beq_eq_true hb
      subst this
      refine ⟨true, h, fun σ yv hy => ?_⟩
      cases hy with
      | nilp => exact .inl ⟨rfl, _, rfl, rfl⟩
      | nils => exact .inr (.inl ⟨rfl, _, _, _, rfl, rfl⟩)
      | nilm => exact .inr (.inr (.inl ⟨rfl, _, rfl, rfl⟩))
      | nilf => exact .inr (.inr (.inr (.inl ⟨rfl, .inl ⟨rfl, rfl⟩⟩)))
      | nili => exact .inr (.inr (.inr (.inr ⟨rfl, .inl ⟨rfl, rfl⟩⟩)))
      | emp a c => omega
    | false =>
      rw [hb] at h
      obtain ⟨h1, h2⟩ := and_t.1 h
      obtain ⟨h3, h4⟩ := and_t.1 h1
      have e1 := Nat.eq_of_beq_eq_true h3
      have e2 := Nat.eq_of_beq_eq_true h4
      subst e1; subst e2
      refine ⟨false, h2, fun σ yv hy => ?_⟩
      cases hy with
      | emp a c => exact .inr (.inl ⟨rfl, _, _, _, rfl, rfl⟩)
  · obtain ⟨h1, h2⟩ := and_t.1 h
    have := Nat.eq_of_beq_eq_true h1
    subst this
    refine ⟨false, h2, fun σ yv hy => ?_⟩
    cases hy with
    | ptr => exact .inl ⟨rfl, _, rfl, rfl⟩
    | slc => exact .inr (.inl ⟨rfl, _, _, _, rfl, rfl⟩)
    | map => exact .inr (.inr (.inl ⟨rfl, _, rfl, rfl⟩))
    | yld => exact .inr (.inr (.inr (.inl ⟨rfl, .inr ⟨rfl, _, _, _, rfl⟩⟩)))
  · obtain ⟨h1, h2⟩ := and_t.1 h
    obtain ⟨h3, h4⟩ := and_t.1 h1
    have := Nat.eq_of_beq_eq_true h3
    subst this
    refine ⟨false, h2, fun σ yv hy => ?_⟩
    cases hy with
    | agg => cases h4
    | tuple => cases h4
    | func => exact .inr (.inr (.inr (.inl ⟨rfl, .inr ⟨rfl, _, _, _, rfl⟩⟩)))
    | iface => exact .inr (.inr (.inr (.inr ⟨rfl, .inr ⟨rfl, _, _, rfl⟩⟩)))
    | atl => omega
  · cases h

def NilTy (P : Program) (kd : Nat) (t : TypeId) : Prop := (kd = 0 ∧ ∃ e, P.underlying t = some (.pointer e)) ∨ (kd = 1 ∧ ∃ e, P.underlying t = some (.slice e)) ∨ (kd = 2 ∧ ∃ a b, P.underlying t = some (.map a b)) ∨
  (kd = 3 ∧ ∃ a b c, P.underlying t = some (.func a b c)) ∨ (kd = 4 ∧ ∃ ms, P.underlying t = some (.interface ms))

theorem eqNil_sound {kd : Nat} {x y : AV} {f : Bool → Bool} (h : eqNil kd x y f = true) (hk : kd < 5) : ∃ b, f b = true ∧ ∀ σ xv yv t d w, VRel σ x xv → VRel σ y yv → NilTy P kd t → (Op.equalIn (d + 1) t xv yv).run P w = .ok b w ∧ ∃ p q, NilV kd xv p ∧ NilV kd yv q := by
  obtain ⟨p, h1, hp⟩ := nilOf_sound h hk
  obtain ⟨q, h2, hq⟩ := nilOf_sound h1 hk
  have hb : f (p && q) = true ∧ (p = true ∨ q = true) := by
    cases p with
    | true => exact ⟨by simpa using h2, .inl rfl⟩
    | false => obtain ⟨h3, h4⟩ := and_t.1 h2; exact ⟨h4, .inr h3⟩
  refine ⟨p && q, hb.1, fun σ xv yv t d w hx hy ht => ⟨?_, p, q, hp σ xv hx, hq σ yv hy⟩⟩
  have h3 := hp σ xv hx
  have h4 := hq σ yv hy
  have h5 := hb.2
  clear h h1 h2 hp hq hb
  rcases ht with ⟨rfl, e, ht⟩ | ⟨rfl, e, ht⟩ | ⟨rfl, e, e', ht⟩ | ⟨rfl, e, e', e'', ht⟩ | ⟨rfl, ms, ht⟩
  · rcases h3 with ⟨_, a, rfl, ha⟩ | ⟨h, _⟩ | ⟨h, _⟩ | ⟨h, _⟩ | ⟨h, _⟩ <;> try (cases h; done)
    rcases h4 with ⟨_, b, rfl, hb⟩ | ⟨h, _⟩ | ⟨h, _⟩ | ⟨h, _⟩ | ⟨h, _⟩ <;> try (cases h; done)
    subst ha; subst hb
    cases a <;> cases b <;> simp [Op.equalIn, run_underlying ht w] at h5 ⊢
  · rcases h3 with ⟨h, _⟩ | ⟨_, a, n, c, rfl, ha⟩ | ⟨h, _⟩ | ⟨h, _⟩ | ⟨h, _⟩ <;> try (cases h; done)
    rcases h4 with ⟨h, _⟩ | ⟨_, b, n', c', rfl, hb⟩ | ⟨h, _⟩ | ⟨h, _⟩ | ⟨h, _⟩ <;> try (cases h; done)
    subst ha; subst hb
    cases a <;> cases b <;> simp [Op.equalIn, run_underlying ht w] at h5 ⊢
  · rcases h3 with ⟨h, _⟩ | ⟨h, _⟩ | ⟨_, a, rfl, ha⟩ | ⟨h, _⟩ | ⟨h, _⟩ <;> try (cases h; done)
    rcases h4 with ⟨h, _⟩ | ⟨h, _⟩ | ⟨_, b, rfl, hb⟩ | ⟨h, _⟩ | ⟨h, _⟩ <;> try (cases h; done)
    subst ha; subst hb
    cases a <;> cases b <;> simp [Op.equalIn, run_underlying ht w] at h5 ⊢
  · rcases h3 with ⟨h, _⟩ | ⟨h, _⟩ | ⟨h, _⟩ | ⟨_, ⟨rfl, rfl⟩ | ⟨rfl, fn, xx, cc, rfl⟩⟩ | ⟨h, _⟩ <;> try (cases h; done)
    all_goals (rcases h4 with ⟨h, _⟩ | ⟨h, _⟩ | ⟨h, _⟩ | ⟨_, ⟨rfl, rfl⟩ | ⟨rfl, fn', xx', cc', rfl⟩⟩ | ⟨h, _⟩ <;> try (cases h; done))
    all_goals (simp [Op.equalIn, run_underlying ht w] at h5 ⊢)
  · rcases h3 with ⟨h, _⟩ | ⟨h, _⟩ | ⟨h, _⟩ | ⟨h, _⟩ | ⟨_, ⟨rfl, rfl⟩ | ⟨rfl, ty, xx, rfl⟩⟩ <;> try (cases h; done)
    all_goals (rcases h4 with ⟨h, _⟩ | ⟨h, _⟩ | ⟨h, _⟩ | ⟨h, _⟩ | ⟨_, ⟨rfl, rfl⟩ | ⟨rfl, ty', xx', rfl⟩⟩ <;> try (cases h; done))
    all_goals (simp [Op.equalIn, run_underlying ht w] at h5 ⊢)
end Go.Ai

namespace Go.Ai
open Go
variable {P : Program}

def BQ (op : BinOp) (t : TypeId) (x y : Operand) (a b : Value) : Sem Value := do eqGuard op t x y a b; binOp op t a b

theorem bq_of {op : BinOp} {t : TypeId} {x y : Operand} {a b v : Value} {w : World} (hg : (eqGuard op t x y a b).run P w = .ok () w) (hb : (binOp op t a b).run P w = .ok v w) : (BQ op t x y a b).run P w = .ok v w := by
  unfold BQ
  rw [Sem.run_bind, hg]
  exact hb

/-- both of two comparisons -/
def Both (P : Program) (t : TypeId) (x y : Operand) (xv yv : Value) (b : Bool) (w : World) : Prop := (BQ .eql t x y xv yv).run P w = .ok (.bool b) w ∧ (BQ .neq t x y xv yv).run P w = .ok (.bool (!b)) w

theorem both_equal {t : TypeId} {x y : Operand} {xv yv : Value} {b : Bool} {w : World} (hg : ∀ op, (eqGuard op t x y xv yv).run P w = .ok () w) (h : (Op.equal t xv yv).run P w = .ok b w) (h1 : binOp .eql t xv yv = (do pure (.bool (← Op.equal t xv yv)))) (h2 : binOp .neq t xv yv = (do pure (.bool (!(← Op.equal t xv yv))))) : Both P t x y xv yv b w :=
  ⟨bq_of (hg _) (by rw [h1]; simp [h]), bq_of (hg _) (by rw [h2]; simp [h])⟩

theorem eqT_sound {t : TypeId} {x y : Operand} {q : AV → AV → (Bool → Bool) → Bool} (hq : eqT P t (isCst x || isCst y) = some q) {v v2 : AV} {f : Bool → Bool} (h : q v v2 f = true) :
    ∃ b, f b = true ∧ ∀ (σ : Ai.Sub) w xv yv, VRel σ v xv → VRel σ v2 yv → Both P t x y xv yv b w := by
  unfold eqT at hq
  have equal_def : ∀ xv yv, Op.equal t xv yv = Op.equalIn (9999 + 1) t xv yv := fun _ _ => rfl
  -- what may be nil, but for interfaces
  have nils : ∀ kd, kd < 4 → NilTy P kd t → eqNil kd v v2 f = true → ∃ b, f b = true ∧ ∀ (σ : Ai.Sub) w xv yv, VRel σ v xv → VRel σ v2 yv → Both P t x y xv yv b w := by
    intro kd hk ht h
    obtain ⟨b, hb, hr⟩ := eqNil_sound (P := P) h (by omega)
    refine ⟨b, hb, fun σ w xv yv hx hy => ?_⟩
    obtain ⟨h1, p, q, h2, h3⟩ := hr σ xv yv t 9999 w hx hy ht
    have hsh : (∀ op, (eqGuard op t x y xv yv).run P w = .ok () w) ∧ binOp .eql t xv yv = (do pure (.bool (← Op.equal t xv yv))) ∧ binOp .neq t xv yv = (do pure (.bool (!(← Op.equal t xv yv)))) := by
      rcases h2 with ⟨rfl, a, rfl, _⟩ | ⟨rfl, a, n, c, rfl, _⟩ | ⟨rfl, a, rfl, _⟩ | ⟨rfl, ⟨_, rfl⟩ | ⟨_, fn, xx, cc, rfl⟩⟩ | ⟨rfl, _⟩
      · rcases h3 with ⟨_, b, rfl, _⟩ | ⟨h, _⟩ | ⟨h, _⟩ | ⟨h, _⟩ | ⟨h, _⟩ <;> first | (cases h; done) | exact ⟨fun op => by cases op <;> simp [eqGuard], rfl, rfl⟩
      · rcases h3 with ⟨h, _⟩ | ⟨_, b, n', c', rfl, _⟩ | ⟨h, _⟩ | ⟨h, _⟩ | ⟨h, _⟩ <;> first | (cases h; done) | exact ⟨fun op => by cases op <;> simp [eqGuard], rfl, rfl⟩
      · rcases h3 with ⟨h, _⟩ | ⟨h, _⟩ | ⟨_, b, rfl, _⟩ | ⟨h, _⟩ | ⟨h, _⟩ <;> first | (cases h; done) | exact ⟨fun op => by cases op <;> simp [eqGuard], rfl, rfl⟩
      · rcases h3 with ⟨h, _⟩ | ⟨h, _⟩ | ⟨h, _⟩ | ⟨_, ⟨_, rfl⟩ | ⟨_, fn', xx', cc', rfl⟩⟩ | ⟨h, _⟩ <;> first | (cases h; done) | exact ⟨fun op => by cases op <;> simp [eqGuard], rfl, rfl⟩
      · rcases h3 with ⟨h, _⟩ | ⟨h, _⟩ | ⟨h, _⟩ | ⟨_, ⟨_, rfl⟩ | ⟨_, fn', xx', cc', rfl⟩⟩ | ⟨h, _⟩ <;> first | (cases h; done) | exact ⟨fun op => by cases op <;> simp [eqGuard], rfl, rfl⟩
      · omega
    exact both_equal hsh.1 (by rw [equal_def]; exact h1) hsh.2.1 hsh.2.2
  split at hq
  · cases hq
    obtain ⟨b, hb, hr⟩ := eqI_sound h
    refine ⟨b, hb, fun σ w xv yv hx hy => ?_⟩
    obtain ⟨j, p, q, rfl, rfl, h3⟩ := hr σ xv yv hx hy
    exact ⟨bq_of (by simp [eqGuard]) (by simp [binOp, Op.intCmp, h3]), bq_of (by simp [eqGuard]) (by simp [binOp, Op.intCmp, bne, h3])⟩
  · cases hq
    obtain ⟨b, hb, hr⟩ := eqStr_sound h
    refine ⟨b, hb, fun σ w xv yv hx hy => ?_⟩
    obtain ⟨p, q, rfl, rfl, h3⟩ := hr σ xv yv hx hy
    exact ⟨bq_of (by simp [eqGuard]) (by simp only [binOp, Op.stringOp, h3, Sem.run_pure]), bq_of (by simp [eqGuard]) (by simp only [binOp, Op.stringOp, h3, Sem.run_pure])⟩
  · rename_i ht
    cases hq
    obtain ⟨b, hb, hr⟩ := eqB_sound h
    refine ⟨b, hb, fun σ w xv yv hx hy => ?_⟩
    obtain ⟨p, q, rfl, rfl, h3⟩ := hr σ xv yv hx hy
    exact both_equal (fun op => by cases op <;> simp [eqGuard]) (by rw [equal_def, run_equalIn_bool w _ t p q ht, h3]) rfl rfl
  · rename_i e ht; cases hq; exact nils 0 (by omega) (.inl ⟨rfl, _, ht⟩) h
  · rename_i e ht; cases hq; exact nils 1 (by omega) (.inr (.inl ⟨rfl, _, ht⟩)) h
  · rename_i e e' ht; cases hq; exact nils 2 (by omega) (.inr (.inr (.inl ⟨rfl, _, _, ht⟩))) h
  · rename_i e e' e'' ht; cases hq; exact nils 3 (by omega) (.inr (.inr (.inr (.inl ⟨rfl, _, _, _, ht⟩)))) h
  · rename_i ms ht
    cases hc : isCst x || isCst y with
    | false => rw [hc] at hq; cases hq
    | true =>
      rw [hc] at hq
      cases hq
      obtain ⟨b, hb, hr⟩ := eqNil_sound (P := P) h (by omega)
      refine ⟨b, hb, fun σ w xv yv hx hy => ?_⟩
      obtain ⟨h1, p, q, h2, h3⟩ := hr σ xv yv t 9999 w hx hy (.inr (.inr (.inr (.inr ⟨rfl, _, ht⟩))))
      have hcc : ((match x with | .const _ => true | _ => false) || (match y with | .const _ => true | _ => false)) = true := by
        cases x <;> cases y <;> first | rfl | (simp [isCst] at hc; done)
      have hsh : (∀ op, (eqGuard op t x y xv yv).run P w = .ok () w) ∧ binOp .eql t xv yv = (do pure (.bool (← Op.equal t xv yv))) ∧ binOp .neq t xv yv = (do pure (.bool (!(← Op.equal t xv yv)))) := by
        rcases h2 with ⟨h, _⟩ | ⟨h, _⟩ | ⟨h, _⟩ | ⟨h, _⟩ | ⟨_, ⟨_, rfl⟩ | ⟨_, ty, xx, rfl⟩⟩ <;> try (cases h; done)
        · rcases h3 with ⟨h, _⟩ | ⟨h, _⟩ | ⟨h, _⟩ | ⟨h, _⟩ | ⟨_, ⟨_, rfl⟩ | ⟨_, ty', xx', rfl⟩⟩ <;> try (cases h; done)
          · refine ⟨fun op => ?_, rfl, rfl⟩
            cases op <;> first | (simp [eqGuard]; done) | (cases x <;> cases y <;> first | (simp [eqGuard]; done) | (simp at hcc))
          · exact ⟨fun op => by cases op <;> simp [eqGuard], rfl, rfl⟩
        · rcases h3 with ⟨h, _⟩ | ⟨h, _⟩ | ⟨h, _⟩ | ⟨h, _⟩ | ⟨_, ⟨_, rfl⟩ | ⟨_, ty', xx', rfl⟩⟩ <;> first | (cases h; done) | exact ⟨fun op => by cases op <;> simp [eqGuard], rfl, rfl⟩
      exact both_equal hsh.1 (by rw [equal_def]; exact h1) hsh.2.1 hsh.2.2
  · -- an array
    rename_i n el ht
    cases hgd : P.eqGuardType P.depth t with
    | true => rw [hgd] at hq; cases hq
    | false =>
      rw [hgd] at hq
      simp only [cond_false] at hq
      split at hq
      · rename_i k hel
        split at hq
        · rename_i hsz
          cases hq
          obtain ⟨_, a, _, hva, h⟩ := asCom_t.1 h
          obtain ⟨_, b, _, hvb, h⟩ := asCom_t.1 h
          subst hva; subst hvb
          obtain ⟨r, hr, hs⟩ := eqL_items (P := P) (e := el) (.inl ⟨rfl, _, hel⟩) n 0 a b f h
          refine ⟨r, hr, fun σ w xv yv hx hy => ?_⟩
          cases hx with
          | agg _ _ _ vs _ hvs => cases hy with
            | agg _ _ _ us _ hus =>
              have := hs σ vs us 9998 w (by simpa using hvs) (by simpa using hus)
              obtain ⟨i, hi, hsz'⟩ := size_t hsz
              have hrun : (Op.equal t (.agg vs) (.agg us)).run P w = .ok r w := by
                rw [equal_def, run_equalIn_array w 9999 vs us ht hi, show P.cellsOf el = 1 by simp [Program.cellsOf, hi, hsz'], List.range_eq_range']
                exact this
              exact both_equal (fun op => run_eqGuard_agg w op t x y vs us hgd) hrun rfl rfl
        · cases hq
      · cases hq
  · -- a struct
    rename_i fs ht
    cases hgd : (P.eqGuardType P.depth t || P.stoodInHeld t) with
    | true => rw [hgd] at hq; cases hq
    | false =>
      rw [hgd] at hq
      simp only [cond_false] at hq
      obtain ⟨hg1, hg2⟩ := Bool.or_eq_false_iff.1 hgd
      split at hq
      · rename_i ks hks
        cases hq
        obtain ⟨_, a, _, hva, h⟩ := asCom_t.1 h
        obtain ⟨_, b, _, hvb, h⟩ := asCom_t.1 h
        subst hva; subst hvb
        obtain ⟨r, hr, hs⟩ := eqL_fields (P := P) fs.toList 0 ks a b f hks h
        refine ⟨r, hr, fun σ w xv yv hx hy => ?_⟩
        cases hx with
        | agg _ _ _ vs _ hvs => cases hy with
          | agg _ _ _ us _ hus =>
            have := hs σ vs us 9998 w (by simpa using hvs) (by simpa using hus)
            have hfs : P.fieldsOf t = fs := by simp [Program.fieldsOf, ht]
            have hrun : (Op.equal t (.agg vs) (.agg us)).run P w = .ok r w := by
              rw [equal_def, run_equalIn_struct w 9999 t vs us (by rw [hfs]; exact ht) hg2, hfs]
              exact this
            exact both_equal (fun op => run_eqGuard_agg w op t x y vs us hg1) hrun rfl rfl
      · cases hq
  · cases hq

/- and, or, exclusive or -/
theorem maxOf_le (k : IntKind) : maxOf k ≤ 2 ^ k.bits := by cases k <;> decide
theorem bv_toNat {k : IntKind} {a : Nat} (h : a < maxOf k) : (BitVec.ofInt k.bits (Int.ofNat a)).toNat = a := by
  have := maxOf_le k
  have h2 : a < 2 ^ k.bits := by omega
  show (BitVec.ofInt k.bits ((a : Nat) : Int)).toNat = a
  rw [BitVec.ofInt_natCast, BitVec.toNat_ofNat, Nat.mod_eq_of_lt h2]

theorem bits_sound {g : Nat → Nat → Nat} {op : BinOp} {t : TypeId} (hrun : ∀ (j : IntKind) (a b : Nat) (w : World), a < maxOf j → b < maxOf j → (binOp op t (.int j (.ofNat a)) (.int j (.ofNat b))).run P w = .ok (.int j (j.wrap (.ofNat (g a b)))) w)
    {x y : AV} {f : AV → Bool} (h : bitK g x y f = true) : ∃ u, f u = true ∧ BinG P (binOp op t) x y u := by
  obtain ⟨j, a, e1, h1⟩ := asNat_t.1 h
  obtain ⟨k, b, e2, h2⟩ := asNat_t.1 h1
  obtain ⟨h3, h4⟩ := and_t.1 h2
  obtain ⟨h5, h6⟩ := and_t.1 h3
  obtain ⟨e3, h7⟩ := kEq_and h5
  subst e1; subst e2; subst e3
  obtain ⟨u, hu, hr⟩ := mkNat_t h4
  refine ⟨u, hu, fun σ w xv yv hx hy => ?_⟩
  rw [nat_inv hx, nat_inv hy]
  exact ⟨_, hrun j a b w (by simpa using h7) (by simpa using h6), hr σ⟩
theorem land_sound {t : TypeId} {x y : AV} {f : AV → Bool} (h : bitK Nat.land x y f = true) : ∃ u, f u = true ∧ BinG P (binOp .and t) x y u :=
  bits_sound (fun j a b w ha hb => by
    simp only [binOp, ne_eq, not_true, if_false, Op.intBits, Sem.run_pure, BitVec.toNat_and, bv_toNat ha, bv_toNat hb]; rfl) h
theorem lor_sound {t : TypeId} {x y : AV} {f : AV → Bool} (h : bitK Nat.lor x y f = true) : ∃ u, f u = true ∧ BinG P (binOp .or t) x y u :=
  bits_sound (fun j a b w ha hb => by
    simp only [binOp, ne_eq, not_true, if_false, Op.intBits, Sem.run_pure, BitVec.toNat_or, bv_toNat ha, bv_toNat hb]; rfl) h
theorem lxor_sound {t : TypeId} {x y : AV} {f : AV → Bool} (h : bitK Nat.xor x y f = true) : ∃ u, f u = true ∧ BinG P (binOp .xor t) x y u :=
  bits_sound (fun j a b w ha hb => by
    simp only [binOp, ne_eq, not_true, if_false, Op.intBits, Sem.run_pure, BitVec.toNat_xor, bv_toNat ha, bv_toNat hb]; rfl) h

theorem guard_else {op : BinOp} (h1 : op ≠ .eql) (h2 : op ≠ .neq) (t : TypeId) (x y : Operand) (a b : Value) (w : World) : (eqGuard op t x y a b).run P w = .ok () w := by
  cases op <;> first | exact absurd rfl h1 | exact absurd rfl h2 | simp [eqGuard]

theorem bin_sound {n : Nat} {o : Oper} {op : BinOp} {t ty : TypeId} {x y : Operand} (ho : o.op = .binOp op t x y ty) {run : Run} (h : cOp P o = some run) : SoundP P n o run := by
  have hx : x ∈ o.op.operands := by rw [ho]; simp [Op.operands]
  have hy : y ∈ o.op.operands := by rw [ho]; simp [Op.operands]
  have hF : ∀ tmps, execOp (evT tmps) o = (do Pure.pure (Next.value (← BQ op t x y (evT tmps x) (evT tmps y)))) := fun tmps => by
    unfold execOp BQ; rw [ho]
  have bin : ∀ (r : AV → AV → AH → KV → Bool), op ≠ .eql → op ≠ .neq → c2 x y r = some run → (∀ v v2 A K, r v v2 A K = true → ∃ u, K u A = true ∧ BinG P (binOp op t) v v2 u) → SoundP P n o run := by
    intro r h1 h2 hc hr
    refine pure2 hc hx hy hF fun v v2 A K hk => ?_
    obtain ⟨u, hu, hs⟩ := hr v v2 A K hk
    refine ⟨u, hu, fun A2 σ w xv yv _ hxv hyv _ => ?_⟩
    obtain ⟨z, hz, hv⟩ := hs σ w xv yv hxv hyv
    exact ⟨z, bq_of (guard_else h1 h2 ..) hz, hv⟩
  have cmp : ∀ (r : AV → AV → AH → KV → Bool), op ≠ .eql → op ≠ .neq → c2 x y r = some run → (∀ v v2 A K, r v v2 A K = true → ∃ b, K (.bool b) A = true ∧ ∀ (σ : Ai.Sub) xv yv w, VRel σ v xv → VRel σ v2 yv → (binOp op t xv yv).run P w = .ok (.bool b) w) → SoundP P n o run := by
    intro r h1 h2 hc hr
    refine pure2 hc hx hy hF fun v v2 A K hk => ?_
    obtain ⟨b, hb, hs⟩ := hr v v2 A K hk
    exact ⟨_, hb, fun A2 σ w xv yv _ hxv hyv _ => ⟨_, bq_of (guard_else h1 h2 ..) (hs σ xv yv w hxv hyv), .bool b⟩⟩
  unfold cOp at h
  rw [ho] at h
  simp only at h
  cases op with
  | eql =>
    simp only at h
    split at h
    · rename_i q hq
      refine pure2 h hx hy hF fun v v2 A K hk => ?_
      obtain ⟨b, hb, hs⟩ := eqT_sound hq hk
      exact ⟨_, hb, fun A2 σ w xv yv _ hxv hyv _ => ⟨_, (hs σ w xv yv hxv hyv).1, .bool b⟩⟩
    · cases h
  | neq =>
    simp only at h
    split at h
    · rename_i q hq
      refine pure2 h hx hy hF fun v v2 A K hk => ?_
      obtain ⟨b, hb, hs⟩ := eqT_sound hq hk
      exact ⟨_, hb, fun A2 σ w xv yv _ hxv hyv _ => ⟨_, (hs σ w xv yv hxv hyv).2, .bool _⟩⟩
    · cases h
  | lss =>
      refine cmp _ (by simp) (by simp) h fun v v2 A K hk => ?_
      obtain ⟨b, hb, hs⟩ := lt_sound hk
      exact ⟨b, hb, fun σ xv yv w hx hy => (cmp_run t (hs σ xv yv hx hy) w).1⟩
  | gtr =>
      refine cmp _ (by simp) (by simp) h fun v v2 A K hk => ?_
      obtain ⟨b, hb, hs⟩ := lt_sound hk
      exact ⟨b, hb, fun σ xv yv w hx hy => (cmp_run t (hs σ yv xv hy hx) w).2.2.1⟩
  | leq =>
      refine cmp _ (by simp) (by simp) h fun v v2 A K hk => ?_
      obtain ⟨b, hb, hs⟩ := lt_sound hk
      exact ⟨!b, hb, fun σ xv yv w hx hy => (cmp_run t (hs σ yv xv hy hx) w).2.2.2⟩
  | geq =>
      refine cmp _ (by simp) (by simp) h fun v v2 A K hk => ?_
      obtain ⟨b, hb, hs⟩ := lt_sound hk
      exact ⟨!b, hb, fun σ xv yv w hx hy => (cmp_run t (hs σ xv yv hx hy) w).2.1⟩
  | add => exact bin _ (by simp) (by simp) h fun v v2 A K hk => add_sound hk
  | sub => exact bin _ (by simp) (by simp) h fun v v2 A K hk => sub_sound hk
  | mul => exact bin _ (by simp) (by simp) h fun v v2 A K hk => mul_sound hk
  | quo => exact bin _ (by simp) (by simp) h fun v v2 A K hk => quo_sound hk
  | rem => exact bin _ (by simp) (by simp) h fun v v2 A K hk => rem_sound hk
  | and => exact bin _ (by simp) (by simp) h fun v v2 A K hk => land_sound hk
  | or => exact bin _ (by simp) (by simp) h fun v v2 A K hk => lor_sound hk
  | xor => exact bin _ (by simp) (by simp) h fun v v2 A K hk => lxor_sound hk
  | shl => exact bin _ (by simp) (by simp) h fun v v2 A K hk => shl_sound hk
  | shr => exact bin _ (by simp) (by simp) h fun v v2 A K hk => shr_sound hk
  | _ => cases h
end Go.Ai

namespace Go.Ai
open Go
variable {P : Program}

theorem pureN1 {n : Nat} {o : Oper} {x : Operand} {r : AV → AH → KV → Bool} {run : Run} {F : Value → Sem Next} (hc : c1 x r = some run) (hx : x ∈ o.op.operands)
    (hF : ∀ tmps, execOp (evT tmps) o = F (evT tmps x))
    (h : ∀ v A K, r v A K = true → ∃ u, K u A = true ∧ ∀ A2 σ w xv, A.Sub A2 → VRel σ v xv → Rel σ A2 w → ∃ y, (F xv).run P w = .ok (.value y) w ∧ VRel σ u y) : SoundP P n o run := by
  unfold c1 at hc
  split at hc
  · rename_i a ha
    cases hc
    intro e A K hk
    obtain ⟨u, hK, hs⟩ := h _ _ _ hk
    refine ⟨u, hK, fun A2 σ tmps w hS hE hA => ?_⟩
    obtain ⟨y, hy, hv⟩ := hs A2 σ w _ hS (cOpd_rel ha (fun t e => by subst e; exact hx) hE hA) hA
    exact ⟨y, by rw [hF]; exact hy, hv⟩
  · cases hc

section ops
variable {n : Nat} {o : Oper} {run : Run}

theorem s_move {x : Operand} (ho : o.op = .move x ∨ o.op = .assign x) (h : cOp P o = some run) : SoundP P n o run := by
  have hc : c1 x (fun v A K => K v A) = some run := by
    unfold cOp at h; rcases ho with ho | ho <;> (rw [ho] at h; exact h)
  refine pure1 hc (by rcases ho with ho | ho <;> (rw [ho]; simp [Op.operands])) (F := fun v => pure v) (fun tmps => by unfold execOp; rcases ho with ho | ho <;> (rw [ho]; rfl)) fun v A K hk => ?_
  exact ⟨v, hk, fun A2 σ w xv _ hx _ => ⟨xv, rfl, hx⟩⟩

theorem s_pick {c a b : Operand} (ho : o.op = .pick c a b) (h : cOp P o = some run) : SoundP P n o run := by
  have hc : c3 c a b pickR = some run := by unfold cOp at h; rw [ho] at h; exact h
  refine pure3 hc (by rw [ho]; simp [Op.operands]) (by rw [ho]; simp [Op.operands]) (by rw [ho]; simp [Op.operands]) (F := fun cv av bv => do pure (if ← Go.asBool cv then av else bv)) (fun tmps => by unfold execOp; rw [ho]; simp) fun v v2 v3 A K hk => ?_
  obtain ⟨t, ht, hk1⟩ := asBool_t.1 hk
  subst ht
  refine ⟨_, hk1, fun A2 σ w xv yv zv _ hx hy hz _ => ?_⟩
  have := bool_inv hx
  subst this
  cases t
  · exact ⟨zv, by simp [Go.asBool], hz⟩
  · exact ⟨yv, by simp [Go.asBool], hy⟩

theorem s_load {t : TypeId} {a : Operand} (ho : o.op = .load t a) (h : cOp P o = some run) : SoundP P n o run := by
  have hc : c1 a (fun x A K => match isAgg P t, size P t with | some true, some n => ldN n x A K | some false, _ => ld1 x A K | _, _ => false) = some run := by
    unfold cOp at h; rw [ho] at h
    simp only at h
    split at h
    · rename_i n h1 h2; rw [h1, h2]; exact h
    · rename_i h1; rw [h1]; exact h
    · cases h
  refine pure1 hc (by rw [ho]; simp [Op.operands]) (F := fun v => Instr.loadAt t v) (fun tmps => by unfold execOp; rw [ho]) fun v A K hk => ?_
  obtain ⟨u, hK, hs⟩ := loadVar_run (P := P) hk
  refine ⟨u, hK, fun A2 σ w xv hS hx hA => ?_⟩
  obtain ⟨ad, y, h1, h2, h3⟩ := hs A2 σ w xv hS hx hA
  exact ⟨y, by simp [Instr.loadAt, h1, Instr.sureAddr, h2], h3⟩

theorem s_extract {t : Operand} {i : Nat} (ho : o.op = .extract t i) (h : cOp P o = some run) : SoundP P n o run := by
  have hc : c1 t (extractR i) = some run := by unfold cOp at h; rw [ho] at h; exact h
  refine pure1 hc (by rw [ho]; simp [Op.operands]) (F := fun v => Instr.extract v i) (fun tmps => by unfold execOp; rw [ho]) fun v A K hk => ?_
  obtain ⟨n', a, c, hv, hk1⟩ := asCom_t.1 hk
  subst hv
  obtain ⟨u, hu, hk2⟩ := optK_t.1 hk1
  refine ⟨u, hk2, fun A2 σ w xv _ hx _ => ?_⟩
  cases hx with
  | tuple x a' c' vs hs =>
    rw [nth_get] at hu
    obtain ⟨y, hy, hv⟩ := hs.get i u hu
    have hy' : vs[i]? = some y := by simpa using hy
    exact ⟨y, by simp [Instr.extract, hy'], hv⟩

theorem s_mkIface {t : TypeId} {x : Operand} (ho : o.op = .makeInterface t x) (h : cOp P o = some run) : SoundP P n o run := by
  have hc : (∃ d, P.underlying t = some d ∧ ∀ ms, d ≠ .interface ms) ∧ c1 x (fun v A K => K (.com 3 t [v] []) A) = some run := by
    unfold cOp at h; rw [ho] at h
    simp only at h
    split at h
    · cases h
    · rename_i d hne hd; exact ⟨⟨d, hd, fun ms e => (by subst e; exact hne ms rfl)⟩, h⟩
    · cases h
  obtain ⟨⟨d, hd, hne⟩, hc⟩ := hc
  refine pure1 hc (by rw [ho]; simp [Op.operands]) (F := fun v => Instr.makeInterface t v) (fun tmps => by unfold execOp; rw [ho]) fun v A K hk => ?_
  refine ⟨_, hk, fun A2 σ w xv _ hx _ => ⟨.iface t xv, ?_, .iface t v [] [] xv hx⟩⟩
  have := run_underlying hd w
  cases d <;> first | exact absurd rfl (hne _) | simp [Instr.makeInterface, this]

theorem s_fieldAddr {s : TypeId} {x : Operand} {i : Nat} (ho : o.op = .fieldAddr s x i) (h : cOp P o = some run) : SoundP P n o run := by
  have hc : ∃ fs fd m, P.underlying s = some (.struct fs) ∧ fs[i]? = some fd ∧ size P fd.type = some m ∧ m ≠ 0 ∧ c1 x (faddr fd.offset) = some run := by
    unfold cOp at h; rw [ho] at h
    simp only at h
    split at h
    · rename_i fd hfd
      split at h
      · rename_i m hm
        cases hb : Nat.beq m 0 with
        | true => rw [hb] at h; cases h
        | false =>
          rw [hb] at h
          unfold fieldOf at hfd
          split at hfd
          · rename_i fs hfs
            rw [nth_get] at hfd
            exact ⟨fs, fd, m, hfs, by simpa using hfd, hm, fun e => (by subst e; cases hb), h⟩
          · cases hfd
      · cases h
    · cases h
  obtain ⟨fs, fd, m, h1, h2, h3, h4, hc⟩ := hc
  refine pure1 hc (by rw [ho]; simp [Op.operands]) (F := fun v => Instr.fieldAt s v i) (fun tmps => by unfold execOp; rw [ho]) fun v A K hk => ?_
  obtain ⟨b, j, f, c, hv, hk1⟩ := asPtr_t.1 hk
  subst hv
  refine ⟨_, hk1, fun A2 σ w xv _ hx _ => ?_⟩
  cases hx with
  | ptr b i' f' c' a g1 g2 =>
    refine ⟨.pointer (some (a.add fd.offset)), ?_, .ptr b j (f + fd.offset) none _ g1 fun cb base sz e => ?_⟩
    · have := run_underlying h1 w
      simp [Instr.fieldAt, this, h2, Instr.sureAddr, fieldPlace, size_run h3, h4]
    · rw [g2 cb base sz e, addr_add, Nat.add_assoc]

theorem s_nilCheck {x : Operand} (ho : o.op = .nilCheck x) (h : cOp P o = some run) : SoundP P n o run := by
  have hc : c1 x nilR = some run := by unfold cOp at h; rw [ho] at h; exact h
  refine pureN1 hc (by rw [ho]; simp [Op.operands]) (F := fun v => match v with
    | .pointer none | .nilIface | .nilFunc => runtimePanic .nilDeref
    | .func (.method name) first captured => (match (first[0]? : Option Value) with
      | some .nilIface => runtimePanic .nilDeref
      | some (.iface t w) => do
        if (← nilAhead ((← program).types.size + Made.depth) t w name) != some false then
          unsupported (.noEntry "op/nilCheck.the method's receiver behind this interface value is a nil pointer, or cannot be seen to be none, and the arguments act or may panic (ledger 612)")
        pure (.value (.func (.method name) first captured))
      | _ => pure (.value (.func (.method name) first captured)))
    | x => pure (.value x)) (fun tmps => by unfold execOp; rw [ho]; rfl) fun v A K hk => ?_
  have hv : (∃ t b i n c, v = .ref t b i n c) ∨ (∃ t n a c, v = .com t n a c ∧ 1 < t) ∨ (v = .nil 5) := by
    unfold nilR isNil at hk
    split at hk
    · rename_i t
      cases hb : Nat.beq t 5 with
      | true => rw [Nat.eq_of_beq_eq_true hb]; exact .inr (.inr rfl)
      | false => rw [hb] at hk; cases hk
    · exact .inl ⟨_, _, _, _, _, rfl⟩
    · rename_i t n a c
      cases hb : Nat.blt 1 t with
      | true => exact .inr (.inl ⟨t, n, a, c, rfl, by simpa using hb⟩)
      | false => rw [hb] at hk; cases hk
    · cases hk
  have hK : K v A = true := by
    unfold nilR isNil at hk
    rcases hv with ⟨t, b, i, n, c, rfl⟩ | ⟨t, n, a, c, rfl, ht⟩ | rfl
    · exact hk
    · have : Nat.blt 1 t = true := by simpa using ht
      simp only [this, cond_true] at hk
      exact hk
    · exact hk
  refine ⟨v, hK, fun A2 σ w xv _ hx _ => ⟨xv, ?_, hx⟩⟩
  rcases hv with ⟨t, b, i, n, c, rfl⟩ | ⟨t, n, a, c, rfl, ht⟩ | rfl
  · cases hx <;> rfl
  · cases hx with
    | agg => omega
    | tuple => omega
    | func => rfl
    | iface => rfl
    | atl => rfl
  · cases hx with
    | emp => rfl

theorem s_unOp {op : UnOp} {t : TypeId} {x : Operand} (ho : o.op = .unOp op t x) (h : cOp P o = some run) : SoundP P n o run := by
  unfold cOp at h
  rw [ho] at h
  simp only at h
  cases op with
  | not =>
    refine pure1 h (by rw [ho]; simp [Op.operands]) (F := fun v => Op.unary .not v) (fun tmps => by unfold execOp; rw [ho]) fun v A K hk => ?_
    obtain ⟨b, hb, hk1⟩ := asBool_t.1 hk
    subst hb
    exact ⟨_, hk1, fun A2 σ w xv _ hx _ => ⟨.bool (!b), by rw [bool_inv hx]; rfl, .bool _⟩⟩
  | neg =>
    refine pure1 h (by rw [ho]; simp [Op.operands]) (F := fun v => Op.unary .neg v) (fun tmps => by unfold execOp; rw [ho]) fun v A K hk => ?_
    unfold negK at hk
    split at hk
    · refine ⟨_, hk, fun A2 σ w xv _ hx _ => ⟨_, ?_, ofInt_rel σ _ _⟩⟩
      rw [nat_inv hx]
      simp [Op.unary, Op.intArith]
    · refine ⟨_, hk, fun A2 σ w xv _ hx _ => ⟨_, ?_, ofInt_rel σ _ _⟩⟩
      rw [neg_inv hx]
      simp [Op.unary, Op.intArith]
    · cases hk
  | _ => cases h

theorem s_makeFunc {fn : Fn} {first caps : Array Operand} (ho : o.op = .makeFunc fn first caps) (h : cOp P o = some run) : SoundP P n o run := by
  unfold cOp at h
  rw [ho] at h
  cases fn with
  | func g =>
    simp only at h
    split at h
    · rename_i a c h1 h2
      cases h
      intro e A K hk
      refine ⟨_, hk, fun A2 σ tmps w _ hE hA => ?_⟩
      have ha := cOpds_rel h1 (V := Opnd o) (fun t ht => by show Operand.tmp t ∈ o.op.operands; rw [ho]; simp [Op.operands]; exact .inl (by simpa using ht)) hE hA
      have hc := cOpds_rel h2 (V := Opnd o) (fun t ht => by show Operand.tmp t ∈ o.op.operands; rw [ho]; simp [Op.operands]; exact .inr (by simpa using ht)) hE hA
      exact ⟨.func (.func g) (first.map (evT tmps)) (caps.map (evT tmps)), by unfold execOp; rw [ho]; simp [Instr.makeFunc], .func g _ _ _ _ (by simpa using ha) (by simpa using hc)⟩
    · cases h
  | _ => cases h

theorem s_field {t : TypeId} {x : Operand} {i : Nat} (ho : o.op = .field t x i) (h : cOp P o = some run) : SoundP P n o run := by
  have hc : ∃ fs fd, P.underlying t = some (.struct fs) ∧ fs[i]? = some fd ∧ ((∃ m, isAgg P fd.type = some true ∧ size P fd.type = some m ∧ c1 x (fieldN fd.offset m) = some run) ∨ (isAgg P fd.type = some false ∧ c1 x (field1 fd.offset) = some run)) := by
    unfold cOp at h; rw [ho] at h
    simp only at h
    split at h
    · rename_i fd hfd
      unfold fieldOf at hfd
      split at hfd
      · rename_i fs hfs
        rw [nth_get] at hfd
        refine ⟨fs, fd, hfs, by simpa using hfd, ?_⟩
        split at h
        · rename_i m h1 h2; exact .inl ⟨m, h1, h2, h⟩
        · rename_i h1; exact .inr ⟨h1, h⟩
        · cases h
      · cases hfd
    · cases h
  obtain ⟨fs, fd, h1, h2, hc⟩ := hc
  have hop : x ∈ o.op.operands := by rw [ho]; simp [Op.operands]
  have hF : ∀ tmps, execOp (evT tmps) o = (do Pure.pure (Next.value (← Instr.field t (evT tmps x) i))) := fun tmps => by unfold execOp; rw [ho]
  rcases hc with ⟨m, h3, h4, hc⟩ | ⟨h3, hc⟩
  · refine pure1 hc hop (F := fun v => Instr.field t v i) hF fun v A K hk => ?_
    obtain ⟨n', a, c, hv, hk1⟩ := asCom_t.1 hk
    subst hv
    obtain ⟨l, hl, hk2⟩ := optK_t.1 hk1
    refine ⟨_, hk2, fun A2 σ w xv _ hx _ => ?_⟩
    cases hx with
    | agg x' a' c' vs hone hs =>
      obtain ⟨hl1, hl2⟩ := sub_eq hl
      refine ⟨.agg (vs.extract fd.offset (fd.offset + m)), ?_, .agg 0 l [] _ (all_sub hl hone) ?_⟩
      · have := run_underlying h1 w
        simp [Instr.field, this, h2, Go.asAgg, part, isAgg_run h3, size_run h4]
      · rw [hl1]
        have := (hs.drop fd.offset).take m
        simpa [Array.toList_extract, List.extract_eq_take_drop] using this
  · refine pure1 hc hop (F := fun v => Instr.field t v i) hF fun v A K hk => ?_
    obtain ⟨n', a, c, hv, hk1⟩ := asCom_t.1 hk
    subst hv
    obtain ⟨u, hu, hk2⟩ := optK_t.1 hk1
    refine ⟨_, hk2, fun A2 σ w xv _ hx _ => ?_⟩
    cases hx with
    | agg x' a' c' vs hone hs =>
      rw [nth_get] at hu
      obtain ⟨y, hy, hv⟩ := hs.get _ u hu
      have hy' : vs[fd.offset]? = some y := by simpa using hy
      have := run_underlying h1 w
      exact ⟨y, by simp [Instr.field, this, h2, Go.asAgg, part, isAgg_run h3, hy'], hv⟩
end ops
end Go.Ai

namespace Go.Ai
open Go
variable {P : Program}
section ops
variable {n : Nat} {o : Oper} {run : Run}

/- slices -/
/-- a bound -/
theorem natOr_t {z : Nat} {e : Env} {lo : Option Operand} {lo' : Option Ev} (hc : cOpt lo = some lo') {f : Nat → Bool} (h : natOr z e lo' f = true) :
    ∃ l, f l = true ∧ (lo = none → l = z) ∧ ∀ (V : Nat → Prop) (σ : Ai.Sub) m tmps A w, (∀ x, lo = some x → ∀ t, x = .tmp t → V t) → RelV V σ m e tmps → Rel σ A w → ∀ x, lo = some x → ∃ k, evT tmps x = .int k (.ofNat l) := by
  cases lo with
  | none =>
    cases hc
    exact ⟨z, h, fun _ => rfl, fun _ _ _ _ _ _ _ _ _ x hx => by cases hx⟩
  | some x =>
    simp only [cOpt] at hc
    split at hc
    · rename_i a ha
      cases hc
      obtain ⟨k, l, hl, hf⟩ := asNat_t.1 h
      refine ⟨l, hf, fun hn => (by cases hn), fun V σ m tmps A w hV hE hA y hy => ?_⟩
      cases hy
      have := cOpd_rel ha (hV x rfl) hE hA
      rw [hl] at this
      exact ⟨k, nat_inv this⟩
    · cases hc

theorem bound_run {x : Value} {k : IntKind} {l y : Nat} {c : BoundsCode} (hx : x = .int k (.ofNat l)) (h : l ≤ y) (w : World) : (Instr.sliceBound x y c).run P w = .ok l w := by
  subst hx
  have : (0 : Int) ≤ Int.ofNat l ∧ Int.ofNat l ≤ (y : Int) := ⟨by simp, by simp; omega⟩
  simp only [Instr.sliceBound, asIntOf, pure_bind]
  rw [if_pos this]
  rfl

/-- the three bounds -/
theorem bounds_run {isS : Bool} {len cap l h m : Nat} {low high max : Option Value} (hlow : (low = none ∧ l = 0) ∨ ∃ x k, low = some x ∧ x = .int k (.ofNat l)) (hhigh : (high = none ∧ h = len) ∨ ∃ x k, high = some x ∧ x = .int k (.ofNat h))
    (hmax : (max = none ∧ m = cap) ∨ ∃ x k, max = some x ∧ x = .int k (.ofNat m) ∧ high ≠ none) (h1 : l ≤ h) (h2 : high = none ∨ h ≤ m) (h3 : m ≤ cap) (w : World) : (Instr.sliceBounds isS len cap low high max).run P w = .ok (l, h, m) w := by
  rcases hmax with ⟨rfl, rfl⟩ | ⟨x, k, rfl, hx, hne⟩
  · rcases hhigh with ⟨rfl, rfl⟩ | ⟨y, k, rfl, hy⟩
    · rcases hlow with ⟨rfl, rfl⟩ | ⟨z, k, rfl, hz⟩
      · simp [Instr.sliceBounds]
      · simp [Instr.sliceBounds, bound_run hz h1]
    · have h2' : h ≤ m := h2.resolve_left (by simp)
      rcases hlow with ⟨rfl, rfl⟩ | ⟨z, k', rfl, hz⟩
      · simp [Instr.sliceBounds, bound_run hy h2']
      · simp [Instr.sliceBounds, bound_run hy h2', bound_run hz h1]
  · rcases hhigh with ⟨rfl, _⟩ | ⟨y, k', rfl, hy⟩
    · exact absurd rfl hne
    · have h2' : h ≤ m := h2.resolve_left (by simp)
      rcases hlow with ⟨rfl, rfl⟩ | ⟨z, k'', rfl, hz⟩
      · simp [Instr.sliceBounds, bound_run hx h3, bound_run hy h2']
      · simp [Instr.sliceBounds, bound_run hx h3, bound_run hy h2', bound_run hz h1]

/-- what is cut out of a row -/
theorem cut_rel {b : Pa} {i l h : Nat} {m : Option Nat} {len : Nat} {A : AH} {K : KV} (hk : cut b i l h m len A K = true) (hl : l ≤ h) : ∃ u, K u A = true ∧ ∀ (σ : Ai.Sub) (a : Addr) (sz mx : Nat), σ b ≠ .pend →
    (∀ cb base s, σ b = .at cb base s → s = sz ∧ a = ⟨cb, base + i * s, none⟩) → (∀ x, m = some x → mx = x) → h ≤ mx → len ≤ mx ∨ m ≠ none → (m = none → h ≤ len) → (∀ cb base s, σ b = .at cb base s → ∃ t, σ.top cb = some t ∧ base + (i + mx) * s ≤ t) → VRel σ u (.slice (some (if mx = l then a else a.add (l * sz))) (h - l) (mx - l)) := by
  have addr : ∀ (σ : Ai.Sub) (a : Addr) (sz : Nat) cb base s, σ b = .at cb base s → (∀ cb base s, σ b = .at cb base s → s = sz ∧ a = ⟨cb, base + i * s, none⟩) → a.add (l * sz) = ⟨cb, base + (i + l) * s, none⟩ := by
    intro σ a sz cb base s hb ha
    obtain ⟨h1, h2⟩ := ha cb base s hb
    rw [h2, addr_add, ← h1, Nat.add_mul, Nat.add_assoc]
  unfold cut at hk
  split at hk
  · rename_i c
    cases hb : Nat.beq c l with
    | true =>
      rw [hb] at hk
      have := Nat.eq_of_beq_eq_true hb
      subst this
      refine ⟨_, hk, fun σ a sz mx _ _ hm hh _ _ _ => ?_⟩
      have hmx := hm c rfl
      subst hmx
      rw [show h - mx = 0 by omega]
      exact .emp _ _
    | false =>
      rw [hb] at hk
      refine ⟨_, hk, fun σ a sz mx hp ha hm hh _ _ ht => ?_⟩
      have hmx := hm c rfl
      subst hmx
      have hne : mx ≠ l := fun e => by subst e; rw [Nat.beq_refl] at hb; cases hb
      rw [if_neg hne]
      exact .slc b (i + l) (h - l) _ _ _ hp (fun cb base s e => addr σ a sz cb base s e ha) (fun x hx => by cases hx; rfl) (by omega) (fun cb base s e => by obtain ⟨t, h1, h2⟩ := ht cb base s e; exact ⟨t, h1, by rwa [show i + l + (mx - l) = i + mx by omega]⟩)
  · cases hb : Nat.blt l len with
    | true =>
      rw [hb] at hk
      refine ⟨_, hk, fun σ a sz mx hp ha _ hh hlen _ ht => ?_⟩
      have hlt : l < len := by simpa using hb
      have : len ≤ mx := hlen.resolve_right (by simp)
      rw [if_neg (by omega)]
      exact .slc b (i + l) (h - l) none _ _ hp (fun cb base s e => addr σ a sz cb base s e ha) (fun x hx => by cases hx) (by omega) (fun cb base s e => by obtain ⟨t, h1, h2⟩ := ht cb base s e; exact ⟨t, h1, by rwa [show i + l + (mx - l) = i + mx by omega]⟩)
    | false =>
      rw [hb] at hk
      have hge : ¬ l < len := fun h => by rw [show Nat.blt l len = true by rw [Nat.blt_eq]; exact h] at hb; cases hb
      simp only [cond_false] at hk
      cases hz : Nat.beq l 0 with
      | true =>
        rw [hz] at hk
        have := Nat.eq_of_beq_eq_true hz
        subst this
        refine ⟨_, hk, fun σ a sz mx hp ha _ hh hlen _ ht => ?_⟩
        have haa : (if mx = 0 then a else a.add (0 * sz)) = a := by split <;> simp [Addr.add]
        rw [haa]
        exact .slc b i (h - 0) none _ _ hp (fun cb base s e => (ha cb base s e).2) (fun x hx => by cases hx) (by omega) (fun cb base s e => ht cb base s e)
      | false =>
        rw [hz] at hk
        refine ⟨_, hk, fun σ a sz mx _ _ _ hh hlen hhl _ => ?_⟩
        have := hhl rfl
        rw [show h - l = 0 by omega]
        exact .emp _ _

theorem cap_ok {m len : Nat} {cap : Option Nat} (h : capOk m len cap = true) : m ≤ len ∨ ∃ c, cap = some c ∧ m ≤ c := by
  unfold capOk at h
  cases hb : Nat.ble m len with
  | true => exact .inl (Nat.le_of_ble_eq_true hb)
  | false =>
    rw [hb] at h
    simp only [cond_false] at h
    cases cap with
    | none => cases h
    | some c => exact .inr ⟨c, rfl, Nat.le_of_ble_eq_true h⟩

theorem zeroOr_t {e : Env} {lo : Option Operand} {lo' : Option Ev} (hc : cOpt lo = some lo') {f : Bool} (h : zeroOr e lo' f = true) : f = true ∧ ∀ (V : Nat → Prop) (σ : Ai.Sub) m tmps A w, (∀ x, lo = some x → ∀ t, x = .tmp t → V t) → RelV V σ m e tmps → Rel σ A w → ∀ x, lo = some x → ∃ k, evT tmps x = .int k (.ofNat 0) := by
  cases lo with
  | none => cases hc; exact ⟨h, fun _ _ _ _ _ _ _ _ _ x hx => by cases hx⟩
  | some x =>
    simp only [cOpt] at hc
    split at hc
    · rename_i a ha
      cases hc
      obtain ⟨k, l, hl, hf⟩ := asNat_t.1 h
      obtain ⟨hf1, hf2⟩ := and_t.1 hf
      have := Nat.eq_of_beq_eq_true hf1
      subst this
      refine ⟨hf2, fun V σ m tmps A w hV hE hA y hy => ?_⟩
      cases hy
      have := cOpd_rel ha (hV x rfl) hE hA
      rw [hl] at this
      exact ⟨k, nat_inv this⟩
    · cases hc

theorem opt_cases (o : Option Operand) (tmps : Array Value) (l d : Nat) (hn : o = none → l = d) (hs : ∀ x, o = some x → ∃ k, evT tmps x = .int k (.ofNat l)) : (o.map (evT tmps) = none ∧ l = d) ∨ ∃ x k, o.map (evT tmps) = some x ∧ x = .int k (.ofNat l) := by
  cases o with
  | none => exact .inl ⟨rfl, hn rfl⟩
  | some x => obtain ⟨k, hk⟩ := hs x rfl; exact .inr ⟨_, k, rfl, hk⟩

theorem bytes_extract (s : List Nat) (l h : Nat) : (AV.bytes s).extract l h = AV.bytes ((s.drop l).take (h - l)) := by
  apply ByteArray.ext
  simp [AV.bytes, ByteArray.data_extract, List.extract_eq_take_drop, List.map_drop, List.map_take]

theorem s_slice {t : TypeId} {x : Operand} {lo hi mx : Option Operand} (ho : o.op = .slice t x lo hi mx) (h : cOp P o = some run) : SoundP P n o run := by
  have hop : ∀ s, (x = .tmp s ∨ lo = some (.tmp s) ∨ hi = some (.tmp s) ∨ mx = some (.tmp s)) → Opnd o s := fun s hs => by
    show Operand.tmp s ∈ o.op.operands
    rw [ho]
    simp only [Op.operands, Array.mem_append]
    rcases hs with rfl | rfl | rfl | rfl <;> simp
  have hF : ∀ tmps, execOp (evT tmps) o = (do Pure.pure (Next.value (← Instr.sliceAt t (evT tmps x) (lo.map (evT tmps)) (hi.map (evT tmps)) (mx.map (evT tmps))))) := fun tmps => by unfold execOp; rw [ho]
  unfold cOp at h
  rw [ho] at h
  simp only at h
  split at h
  case h_2 => cases h
  rename_i lo' hi' mx' hlo hhi hmx
  -- what the frame's bounds are
  have hVl : ∀ y, lo = some y → ∀ s, y = .tmp s → Opnd o s := fun y hy s hs => hop s (.inr (.inl (by rw [hy, hs])))
  have hVh : ∀ y, hi = some y → ∀ s, y = .tmp s → Opnd o s := fun y hy s hs => hop s (.inr (.inr (.inl (by rw [hy, hs]))))
  have hVm : ∀ y, mx = some y → ∀ s, y = .tmp s → Opnd o s := fun y hy s hs => hop s (.inr (.inr (.inr (by rw [hy, hs]))))
  have hVx : ∀ s, x = .tmp s → Opnd o s := fun s hs => hop s (.inl hs)
  unfold cSlice at h
  -- an array
  have arr : ∀ (N el sz : Nat) (a : Ev), cOpd x = some a → mx = none → size P el = some sz → (∀ (tmps : Array Value) (w : World) (ad : Addr) (l h m : Nat), evT tmps x = .pointer (some ad) →
      (Instr.sliceBounds false N N (lo.map (evT tmps)) (hi.map (evT tmps)) none).run P w = .ok (l, h, m) w → (Instr.sliceAt t (evT tmps x) (lo.map (evT tmps)) (hi.map (evT tmps)) (mx.map (evT tmps))).run P w = .ok (.slice (some (if m = l then ad else ad.add (l * sz))) (h - l) (m - l)) w) →
      run = (fun e A K => sliceArr N sz (a e) e lo' hi' A K) → SoundP P n o run := by
    intro N el sz a ha hmn hsz hat hrun
    subst hrun
    intro e A K hk
    obtain ⟨b, i, f, c0, hxe, g1⟩ := asPtr_t.1 hk
    obtain ⟨g2, g3⟩ := and_t.1 g1
    have hf0 := Nat.eq_of_beq_eq_true g2
    subst hf0
    obtain ⟨s, nn, tt, hg, g4⟩ := asRow_t.1 g3
    obtain ⟨g5a, g6⟩ := and_t.1 g4
    obtain ⟨g5, g5b⟩ := and_t.1 g5a
    have hs := Nat.eq_of_beq_eq_true g5
    subst hs
    obtain ⟨l, g7, hl0, hl⟩ := natOr_t hlo g6
    obtain ⟨hh, g8, hh0, hhr⟩ := natOr_t hhi g7
    obtain ⟨g9, hcut⟩ := and_t.1 g8
    obtain ⟨g10, g11⟩ := and_t.1 g9
    have hle := Nat.le_of_ble_eq_true g10
    have hhn := Nat.le_of_ble_eq_true g11
    obtain ⟨u, hK, hu⟩ := cut_rel hcut hle
    refine ⟨u, hK, fun A2 σ tmps w hS hE hA => ?_⟩
    have hxv := cOpd_rel ha hVx hE hA
    rw [hxe] at hxv
    generalize hxx : evT tmps x = xv at hxv
    cases hxv with
    | ptr b i f c a h0 hadd =>
      have hb := bounds_run (P := P) (isS := false) (len := N) (cap := N) (l := l) (h := hh) (m := N) (opt_cases lo tmps l 0 hl0 (hl _ _ _ _ _ _ hVl hE hA)) (opt_cases hi tmps hh N hh0 (hhr _ _ _ _ _ _ hVh hE hA)) (.inl ⟨rfl, rfl⟩) hle (.inr hhn) (Nat.le_refl _) w
      have := hat tmps w a l hh N hxx hb
      refine ⟨_, by rw [hF]; exact vals _ _ w w this, hu σ a s N h0 (fun cb base s' e => ?_) (fun y hy => by cases hy; rfl) hhn (.inr (by simp)) (fun h => by cases h) (fun cb base s' e => ?_)⟩
      · obtain ⟨cb', base', c', elem', lo', hi', r⟩ := hA.row (hS.get (hA.len4 h0) hg) h0
        have e1 := r.at'
        rw [e] at e1
        injection e1 with _ _ e3
        exact ⟨e3, by have := hadd cb base s' e; simpa using this⟩
      · obtain ⟨cb', base', c', elem', lo', hi', r⟩ := hA.row (hS.get (hA.len4 h0) hg) h0
        have e1 := r.at'
        rw [e] at e1
        injection e1 with e4 e5 e3
        subst e4; subst e5; subst e3
        refine ⟨_, r.ht, ?_⟩
        have := Nat.mul_le_mul_right s' (Nat.le_of_ble_eq_true g5b)
        have := r.hn
        omega
  split at h
  · -- a text
    rename_i ht
    split at h
    · rename_i hmn
      have hmn' : mx = none := by
        cases mx with
        | none => rfl
        | some y => simp only [cOpt] at hmx; split at hmx <;> cases hmx
      unfold cSlice.c1x at h
      split at h
      · rename_i a ha
        cases h
        intro e A K hk
        obtain ⟨s, hxe, g1⟩ := asStr_t.1 hk
        obtain ⟨l, g2, hl0, hl⟩ := natOr_t hlo g1
        obtain ⟨hh, g3, hh0, hhr⟩ := natOr_t hhi g2
        obtain ⟨g4, g5⟩ := and_t.1 g3
        obtain ⟨r, hr, hK⟩ := optK_t.1 g5
        have hle := Nat.le_of_ble_eq_true g4
        obtain ⟨hr1, hr2⟩ := sub_eq hr
        refine ⟨_, hK, fun A2 σ tmps w hS hE hA => ?_⟩
        have hxv := cOpd_rel ha hVx hE hA
        rw [hxe] at hxv
        obtain ⟨hx1, hx2⟩ := str_inv hxv
        have hb := bounds_run (P := P) (isS := false) (len := (AV.bytes s).size) (cap := (AV.bytes s).size) (l := l) (h := hh) (m := (AV.bytes s).size) (opt_cases lo tmps l 0 hl0 (hl _ _ _ _ _ _ hVl hE hA)) (opt_cases hi tmps hh _ (fun h => by rw [hh0 h, bytes_size]) (hhr _ _ _ _ _ _ hVh hE hA)) (.inl ⟨rfl, rfl⟩) hle (.inr (by rw [bytes_size]; omega)) (Nat.le_refl _) w
        refine ⟨.string ((AV.bytes s).extract l hh), ?_, ?_⟩
        · rw [hF]
          refine vals _ _ w w ?_
          have := run_underlying ht w
          simp [Instr.sliceAt, Instr.slice, this, hx1, hmn', hb]
        · rw [bytes_extract, ← hr1]
          refine .str _ fun c hc => hx2 c ?_
          rw [hr1] at hc
          exact List.mem_of_mem_drop (List.mem_of_mem_take hc)
      · cases h
    · cases h
  · -- a slice
    rename_i el ht
    split at h
    · rename_i sz hsz
      unfold cSlice.c1x at h
      split at h
      · rename_i a ha
        cases h
        intro e A K hk
        have hund := fun w => run_underlying ht w
        have hk0 : sliceR sz (a e) e lo' hi' mx' A K = true := hk
        generalize hxe : a e = xe at hk0
        cases xe with
        | ref t' b i len c =>
          obtain ⟨g1, g2⟩ := and_t.1 hk0
          have := Nat.eq_of_beq_eq_true g1
          subst this
          obtain ⟨s, nn, tt, hg, g3⟩ := asRow_t.1 g2
          obtain ⟨g4, g5⟩ := and_t.1 g3
          have hs := Nat.eq_of_beq_eq_true g4
          subst hs
          obtain ⟨l, hkk, hl0, hl⟩ := natOr_t hlo g5
          split at hkk
          · -- no max
            have hmn' : mx = none := by
              cases mx with
              | none => rfl
              | some y => simp only [cOpt] at hmx; split at hmx <;> cases hmx
            obtain ⟨hh, g6, hh0, hhr⟩ := natOr_t hhi hkk
            obtain ⟨g7, hcut⟩ := and_t.1 g6
            obtain ⟨g8, hcap⟩ := and_t.1 g7
            have hle := Nat.le_of_ble_eq_true g8
            obtain ⟨u, hK, hu⟩ := cut_rel hcut hle
            refine ⟨u, hK, fun A2 σ tmps w hS hE hA => ?_⟩
            have hxv := cOpd_rel ha hVx hE hA
            rw [hxe] at hxv
            generalize hxx : evT tmps x = xv at hxv
            cases hxv with
            | slc b i n' c a m h0 hadd hcm hnm hcap' =>
              have hhm : hh ≤ m := by
                rcases cap_ok hcap with h | ⟨c', h1, h2⟩
                · omega
                · rw [hcm c' h1]; exact h2
              have hb := bounds_run (P := P) (isS := true) (len := len) (cap := m) (l := l) (h := hh) (m := m) (opt_cases lo tmps l 0 hl0 (hl _ _ _ _ _ _ hVl hE hA)) (opt_cases hi tmps hh len hh0 (hhr _ _ _ _ _ _ hVh hE hA)) (.inl ⟨rfl, rfl⟩) hle (.inr hhm) (Nat.le_refl _) w
              refine ⟨.slice (some (if m = l then a else a.add (l * s))) (hh - l) (m - l), ?_, hu σ a s m h0 (fun cb base s' e => ?_) hcm hhm (.inl hnm) (fun hn => ?_) hcap'⟩
              · rw [hF]
                refine vals _ _ w w ?_
                by_cases hml : m = l
                · rw [hml] at hb
                  simp [Instr.sliceAt, Instr.slice, hund w, hxx, hmn', hb, size_run hsz, hml]
                · simp [Instr.sliceAt, Instr.slice, hund w, hxx, hmn', hb, size_run hsz, hml]
              · obtain ⟨cb', base', c', elem', lo', hi', r⟩ := hA.row (hS.get (hA.len4 h0) hg) h0
                have e1 := r.at'
                rw [e] at e1
                injection e1 with _ _ e3
                exact ⟨e3, hadd cb base s' e⟩
              · rcases cap_ok hcap with h | ⟨c', h1, _⟩
                · exact h
                · rw [hn] at h1; cases h1
          · -- with a max
            rename_i mxe
            obtain ⟨hi'', hhi', g6⟩ := optK_t.1 hkk
            obtain ⟨kh, hh, hhe, g7⟩ := asNat_t.1 g6
            obtain ⟨km, mm, hme, g8⟩ := asNat_t.1 g7
            obtain ⟨g9, hcut⟩ := and_t.1 g8
            obtain ⟨g10, hcap⟩ := and_t.1 g9
            obtain ⟨g11, g12⟩ := and_t.1 g10
            have hle := Nat.le_of_ble_eq_true g11
            have hhm := Nat.le_of_ble_eq_true g12
            obtain ⟨u, hK, hu⟩ := cut_rel hcut hle
            subst hhi'
            obtain ⟨hio, hio1, hio2⟩ : ∃ y, hi = some y ∧ cOpd y = some hi'' := by
              cases hi with
              | none => cases hhi
              | some y => simp only [cOpt] at hhi; split at hhi <;> first | (cases hhi; done) | (rename_i a' ha'; cases hhi; exact ⟨y, rfl, ha'⟩)
            obtain ⟨mxo, mxo1, mxo2⟩ : ∃ y, mx = some y ∧ cOpd y = some mxe := by
              cases mx with
              | none => cases hmx
              | some y => simp only [cOpt] at hmx; split at hmx <;> first | (cases hmx; done) | (rename_i a' ha'; cases hmx; exact ⟨y, rfl, ha'⟩)
            refine ⟨u, hK, fun A2 σ tmps w hS hE hA => ?_⟩
            have hxv := cOpd_rel ha hVx hE hA
            rw [hxe] at hxv
            have hhv := cOpd_rel hio2 (hVh hio hio1) hE hA
            rw [hhe] at hhv
            have hmv := cOpd_rel mxo2 (hVm mxo mxo1) hE hA
            rw [hme] at hmv
            generalize hxx : evT tmps x = xv at hxv
            cases hxv with
            | slc b i n' c a m h0 hadd hcm hnm hcap' =>
              have hmc : mm ≤ m := by
                rcases cap_ok hcap with h | ⟨c', h1, h2⟩
                · omega
                · rw [hcm c' h1]; exact h2
              have hb := bounds_run (P := P) (isS := true) (len := len) (cap := m) (l := l) (h := hh) (m := mm) (high := hi.map (evT tmps)) (max := mx.map (evT tmps)) (opt_cases lo tmps l 0 hl0 (hl _ _ _ _ _ _ hVl hE hA)) (.inr ⟨_, kh, by rw [hio1]; rfl, nat_inv hhv⟩) (.inr ⟨_, km, by rw [mxo1]; rfl, nat_inv hmv, by rw [hio1]; simp⟩) hle (.inr hhm) hmc w
              refine ⟨.slice (some (if mm = l then a else a.add (l * s))) (hh - l) (mm - l), ?_, hu σ a s mm h0 (fun cb base s' e => ?_) (fun y hy => by cases hy; rfl) hhm (.inr (by simp)) (fun hn => by cases hn) (fun cb base s' e => ?_)⟩
              · rw [hF]
                refine vals _ _ w w ?_
                by_cases hml : mm = l
                · rw [hml] at hb
                  simp [Instr.sliceAt, Instr.slice, hund w, hxx, hb, size_run hsz, hml]
                · simp [Instr.sliceAt, Instr.slice, hund w, hxx, hb, size_run hsz, hml]
              · obtain ⟨cb', base', c', elem', lo', hi', r⟩ := hA.row (hS.get (hA.len4 h0) hg) h0
                have e1 := r.at'
                rw [e] at e1
                injection e1 with _ _ e3
                exact ⟨e3, hadd cb base s' e⟩
              · obtain ⟨t, h1, h2⟩ := hcap' cb base s' e
                refine ⟨t, h1, Nat.le_trans ?_ h2⟩
                have := Nat.mul_le_mul_right s' (show i + mm ≤ i + m by omega)
                omega
        | nil t' =>
          obtain ⟨g1, hkk⟩ := and_t.1 hk0
          have := Nat.eq_of_beq_eq_true g1
          subst this
          have key : K (.nil 1) A = true ∧ (∀ (V : Nat → Prop) (σ : Ai.Sub) m tmps A w, (∀ s, Opnd o s → V s) → RelV V σ m e tmps → Rel σ A w → (∀ y, lo = some y → ∃ k, evT tmps y = .int k (.ofNat 0)) ∧ (∀ y, hi = some y → ∃ k, evT tmps y = .int k (.ofNat 0)) ∧ (∀ y, mx = some y → (∃ k, evT tmps y = .int k (.ofNat 0)) ∧ hi ≠ none)) := by
            split at hkk
            · have hmn' : mx = none := by
                cases mx with
                | none => rfl
                | some y => simp only [cOpt] at hmx; split at hmx <;> cases hmx
              obtain ⟨h1, h2⟩ := zeroOr_t hlo hkk
              obtain ⟨h3, h4⟩ := zeroOr_t hhi h1
              exact ⟨h3, fun V σ m tmps A w hV hE hA => ⟨h2 V σ m tmps A w (fun y hy s hs => hV s (hVl y hy s hs)) hE hA, h4 V σ m tmps A w (fun y hy s hs => hV s (hVh y hy s hs)) hE hA, fun y hy => by rw [hmn'] at hy; cases hy⟩⟩
            · rename_i mxe
              obtain ⟨hi'', hhi', g6⟩ := optK_t.1 hkk
              subst hhi'
              obtain ⟨h1, h2⟩ := zeroOr_t hlo g6
              obtain ⟨h3, h4⟩ := zeroOr_t hhi h1
              obtain ⟨h5, h6⟩ := zeroOr_t hmx h3
              exact ⟨h5, fun V σ m tmps A w hV hE hA => ⟨h2 V σ m tmps A w (fun y hy s hs => hV s (hVl y hy s hs)) hE hA, h4 V σ m tmps A w (fun y hy s hs => hV s (hVh y hy s hs)) hE hA, fun y hy => ⟨h6 V σ m tmps A w (fun y hy s hs => hV s (hVm y hy s hs)) hE hA y hy, fun hn => by rw [hn] at hhi; cases hhi⟩⟩⟩
          refine ⟨_, key.1, fun A2 σ tmps w hS hE hA => ?_⟩
          have hxv := cOpd_rel ha hVx hE hA
          rw [hxe] at hxv
          generalize hxx : evT tmps x = xv at hxv
          obtain ⟨q1, q2, q3⟩ := key.2 _ σ _ tmps A2 w (fun s hs => hs) hE hA
          cases hxv
          have hb := bounds_run (P := P) (isS := true) (len := 0) (cap := 0) (l := 0) (h := 0) (m := 0) (high := hi.map (evT tmps)) (max := mx.map (evT tmps)) (opt_cases lo tmps 0 0 (fun _ => rfl) q1) (opt_cases hi tmps 0 0 (fun _ => rfl) q2) (by
            cases mx with
            | none => exact .inl ⟨rfl, rfl⟩
            | some y => obtain ⟨⟨k, hk⟩, hne⟩ := q3 y rfl; exact .inr ⟨_, k, rfl, hk, by simpa using hne⟩) (Nat.le_refl _) (.inr (Nat.le_refl _)) (Nat.le_refl _) w
          refine ⟨.slice none 0 0, ?_, .nils⟩
          rw [hF]
          refine vals _ _ w w ?_
          simp [Instr.sliceAt, Instr.slice, hund w, hxx, hb, size_run hsz]
        | _ => cases hk0
      · cases h
    · cases h
  · -- the address of an array
    rename_i ar ht
    split at h
    · rename_i N el har
      split at h
      · rename_i sz hsz
        have hmn' : mx = none := by
          cases mx with
          | none => rfl
          | some y => simp only [cOpt] at hmx; split at hmx <;> cases hmx
        unfold cSlice.c1x at h
        split at h
        · rename_i a ha
          cases h
          refine arr N el sz a ha hmn' hsz (fun tmps w ad l h m hx hb => ?_) rfl
          have h1 := run_underlying ht w
          have h2 := run_underlying har w
          simp [Instr.sliceAt, Instr.slice, h1, h2, hx, asAddr, hmn', hb, size_run hsz]
        · cases h
      · cases h
    · cases h
  · -- an array where it stands
    rename_i N el ht
    split at h
    · rename_i sz hsz
      have hmn' : mx = none := by
        cases mx with
        | none => rfl
        | some y => simp only [cOpt] at hmx; split at hmx <;> cases hmx
      unfold cSlice.c1x at h
      split at h
      · rename_i a ha
        cases h
        refine arr N el sz a ha hmn' hsz (fun tmps w ad l h m hx hb => ?_) rfl
        have h1 := run_underlying ht w
        simp [Instr.sliceAt, h1, hx, Instr.sureAddr, hmn', hb, size_run hsz]
      · cases h
    · cases h
  · cases h
end ops
end Go.Ai

namespace Go.Ai
open Go
variable {P : Program}
section ops
variable {n : Nat} {o : Oper} {run : Run}

theorem idx_run {j : Nat} {k : IntKind} (w : World) : (asIntOf (.int k (.ofNat j))).run P w = .ok (k, .ofNat j) w := rfl

theorem s_index {t : TypeId} {x ix : Operand} (ho : o.op = .index t x ix) (h : cOp P o = some run) : SoundP P n o run := by
  have hx : x ∈ o.op.operands := by rw [ho]; simp [Op.operands]
  have hy : ix ∈ o.op.operands := by rw [ho]; simp [Op.operands]
  have hF : ∀ tmps, execOp (evT tmps) o = (do Pure.pure (Next.value (← Instr.index t (evT tmps x) (evT tmps ix)))) := fun tmps => by unfold execOp; rw [ho]
  unfold cOp at h
  rw [ho] at h
  simp only at h
  split at h
  · rename_i ht
    refine pure2 h hx hy (F := fun a b => Instr.index t a b) hF fun v v2 A K hk => ?_
    obtain ⟨s, h1, h2⟩ := asStr_t.1 hk
    obtain ⟨k, j, h3, h4⟩ := asNat_t.1 h2
    obtain ⟨c, hc, hK⟩ := optK_t.1 h4
    subst h1; subst h3
    refine ⟨_, hK, fun A2 σ w xv yv _ hxv hyv _ => ?_⟩
    obtain ⟨e1, e2⟩ := str_inv hxv
    rw [e1, nat_inv hyv]
    rw [nth_get] at hc
    have hcs : c < 256 := e2 c (List.mem_of_getElem? hc)
    have hb : (AV.bytes s)[j]? = some (UInt8.ofNat c) := by
      show (AV.bytes s).data[j]? = _
      simp [AV.bytes, hc]
    refine ⟨.int .u8 (.ofNat c), ?_, .nat .u8 c⟩
    have hund := run_underlying ht w
    have hge : (0 : Int) ≤ (j : Int) := by omega
    have hc8 : c % 256 = c := Nat.mod_eq_of_lt hcs
    simp [Instr.index, asIntOf, hund, hge, hb, hc8]
  · rename_i N el ht
    split at h
    · rename_i s h1 h2
      refine pure2 h hx hy (F := fun a b => Instr.index t a b) hF fun v v2 A K hk => ?_
      obtain ⟨n', a, c, e1, g1⟩ := asCom_t.1 hk
      obtain ⟨k, j, e2, g2⟩ := asNat_t.1 g1
      obtain ⟨g3, g4⟩ := and_t.1 g2
      obtain ⟨l, hl, hK⟩ := optK_t.1 g4
      subst e1; subst e2
      refine ⟨_, hK, fun A2 σ w xv yv _ hxv hyv _ => ?_⟩
      rw [nat_inv hyv]
      cases hxv with
      | agg x' a' c' vs hone hs =>
        obtain ⟨hl1, hl2⟩ := sub_eq hl
        refine ⟨.agg (vs.extract (j * s) (j * s + s)), ?_, .agg 0 l [] _ (all_sub hl hone) ?_⟩
        · have hund := run_underlying ht w
          have hjN : j < N := by simpa using g3
          have hc : (0 : Int) ≤ (j : Int) ∧ (j : Int) < (N : Int) := by omega
          simp [Instr.index, asIntOf, hund, hjN, size_run h2, part, isAgg_run h1]
        · rw [hl1]
          have := (hs.drop (j * s)).take s
          simpa [Array.toList_extract, List.extract_eq_take_drop] using this
    · rename_i h1 h2
      refine pure2 h hx hy (F := fun a b => Instr.index t a b) hF fun v v2 A K hk => ?_
      obtain ⟨n', a, c, e1, g1⟩ := asCom_t.1 hk
      obtain ⟨k, j, e2, g2⟩ := asNat_t.1 g1
      obtain ⟨g3, g4⟩ := and_t.1 g2
      obtain ⟨u, hu, hK⟩ := optK_t.1 g4
      subst e1; subst e2
      refine ⟨_, hK, fun A2 σ w xv yv _ hxv hyv _ => ?_⟩
      rw [nat_inv hyv]
      cases hxv with
      | agg x' a' c' vs hone hs =>
        rw [nth_get] at hu
        obtain ⟨y, hy', hv⟩ := hs.get j u hu
        have hy2 : vs[j]? = some y := by simpa using hy'
        have hund := run_underlying ht w
        have hjN : j < N := by simpa using g3
        exact ⟨y, by simp [Instr.index, asIntOf, hund, hjN, size_run h2, part, isAgg_run h1, hy2], hv⟩
    · cases h
  · cases h

theorem s_indexAddr {t : TypeId} {x ix : Operand} (ho : o.op = .indexAddr t x ix) (h : cOp P o = some run) : SoundP P n o run := by
  have hx : x ∈ o.op.operands := by rw [ho]; simp [Op.operands]
  have hy : ix ∈ o.op.operands := by rw [ho]; simp [Op.operands]
  have hF : ∀ tmps, execOp (evT tmps) o = (do Pure.pure (Next.value (← Instr.indexAt t (evT tmps x) (evT tmps ix)))) := fun tmps => by unfold execOp; rw [ho]
  unfold cOp at h
  rw [ho] at h
  simp only at h
  split at h
  · rename_i el ht
    split at h
    · rename_i sz hsz
      refine pure2 h hx hy (F := fun a b => Instr.indexAt t a b) hF fun v v2 A K hk => ?_
      cases v with
      | ref t' b i len c =>
        obtain ⟨g1, g2⟩ := and_t.1 hk
        have := Nat.eq_of_beq_eq_true g1
        subst this
        obtain ⟨k, j, e2, g3⟩ := asNat_t.1 g2
        obtain ⟨g4, g5⟩ := and_t.1 g3
        obtain ⟨s, nn, tt, hg, g6⟩ := asRow_t.1 g5
        obtain ⟨g7, hK⟩ := and_t.1 g6
        have hs := Nat.eq_of_beq_eq_true g7
        subst hs; subst e2
        refine ⟨_, hK, fun A2 σ w xv yv hS hxv hyv hA => ?_⟩
        rw [nat_inv hyv]
        cases hxv with
        | slc b i n' c a m h0 hadd hcm hnm =>
          have hjl : j < len := by simpa using g4
          refine ⟨.pointer (some (a.add (j * s))), ?_, .ptr b (i + j) 0 none _ h0 fun cb base s' e => ?_⟩
          · have hund := run_underlying ht w
            simp [Instr.indexAt, asIntOf, hund, hjl, size_run hsz]
          · obtain ⟨cb', base', c', elem', lo', hi', r⟩ := hA.row (hS.get (hA.len4 h0) hg) h0
            have e1 := r.at'
            rw [e] at e1
            injection e1 with _ _ e3
            rw [hadd cb base s' e, addr_add, e3, Nat.add_mul, Nat.add_assoc, Nat.add_zero]
      | _ => cases hk
    · cases h
  · rename_i N el ht
    split at h
    · rename_i sz hsz
      refine pure2 h hx hy (F := fun a b => Instr.indexAt t a b) hF fun v v2 A K hk => ?_
      obtain ⟨b, i, f, c0, e1, g1⟩ := asPtr_t.1 hk
      obtain ⟨k, j, e2, g2⟩ := asNat_t.1 g1
      obtain ⟨g3, g4⟩ := and_t.1 g2
      obtain ⟨s, nn, tt, hg, g5⟩ := asRow_t.1 g4
      subst e1; subst e2
      have hjN : j < N := by simpa using g3
      have hrun : ∀ (w : World) (a : Addr) (k : IntKind), (Instr.indexAt t (.pointer (some a)) (.int k (.ofNat j))).run P w = .ok (.pointer (some (a.add (j * sz)))) w := fun w a k => by
        have hund := run_underlying ht w
        simp [Instr.indexAt, asIntOf, hund, Instr.sureAddr, hjN, size_run hsz]
      cases hb : Nat.beq s sz with
      | true =>
        rw [hb] at g5
        have hs := Nat.eq_of_beq_eq_true hb
        subst hs
        refine ⟨_, g5, fun A2 σ w xv yv hS hxv hyv hA => ?_⟩
        rw [nat_inv hyv]
        cases hxv with
        | ptr b i f c a h0 hadd =>
          refine ⟨_, hrun w a k, .ptr b (i + j) f none _ h0 fun cb base s' e => ?_⟩
          obtain ⟨cb', base', c', elem', lo', hi', r⟩ := hA.row (hS.get (hA.len4 h0) hg) h0
          have e1 := r.at'
          rw [e] at e1
          injection e1 with _ _ e3
          rw [hadd cb base s' e, addr_add, e3, Nat.add_mul]
          congr 1
          omega
      | false =>
        rw [hb] at g5
        refine ⟨_, g5, fun A2 σ w xv yv hS hxv hyv hA => ?_⟩
        rw [nat_inv hyv]
        cases hxv with
        | ptr b i f c a h0 hadd =>
          refine ⟨_, hrun w a k, .ptr b i (f + j * sz) none _ h0 fun cb base s' e => ?_⟩
          rw [hadd cb base s' e, addr_add, Nat.add_assoc]
    · cases h
  · cases h

/- maps -/
/-- how a map's keys are compared -/
structure MapT (P : Program) (t : TypeId) (e : TypeId × EqF) (k : TypeId) (d : TypeDesc) : Prop where
  ht : P.underlying t = some (.map k e.1)
  hk : P.underlying k = some d
  eq : ∀ x y f, e.2 x y f = true → ∃ b, f b = true ∧ ∀ σ xv yv, VRel σ x xv → VRel σ y yv → Instr.sameNow d xv yv = some b ∧ (b = true → xv = yv) ∧ Instr.sameBits 10000 xv xv = true
  plain : (∃ q, d = .int q) ∨ d = .string

theorem mapTy_t {t : TypeId} {e : TypeId × EqF} (h : mapTy P t = some e) : ∃ k d, MapT P t e k d := by
  unfold mapTy at h
  split at h
  · rename_i k el' ht
    split at h
    · rename_i q hq
      cases h
      refine ⟨k, _, ht, hq, fun x y f hf => ?_, .inl ⟨q, rfl⟩⟩
      obtain ⟨b, hb, hr⟩ := eqI_sound hf
      refine ⟨b, hb, fun σ xv yv hx hy => ?_⟩
      obtain ⟨j, p, q', rfl, rfl, h3⟩ := hr σ xv yv hx hy
      refine ⟨by simp [Instr.sameNow, h3], fun hbt => ?_, by simp [Instr.sameBits]⟩
      rw [hbt] at h3
      rw [eq_of_beq h3]
    · rename_i hq
      cases h
      refine ⟨k, _, ht, hq, fun x y f hf => ?_, .inr rfl⟩
      obtain ⟨b, hb, hr⟩ := eqStr_sound hf
      refine ⟨b, hb, fun σ xv yv hx hy => ?_⟩
      obtain ⟨s, u, rfl, rfl, h3⟩ := hr σ xv yv hx hy
      refine ⟨by simp only [Instr.sameNow]; rw [Go.beq_toListBytes, h3], fun hbt => ?_, by simp only [Instr.sameBits]; rw [Go.beq_toListBytes]; simp⟩
      rw [hbt] at h3
      have h4 := eq_of_beq h3
      rw [Lib.toList_data, Lib.toList_data] at h4
      have : s = u := ByteArray.ext (Array.toList_inj.1 h4)
      rw [this]
    · cases h
  · cases h

theorem MapT.check {t : TypeId} {e : TypeId × EqF} {k : TypeId} {d : TypeDesc} (M : MapT P t e k d) (em : Bool) (v : Value) (w : World) : (Instr.checkKey em 10000 k v).run P w = .ok () w := by
  have := run_underlying M.hk w
  rcases M.plain with ⟨q, h⟩ | h <;> (subst h; rw [Instr.checkKey]; simp [this])

/-- the entries -/
structure EntR (σ : Ai.Sub) (es : List (Nat × AV × AV)) (ms : List MapEntry) : Prop where
  hb : es.map (·.1) = ms.map (·.born)
  hk : VRels σ (es.map (·.2.1)) (ms.map (·.key))
  hv : VRels σ (es.map (·.2.2)) (ms.map (·.val))

theorem EntR.nil_inv {σ : Ai.Sub} {ms : List MapEntry} (h : EntR σ [] ms) : ms = [] := by
  have := h.hb
  cases ms with
  | nil => rfl
  | cons _ _ => simp at this
theorem EntR.cons_inv {σ : Ai.Sub} {x : Nat × AV × AV} {es : List (Nat × AV × AV)} {ms : List MapEntry} (h : EntR σ (x :: es) ms) : ∃ m r, ms = m :: r ∧ x.1 = m.born ∧ VRel σ x.2.1 m.key ∧ VRel σ x.2.2 m.val ∧ EntR σ es r := by
  cases ms with
  | nil => have := h.hb; simp at this
  | cons m r =>
    have hb := h.hb
    have hk := h.hk
    have hv := h.hv
    simp only [List.map_cons, List.cons.injEq] at hb hk hv
    cases hk with
    | cons k1 k2 => cases hv with
      | cons v1 v2 => exact ⟨m, r, rfl, hb.1, k1, v1, hb.2, k2, v2⟩
theorem EntR.cons {σ : Ai.Sub} {x : Nat × AV × AV} {es : List (Nat × AV × AV)} {m : MapEntry} {r : List MapEntry} (h1 : x.1 = m.born) (h2 : VRel σ x.2.1 m.key) (h3 : VRel σ x.2.2 m.val) (h : EntR σ es r) : EntR σ (x :: es) (m :: r) :=
  ⟨by simp [h1, h.hb], by simpa using VRels.cons h2 h.hk, by simpa using VRels.cons h3 h.hv⟩
theorem EntR.nil (σ : Ai.Sub) : EntR σ [] [] := ⟨rfl, .nil, .nil⟩
theorem EntR.snoc {σ : Ai.Sub} {x : Nat × AV × AV} {es : List (Nat × AV × AV)} {m : MapEntry} {r : List MapEntry} (h1 : x.1 = m.born) (h2 : VRel σ x.2.1 m.key) (h3 : VRel σ x.2.2 m.val) (h : EntR σ es r) : EntR σ (es ++ [x]) (r ++ [m]) :=
  ⟨by simp [h1, h.hb], by simpa using h.hk.append (.cons h2 .nil), by simpa using h.hv.append (.cons h3 .nil)⟩

/-- an entry is looked for -/
theorem findM_sound {t : TypeId} {e : TypeId × EqF} {kt : TypeId} {d : TypeDesc} (M : MapT P t e kt d) {k : AV} : ∀ (es : List (Nat × AV × AV)) (f : Option (Nat × AV) → Bool), findM e.2 k f es = true →
    ∃ r, f r = true ∧ ∀ σ kv ms i0, VRel σ k kv → EntR σ es ms →
      (match r with
        | none => Instr.findNow d kv ms i0 = some none
        | some bv => ∃ i m, ms[i]? = some m ∧ Instr.findNow d kv ms i0 = some (some (i0 + i, m.val)) ∧ m.born = bv.1 ∧ VRel σ bv.2 m.val ∧ kv = m.key ∧ Instr.sameBits 10000 kv kv = true)
  | [], f, h => ⟨none, h, fun σ kv ms i0 _ hE => by rw [hE.nil_inv]; rfl⟩
  | x :: es, f, h => by
    obtain ⟨b, hb, hr⟩ := M.eq _ _ _ h
    cases b with
    | true =>
      refine ⟨_, hb, fun σ kv ms i0 hk hE => ?_⟩
      obtain ⟨m, r, rfl, h1, h2, h3, h4⟩ := hE.cons_inv
      obtain ⟨q1, q2, q3⟩ := hr σ kv m.key hk h2
      exact ⟨0, m, rfl, by simp [Instr.findNow, q1], h1.symm, h3, q2 rfl, q3⟩
    | false =>
      obtain ⟨r, hr', hs⟩ := findM_sound M es f hb
      refine ⟨r, hr', fun σ kv ms i0 hk hE => ?_⟩
      obtain ⟨m, ms', rfl, h1, h2, h3, h4⟩ := hE.cons_inv
      obtain ⟨q1, _, _⟩ := hr σ kv m.key hk h2
      have hst := hs σ kv ms' (i0 + 1) hk h4
      have e1 : Instr.findNow d kv (m :: ms') i0 = Instr.findNow d kv ms' (i0 + 1) := by simp [Instr.findNow, q1]
      cases r with
      | none =>
        show Instr.findNow d kv (m :: ms') i0 = some none
        rw [e1]; exact hst
      | some bv =>
        obtain ⟨i, m', g1, g2, g3⟩ := hst
        exact ⟨i + 1, m', by simpa using g1, by rw [e1, g2]; congr 3; omega, g3⟩

theorem findKey_run {t : TypeId} {e : TypeId × EqF} {kt : TypeId} {d : TypeDesc} (M : MapT P t e kt d) {kv : Value} {ms : List MapEntry} {r : Option (Nat × Value)} (h : Instr.findNow d kv ms 0 = some r) (w : World) : (Instr.findKey kt kv ms).run P w = .ok r w := by
  simp [Instr.findKey, run_underlying M.hk w, h]

theorem Rel.mapAt {σ : Ai.Sub} {A : AH} {w : World} (hA : Rel σ A w) {b : Pa} {r : Nat} {clock : Nat} {es : List (Nat × AV × AV)} (hg : A.get b = some (.map clock es)) (hb : σ b = .at r 0 0) : ∃ ents, w.heap[r]? = some (.map ents clock) ∧ EntR σ es ents.toList := by
  obtain ⟨cb, base, sz, h1, h2⟩ := hA.get_at hg (by simp) (by rw [hb]; simp)
  rw [hb] at h1
  cases h1
  cases h2 with
  | map clock es ents h0 hc hb' hk hv => exact ⟨ents, hc, hb', hk, hv⟩

theorem zeroV_run {t : TypeId} {z : AV} (h : zeroV P t = some z) : ∃ v, (∀ w, (zeroValue t).run P w = .ok v w) ∧ ∀ σ, VRel σ z v := by
  unfold zeroV at h
  split at h
  · rename_i i hi
    split at h
    · rename_i v hv
      exact ⟨v, fun w => by simp [zeroValue, typeInfo, hi, hv], fun σ => ofV_rel σ v z h⟩
    · cases h
  · cases h

theorem okV_rel {σ : Ai.Sub} {ok t : Bool} {v : AV} {x : Value} (h : VRel σ v x) : VRel σ (okV ok v t) (if ok then .tuple #[x, .bool t] else x) := by
  cases ok with
  | true => exact .tuple 0 _ [] _ (.cons h (.cons (.bool t) .nil))
  | false => exact h

theorem s_lookup {t : TypeId} {x k : Operand} {ok : Bool} (ho : o.op = .lookup t x k ok) (h : cOp P o = some run) : SoundP P n o run := by
  have hx : x ∈ o.op.operands := by rw [ho]; simp [Op.operands]
  have hy : k ∈ o.op.operands := by rw [ho]; simp [Op.operands]
  have hF : ∀ tmps, execOp (evT tmps) o = (do Pure.pure (Next.value (← Instr.lookup t (evT tmps x) (evT tmps k) ok))) := fun tmps => by unfold execOp; rw [ho]
  unfold cOp at h
  rw [ho] at h
  simp only at h
  split at h
  case h_2 => cases h
  rename_i e he
  obtain ⟨kt, d, M⟩ := mapTy_t he
  split at h
  case h_2 => cases h
  rename_i z hz
  obtain ⟨zv, hzr, hzv⟩ := zeroV_run hz
  refine pure2 h hx hy (F := fun a b => Instr.lookup t a b ok) hF fun v v2 A K hk => ?_
  -- the entries
  have key : ∀ es, findM e.2 v2 (fun o => match o with | some v => K (okV ok v.2 true) A | none => K (okV ok z false) A) es = true → ∃ u, K u A = true ∧ ∀ (σ : Ai.Sub) w kv (ents : Array MapEntry), VRel σ v2 kv → EntR σ es ents.toList →
      ((Instr.findKey kt kv ents.toList).run P w = .ok none w ∧ VRel σ u (if ok then .tuple #[zv, .bool false] else zv)) ∨ (∃ i v, (Instr.findKey kt kv ents.toList).run P w = .ok (some (i, v)) w ∧ VRel σ u (if ok then .tuple #[v, .bool true] else v)) := by
    intro es hf
    obtain ⟨r, hr, hs⟩ := findM_sound M es _ hf
    cases r with
    | none => exact ⟨_, hr, fun σ w kv ents hkv hE => .inl ⟨findKey_run M (hs σ kv ents.toList 0 hkv hE) w, okV_rel (hzv σ)⟩⟩
    | some bv =>
      refine ⟨_, hr, fun σ w kv ents hkv hE => ?_⟩
      obtain ⟨i, m, g1, g2, g3, g4, g5⟩ := hs σ kv ents.toList 0 hkv hE
      exact .inr ⟨_, _, findKey_run M g2 w, okV_rel g4⟩
  unfold lookupR entries at hk
  split at hk
  · obtain ⟨h1, h2⟩ := and_t.1 hk
    have := Nat.eq_of_beq_eq_true h1
    subst this
    obtain ⟨u, hK, hs⟩ := key [] h2
    refine ⟨u, hK, fun A2 σ w xv yv _ hxv hyv _ => ?_⟩
    cases hxv
    have hund := run_underlying M.ht w
    rcases hs σ w yv #[] hyv (EntR.nil σ) with ⟨q1, q2⟩ | ⟨i, v, q1, q2⟩
    · exact ⟨_, by simp only [Instr.lookup, Sem.run_bind, hund, Result.andThen_ok, Sem.run_pure, M.check, q1, hzr], q2⟩
    · exact ⟨_, by simp only [Instr.lookup, Sem.run_bind, hund, Result.andThen_ok, Sem.run_pure, M.check, q1], q2⟩
  · rename_i t' b i n' c
    obtain ⟨h1, h2⟩ := and_t.1 hk
    have := Nat.eq_of_beq_eq_true h1
    subst this
    obtain ⟨o', ho', h3⟩ := optK_t.1 h2
    obtain ⟨clock, es, h4, h5⟩ := oMap_t.1 h3
    subst h4
    obtain ⟨u, hK, hs⟩ := key es h5
    refine ⟨u, hK, fun A2 σ w xv yv hS hxv hyv hA => ?_⟩
    cases hxv with
    | map b i n' c r hr =>
      have hl4 := hA.len4 (b := b) (by rw [hr]; simp)
      obtain ⟨ents, g1, g2⟩ := hA.mapAt (hS.get hl4 ho') hr
      have hund := run_underlying M.ht w
      have hobj : (getObj r).run P w = .ok (.map ents clock) w := by simp [getObj, Sem.run, g1]
      rcases hs σ w yv ents hyv g2 with ⟨q1, q2⟩ | ⟨i, v, q1, q2⟩
      · exact ⟨_, by simp only [Instr.lookup, Sem.run_bind, hund, Result.andThen_ok, Sem.run_pure, hobj, M.check, q1, hzr], q2⟩
      · exact ⟨_, by simp only [Instr.lookup, Sem.run_bind, hund, Result.andThen_ok, Sem.run_pure, hobj, M.check, q1], q2⟩
  · cases hk
end ops
end Go.Ai

namespace Go.Ai
open Go
variable {P : Program}
section ops
variable {n : Nat} {o : Oper} {run : Run}

theorem s_typeAssert {x : Operand} {xt t : TypeId} {ok : Bool} (ho : o.op = .typeAssert x xt t ok) (h : cOp P o = some run) : SoundP P n o run := by
  have hx : x ∈ o.op.operands := by rw [ho]; simp [Op.operands]
  have hF : ∀ tmps, execOp (evT tmps) o = (do Pure.pure (Next.value (← Instr.typeAssert (evT tmps x) xt t ok))) := fun tmps => by unfold execOp; rw [ho]
  unfold cOp at h
  rw [ho] at h
  simp only at h
  split at h
  · cases h
  · rename_i d hne hd
    split at h
    · rename_i z hz
      obtain ⟨zv, hzr, hzv⟩ := zeroV_run hz
      have hund := fun w => run_underlying hd w
      have hni : ∀ ms, d ≠ .interface ms := fun ms e => by subst e; exact hne ms rfl
      refine pure1 h hx (F := fun v => Instr.typeAssert v xt t ok) hF fun v A K hk => ?_
      unfold assertR at hk
      split at hk
      · rename_i u n' a c
        obtain ⟨h1, h2⟩ := and_t.1 hk
        have := Nat.eq_of_beq_eq_true h1
        subst this
        split at h2
        · rename_i v0 r
          cases hb : Nat.beq n' t with
          | true =>
            rw [hb] at h2
            have := Nat.eq_of_beq_eq_true hb
            subst this
            refine ⟨_, h2, fun A2 σ w xv _ hxv _ => ?_⟩
            cases hxv with
            | iface ty a0 r0 c0 v hv =>
              refine ⟨if ok then .tuple #[v, .bool true] else v, ?_, okV_rel hv⟩
              cases d <;> first | exact absurd rfl (hni _) | simp [Instr.typeAssert, hund w]
          | false =>
            rw [hb] at h2
            obtain ⟨h3, h4⟩ := and_t.1 h2
            subst h3
            refine ⟨_, h4, fun A2 σ w xv _ hxv _ => ?_⟩
            cases hxv with
            | iface ty a0 r0 c0 v hv =>
              have hne' : ¬ n' = t := fun e => by subst e; rw [Nat.beq_refl] at hb; cases hb
              refine ⟨.tuple #[zv, .bool false], ?_, okV_rel (ok := true) (hzv σ)⟩
              cases d <;> first | exact absurd rfl (hni _) | simp [Instr.typeAssert, hund w, hne', hzr]
        · cases h2
      · rename_i u
        obtain ⟨h1, h2⟩ := and_t.1 hk
        obtain ⟨h3, h4⟩ := and_t.1 h1
        have := Nat.eq_of_beq_eq_true h3
        subst this
        subst h4
        refine ⟨_, h2, fun A2 σ w xv _ hxv _ => ?_⟩
        cases hxv
        refine ⟨.tuple #[zv, .bool false], ?_, okV_rel (ok := true) (hzv σ)⟩
        cases d <;> first | exact absurd rfl (hni _) | simp [Instr.typeAssert, hund w, hzr]
      · cases hk
    · cases h
  · cases h

/- builtins -/
theorem exec_builtin {b : Builtin} {c : Call} (ho : o.op = .call c) (hc : c.callee = .builtin b) (tmps : Array Value) : ∃ cs, execOp (evT tmps) o = builtin b c.argTypes o.type cs (c.args.map (evT tmps)) := by
  unfold execOp
  rw [ho]
  simp only [resolve, hc, pure_bind, invoke]
  exact ⟨_, rfl⟩

theorem arr1 {α : Type} {a : Array α} {x : α} (h : a.toList = [x]) : a = #[x] := by
  cases a; simpa using h
theorem arr2 {α : Type} {a : Array α} {x y : α} (h : a.toList = [x, y]) : a = #[x, y] := by
  cases a; simpa using h
theorem arr_hd {a : Array TypeId} {t : TypeId} {r : List TypeId} (h : a.toList = t :: r) : a[0]? = some t := by
  cases a; simp at h; simp [h]

theorem call_op {c : Call} {b : Builtin} (ho : o.op = .call c) (hc : c.callee = .builtin b) (h : cOp P o = some run) : cBuiltin P b c.argTypes.toList c.args.toList = some run := by
  unfold cOp at h
  rw [ho] at h
  simp only [hc] at h
  exact h

theorem s_len {c : Call} (ho : o.op = .call c) (hc : c.callee = .builtin .len) (h : cOp P o = some run) : SoundP P n o run := by
  have hb := call_op ho hc h
  cases hargs : c.args.toList with
  | nil => rw [hargs] at hb; cases hb
  | cons x rest =>
    cases rest with
    | cons _ _ => rw [hargs] at hb; cases hb
    | nil =>
      rw [hargs] at hb
      have ha := arr1 hargs
      have hx : x ∈ o.op.operands := by rw [ho]; simp [Op.operands, Call.operands, hc, ha]
      cases hts : c.argTypes.toList with
      | nil => rw [hts] at hb; cases hb
      | cons t r =>
        rw [hts] at hb
        have ht0 := arr_hd hts
        have hF : ∀ tmps, execOp (evT tmps) o = (do Pure.pure (Next.value (← Builtin.len_ c.argTypes o.type #[evT tmps x]))) := fun tmps => by obtain ⟨cs, e⟩ := exec_builtin ho hc tmps; rw [e, ha]; simp [builtin]
        have hb' : (match P.underlying t with
          | some (.array n _) => (match cOpd x with | some _ => some fun _ A K => K (.nat .i64 n) A | none => none)
          | some (.pointer a) => (match P.underlying a, cOpd x with | some (.array n _), some _ => some fun _ A K => K (.nat .i64 n) A | _, _ => none)
          | some .string => c1 x lenS
          | some (.slice _) => c1 x lenL
          | some (.map _ _) => c1 x lenM
          | _ => none) = some run := hb
        split at hb'
        · rename_i N e hu
          split at hb'
          · cases hb'
            intro e A K hk
            refine ⟨_, hk, fun A2 σ tmps w _ _ _ => ⟨goInt N, ?_, .nat .i64 N⟩⟩
            rw [hF]
            refine vals _ _ w w ?_
            have := run_underlying hu w
            simp [Builtin.len_, ht0, this, goInt]
          · cases hb'
        · rename_i a hu
          split at hb'
          · rename_i N e' op hu2 _
            cases hb'
            intro e A K hk
            refine ⟨_, hk, fun A2 σ tmps w _ _ _ => ⟨goInt N, ?_, .nat .i64 N⟩⟩
            rw [hF]
            refine vals _ _ w w ?_
            have h1 := run_underlying hu w
            have h2 := run_underlying hu2 w
            simp [Builtin.len_, ht0, h1, h2, goInt]
          · cases hb'
        · rename_i hu
          refine pure1 hb' hx (F := fun v => Builtin.len_ c.argTypes o.type #[v]) hF fun v A K hk => ?_
          obtain ⟨s, h1, h2⟩ := asStr_t.1 hk
          subst h1
          refine ⟨_, h2, fun A2 σ w xv _ hxv _ => ⟨goInt s.length, ?_, .nat .i64 _⟩⟩
          obtain ⟨e1, _⟩ := str_inv hxv
          have := run_underlying hu w
          simp [Builtin.len_, ht0, this, e1, goInt, bytes_size]
        · rename_i e hu
          refine pure1 hb' hx (F := fun v => Builtin.len_ c.argTypes o.type #[v]) hF fun v A K hk => ?_
          have hl : ∃ m, K (.nat .i64 m) A = true ∧ ∀ σ xv, VRel σ v xv → ∃ a cp, xv = .slice a m cp := by
            unfold lenL lenV at hk
            split at hk
            · obtain ⟨h1, h2⟩ := and_t.1 hk
              have := Nat.eq_of_beq_eq_true h1
              subst this
              exact ⟨_, h2, fun σ xv hxv => by cases hxv; exact ⟨_, _, rfl⟩⟩
            · obtain ⟨h1, h2⟩ := and_t.1 hk
              refine ⟨_, h2, fun σ xv hxv => ?_⟩
              cases hxv <;> first | exact ⟨_, _, rfl⟩ | (simp at h1)
            · cases hk
          obtain ⟨m, hm, hs⟩ := hl
          refine ⟨_, hm, fun A2 σ w xv _ hxv _ => ?_⟩
          obtain ⟨a, cp, rfl⟩ := hs σ xv hxv
          have := run_underlying hu w
          exact ⟨goInt m, by simp [Builtin.len_, ht0, this, goInt], .nat .i64 _⟩
        · rename_i k e hu
          refine pure1 hb' hx (F := fun v => Builtin.len_ c.argTypes o.type #[v]) hF fun v A K hk => ?_
          unfold lenM at hk
          split at hk
          · rename_i t' b i n' c0
            obtain ⟨h1, h2⟩ := and_t.1 hk
            have := Nat.eq_of_beq_eq_true h1
            subst this
            obtain ⟨o', ho', h3⟩ := optK_t.1 h2
            obtain ⟨clock, es, h4, h5⟩ := oMap_t.1 h3
            subst h4
            refine ⟨_, h5, fun A2 σ w xv hS hxv hA => ?_⟩
            cases hxv with
            | map b i n' c' r hr =>
              have hl4 := hA.len4 (b := b) (by rw [hr]; simp)
              obtain ⟨ents, g1, g2⟩ := hA.mapAt (hS.get hl4 ho') hr
              have hund := run_underlying hu w
              have hsz : ents.size = es.length := by
                have := congrArg List.length g2.hb
                simpa using this.symm
              exact ⟨goInt es.length, by simp [Builtin.len_, ht0, hund, getObj, Sem.run, g1, hsz, goInt], .nat .i64 _⟩
          · obtain ⟨h1, h2⟩ := and_t.1 hk
            have := Nat.eq_of_beq_eq_true h1
            subst this
            refine ⟨_, h2, fun A2 σ w xv _ hxv _ => ?_⟩
            cases hxv
            have hund := run_underlying hu w
            exact ⟨goInt 0, by simp [Builtin.len_, ht0, hund, goInt], .nat .i64 0⟩
          · cases hk
        · cases hb'

theorem s_cap {c : Call} (ho : o.op = .call c) (hc : c.callee = .builtin .cap) (h : cOp P o = some run) : SoundP P n o run := by
  have hb := call_op ho hc h
  cases hargs : c.args.toList with
  | nil => rw [hargs] at hb; cases hb
  | cons x rest =>
    cases rest with
    | cons _ _ => rw [hargs] at hb; cases hb
    | nil =>
      rw [hargs] at hb
      have ha := arr1 hargs
      have hx : x ∈ o.op.operands := by rw [ho]; simp [Op.operands, Call.operands, hc, ha]
      cases hts : c.argTypes.toList with
      | nil => rw [hts] at hb; cases hb
      | cons t r =>
        rw [hts] at hb
        have ht0 := arr_hd hts
        have hF : ∀ tmps, execOp (evT tmps) o = (do Pure.pure (Next.value (← Builtin.cap_ c.argTypes o.type #[evT tmps x]))) := fun tmps => by obtain ⟨cs, e⟩ := exec_builtin ho hc tmps; rw [e, ha]; simp [builtin]
        have hb' : (match elemTy P t with | some _ => c1 x capR | none => none) = some run := hb
        split at hb'
        · rename_i el hel
          have hu : P.underlying t = some (.slice el) := by
            unfold elemTy at hel
            split at hel
            · rename_i e' he; cases hel; exact he
            · cases hel
          refine pure1 hb' hx (F := fun v => Builtin.cap_ c.argTypes o.type #[v]) hF fun v A K hk => ?_
          have hl : ∃ u, K u A = true ∧ ∀ σ xv, VRel σ v xv → ∃ a l m, xv = .slice a l m ∧ VRel σ u (goInt m) := by
            unfold capR at hk
            split at hk
            · obtain ⟨h1, h2⟩ := and_t.1 hk
              have := Nat.eq_of_beq_eq_true h1
              subst this
              exact ⟨_, h2, fun σ xv hxv => by cases hxv; exact ⟨_, _, _, rfl, .nat .i64 0⟩⟩
            · rename_i t' b i m c0
              obtain ⟨h1, h2⟩ := and_t.1 hk
              have := Nat.eq_of_beq_eq_true h1
              subst this
              split at h2
              · rename_i cc
                refine ⟨_, h2, fun σ xv hxv => ?_⟩
                cases hxv with
                | slc b i n' c a m' g0 ga gc gn => rw [gc cc rfl]; exact ⟨_, _, _, rfl, .nat .i64 cc⟩
              · refine ⟨_, h2, fun σ xv hxv => ?_⟩
                cases hxv with
                | slc b i n' c a m' g0 ga gc gn => exact ⟨_, _, _, rfl, .atl _ _ _ m' gn⟩
            · cases hk
          obtain ⟨u, hu', hs⟩ := hl
          refine ⟨u, hu', fun A2 σ w xv _ hxv _ => ?_⟩
          obtain ⟨a, l, m, rfl, hr⟩ := hs σ xv hxv
          have := run_underlying hu w
          exact ⟨goInt m, by simp [Builtin.cap_, ht0, this, goInt], hr⟩
        · cases hb'

theorem s_max {c : Call} (ho : o.op = .call c) (hc : c.callee = .builtin .max) (h : cOp P o = some run) : SoundP P n o run := by
  have hb := call_op ho hc h
  have h2 : ∃ x y, c.args.toList = [x, y] ∧ c2 x y maxR = some run := by
    generalize c.args.toList = l at hb
    cases l with
    | nil => cases hb
    | cons x l => cases l with
      | nil => cases hb
      | cons y l => cases l with
        | nil => exact ⟨x, y, rfl, hb⟩
        | cons _ _ => cases hb
  obtain ⟨x, y, hargs, hb⟩ := h2
  have ha := arr2 hargs
  have hx : x ∈ o.op.operands := by rw [ho]; simp [Op.operands, Call.operands, hc, ha]
  have hy : y ∈ o.op.operands := by rw [ho]; simp [Op.operands, Call.operands, hc, ha]
  have hF : ∀ tmps, execOp (evT tmps) o = (do Pure.pure (Next.value (← Builtin.max_ c.argTypes o.type #[evT tmps x, evT tmps y]))) := fun tmps => by obtain ⟨cs, e⟩ := exec_builtin ho hc tmps; rw [e, ha]; simp [builtin]
  refine pure2 hb hx hy (F := fun a b => Builtin.max_ c.argTypes o.type #[a, b]) hF fun v v2 A K hk => ?_
  obtain ⟨b, hb2, hs⟩ := lt_sound hk
  refine ⟨_, hb2, fun A2 σ w xv yv _ hxv hyv _ => ⟨if b then yv else xv, ?_, by cases b <;> assumption⟩⟩
  rcases hs σ xv yv hxv hyv with ⟨j, p, q, rfl, rfl, hlt⟩ | ⟨s, u, rfl, rfl, hlt⟩
  · cases b
    · have : ¬ p < q := fun hh => by have := hlt.1 hh; cases this
      simp [Builtin.max_, Builtin.max2, this]
    · have : p < q := hlt.2 rfl
      simp [Builtin.max_, Builtin.max2, this]
  · simp only [Builtin.max_, List.foldlM, Builtin.max2, Op.stringOp, hlt]
    cases b <;> simp [Go.asBool]

theorem s_min {c : Call} (ho : o.op = .call c) (hc : c.callee = .builtin .min) (h : cOp P o = some run) : SoundP P n o run := by
  have hb := call_op ho hc h
  have h2 : ∃ x y, c.args.toList = [x, y] ∧ c2 x y minR = some run := by
    generalize c.args.toList = l at hb
    cases l with
    | nil => cases hb
    | cons x l => cases l with
      | nil => cases hb
      | cons y l => cases l with
        | nil => exact ⟨x, y, rfl, hb⟩
        | cons _ _ => cases hb
  obtain ⟨x, y, hargs, hb⟩ := h2
  have ha := arr2 hargs
  have hx : x ∈ o.op.operands := by rw [ho]; simp [Op.operands, Call.operands, hc, ha]
  have hy : y ∈ o.op.operands := by rw [ho]; simp [Op.operands, Call.operands, hc, ha]
  have hF : ∀ tmps, execOp (evT tmps) o = (do Pure.pure (Next.value (← Builtin.min_ c.argTypes o.type #[evT tmps x, evT tmps y]))) := fun tmps => by obtain ⟨cs, e⟩ := exec_builtin ho hc tmps; rw [e, ha]; simp [builtin]
  refine pure2 hb hx hy (F := fun a b => Builtin.min_ c.argTypes o.type #[a, b]) hF fun v v2 A K hk => ?_
  obtain ⟨b, hb2, hs⟩ := lt_sound hk
  refine ⟨_, hb2, fun A2 σ w xv yv _ hxv hyv _ => ⟨if b then yv else xv, ?_, by cases b <;> assumption⟩⟩
  rcases hs σ yv xv hyv hxv with ⟨j, p, q, rfl, rfl, hlt⟩ | ⟨s, u, rfl, rfl, hlt⟩
  · cases b
    · have : ¬ p < q := fun hh => by have := hlt.1 hh; cases this
      simp [Builtin.min_, Builtin.min2, this]
    · have : p < q := hlt.2 rfl
      simp [Builtin.min_, Builtin.min2, this]
  · have htot := less_total u.toList s.toList
    rw [hlt] at htot
    simp only [Builtin.min_, List.foldlM, Builtin.min2, Op.stringOp]
    have h3 : (Op.bytesLess u.toList s.toList || (u.toList == s.toList)) = !b := htot
    rw [h3]
    cases b <;> simp [Go.asBool]
end ops
end Go.Ai

namespace Go.Ai
open Go
variable {P : Program}

/- rows' trees -/
theorem Tr.get_lf {α : Type} (m : Nat) : (Tr.lf : Tr α).get m = none := rfl
theorem Tr.get_nd {α : Type} (v : Option α) (l r : Tr α) (m : Nat) : (Tr.nd v l r).get m = if m = 0 then v else if m % 2 = 1 then l.get (m / 2) else r.get (m / 2 - 1) := by
  show cond (Nat.beq m 0) v (cond (Nat.beq (Nat.mod m 2) 1) (l.get (Nat.div m 2)) (r.get (Nat.sub (Nat.div m 2) 1))) = _
  by_cases h : m = 0
  · subst h; rfl
  · have h1 : Nat.beq m 0 = false := by cases hb : Nat.beq m 0 with
      | false => rfl
      | true => exact absurd (Nat.eq_of_beq_eq_true hb) h
    rw [h1, if_neg h]
    by_cases h2 : m % 2 = 1
    · have h3 : Nat.beq (Nat.mod m 2) 1 = true := by show Nat.beq (m % 2) 1 = true; rw [h2]; rfl
      rw [h3, if_pos h2]; rfl
    · have h3 : Nat.beq (Nat.mod m 2) 1 = false := by
        cases hb : Nat.beq (Nat.mod m 2) 1 with
        | false => rfl
        | true => exact absurd (Nat.eq_of_beq_eq_true hb) h2
      rw [h3, if_neg h2]; rfl
theorem Tr.set_succ {α : Type} (v : α) (f : Nat) (t : Tr α) (n : Nat) : Tr.set v (f + 1) t n = (match t with
    | .lf => if n = 0 then .nd (some v) .lf .lf else if n % 2 = 1 then .nd none (Tr.set v f .lf (n / 2)) .lf else .nd none .lf (Tr.set v f .lf (n / 2 - 1))
    | .nd x l r => if n = 0 then .nd (some v) l r else if n % 2 = 1 then .nd x (Tr.set v f l (n / 2)) r else .nd x l (Tr.set v f r (n / 2 - 1))) := by
  have hb0 : ∀ (A : Type) (a b : A), cond (Nat.beq n 0) a b = if n = 0 then a else b := fun A a b => by
    by_cases h : n = 0
    · subst h; rfl
    · have h1 : Nat.beq n 0 = false := by cases hb : Nat.beq n 0 with
        | false => rfl
        | true => exact absurd (Nat.eq_of_beq_eq_true hb) h
      rw [h1, if_neg h]; rfl
  have hb1 : ∀ (A : Type) (a b : A), cond (Nat.beq (Nat.mod n 2) 1) a b = if n % 2 = 1 then a else b := fun A a b => by
    by_cases h : n % 2 = 1
    · have h3 : Nat.beq (Nat.mod n 2) 1 = true := by show Nat.beq (n % 2) 1 = true; rw [h]; rfl
      rw [h3, if_pos h]; rfl
    · have h3 : Nat.beq (Nat.mod n 2) 1 = false := by
        cases hb : Nat.beq (Nat.mod n 2) 1 with
        | false => rfl
        | true => exact absurd (Nat.eq_of_beq_eq_true hb) h
      rw [h3, if_neg h]; rfl
  cases t with
  | lf =>
    show cond (Nat.beq n 0) (Tr.nd (some v) .lf .lf) (cond (Nat.beq (Nat.mod n 2) 1) (Tr.nd none (Tr.set v f .lf (Nat.div n 2)) .lf) (Tr.nd none .lf (Tr.set v f .lf (Nat.sub (Nat.div n 2) 1)))) = _
    rw [hb0, hb1]; rfl
  | nd x l r =>
    show cond (Nat.beq n 0) (Tr.nd (some v) l r) (cond (Nat.beq (Nat.mod n 2) 1) (Tr.nd x (Tr.set v f l (Nat.div n 2)) r) (Tr.nd x l (Tr.set v f r (Nat.sub (Nat.div n 2) 1)))) = _
    rw [hb0, hb1]; rfl

theorem Tr.get_set {α : Type} (v : α) : ∀ (f : Nat) (t : Tr α) (n m : Nat), n + 1 < 2 ^ f → (Tr.set v f t n).get m = if m = n then some v else t.get m
  | 0, t, n, m, h => by simp at h
  | f + 1, t, n, m, h => by
    have h2 : 2 ^ (f + 1) = 2 * 2 ^ f := by rw [Nat.pow_succ]; omega
    rw [Tr.set_succ]
    cases t with
    | lf =>
      simp only
      by_cases hn : n = 0
      · subst hn
        rw [if_pos rfl, Tr.get_nd]
        by_cases hm : m = 0
        · simp [hm]
        · simp [hm, Tr.get_lf]
      · rw [if_neg hn]
        by_cases ho : n % 2 = 1
        · rw [if_pos ho, Tr.get_nd, Tr.get_set v f .lf (n / 2) (m / 2) (by omega)]
          by_cases hm : m = 0
          · subst hm; simp [Ne.symm hn, Tr.get_lf]
          · rw [if_neg hm]
            by_cases hmo : m % 2 = 1
            · rw [if_pos hmo]
              by_cases he : m = n
              · subst he; simp
              · rw [if_neg he, if_neg (by omega)]; rfl
            · rw [if_neg hmo, if_neg (by intro e; rw [e] at hmo; exact hmo ho)]; rfl
        · rw [if_neg ho, Tr.get_nd, Tr.get_set v f .lf (n / 2 - 1) (m / 2 - 1) (by omega)]
          by_cases hm : m = 0
          · subst hm; simp [Ne.symm hn, Tr.get_lf]
          · rw [if_neg hm]
            by_cases hmo : m % 2 = 1
            · rw [if_pos hmo, if_neg (by intro e; rw [e] at hmo; exact ho hmo)]; rfl
            · rw [if_neg hmo]
              by_cases he : m = n
              · subst he; simp
              · rw [if_neg he, if_neg (by omega)]; rfl
    | nd x l r =>
      simp only
      by_cases hn : n = 0
      · subst hn
        rw [if_pos rfl, Tr.get_nd, Tr.get_nd]
        by_cases hm : m = 0
        · simp [hm]
        · simp [hm]
      · rw [if_neg hn]
        by_cases ho : n % 2 = 1
        · rw [if_pos ho, Tr.get_nd, Tr.get_nd, Tr.get_set v f l (n / 2) (m / 2) (by omega)]
          by_cases hm : m = 0
          · subst hm; simp [Ne.symm hn]
          · rw [if_neg hm, if_neg hm]
            by_cases hmo : m % 2 = 1
            · rw [if_pos hmo, if_pos hmo]
              by_cases he : m = n
              · subst he; simp
              · rw [if_neg he, if_neg (by omega)]
            · rw [if_neg hmo, if_neg hmo, if_neg (by intro e; rw [e] at hmo; exact hmo ho)]
        · rw [if_neg ho, Tr.get_nd, Tr.get_nd, Tr.get_set v f r (n / 2 - 1) (m / 2 - 1) (by omega)]
          by_cases hm : m = 0
          · subst hm; simp [Ne.symm hn]
          · rw [if_neg hm, if_neg hm]
            by_cases hmo : m % 2 = 1
            · rw [if_pos hmo, if_pos hmo, if_neg (by intro e; rw [e] at hmo; exact ho hmo)]
            · rw [if_neg hmo, if_neg hmo]
              by_cases he : m = n
              · subst he; simp
              · rw [if_neg he, if_neg (by omega)]

theorem trOf_get : ∀ (L : List (List AV)) (i m : Nat) (t : Tr (List AV)), i + L.length ≤ 65536 → (trOf i L t).get m = if i ≤ m ∧ m < i + L.length then L[m - i]? else t.get m
  | [], i, m, t, h => by simp [trOf]; intro h1 h2; omega
  | x :: xs, i, m, t, h => by
    simp only [trOf]
    simp at h
    rw [trOf_get xs (i + 1) m _ (by omega), Tr.get_set x 20 t i m (Nat.lt_of_lt_of_le (show i + 1 < 65538 by omega) (by decide))]
    by_cases h1 : i + 1 ≤ m ∧ m < i + 1 + xs.length
    · rw [if_pos h1, if_pos (by simp; omega)]
      rw [show m - i = (m - (i + 1)) + 1 by omega]
      rfl
    · rw [if_neg h1]
      by_cases h2 : m = i
      · subst h2
        rw [if_pos rfl, if_pos (by simp)]
        simp
      · rw [if_neg h2, if_neg (by simp; omega)]

/-- a row's cells, all of them -/
def RowsR (σ : Ai.Sub) (s : Nat) (L : List (List AV)) (cells : List Value) : Prop := (∀ r ∈ L, r.length = s ∧ r.all oneA = true) ∧ VRels σ L.flatten cells

theorem RowsR.nil (σ : Ai.Sub) (s : Nat) : RowsR σ s [] [] := ⟨by simp, .nil⟩
theorem RowsR.cons {σ : Ai.Sub} {s : Nat} {r : List AV} {L : List (List AV)} {a b : List Value} (h1 : r.length = s) (h2 : r.all oneA = true) (h3 : VRels σ r a) (h : RowsR σ s L b) : RowsR σ s (r :: L) (a ++ b) :=
  ⟨fun x hx => (List.mem_cons.1 hx).elim (fun e => e ▸ ⟨h1, h2⟩) (h.1 x), by simpa using h3.append h.2⟩
theorem RowsR.append {σ : Ai.Sub} {s : Nat} {L M : List (List AV)} {a b : List Value} (h : RowsR σ s L a) (k : RowsR σ s M b) : RowsR σ s (L ++ M) (a ++ b) :=
  ⟨fun x hx => (List.mem_append.1 hx).elim (h.1 x) (k.1 x), by simpa using h.2.append k.2⟩
theorem flatten_len {s : Nat} {L : List (List AV)} (h : ∀ r ∈ L, r.length = s) : L.flatten.length = L.length * s := by
  induction L with
  | nil => simp
  | cons x xs ih =>
    have := ih fun r hr => h r (by simp [hr])
    rw [List.flatten_cons, List.length_append, this, h x (by simp), List.length_cons, Nat.add_mul]; omega
theorem RowsR.size {σ : Ai.Sub} {s : Nat} {L : List (List AV)} {cells : List Value} (h : RowsR σ s L cells) : cells.length = L.length * s := by
  rw [← h.2.length, flatten_len fun r hr => (h.1 r hr).1]
theorem RowsR.get {σ : Ai.Sub} {s : Nat} : ∀ {L : List (List AV)} {cells : List Value}, RowsR σ s L cells → ∀ (i : Nat) (r : List AV), L[i]? = some r → VRels σ r ((cells.drop (i * s)).take s)
  | [], _, _, i, r, hr => by simp at hr
  | x :: L, cells, h, i, r, hr => by
    have hx := (h.1 x (by simp)).1
    have hflat := h.2
    rw [List.flatten_cons] at hflat
    have hL : RowsR σ s L (cells.drop s) := ⟨fun r hr => h.1 r (by simp [hr]), by have := hflat.drop s; rwa [List.drop_left' hx] at this⟩
    cases i with
    | zero =>
      simp at hr
      subst hr
      have := hflat.take s
      rw [List.take_left' hx] at this
      simpa using this
    | succ i =>
      have := hL.get i r (by simpa using hr)
      rw [List.drop_drop] at this
      rwa [show (i + 1) * s = s + i * s by rw [Nat.add_mul]; omega]

/-- a new row -/
theorem new_row {σ : Ai.Sub} {w : World} {cb : Nat} {s n : Nat} {L : List (List AV)} {c : Array Value} {elem : TypeId} (hs : s ≠ 0) (hn : L.length = n) (hle : n ≤ 65536) (hc : w.heap[cb]? = some (.cells c elem (0, 0))) (ht : σ.top cb = some c.size) {cells : List Value} (hR : RowsR σ s L cells) (hp : ∀ (i : Nat) (y : Value), cells[i]? = some y → c[i]? = some y) :
    ORel σ w cb 0 s (.row s n (trOf 0 L .lf)) := by
  have hsz : cells.length ≤ c.size := by
    rcases Nat.lt_or_ge c.size cells.length with h | h
    · have h1 : cells[c.size]? = some cells[c.size] := List.getElem?_eq_getElem h
      have := hp _ _ h1
      simp at this
    · exact h
  refine .row n _ c elem 0 0 hs hle hc ht (.inl rfl) (by rw [hR.size, hn] at hsz; omega) fun i cs hi hg => ?_
  rw [trOf_get L 0 i .lf (by omega), if_pos (by omega)] at hg
  simp at hg
  obtain ⟨h1, h2⟩ := hR.1 cs (List.mem_of_getElem? hg)
  refine ⟨h1, h2, ?_⟩
  have := hR.get i cs hg
  have hlen := hR.size
  have heq : (c.toList.drop (0 + i * s)).take s = (cells.drop (i * s)).take s := by
    apply List.ext_getElem?
    intro j
    rw [List.getElem?_take, List.getElem?_take]
    split
    · rename_i hj
      rw [List.getElem?_drop, List.getElem?_drop, Nat.zero_add]
      have hb : i * s + j < cells.length := by
        rw [hlen, hn]
        have : (i + 1) * s ≤ n * s := Nat.mul_le_mul_right s (by omega)
        rw [Nat.add_mul] at this
        omega
      have h1 : cells[i * s + j]? = some cells[i * s + j] := List.getElem?_eq_getElem hb
      rw [h1]
      simpa using hp _ _ h1
    · rfl
  rw [heq]; exact this
end Go.Ai

namespace Go.Ai
open Go
variable {P : Program}

theorem cellsO_rel {σ : Ai.Sub} {v : AV} {c : List AV} {x : Value} (h : cellsO v = some c) (hv : VRel σ v x) : VRels σ c x.cells.toList ∧ c.all oneA = true := by
  have one : cellsO v = some [v] → oneA v = true → (∀ vs, x ≠ .agg vs) → VRels σ [v] x.cells.toList ∧ [v].all oneA = true := fun _ h1 h2 => by
    have : x.cells = #[x] := by cases x <;> first | rfl | exact absurd rfl (h2 _)
    rw [this]
    exact ⟨.cons hv .nil, by simp [h1]⟩
  have fin : c = [v] → oneA v = true → (∀ vs, x ≠ .agg vs) → VRels σ c x.cells.toList ∧ c.all oneA = true := fun e h1 h2 => by
    rw [e] at h ⊢; exact one h h1 h2
  cases hv with
  | agg y a c' vs h1 hs => cases h; exact ⟨hs, h1⟩
  | tuple => cases h
  | func => cases h; exact fin rfl rfl (by simp)
  | iface => cases h; exact fin rfl rfl (by simp)
  | atl => cases h; exact fin rfl rfl (by simp)
  | nat => cases h; exact fin rfl rfl (by simp)
  | neg => cases h; exact fin rfl rfl (by simp)
  | bool => cases h; exact fin rfl rfl (by simp)
  | str => cases h; exact fin rfl rfl (by simp)
  | nilp => cases h; exact fin rfl rfl (by simp)
  | nils => cases h; exact fin rfl rfl (by simp)
  | nilm => cases h; exact fin rfl rfl (by simp)
  | nilf => cases h; exact fin rfl rfl (by simp)
  | nili => cases h; exact fin rfl rfl (by simp)
  | emp => cases h; exact fin rfl rfl (by simp)
  | ptr => cases h; exact fin rfl rfl (by simp)
  | slc => cases h; exact fin rfl rfl (by simp)
  | map => cases h; exact fin rfl rfl (by simp)
  | yld => cases h; exact fin rfl rfl (by simp)

theorem zeroC_t {t : TypeId} {z : List AV} (h : zeroC P t = some z) : ∃ zv, (∀ w, (zeroValue t).run P w = .ok zv w) ∧ size P t = some z.length ∧ z.all oneA = true ∧ ∀ σ, VRels σ z zv.cells.toList := by
  unfold zeroC at h
  split at h
  · rename_i zv s hz hs
    split at h
    · rename_i c hc
      cases hb : (Nat.beq c.length s && c.all oneA) with
      | false => rw [hb] at h; cases h
      | true =>
        rw [hb] at h
        cases h
        obtain ⟨h1, h2⟩ := and_t.1 hb
        obtain ⟨v, hv1, hv2⟩ := zeroV_run hz
        exact ⟨v, hv1, by rw [hs, Nat.eq_of_beq_eq_true h1], h2, fun σ => (cellsO_rel hc (hv2 σ)).1⟩
    · cases h
  · cases h

theorem newRow_run (t : TypeId) (c : Array Value) (w : World) : (Go.newRow t c).run P w = .ok ⟨w.heap.size, 0, none⟩ { w with heap := w.heap.push (.cells c t) } := rfl
theorem newVar_run (t : TypeId) (v : Value) (w : World) : (newVar t v).run P w = .ok ⟨w.heap.size, 0, none⟩ { w with heap := w.heap.push (.cells v.cells t) } := rfl

theorem ptr_new {σ : Ai.Sub} {b : Pa} {k s : Nat} (h : σ b = .at k 0 s) : VRel σ (.ptr b 0 0) (.pointer (some ⟨k, 0, none⟩)) :=
  .ptr b 0 0 none _ (by rw [h]; simp) fun cb base sz e => by rw [h] at e; cases e; simp

theorem row_one {σ : Ai.Sub} {w : World} {cb s : Nat} {z : List AV} {c : Array Value} {elem : TypeId} (hs : z.length = s) (h0 : s ≠ 0) (hone : z.all oneA = true) (hc : w.heap[cb]? = some (.cells c elem (0, 0))) (ht : σ.top cb = some c.size) (hr : VRels σ z c.toList) : ORel σ w cb 0 s (.row s 1 (.nd (some z) .lf .lf)) :=
  new_row (L := [z]) h0 rfl (by omega) hc ht (cells := c.toList) (by have := RowsR.cons hs hone hr (RowsR.nil σ s); simpa using this) (fun i y h => by simpa using h)

theorem ones_flat : ∀ (z : List AV), (ones z).flatten = z ∧ (ones z).length = z.length ∧ ∀ r ∈ ones z, ∃ x ∈ z, r = [x]
  | [] => ⟨rfl, rfl, by simp [ones]⟩
  | x :: z => by
    obtain ⟨h1, h2, h3⟩ := ones_flat z
    refine ⟨by simp [ones, h1], by simp [ones, h2], fun r hr => ?_⟩
    rcases List.mem_cons.1 hr with rfl | hr
    · exact ⟨x, by simp, rfl⟩
    · obtain ⟨y, hy, e⟩ := h3 r hr; exact ⟨y, by simp [hy], e⟩

section ops
variable {n : Nat} {o : Oper} {run : Run}

theorem s_alloc {t : TypeId} (ho : o.op = .alloc t) (h : cOp P o = some run) : SoundN P n o run := by
  unfold cOp at h
  rw [ho] at h
  simp only at h
  split at h
  case h_2 => cases h
  rename_i z s hz hs
  cases hb : Nat.beq s 0 with
  | true => rw [hb] at h; cases h
  | false =>
    rw [hb] at h
    simp only [cond_false, Option.some.injEq] at h
    obtain ⟨zv, hz1, hz2, hz3, hz4⟩ := zeroC_t hz
    have hsl : z.length = s := by rw [hz2] at hs; exact Option.some.inj hs
    have h0 : s ≠ 0 := fun e => (by subst e; cases hb)
    have hrun : ∀ (tmps : Array Value) (w : World), (execOp (evT tmps) o).run P w = .ok (.value (.pointer (some ⟨w.heap.size, 0, none⟩))) { w with heap := w.heap.push (.cells zv.cells t) } := fun tmps w => by
      unfold execOp
      rw [ho]
      refine vals _ _ w _ ?_
      simp [Instr.alloc, hz1, newVar_run]
    have one : ∀ e A K, newRow s z A K = true → ∃ mk obj, allZ (inc A.next) = false ∧ K (mk A.next) (A.new obj) = true ∧ NewSem P n o e mk obj := fun e A K hk => by
      obtain ⟨h1, h2⟩ := newK_t hk
      refine ⟨fun b => .ptr b 0 0, _, h1, h2, fun σ tmps w _ _ => ⟨_, fun k => .pointer (some ⟨k, 0, none⟩), s, hrun tmps w, fun σ' w' b _ hc hb' ht' => ⟨row_one hsl h0 hz3 hc ht' (hz4 σ'), ptr_new hb'⟩⟩⟩
    intro e A K hk
    rw [← h] at hk
    unfold cAlloc at hk
    cases hu : P.underlying t with
    | none => rw [hu] at hk; exact one e A K hk
    | some d =>
      rw [hu] at hk
      cases d with
      | array N el =>
        have arr : (Nat.beq N s && newArr N z A K) = true → ∃ mk obj, allZ (inc A.next) = false ∧ K (mk A.next) (A.new obj) = true ∧ NewSem P n o e mk obj := fun hk => by
          obtain ⟨g1, g2⟩ := and_t.1 hk
          obtain ⟨g3, g4⟩ := and_t.1 g2
          obtain ⟨g5, g6⟩ := newK_t g4
          have hN := Nat.eq_of_beq_eq_true g1
          subst hN
          obtain ⟨q1, q2, q3⟩ := ones_flat z
          refine ⟨fun b => .ptr b 0 0, _, g5, g6, fun σ tmps w _ _ => ⟨_, fun k => .pointer (some ⟨k, 0, none⟩), 1, hrun tmps w, fun σ' w' b _ hc hb' ht' => ⟨?_, ptr_new hb'⟩⟩⟩
          refine new_row (by simp) (by rw [q2, hsl]) (Nat.le_of_ble_eq_true g3) hc ht' (cells := zv.cells.toList) ⟨fun r hr => ?_, by rw [q1]; exact hz4 σ'⟩ (fun i y h => by simpa using h)
          obtain ⟨x, hx, rfl⟩ := q3 r hr
          exact ⟨rfl, by rw [List.all_eq_true] at hz3; simp [hz3 x hx]⟩
        cases hue : P.underlying el with
        | none => simp only [hue] at hk; exact one e A K hk
        | some de =>
          simp only [hue] at hk
          cases de with
          | int kk =>
            cases kk with
            | u8 => exact arr hk
            | _ => exact one e A K hk
          | _ => exact one e A K hk
      | _ => exact one e A K hk

theorem s_box {t : TypeId} {x : Operand} (ho : o.op = .box t x) (h : cOp P o = some run) : SoundN P n o run := by
  have hx : x ∈ o.op.operands := by rw [ho]; simp [Op.operands]
  unfold cOp at h
  rw [ho] at h
  simp only at h
  split at h
  case h_2 => cases h
  rename_i s hs
  cases hb : Nat.beq s 0 with
  | true => rw [hb] at h; cases h
  | false =>
    rw [hb] at h
    simp only [cond_false] at h
    have h0 : s ≠ 0 := fun e => by subst e; cases hb
    unfold c1 at h
    split at h
    · rename_i a ha
      cases h
      intro e A K hk
      obtain ⟨c, hc, hcl, hk1⟩ := cellsK_t.1 hk
      obtain ⟨h1, h2⟩ := newK_t hk1
      refine ⟨fun b => .ptr b 0 0, _, h1, h2, fun σ tmps w hG hE => ?_⟩
      have hv := cOpd_relG ha (fun t e => by subst e; exact hx) hE hG
      obtain ⟨q1, q2⟩ := cellsO_rel hc hv
      refine ⟨.cells (evT tmps x).cells t, fun k => .pointer (some ⟨k, 0, none⟩), s, ?_, fun σ' w' b hle hc' hb' ht' => ⟨row_one hcl h0 q2 hc' ht' (VRels.mono hle q1), ptr_new hb'⟩⟩
      unfold execOp
      rw [ho]
      exact vals _ _ w _ (by simp [Instr.box, newVar_run])
    · cases h

theorem s_makeMap {t : TypeId} {r : Option Operand} (ho : o.op = .makeMap t r) (h : cOp P o = some run) : SoundN P n o run := by
  have obj : ∀ (σ' : Ai.Sub) (w' : World) (k : Nat) (b : Pa), w'.heap[k]? = some (.map #[] 0) → σ' b = .at k 0 0 → ORel σ' w' k 0 0 (.map 0 []) ∧ VRel σ' (.ref 2 b 0 0 none) (.map (some k)) := fun σ' w' k b hc hb =>
    ⟨.map 0 [] #[] ⟨rfl, rfl⟩ hc rfl .nil .nil, .map b 0 0 none k hb⟩
  unfold cOp at h
  rw [ho] at h
  simp only at h
  split at h
  · cases h
    intro e A K hk
    obtain ⟨h1, h2⟩ := newK_t hk
    refine ⟨fun b => .ref 2 b 0 0 none, _, h1, h2, fun σ tmps w _ _ => ⟨.map #[] 0, fun k => .map (some k), 0, ?_, fun σ' w' b _ hc hb _ => obj σ' w' _ b hc hb⟩⟩
    unfold execOp
    rw [ho]
    exact vals _ _ w _ (by simp [Instr.makeMap, newObj, Sem.run])
  · rename_i k el hh hu
    unfold c1 at h
    split at h
    · rename_i a ha
      cases h
      intro e A K hk
      obtain ⟨kk, m, hm, hk1⟩ := asNat_t.1 hk
      obtain ⟨h1, h2⟩ := newK_t hk1
      refine ⟨fun b => .ref 2 b 0 0 none, _, h1, h2, fun σ tmps w hG hE => ⟨.map #[] 0, fun k => .map (some k), 0, ?_, fun σ' w' b _ hc hb _ => obj σ' w' _ b hc hb⟩⟩
      have hv := cOpd_relG ha (V := Opnd o) (fun t e => by subst e; show Operand.tmp t ∈ o.op.operands; rw [ho]; simp [Op.operands]) hE hG
      rw [hm] at hv
      have hv' := nat_inv hv
      unfold execOp
      rw [ho]
      have hund := run_underlying hu w
      exact vals _ _ w _ (by simp [Instr.makeMap, newObj, Sem.run, hund, hv', asInt, asIntOf])
    · cases h
  · cases h
  · cases h

theorem elemTy_t {t el : TypeId} (h : elemTy P t = some el) : P.underlying t = some (.slice el) := by
  unfold elemTy at h
  split at h
  · rename_i e' he; cases h; exact he
  · cases h
theorem small_t {t s : Nat} (h : small P t = some s) : ∃ i, P.info? t = some i ∧ i.size = s ∧ i.bytes ≤ 65536 ∧ 0 < i.bytes ∧ s ≠ 0 := by
  unfold small at h
  split at h
  · rename_i i hi
    cases hb : (Nat.ble i.bytes 65536 && Nat.blt 0 i.bytes && Nat.blt 0 i.size) with
    | false => rw [hb] at h; cases h
    | true =>
      rw [hb] at h
      cases h
      obtain ⟨h1, h2⟩ := and_t.1 hb
      obtain ⟨h3, h4⟩ := and_t.1 h1
      have h5 : 0 < i.bytes := by simpa using h4
      have h6 : 0 < i.size := by simpa using h2
      exact ⟨i, hi, rfl, Nat.le_of_ble_eq_true h3, h5, by omega⟩
  · cases h

theorem rowFrom_R (σ : Ai.Sub) {s : Nat} {z : List AV} {zc : List Value} (hl : z.length = s) (h1 : z.all oneA = true) (hr : VRels σ z zc) : ∀ m, RowsR σ s (rowFrom z m) (List.replicate m zc).flatten ∧ (rowFrom z m).length = m
  | 0 => ⟨RowsR.nil σ s, rfl⟩
  | m + 1 => by
    obtain ⟨a, b⟩ := rowFrom_R σ hl h1 hr m
    exact ⟨by simpa [rowFrom, List.replicate_succ] using RowsR.cons hl h1 hr a, by simp [rowFrom, b]⟩

theorem zeroCells_list (z : Array Value) (m : Nat) : ((Array.range (m * z.size)).map (fun i => z[i % z.size]!)).toList = (List.replicate m z.toList).flatten := by
  induction m with
  | zero => simp
  | succ m ih =>
    by_cases h0 : z.size = 0
    · have : z = #[] := by simpa using h0
      subst this
      simp
    · have h1 : (m + 1) * z.size = m * z.size + z.size := by rw [Nat.add_mul]; omega
      have h2 : ((Array.range ((m + 1) * z.size)).map (fun i => z[i % z.size]!)).toList = ((Array.range (m * z.size)).map (fun i => z[i % z.size]!)).toList ++ z.toList := by
        simp only [Array.toList_map, Array.toList_range]
        rw [h1, List.range_add, List.map_append, List.map_map]
        congr 1
        apply List.ext_getElem?
        intro j
        rw [List.getElem?_map]
        by_cases hj : j < z.size
        · rw [List.getElem?_range hj]
          simp [Nat.mod_eq_of_lt hj, hj]
        · rw [List.getElem?_eq_none (by simpa using Nat.le_of_not_lt hj)]
          rw [List.getElem?_eq_none (by simpa using Nat.le_of_not_lt hj)]
          rfl
      rw [h2, ih, List.replicate_succ', List.flatten_append]
      simp

theorem s_makeSlice {t : TypeId} {l c : Operand} (ho : o.op = .makeSlice t l c) (h : cOp P o = some run) : SoundN P n o run := by
  have hl : l ∈ o.op.operands := by rw [ho]; simp [Op.operands]
  have hc : c ∈ o.op.operands := by rw [ho]; simp [Op.operands]
  unfold cOp at h
  rw [ho] at h
  simp only at h
  split at h
  case h_2 => cases h
  rename_i el hel
  split at h
  case h_2 => cases h
  rename_i s z hs hz
  have hu := elemTy_t hel
  obtain ⟨i, hi1, hi2, hi3, hi4, hi5⟩ := small_t hs
  obtain ⟨zv, hz1, hz2, hz3, hz4⟩ := zeroC_t hz
  have hzl : z.length = s := by
    obtain ⟨i', g1, g2⟩ := size_t hz2
    rw [hi1] at g1; cases g1; rw [← g2, hi2]
  have hzs : zv.cells.size = s := by
    have := (hz4 ⟨fun _ => .pend, fun _ => none⟩).length
    rw [hzl] at this
    simpa using this.symm
  unfold c2 at h
  split at h
  · rename_i a b ha hb
    cases h
    intro e A K hk
    obtain ⟨k1, lv, e1, g1⟩ := asNat_t.1 hk
    obtain ⟨k2, cv, e2, g2⟩ := asNat_t.1 g1
    obtain ⟨g3, g4⟩ := and_t.1 g2
    obtain ⟨g5, g6⟩ := and_t.1 g3
    obtain ⟨g7, g8⟩ := and_t.1 g4
    obtain ⟨g9, g10⟩ := newK_t g8
    have hlc := Nat.le_of_ble_eq_true g5
    have hcb := Nat.le_of_ble_eq_true g6
    refine ⟨fun b => .slc b 0 lv (some cv), _, g9, g10, fun σ tmps w hG hE => ?_⟩
    have hlv := cOpd_relG ha (fun t e => by subst e; exact hl) hE hG
    have hcv := cOpd_relG hb (fun t e => by subst e; exact hc) hE hG
    rw [e1] at hlv
    rw [e2] at hcv
    refine ⟨.cells ((Array.range (cv * s)).map (zv.cells[· % zv.cells.size]!)) el, fun k => .slice (some ⟨k, 0, none⟩) lv cv, s, ?_, fun σ' w' b hle hc' hb' ht' => ⟨?_, ?_⟩⟩
    · unfold execOp
      rw [ho]
      refine vals _ _ w _ ?_
      have hund := run_underlying hu w
      have hw1 : IntKind.i64.wrap (Int.ofNat lv) = Int.ofNat lv := wrap_nat (by simp [maxOf]; omega)
      have hw2 : IntKind.i64.wrap (Int.ofNat cv) = Int.ofNat cv := wrap_nat (by simp [maxOf]; omega)
      have hbytes : ¬ ((i.bytes : Int) * (Int.ofNat cv) > 2 ^ 48) := by
        have : i.bytes * cv ≤ 65536 * 65536 := Nat.mul_le_mul hi3 hcb
        have h2 : ((i.bytes : Int) * (Int.ofNat cv)) = ((i.bytes * cv : Nat) : Int) := by simp
        rw [h2]
        have h3 : (2 : Int) ^ 48 = 281474976710656 := by decide
        rw [h3]; omega
      have hcond : (decide ((Int.ofNat cv) < 0) || decide ((i.bytes : Int) * (Int.ofNat cv) > 2 ^ 48) || decide ((Int.ofNat lv) < 0) || decide ((Int.ofNat lv) > (Int.ofNat cv))) = false := by
        simp only [Bool.or_eq_false_iff, decide_eq_false_iff_not]
        have h1 : (0:Int) ≤ Int.ofNat cv := Int.natCast_nonneg cv
        have h2 : (0:Int) ≤ Int.ofNat lv := Int.natCast_nonneg lv
        refine ⟨⟨⟨by omega, hbytes⟩, by omega⟩, ?_⟩
        simp only [Int.ofNat_eq_natCast]; omega
      have hroom : ¬ (cv * i.bytes > roomBytes) := by
        have : cv * i.bytes ≤ 65536 * 65536 := Nat.mul_le_mul hcb hi3
        have h3 : roomBytes = 140737488355328 := by decide
        rw [h3]; omega
      have hsz : size P el = some s := by rw [hz2, hzl]
      simp only [Instr.makeSlice, Sem.run_bind, hund, Result.andThen_ok, nat_inv hlv, nat_inv hcv, asInt, asIntOf, pure_bind, Sem.run_pure, typeInfo, run_program, hi1, hw1, hw2]
      rw [hcond]
      simp only [Bool.false_eq_true, if_false, askRoom, Int.toNat_natCast, Int.ofNat_eq_natCast, hroom, if_false, Sem.run_pure, Result.andThen_ok, Sem.run_bind, size_run hsz]
      by_cases hn0 : cv * s = 0
      · have h00 : ∀ f : Nat → Value, (Array.range 0).map f = #[] := fun f => Array.toList_inj.1 (by simp)
        simp [hn0, newRow_run, h00]
      · simp [hn0, hz1, newRow_run]
    · have hR := rowFrom_R σ' hzl hz3 (hz4 σ') cv
      refine new_row hi5 hR.2 (Nat.le_of_ble_eq_true g7) hc' ht' hR.1 (fun i y hy => ?_)
      have := zeroCells_list zv.cells cv
      rw [← this] at hy
      have e : cv * s = cv * zv.cells.size := by rw [hzs]
      rw [e, ← Array.getElem?_toList]
      exact hy
    · exact .slc b 0 lv (some cv) _ cv (by rw [hb']; simp) (fun cb base sz e => by rw [hb'] at e; cases e; simp) (fun x hx => by cases hx; rfl) hlc (fun cb base sz e => by rw [hb'] at e; cases e; exact ⟨_, ht', by simp [csz]⟩)
  · cases h
end ops
end Go.Ai

namespace Go.Ai
open Go
variable {P : Program}

/- a part is written over a row of cells -/
def splice (a : List Value) (off : Nat) (l : List Value) : List Value := a.take off ++ l ++ a.drop (off + l.length)
theorem splice_len {a : List Value} {off : Nat} {l : List Value} (h : off + l.length ≤ a.length) : (splice a off l).length = a.length := by
  simp [splice]; omega
theorem foldl_splice : ∀ (l : List Value) (j off : Nat) (a : Array Value), off + j + l.length ≤ a.size → ((l.zipIdx j).foldl (fun cs (x : Value × Nat) => cs.setIfInBounds (off + x.2) x.1) a).toList = splice a.toList (off + j) l
  | [], j, off, a, _ => by simp [splice]
  | x :: l, j, off, a, h => by
    simp at h
    rw [List.zipIdx_cons, List.foldl_cons, foldl_splice l (j + 1) off _ (by simp; omega)]
    simp only [splice, Array.toList_setIfInBounds]
    apply List.ext_getElem?
    intro i
    rw [show off + (j + 1) = off + j + 1 by omega]
    simp only [List.getElem?_append, List.length_append, List.length_take, List.length_set, Array.length_toList, List.length_cons]
    rw [Nat.min_eq_left (by omega), Nat.min_eq_left (by omega)]
    by_cases h1 : i < off + j
    · rw [if_pos (by omega), if_pos (by omega), if_pos (by omega), if_pos h1]
      rw [List.getElem?_take, List.getElem?_take, if_pos (by omega), if_pos h1, List.getElem?_set, if_neg (by omega)]
    · by_cases h2 : i = off + j
      · subst h2
        rw [if_pos (by omega), if_pos (by omega), if_pos (by omega), if_neg (by omega), List.getElem?_take, if_pos (by omega), List.getElem?_set, if_pos rfl, if_pos (by simp; omega)]
        simp
      · by_cases h3 : i < off + j + 1 + l.length
        · rw [if_pos h3, if_neg (by omega), if_pos (by omega), if_neg (by omega)]
          rw [show i - (off + j) = (i - (off + j + 1)) + 1 by omega]
          rfl
        · rw [if_neg h3, if_neg (by omega)]
          rw [List.getElem?_drop, List.getElem?_drop, List.getElem?_set, if_neg (by omega)]
          congr 1
          omega

theorem fill_cells (cells : Array Value) (v : Value) (off : Nat) (h : off + v.cells.size ≤ cells.size) : (v.cells.zipIdx.foldl (fun cs (x : Value × Nat) => cs.setIfInBounds (off + x.2) x.1) cells).toList = splice cells.toList off v.cells.toList := by
  rw [← Array.foldl_toList, Array.toList_zipIdx]
  have := foldl_splice v.cells.toList 0 off cells (by simpa using h)
  simpa using this

theorem fill_step (place : Nat → Option (Nat × Nat)) (cells : Array Value) (i : Nat) (v : Value) (rest : List (Nat × Value)) {off sz : Nat} (hp : place i = some (off, sz)) (hs : v.cells.size = sz) (hb : off + sz ≤ cells.size) :
    Instr.fill place cells ((i, v) :: rest) = Instr.fill place (splice cells.toList off v.cells.toList).toArray rest := by
  have h1 := fill_cells cells v off (by omega)
  have h2 : v.cells.zipIdx.foldl (fun cs (x : Value × Nat) => cs.setIfInBounds (off + x.2) x.1) cells = (splice cells.toList off v.cells.toList).toArray := by rw [← h1]
  have hc : (v.cells.size ≠ sz || off + v.cells.size > cells.size) = false := by simp [hs]; omega
  simp only [Instr.fill, hp]
  rw [if_neg (by simpa using hc)]
  exact congrArg (fun z => Instr.fill place z rest) h2

theorem setAt_rel {σ : Ai.Sub} {off : Nat} {cs c c' : List AV} {l : List Value} {a : List Value} (h : setAt off cs c = some c') (h1 : VRels σ cs l) (h2 : VRels σ c a) : VRels σ c' (splice a off l) ∧ off + l.length ≤ a.length := by
  obtain ⟨e1, e2⟩ := setAt_eq off cs c c' h
  rw [h1.length] at e1 e2
  rw [h2.length] at e2
  refine ⟨?_, e2⟩
  rw [e1]
  exact ((h2.take off).append h1).append (h2.drop _)
theorem setAt_all {off : Nat} {cs c c' : List AV} (h : setAt off cs c = some c') (h1 : cs.all oneA = true) (h2 : c.all oneA = true) : c'.all oneA = true := by
  obtain ⟨e1, _⟩ := setAt_eq off cs c c' h
  rw [e1]
  rw [List.all_eq_true] at h1 h2 ⊢
  intro x hx
  rcases List.mem_append.1 hx with hx | hx
  · rcases List.mem_append.1 hx with hx | hx
    · exact h2 x (List.mem_of_mem_take hx)
    · exact h1 x hx
  · exact h2 x (List.mem_of_mem_drop hx)

theorem fill_rel {σ : Ai.Sub} {place place' : Nat → Option (Nat × Nat)} (hpl : ∀ i r, place i = some r → place' i = some r) : ∀ (ps : List (Nat × AV)) (xs : List (Nat × Value)) (c c' : List AV) (cells : Array Value), ps.map (·.1) = xs.map (·.1) → VRels σ (ps.map (·.2)) (xs.map (·.2)) →
    fill place ps c = some c' → VRels σ c cells.toList → c.all oneA = true → ∃ cells', Instr.fill place' cells xs = some cells' ∧ VRels σ c' cells'.toList ∧ c'.all oneA = true
  | [], xs, c, c', cells, h1, h2, hf, hr, ho => by
    cases xs with
    | cons _ _ => simp at h1
    | nil => cases hf; exact ⟨cells, rfl, hr, ho⟩
  | p :: ps, xs, c, c', cells, h1, h2, hf, hr, ho => by
    cases xs with
    | nil => simp at h1
    | cons x xs =>
      obtain ⟨i, v⟩ := p
      obtain ⟨i', xv⟩ := x
      simp only [List.map_cons, List.cons.injEq] at h1 h2
      obtain ⟨e1, h1⟩ := h1
      subst e1
      cases h2 with
      | cons hv h2 =>
        simp only [fill] at hf
        split at hf
        · rename_i off sz cs hp hc
          cases hb : Nat.beq cs.length sz with
          | false => rw [hb] at hf; cases hf
          | true =>
            rw [hb] at hf
            simp only [cond_true] at hf
            split at hf
            · rename_i c1 hc1
              obtain ⟨q1, q2⟩ := cellsO_rel hc hv
              obtain ⟨q3, q4⟩ := setAt_rel hc1 q1 hr
              have hsz : xv.cells.size = sz := by
                have := q1.length
                rw [Nat.eq_of_beq_eq_true hb] at this
                simpa using this.symm
              obtain ⟨cells', g1, g2⟩ := fill_rel hpl ps xs c1 c' (splice cells.toList off xv.cells.toList).toArray h1 h2 hf (by simpa using q3) (setAt_all hc1 q2 ho)
              refine ⟨cells', ?_, g2⟩
              rw [fill_step place' cells i xv xs (hpl i _ hp) hsz (by simp at q4; omega)]
              exact g1
            · cases hf
        · cases hf

theorem cParts_t {ps : List (Nat × Operand)} {as : List (Nat × Ev)} (h : cParts ps = some as) : as.map (·.1) = ps.map (·.1) ∧ ∀ (V : Nat → Prop) (σ : Ai.Sub) n e tmps, (∀ t i, (i, Operand.tmp t) ∈ ps → V t) → RelV V σ n e tmps → Globs σ → VRels σ ((evps e as).map (·.2)) (ps.map fun p => evT tmps p.2) ∧ (evps e as).map (·.1) = ps.map (·.1) ∧ evs e (as.map (·.2)) = (evps e as).map (·.2) := by
  induction ps generalizing as with
  | nil => cases h; exact ⟨rfl, fun _ _ _ _ _ _ _ _ => ⟨.nil, rfl, rfl⟩⟩
  | cons p ps ih =>
    obtain ⟨i, x⟩ := p
    simp only [cParts] at h
    split at h
    · rename_i a l ha hl
      cases h
      obtain ⟨h1, h2⟩ := ih hl
      refine ⟨by simp [h1], fun V σ n e tmps hV hE hG => ?_⟩
      obtain ⟨g1, g2, g3⟩ := h2 V σ n e tmps (fun t j hj => hV t j (by simp [hj])) hE hG
      exact ⟨.cons (cOpd_relG ha (fun t e => hV t i (by simp [e])) hE hG) g1, by simp [evps, g2], by simp [evs, evps, g3]⟩
    · cases h

section ops
variable {n : Nat} {o : Oper} {run : Run}

theorem places_run : ∀ (fs : List Field) (l : List (Nat × Nat)), places P fs = some l → ∀ w, (fs.mapM (fun f => (do pure (f.offset, ← sizeOf f.type) : Sem (Nat × Nat)))).run P w = .ok l w
  | [], l, h, w => by cases h; rfl
  | f :: fs, l, h, w => by
    simp only [places] at h
    split at h
    · rename_i s l' hs hl
      cases h
      have := places_run fs l' hl w
      simp only [List.mapM_cons, Sem.run_bind, size_run hs, Result.andThen_ok, Sem.run_pure, this]
    · cases h

theorem s_build {t : TypeId} {ps : Array (Nat × Operand)} (ho : o.op = .build t ps) (h : cOp P o = some run) : SoundP P n o run := by
  unfold cOp at h
  rw [ho] at h
  simp only at h
  split at h
  case h_2 => cases h
  rename_i z as hz has
  obtain ⟨zv, hz1, hz2, hz3, hz4⟩ := zeroC_t hz
  obtain ⟨hp1, hp2⟩ := cParts_t has
  have hV : ∀ t i, (i, Operand.tmp t) ∈ ps.toList → Opnd o t := fun t i hi => by
    show Operand.tmp t ∈ o.op.operands
    rw [ho]
    simp only [Op.operands, List.mem_toArray, List.mem_map]
    exact ⟨_, hi, rfl⟩
  have key : ∀ (place place' : Nat → Option (Nat × Nat)) (e : Env) (A : AH) (K : KV), (∀ i r, place i = some r → place' i = some r) → buildR place z as e A K = true → ∃ u, K u A = true ∧ ∀ (σ : Ai.Sub) (tmps : Array Value), RelV (Opnd o) σ n e tmps → Globs σ →
      ∃ cells', Instr.fill place' zv.cells ((ps.map fun (i, x) => (i, evT tmps x)).toList) = some cells' ∧ VRel σ u (.agg cells') := by
    intro place place' e A K hpl hk
    obtain ⟨c, hc, hK⟩ := optK_t.1 hk
    refine ⟨_, hK, fun σ tmps hE hG => ?_⟩
    obtain ⟨g1, g2, g3⟩ := hp2 (Opnd o) σ n e tmps hV hE hG
    obtain ⟨cells', q1, q2, q3⟩ := fill_rel hpl (evps e as) ((ps.map fun (i, x) => (i, evT tmps x)).toList) z c zv.cells (by rw [g2]; simp) (by simpa [Function.comp_def] using g1) hc (hz4 σ) hz3
    exact ⟨cells', q1, .agg 0 c [] _ q3 q2⟩
  unfold cBuild at h
  split at h
  · rename_i fs hu
    split at h
    · rename_i l hl
      cases h
      intro e A K hk
      obtain ⟨u, hK, hs⟩ := key (nth l) (fun i => l.toArray[i]?) e A K (fun i r hr => by rw [nth_get] at hr; simpa using hr) hk
      refine ⟨u, hK, fun A2 σ tmps w hS hE hA => ?_⟩
      obtain ⟨cells', q1, q2⟩ := hs σ tmps hE hA.glob
      refine ⟨.agg cells', ?_, q2⟩
      unfold execOp
      rw [ho]
      refine vals _ _ w w ?_
      have hund := run_underlying hu w
      have hpl := places_run fs.toList l hl w
      have hpl2 : (fs.mapM (fun f => (do pure (f.offset, ← sizeOf f.type) : Sem (Nat × Nat)))).run P w = .ok l.toArray w := by
        rw [Array.mapM_eq_mapM_toList]
        simp only [Sem.run_map, hpl]
        rfl
      simp only [Instr.build, Sem.run_bind, hz1, Result.andThen_ok, hund, hpl2, q1, Sem.run_pure]
    · cases h
  · rename_i N el hu
    split at h
    · rename_i s hs'
      cases h
      intro e A K hk
      obtain ⟨u, hK, hs⟩ := key (fun i => some (i * s, s)) (fun i => some (i * s, s)) e A K (fun i r hr => hr) hk
      refine ⟨u, hK, fun A2 σ tmps w hS hE hA => ?_⟩
      obtain ⟨cells', q1, q2⟩ := hs σ tmps hE hA.glob
      refine ⟨.agg cells', ?_, q2⟩
      unfold execOp
      rw [ho]
      refine vals _ _ w w ?_
      have hund := run_underlying hu w
      simp only [Instr.build, Sem.run_bind, hz1, Result.andThen_ok, hund, size_run hs', q1, Sem.run_pure]
    · cases h
  · cases h

/- a slice out of its parts -/
theorem rowsC_t {s : Nat} : ∀ {vs : List AV} {f : List (List AV) → Bool}, rowsC s vs f = true → ∃ L, f L = true ∧ L.length = vs.length ∧ ∀ (σ : Ai.Sub) (xs : List Value), VRels σ vs xs → RowsR σ s L (xs.flatMap fun x => x.cells.toList) ∧ ∀ x ∈ xs, x.cells.size = s
  | [], f, h => ⟨[], h, rfl, fun σ xs hx => by cases hx; exact ⟨RowsR.nil σ s, by simp⟩⟩
  | v :: vs, f, h => by
    simp only [rowsC] at h
    obtain ⟨c, hc, hl, h⟩ := cellsK_t.1 h
    obtain ⟨L, hL, hlen, hs⟩ := rowsC_t h
    refine ⟨c :: L, hL, by simp [hlen], fun σ xs hx => ?_⟩
    cases hx with
    | cons hx hxs =>
      obtain ⟨q1, q2⟩ := cellsO_rel hc hx
      obtain ⟨g1, g2⟩ := hs σ _ hxs
      refine ⟨by simpa using RowsR.cons hl q2 q1 g1, fun x hx' => ?_⟩
      rcases List.mem_cons.1 hx' with rfl | hx'
      · have := q1.length
        rw [hl] at this
        simpa using this.symm
      · exact g2 x hx'

theorem splice_splice {a : List Value} {off : Nat} {l m : List Value} (h : off + l.length + m.length ≤ a.length) : splice (splice a off l) (off + l.length) m = splice a off (l ++ m) := by
  unfold splice
  have h1 : (a.take off ++ l).length = off + l.length := by simp; omega
  have hd : ∀ (X Y : List Value) (k : Nat), List.drop (X.length + k) (X ++ Y) = List.drop k Y := fun X Y k => by rw [← List.drop_drop, List.drop_left]
  have h2 : List.take (off + l.length) (a.take off ++ l ++ a.drop (off + l.length)) = a.take off ++ l := List.take_left' h1
  have h3 : List.drop (off + l.length + m.length) (a.take off ++ l ++ a.drop (off + l.length)) = a.drop (off + (l ++ m).length) := by
    rw [← h1, hd, List.drop_drop, h1, List.length_append]
    congr 1
    omega
  rw [h2, h3, List.append_assoc (a.take off)]

theorem fill_seq {s : Nat} : ∀ (xs : List Value) (idx : List Nat) (k : Nat) (cells : Array Value), idx = List.range' k xs.length → (∀ x ∈ xs, x.cells.size = s) → (k + xs.length) * s ≤ cells.size →
    ∃ cells', Instr.fill (fun i => some (i * s, s)) cells (idx.zip xs) = some cells' ∧ cells'.toList = splice cells.toList (k * s) (xs.flatMap fun x => x.cells.toList)
  | [], idx, k, cells, hi, _, _ => ⟨cells, by subst hi; rfl, by simp [splice]⟩
  | x :: xs, idx, k, cells, hi, hs, hb => by
    subst hi
    have hx := hs x (by simp)
    have h1 : (k + (xs.length + 1)) * s = k * s + s + xs.length * s := by rw [Nat.add_mul, Nat.add_mul]; omega
    simp only [List.length_cons] at hb
    have hsp : (splice cells.toList (k * s) x.cells.toList).toArray.size = cells.size := by
      have := splice_len (a := cells.toList) (off := k * s) (l := x.cells.toList) (by simp; omega)
      simpa using this
    obtain ⟨cells', g1, g2⟩ := fill_seq xs (List.range' (k + 1) xs.length) (k + 1) (splice cells.toList (k * s) x.cells.toList).toArray rfl (fun y hy => hs y (by simp [hy])) (by rw [hsp]; rw [show k + 1 + xs.length = k + (xs.length + 1) by omega]; exact hb)
    refine ⟨cells', ?_, ?_⟩
    · simp only [List.length_cons, List.range'_succ, List.zip_cons_cons]
      rw [fill_step _ cells k x _ rfl hx (by omega)]
      exact g1
    · rw [g2]
      have hfl : (xs.flatMap fun x => x.cells.toList).length = xs.length * s := by
        have : ∀ (ys : List Value), (∀ y ∈ ys, y.cells.size = s) → (ys.flatMap fun x => x.cells.toList).length = ys.length * s := by
          intro ys
          induction ys with
          | nil => simp
          | cons y ys ih =>
            intro h
            have := ih fun z hz => h z (by simp [hz])
            rw [List.flatMap_cons, List.length_append, this, Array.length_toList, h y (by simp), List.length_cons, Nat.add_mul]; omega
        exact this xs fun y hy => hs y (by simp [hy])
      have hxl : x.cells.toList.length = s := by simp [hx]
      have e1 : (k + 1) * s = k * s + x.cells.toList.length := by rw [Nat.add_mul, hxl]; omega
      rw [e1, List.flatMap_cons]
      exact splice_splice (by rw [hfl, hxl]; simp; omega)


theorem inOrder_t : ∀ (i : Nat) (l : List (Nat × Ev)), inOrder i l = true → l.map (·.1) = List.range' i l.length
  | _, [], _ => rfl
  | i, x :: r, h => by
    obtain ⟨h1, h2⟩ := and_t.1 h
    have := inOrder_t (i + 1) r h2
    simp [List.range'_succ, this, Nat.eq_of_beq_eq_true h1]

theorem evs_len (e : Env) : ∀ (l : List Ev), (evs e l).length = l.length
  | [] => rfl
  | _ :: l => by simp [evs, evs_len e l]

theorem s_buildSlice {t : TypeId} {m : Nat} {ps : Array (Nat × Operand)} (ho : o.op = .buildSlice t m ps) (h : cOp P o = some run) : SoundN P n o run := by
  unfold cOp at h
  rw [ho] at h
  simp only at h
  split at h
  case h_2 => cases h
  rename_i el hel
  split at h
  case h_2 => cases h
  rename_i s z as hs hz has
  cases hb : (Nat.beq as.length m && inOrder 0 as && Nat.blt 0 s && Nat.ble (m * s) 65536) with
  | false => rw [hb] at h; cases h
  | true =>
    rw [hb] at h
    cases h
    obtain ⟨hb, b4⟩ := and_t.1 hb
    obtain ⟨hb, b3⟩ := and_t.1 hb
    obtain ⟨b1, b2⟩ := and_t.1 hb
    have hlen := Nat.eq_of_beq_eq_true b1
    have hs0 : s ≠ 0 := by have : 0 < s := by simpa using b3
                           omega
    have hms := Nat.le_of_ble_eq_true b4
    have hu := elemTy_t hel
    obtain ⟨zv, hz1, hz2, hz3, hz4⟩ := zeroC_t hz
    obtain ⟨hp1, hp2⟩ := cParts_t has
    have hV : ∀ t i, (i, Operand.tmp t) ∈ ps.toList → Opnd o t := fun t i hi => by
      show Operand.tmp t ∈ o.op.operands
      rw [ho]
      simp only [Op.operands, List.mem_toArray, List.mem_map]
      exact ⟨_, hi, rfl⟩
    intro e A K hk
    obtain ⟨L, hL, hLl, hLs⟩ := rowsC_t hk
    obtain ⟨g7, g8⟩ := and_t.1 hL
    obtain ⟨g9, g10⟩ := newK_t g8
    have hLm : L.length = m := by rw [hLl, evs_len, List.length_map, hlen]
    refine ⟨fun b => .slc b 0 m (some m), _, g9, g10, fun σ tmps w hG hE => ?_⟩
    obtain ⟨q1, q2, q3⟩ := hp2 (Opnd o) σ n e tmps hV hE hG
    have hrel : VRels σ (evs e (as.map (·.2))) (ps.toList.map fun p => evT tmps p.2) := by rw [q3]; exact q1
    obtain ⟨r1, r2⟩ := hLs σ _ hrel
    have hpl : (ps.toList.map fun p => evT tmps p.2).length = m := by
      rw [List.length_map]
      have := congrArg List.length hp1
      simp at this
      simp; omega
    have hinit : ((Array.range (m * s)).map (fun i => (if m * s = 0 then #[] else zv.cells)[i % (if m * s = 0 then #[] else zv.cells).size]!)).size = m * s := by simp
    obtain ⟨cells', c1, c2⟩ := fill_seq (s := s) (ps.toList.map fun p => evT tmps p.2) (List.range' 0 (ps.toList.map fun p => evT tmps p.2).length) 0 ((Array.range (m * s)).map (fun i => (if m * s = 0 then #[] else zv.cells)[i % (if m * s = 0 then #[] else zv.cells).size]!)) rfl r2 (by rw [hinit, hpl]; simp)
    have hz' : (List.range' 0 (ps.toList.map fun p => evT tmps p.2).length).zip (ps.toList.map fun p => evT tmps p.2) = (ps.map fun (i, x) => (i, evT tmps x)).toList := by
      have h1 := inOrder_t 0 as b2
      rw [hp1] at h1
      have h2 : as.length = (ps.toList.map fun p => evT tmps p.2).length := by rw [hpl, hlen]
      rw [h2] at h1
      rw [← h1]
      simp only [Array.toList_map]
      rw [List.zip_map']
    rw [hz'] at c1
    have hcells : cells'.size = m * s := by
      have hsz := r1.size
      have : cells'.toList.length = m * s := by
        rw [c2, splice_len]
        · simp
        · rw [hsz, hLm]; simp
      simpa using this
    refine ⟨.cells cells' el, fun k => .slice (some ⟨k, 0, none⟩) m m, s, ?_, fun σ' w' b hle hc' hb' ht' => ⟨?_, ?_⟩⟩
    · unfold execOp
      rw [ho]
      refine vals _ _ w _ ?_
      have hund := run_underlying hu w
      have hbig : ¬ (m * s > 2 ^ 24) := by have : (2 : Nat) ^ 24 = 16777216 := by decide
                                           omega
      simp only [Instr.buildSlice, Sem.run_bind, hund, Result.andThen_ok, size_run hs]
      rw [if_neg hbig]
      by_cases h0 : m * s = 0
      · simp only [h0, if_true] at c1 ⊢
        simp only [Sem.run_pure, Result.andThen_ok, Sem.run_bind]
        rw [c1]
        simp only [newRow_run, Sem.run_bind, Result.andThen_ok, Sem.run_pure]
      · simp only [h0, if_false] at c1 ⊢
        simp only [Sem.run_bind, hz1, Sem.run_pure, Result.andThen_ok]
        rw [c1]
        simp only [newRow_run, Sem.run_bind, Result.andThen_ok, Sem.run_pure]
    · have hcl : (ps.toList.map fun p => evT tmps p.2).flatMap (fun x => x.cells.toList) = cells'.toList := by
        rw [c2]
        have hsz := r1.size
        simp only [splice, Nat.zero_mul, List.take_zero, List.nil_append, Nat.zero_add]
        rw [hsz, hLm, List.drop_eq_nil_of_le (by simp), List.append_nil]
      have := r1
      rw [hcl] at this
      exact new_row hs0 hLm (Nat.le_of_ble_eq_true g7) hc' ht' ⟨this.1, VRels.mono hle this.2⟩ (fun i y hy => by simpa using hy)
    · exact .slc b 0 m (some m) _ m (by rw [hb']; simp) (fun cb base sz e => by rw [hb'] at e; cases e; simp) (fun x hx => by cases hx; rfl) (Nat.le_refl _) (fun cb base sz e => by rw [hb'] at e; cases e; exact ⟨_, ht', by have := hcells; simp [csz]; omega⟩)
end ops
end Go.Ai
