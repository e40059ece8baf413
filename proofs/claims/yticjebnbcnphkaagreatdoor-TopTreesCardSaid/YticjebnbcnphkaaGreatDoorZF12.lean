/- A part of the proof that the abstract interpreter is sound, and of the two goroutines of the lexer. -/
import Derived.Test.YticjebnbcnphkaaGreatDoorZF8
import Derived.Test.YticjebnbcnphkaaGreatDoorZS21

set_option linter.unusedSimpArgs false
set_option linter.unusedVariables false
set_option linter.unusedSectionVars false

namespace Go.Ai
open Go
variable {P : Program} {G : Goal P}

theorem sameOL_t {v w : Option (List AV)} (h : sameOL v w = true) : v = w := by
  cases v <;> cases w <;> first | rfl | (cases h; done) | (rw [sameL_t _ _ h])
theorem sameTr_t : ∀ (a b : Tr (List AV)), sameTr a b = true → a = b
  | .lf, b, h => by cases b <;> first | rfl | (cases h; done)
  | .nd v l r, b, h => by
    cases b with
    | lf => cases h
    | nd w l' r' =>
      simp only [sameTr, Bool.and_eq_true] at h
      rw [sameOL_t h.1, sameTr_t _ _ h.2.1, sameTr_t _ _ h.2.2]
theorem sameEs_t : ∀ (a b : List (Nat × AV × AV)), sameEs a b = true → a = b
  | [], b, h => by cases b <;> first | rfl | (cases h; done)
  | (p, q, r) :: a, b, h => by
    cases b with
    | nil => cases h
    | cons y b =>
      obtain ⟨p', q', r'⟩ := y
      simp only [sameEs, Bool.and_eq_true] at h
      obtain ⟨h1, h2, h3, h4⟩ := h
      rw [Nat.eq_of_beq_eq_true h1, sameV_t _ _ h2, sameV_t _ _ h3, sameEs_t a b h4]
theorem sameOP_t {v w : Option Pa} (h : sameOP v w = true) : v = w := by
  cases v <;> cases w <;> first | rfl | (cases h; done) | (rw [samePa_t h])
theorem sameO_t {x y : AO} (h : sameO x y = true) : x = y := by
  cases x with
  | row s n t =>
    cases y <;> first | (cases h; done) | skip
    simp only [sameO, Bool.and_eq_true] at h
    rw [Nat.eq_of_beq_eq_true h.1, Nat.eq_of_beq_eq_true h.2.1, sameTr_t _ _ h.2.2]
  | map c es =>
    cases y <;> first | (cases h; done) | skip
    simp only [sameO, Bool.and_eq_true] at h
    rw [Nat.eq_of_beq_eq_true h.1, sameEs_t _ _ h.2]
  | iter m a l b =>
    cases y <;> first | (cases h; done) | skip
    simp only [sameO, Bool.and_eq_true] at h
    obtain ⟨h1, h2, h3, h4⟩ := h
    rw [sameOP_t h1, Nat.eq_of_beq_eq_true h2, bytesEq_t h3, Nat.eq_of_beq_eq_true h4]
  | dead => cases y <;> first | rfl | (cases h; done)
  | loop _ _ => cases h

theorem objsIn_t {A : AH} : ∀ {l : List (Pa × AO)}, objsIn l A = true → ∀ x ∈ l, A.get x.1 = some x.2
  | [], _, x, hx => by cases hx
  | y :: l, h, x, hx => by
    obtain ⟨h1, h2⟩ := and_t.1 h
    rcases List.mem_cons.1 hx with rfl | hx
    · obtain ⟨o, h3, h4⟩ := optK_t.1 h1
      rw [h3, sameO_t h4]
    · exact objsIn_t h2 x hx

theorem putAll_get : ∀ (l : List (Pa × AO)) (t : HT) (b : Pa), (∀ x ∈ l, x.1.length = b.length) → ((∀ o, (b, o) ∉ l) ∧ HT.get b (putAll l t) = HT.get b t) ∨ (∃ o, (b, o) ∈ l ∧ HT.get b (putAll l t) = some o)
  | [], t, b, _ => .inl ⟨by simp, rfl⟩
  | x :: l, t, b, h => by
    have h1 : HT.get b (HT.set (.ob x.2) x.1 t) = if b = x.1 then some x.2 else HT.get b t := HT.get_set x.2 x.1 b t (h x (by simp))
    rcases putAll_get l (HT.set (.ob x.2) x.1 t) b (fun y hy => h y (by simp [hy])) with ⟨h2, h3⟩ | ⟨o, h2, h3⟩
    · by_cases hb : b = x.1
      · subst hb
        rw [if_pos rfl] at h1
        exact .inr ⟨x.2, by simp, h3.trans h1⟩
      · rw [if_neg hb] at h1
        refine .inl ⟨fun o ho => ?_, h3.trans h1⟩
        rcases List.mem_cons.1 ho with ho | ho
        · exact hb (by rw [← ho])
        · exact h2 o ho
    · exact .inr ⟨o, by simp [h2], h3⟩

theorem hasPa_t {b : Pa} : ∀ {l : List (Pa × AO)}, hasPa b l = true → ∃ o, (b, o) ∈ l
  | [], h => by cases h
  | x :: l, h => by
    simp only [hasPa] at h
    cases hb : samePa b x.1 with
    | true => rw [samePa_t hb]; exact ⟨x.2, by simp⟩
    | false =>
      rw [hb] at h
      obtain ⟨o, ho⟩ := hasPa_t h
      exact ⟨o, by simp [ho]⟩

/-- a call that was shown from what it finds alone -/
theorem ora_sound {nx : Pa} {o : Ora} {g : FuncId} (hd : oraD o = true) (hc : CallS G g o.args (oraA nx o) (fun v A => oraE o v A) (fun _ _ => false)) {args : List AV} {A : AH} {K H : KV} (hnx : A.next = nx) (hk : oraK o args A K = true) : CallS G g args A K H := by
  subst hnx
  obtain ⟨hargs, hk⟩ := and_t.1 hk
  obtain ⟨hph, hk⟩ := and_t.1 hk
  obtain ⟨hpre, hk⟩ := and_t.1 hk
  have ha := sameL_t _ _ hargs
  have hph := Nat.eq_of_beq_eq_true hph
  have hpre := objsIn_t hpre
  obtain ⟨hd1, hd2⟩ := and_t.1 hd
  rw [List.all_eq_true] at hd1 hd2
  have l4 : ∀ x ∈ o.pre, x.1.length = 5 := fun x hx => Nat.eq_of_beq_eq_true (and_t.1 (hd1 x hx)).1
  have l4' : ∀ x ∈ o.post, x.1.length = 5 := fun x hx => Nat.eq_of_beq_eq_true (hd2 x hx)
  have dom : ∀ x ∈ o.pre, ∃ q, (x.1, q) ∈ o.post := fun x hx => hasPa_t (and_t.1 (hd1 x hx)).2
  -- what the call finds
  have preG : ∀ b, b.length = 5 → ((∀ q, (b, q) ∉ o.pre) ∧ (oraA A.next o).get b = none) ∨ ∃ q, (b, q) ∈ o.pre ∧ (oraA A.next o).get b = some q ∧ A.get b = some q := fun b hb => by
    rcases putAll_get o.pre .lf b (fun x hx => by rw [l4 x hx, hb]) with ⟨h1, h2⟩ | ⟨q, h1, h2⟩
    · exact .inl ⟨h1, h2.trans (HT.get_lf b)⟩
    · exact .inr ⟨q, h1, h2, hpre _ h1⟩
  refine ⟨hc.1, fun σ w vs c cs hvs hA hK hP => ?_⟩
  have hAp : Rel σ (oraA A.next o) w := by
    refine ⟨fun b hb hv => ⟨(hA.fresh b hb hv).1, ?_⟩, fun b ob hob => ?_, hA.inj, hA.glob, hA.low, hA.four, hA.tops, hA.len, hA.high, hA.roms⟩
    · rcases preG b hb with h | ⟨q, h1, h2, h3⟩
      · exact h.2
      · have := (hA.fresh b hb hv).2
        rw [h3] at this; cases this
    · by_cases hb : b.length = 5
      · rcases preG b hb with h | ⟨q, h1, h2, h3⟩
        · rw [h.2] at hob; cases hob
        · rw [h2] at hob; cases hob
          exact hA.obj b _ h3
      · exact .inl (hA.four b hb)
  have hsub : ∀ b, b.length = 5 → A.get b = none → (oraA A.next o).get b = none := fun b hb hg => by
    rcases preG b hb with h | ⟨q, h1, h2, h3⟩
    · exact h.2
    · rw [h3] at hg; cases hg
  rw [← ha] at hvs
  have hfin := hc.2 σ w vs c cs hvs hAp (fun v A' σ' x w' he hX hA' hv => ?_) (fun _ _ _ _ _ h => by cases h)
  · rw [hph]; exact hfin
  · obtain ⟨e1, he⟩ := and_t.1 he
    obtain ⟨e2, he⟩ := and_t.1 he
    obtain ⟨e3, e4⟩ := and_t.1 he
    have e1 := sameV_t _ _ e1
    subst e1
    have e2 := Nat.eq_of_beq_eq_true e2
    have e3 := samePa_t e3
    have hpost := objsIn_t e4
    have layN : (A.lay o.post o.nx).next = A'.next := e3.symm
    have layG : ∀ b, b.length = 5 → ((∀ q, (b, q) ∉ o.post) ∧ (A.lay o.post o.nx).get b = A.get b) ∨ ∃ q, (b, q) ∈ o.post ∧ (A.lay o.post o.nx).get b = some q ∧ A'.get b = some q := fun b hb => by
      rcases putAll_get o.post A.t b (fun x hx => by rw [l4' x hx, hb]) with ⟨h1, h2⟩ | ⟨q, h1, h2⟩
      · exact .inl ⟨h1, h2.trans (AH.get_eq A b).symm⟩
      · exact .inr ⟨q, h1, h2, hpost _ h1⟩
    have hX' : Ext σ A w σ' (A.lay o.post o.nx) w' := by
      refine ⟨hX.le, hX.size, fun k hk' hno => ?_, fun b hb hv hp => ?_, by rw [layN]; exact hX.next, fun b hp hg => ?_, hX.os, hX.out⟩
      · obtain ⟨k1, k2⟩ := hX.keep k hk' (fun b base sz hb => (hno b base sz hb).imp (hsub b (hA.len4 (by rw [hb]; simp))) id)
        refine ⟨k1, fun b base sz hb => ?_⟩
        obtain ⟨q1, q2⟩ := k2 b base sz hb
        refine ⟨q1, ?_⟩
        rcases q2 with q2 | q2
        · rcases layG b (hA.len4 (by rw [q1]; simp)) with h | ⟨q, h1, h2, h3⟩
          · rw [h.2]; exact hno b base sz q1
          · rw [h3] at q2; cases q2
        · exact .inr q2
      · obtain ⟨q1, q2⟩ := hX.pend b hb hv hp
        refine ⟨q1, ?_⟩
        rcases layG b hb with h | ⟨q, h1, h2, h3⟩
        · exact h.2
        · rw [h3] at q2
          rcases preG b hb with g | ⟨q', g1, g2, g3⟩
          · rw [g.2] at q2; cases q2
          · rw [g2] at q2; cases q2
            rw [h2, g3]
      · have hb := hA.len4 hp
        obtain ⟨q1, q2⟩ := hX.same b hp (hsub b hb hg)
        refine ⟨q1, ?_⟩
        rcases layG b hb with h | ⟨q, h1, h2, h3⟩
        · rw [h.2]; exact hg
        · rw [h3] at q2; cases q2
    have hR' : Rel σ' (A.lay o.post o.nx) w' := by
      refine ⟨fun b hb hv => ?_, fun b ob hob => ?_, hA'.inj, hA'.glob, hA'.low, hA'.four, hA'.tops, by rw [layN]; exact hA'.len, by rw [layN]; exact hA'.high, hA'.roms⟩
      · rw [layN] at hv
        obtain ⟨q1, q2⟩ := hA'.fresh b hb hv
        refine ⟨q1, ?_⟩
        rcases layG b hb with h | ⟨q, h1, h2, h3⟩
        · rw [h.2]; exact (hA.fresh b hb (Nat.le_trans hX.next hv)).2
        · rw [h3] at q2; cases q2
      · by_cases hb : b.length = 5
        · rcases layG b hb with h | ⟨q, h1, h2, h3⟩
          · rw [h.2] at hob
            have hpn : (oraA A.next o).get b = none := by
              rcases preG b hb with g | ⟨q', g1, g2, g3⟩
              · exact g.2
              · obtain ⟨z, hz⟩ := dom _ g1
                exact absurd hz (h.1 z)
            have hlt : val b < val A.next := by
              rcases Nat.lt_or_ge (val b) (val A.next) with h | h
              · exact h
              · have := (hA.fresh b hb h).2
                rw [hob] at this; cases this
            rcases hA.obj b ob hob with g | ⟨g1, g2⟩ | ⟨cb, base, sz, g1, g2⟩
            · exact .inl (hX.pend b hb hlt g).1
            · exact .inr (.inl ⟨g1, (hX.same b (by rw [g2]; simp) hpn).1.trans g2⟩)
            · refine .inr (.inr ⟨cb, base, sz, (hX.same b (by rw [g1]; simp) hpn).1.trans g1, g2.keep hX.le ?_ hX.size⟩)
              refine (hX.keep cb (hA.low b cb base sz g1) fun z base' sz' hz => ?_).1
              rcases hA.inj z b cb base' sz' base sz hz g1 with e | ⟨e, _⟩
              · rw [e]; exact .inl hpn
              · exact .inr e
          · rw [h2] at hob; cases hob
            exact hA'.obj b _ h3
        · exact .inl (hA'.four b hb)
    have := hK o.v (A.lay o.post o.nx) σ' x w' hk hX' hR' hv
    have hlp : (A.lay o.post o.nx).ph = A'.ph := by rw [e2]; cases A; rfl
    rw [hlp] at this
    exact this

/-- what is asked of what the evaluation passes over -/
structure Sums (G : Goal P) (cf : Cfg) : Prop where
  ora : ∀ g nx o, (g, nx, o) ∈ cf.ora → oraD o = true ∧ CallS G g o.args (oraA nx o) (fun v A => oraE o v A) (fun _ _ => false)
  join : ∀ args A K H, sJoin args A K = true → CallS G cf.join args A K H
  ibs : ∀ args A K H, sIbs args A K = true → CallS G cf.ibs args A K H
  lex : ∀ args A K H, sLex args A K = true → CallS G cf.lex args A K H
  tr : ∀ ih : Tk → Bool, (∀ t, ih t = true → TaskS G t) → ∀ args A K H, sTry cf ih args A K = true → CallS G cf.tr args A K H

theorem findO_t {g : Nat} {nx : Pa} {o : Ora} : ∀ {l : List (Nat × Pa × Ora)}, findO g nx l = some o → (g, nx, o) ∈ l
  | [], h => by cases h
  | (g', nx', o') :: l, h => by
    simp only [findO] at h
    cases h1 : Nat.beq g g' with
    | true =>
      rw [h1] at h
      cases h2 : samePa nx nx' with
      | true =>
        rw [h2] at h
        cases h
        rw [Nat.eq_of_beq_eq_true h1, samePa_t h2]; simp
      | false => rw [h2] at h; exact List.mem_cons_of_mem _ (findO_t h)
    | false => rw [h1] at h; exact List.mem_cons_of_mem _ (findO_t h)

theorem run_sound (hmo : P.follows .mixedOrders = true) (hN : ∀ (g : Nat) (fn : Func), P.funcs[g]? = some fn → fn.body.isNone = false → (fn.name == "runtime.NumGoroutine") = false) {cf : Cfg} (S : Sums G cf) : ∀ (n : Nat) (t : Tk), run P cf n t = true → TaskS G t
  | 0, t, h => by cases h
  | n + 1, t, h => by
    have IH := run_sound hmo hN S n
    have hmix := mix_sound (G := G) hmo IH hop_ok hopP_ok hopN_ok
    have h' : body P cf (run P cf n) t = true := h
    cases t with
    | call g args A K H =>
      have h2 : callT P cf (run P cf n) g args A K H = true := h'
      unfold callT at h2
      split at h2
      · rename_i o ho
        obtain ⟨h3, h4⟩ := S.ora _ _ _ (findO_t ho)
        exact ora_sound h3 h4 rfl h2
      · cases b1 : Nat.beq g cf.join with
        | true => rw [b1] at h2; rw [Nat.eq_of_beq_eq_true b1]; exact S.join args A K H h2
        | false =>
          rw [b1] at h2
          cases b2 : Nat.beq g cf.ibs with
          | true => rw [b2] at h2; rw [Nat.eq_of_beq_eq_true b2]; exact S.ibs args A K H h2
          | false =>
            rw [b2] at h2
            cases b3 : Nat.beq g cf.lex with
            | true => rw [b3] at h2; rw [Nat.eq_of_beq_eq_true b3]; exact S.lex args A K H h2
            | false =>
              rw [b3] at h2
              cases b4 : Nat.beq g cf.tr with
              | true => rw [b4] at h2; rw [Nat.eq_of_beq_eq_true b4]; exact S.tr _ IH args A K H h2
              | false =>
                rw [b4] at h2
                simp only [cond_false] at h2
                split at h2
                · rename_i F hF
                  exact call_sound IH hop_ok hmix hN hF h2
                · cases h2
    | yld b args A K H => exact yld_sound IH hop_ok hmix h'
    | loop c H J e A => exact loop_sound IH hop_ok hmix h'
end Go.Ai

namespace Go.Ai
open Go
variable {P : Program} {G : Goal P}

section steps
variable {b : Frame} {t : Array Value} {k : List Item} {ds : List Deferred} {cs : List Frame} {w : World}
variable {ops : Array Oper} {i : Nat} {rest : List Nat} {o : Oper}

theorem stepG_any (ho : ops[i]? = some o) (hb : b.roundOf = none) (hw : Region.wanted o (yielded ops t) = true) :
    stepG P true { frame := onF b t (.inRegion ops (i :: rest) :: k) ds, callers := cs, status := .running, dying := none } w =
      stepG.apply P true (onF b t (.inRegion ops (i :: rest) :: k) ds) cs none (execOp (evT t) o) w := by
  have he : (onF b t (.inRegion ops (i :: rest) :: k) ds).eval = evT t := funext fun x => by cases x <;> rfl
  have : stepG P true { frame := onF b t (.inRegion ops (i :: rest) :: k) ds, callers := cs, status := .running, dying := none } w = stepG.oper P true (onF b t (.inRegion ops (i :: rest) :: k) ds) cs none w := by
    simp [stepG, stepG.exec, onF, ho, hw]
  rw [this]
  unfold stepG.oper
  have h1 : (onF b t (.inRegion ops (i :: rest) :: k) ds).oper? = some o := by simp [Frame.oper?, onF, ho]
  have h2 : (onF b t (.inRegion ops (i :: rest) :: k) ds).roundOf = none := hb
  rw [h1]
  simp only [he, h2]

theorem st_op_defer (ho : ops[i]? = some o) (hb : b.roundOf = none) (hw : Region.wanted o (yielded ops t) = true) {d : Deferred} {w' : World} (hr : (execOp (evT t) o).run P w = .ok (.defer d) w') :
    step P (lone (onF b t (.inRegion ops (i :: rest) :: k) ds) cs w) = .next (lone (onF b (putT t o.dst undef) (.inRegion ops rest :: k) (d :: ds)) cs w') := by
  have hf : ({ onF b t (.inRegion ops (i :: rest) :: k) ds with defers := d :: ds } : Frame).finish undef = onF b (putT t o.dst undef) (.inRegion ops rest :: k) (d :: ds) := fin_on (ds := d :: ds) undef ho
  rw [← hf]
  exact step_lone_go (by rw [stepG_any ho hb hw]; simp [stepG.apply, hr, onF])

theorem st_recover_none (ho : ops[i]? = some o) (hb : b.roundOf = none) (hk : b.kind = .deferred) (hw : Region.wanted o (yielded ops t) = true) {c : Frame} {w' : World} (hm : c.mode = .returning) (hr : (execOp (evT t) o).run P w = .ok .recover w') :
    step P (lone (onF b t (.inRegion ops (i :: rest) :: k) ds) (c :: cs) w) = .next (lone (onF b (putT t o.dst .nilIface) (.inRegion ops rest :: k) ds) (c :: cs) w') := by
  have hf := fin_on (b := b) (t := t) (k := k) (ds := ds) (rest := rest) (.nilIface) ho
  have ht : tryRecover (onF b t (.inRegion ops (i :: rest) :: k) ds) (c :: cs) = none := by
    unfold tryRecover
    have : (onF b t (.inRegion ops (i :: rest) :: k) ds).kind = .deferred := hk
    rw [this]
    simp only [hm]
  have h2 : (onF b t (.inRegion ops (i :: rest) :: k) ds).roundOf = none := hb
  rw [← hf]
  exact step_lone_go (by rw [stepG_any ho hb hw]; simp [stepG.apply, hr, h2, ht])

theorem st_recover_some (ho : ops[i]? = some o) (hb : b.roundOf = none) (hk : b.kind = .deferred) (hw : Region.wanted o (yielded ops t) = true) {c : Frame} {x : Value} {w' : World} (hm : c.mode = .panicking (PE x)) (hr : (execOp (evT t) o).run P w = .ok .recover w') :
    step P (lone (onF b t (.inRegion ops (i :: rest) :: k) ds) (c :: cs) w) = .next (lone (onF b (putT t o.dst x) (.inRegion ops rest :: k) ds) ({ c with mode := .panicking [{ v := x, recovered := true }] } :: cs) w') := by
  have hf := fin_on (b := b) (t := t) (k := k) (ds := ds) (rest := rest) x ho
  have ht : tryRecover (onF b t (.inRegion ops (i :: rest) :: k) ds) (c :: cs) = some (x, { c with mode := .panicking [{ v := x, recovered := true }] } :: cs) := by
    unfold tryRecover
    have : (onF b t (.inRegion ops (i :: rest) :: k) ds).kind = .deferred := hk
    rw [this]
    simp only [hm, PE]
  have h2 : (onF b t (.inRegion ops (i :: rest) :: k) ds).roundOf = none := hb
  rw [← hf]
  exact step_lone_go (by rw [stepG_any ho hb hw]; simp [stepG.apply, hr, h2, ht])

/-- a deferred function begins -/
theorem st_deferred {m : FrameMode} (hm : m = .returning ∨ ∃ ch, m = .panicking ch) {g : FuncId} {as cs' args : Array Value} {f : Nat} (hr : (invoke (.fn (.func g) cs') as).run P w = .ok (.enter f args) w) :
    step P (lone { onF b t k ({ target := .fn (.func g) cs', args := as } :: ds) with mode := m } cs w) = .next (lone (Frame.enter P f args .deferred) ({ onF b t k ds with mode := m } :: cs) w) := by
  rcases hm with rfl | ⟨ch, rfl⟩
  · exact step_lone_go (by simp [stepG, onF, unwind, callDeferred, Sem.runT_eq, hr])
  · exact step_lone_go (by simp [stepG, onF, unwind, callDeferred, Sem.runT_eq, hr])

/-- a deferred function ends -/
theorem st_return_def {c : Frame} {fn : Func} {v : Value} (hk : b.kind = .deferred) (hf : P.funcs[b.fn]? = some fn) (hr : (results fn t).run P w = .ok v w) (hm : c.mode = .returning) :
    step P (lone { onF b t k [] with mode := .returning } (c :: cs) w) = .next (lone c cs w) := by
  have hc : { c with mode := .returning } = c := by cases c; simp_all
  exact step_lone_go (by simp [stepG, onF, unwind, doReturn, Sem.runT_eq, hf, hr, hk, hm])
theorem st_return_rec {c : Frame} {fn : Func} {v x : Value} (hk : b.kind = .deferred) (hf : P.funcs[b.fn]? = some fn) (hr : (results fn t).run P w = .ok v w) (hm : c.mode = .panicking [{ v := x, recovered := true }]) :
    step P (lone { onF b t k [] with mode := .returning } (c :: cs) w) = .next (lone { c with mode := .returning } cs w) :=
  step_lone_go (by simp [stepG, onF, unwind, doReturn, Sem.runT_eq, hf, hr, hk, hm])
end steps
end Go.Ai

namespace Go.Ai
open Go
variable {P : Program} {G : Goal P}

section named
variable {b : Frame} {t t' : Array Value} {k : List Item} {ds : List Deferred} {cs : List Frame} {w : World}
variable {ops : Array Oper} {i : Nat} {rest : List Nat} {o : Oper}
theorem st_opv {v : Value} (ho : ops[i]? = some o) (hd : ∀ c, o.op ≠ .defer c) (hw : Region.wanted o (yielded ops t) = true) {w' : World} (hr : (execOp (evT t) o).run P w = .ok (.value v) w') (ht : putT t o.dst v = t') :
    step P (lone (onF b t (.inRegion ops (i :: rest) :: k) ds) cs w) = .next (lone (onF b t' (.inRegion ops rest :: k) ds) cs w') := by
  rw [← ht]; exact st_op_value ho hd hw hr
theorem st_opu (ho : ops[i]? = some o) (hd : ∀ c, o.op ≠ .defer c) (hw : Region.wanted o (yielded ops t) = true) {w' : World} (hr : (execOp (evT t) o).run P w = .ok .skip w') (ht : putT t o.dst undef = t') :
    step P (lone (onF b t (.inRegion ops (i :: rest) :: k) ds) cs w) = .next (lone (onF b t' (.inRegion ops rest :: k) ds) cs w') := by
  rw [← ht]; exact st_op_unit ho hd hw hr
end named

section runs
variable {ρ : Operand → Value} {o : Oper} {w : World}

theorem x_move {x : Operand} (ho : o.op = .move x ∨ o.op = .assign x) : (execOp ρ o).run P w = .ok (.value (ρ x)) w := by
  unfold execOp; rcases ho with ho | ho <;> (rw [ho]; rfl)
theorem x_alloc {t : TypeId} {zv : Value} (ho : o.op = .alloc t) (hz : ∀ w, (zeroValue t).run P w = .ok zv w) : (execOp ρ o).run P w = .ok (.value (.pointer (some ⟨w.heap.size, 0, none⟩))) { w with heap := w.heap.push (.cells zv.cells t) } := by
  unfold execOp; rw [ho]
  refine vals _ _ w _ ?_
  simp [Instr.alloc, hz, newVar_run]
theorem x_makeFunc {g : FuncId} {x : Operand} (ho : o.op = .makeFunc (.func g) #[] #[x]) : (execOp ρ o).run P w = .ok (.value (.func (.func g) #[] #[ρ x])) w := by
  unfold execOp; rw [ho]
  simp [Instr.makeFunc]
theorem x_defer {c : Call} {f : Operand} {g : FuncId} {v : Value} (ho : o.op = .defer c) (hc : c.callee = .value f) (ha : c.args = #[]) (hf : ρ f = .func (.func g) #[] #[v]) : (execOp ρ o).run P w = .ok (.defer { target := .fn (.func g) #[v], args := #[] }) w := by
  unfold execOp; rw [ho]
  simp [resolve_value hc, hf, ha, Deferred.ofValue]
theorem x_recover {c : Call} (ho : o.op = .call c) (hc : c.callee = .builtin .recover) : (execOp ρ o).run P w = .ok .recover w := by
  unfold execOp; rw [ho]
  simp [resolve, hc, invoke, builtin]
theorem x_neq {t : TypeId} {x : Operand} {ms : Array (String × TypeId)} (ho : o.op = .binOp .neq t x (.const .nilIface) t) (ht : P.underlying t = some (.interface ms)) (hc : ρ (.const .nilIface) = .nilIface) : (ρ x = .nilIface → (execOp ρ o).run P w = .ok (.value (.bool false)) w) ∧ (∀ t v, ρ x = .iface t v → (execOp ρ o).run P w = .ok (.value (.bool true)) w) := by
  have hu := run_underlying ht w
  refine ⟨fun h => ?_, fun t v h => ?_⟩
  · unfold execOp; rw [ho]
    simp [h, hc, eqGuard, binOp, Op.equal]
    have e : ∃ n, Op.maxDepth = n + 1 := ⟨9999, rfl⟩
    obtain ⟨n, e⟩ := e
    rw [e]
    simp [Op.equalIn, hu]
  · unfold execOp; rw [ho]
    simp [h, hc, eqGuard, binOp, Op.equal]
    have e : ∃ n, Op.maxDepth = n + 1 := ⟨9999, rfl⟩
    obtain ⟨n, e⟩ := e
    rw [e]
    simp [Op.equalIn, hu]
theorem x_assert {t xt : TypeId} {x : Operand} {d : TypeDesc} {v : Value} (ho : o.op = .typeAssert x xt t true) (ht : P.underlying t = some d) (hd : ∀ ms, d ≠ .interface ms) (hx : ρ x = .iface t v) : (execOp ρ o).run P w = .ok (.value (.tuple #[v, .bool true])) w := by
  have hu := run_underlying ht w
  unfold execOp; rw [ho]
  refine vals _ _ w _ ?_
  cases d <;> first | exact absurd rfl (hd _) | simp [Instr.typeAssert, hu, hx]
theorem x_extract {x : Operand} {i : Nat} {vs : Array Value} {v : Value} (ho : o.op = .extract x i) (hx : ρ x = .tuple vs) (hv : vs[i]? = some v) : (execOp ρ o).run P w = .ok (.value v) w := by
  unfold execOp; rw [ho]
  refine vals _ _ w _ ?_
  simp [Instr.extract, hx, hv]
theorem x_not {t : TypeId} {x : Operand} {b : Bool} (ho : o.op = .unOp .not t x) (hx : ρ x = .bool b) : (execOp ρ o).run P w = .ok (.value (.bool (!b))) w := by
  unfold execOp; rw [ho]
  refine vals _ _ w _ ?_
  simp [hx, Op.unary]
theorem x_store {t : TypeId} {a x : Operand} {cb : Nat} {c0 y : Value} {el : TypeId} (ho : o.op = .store t a x) (hs : size P t = some 1) (ha : ρ a = .pointer (some ⟨cb, 0, none⟩)) (hx : (ρ x).cells = #[y]) (h1 : y.oneCell' = true) (hc : w.heap[cb]? = some (.cells #[c0] el (0, 0))) :
    ∃ w', (execOp ρ o).run P w = .ok .skip w' ∧ w'.heap[cb]? = some (.cells #[y] el (0, 0)) ∧ (∀ k, k ≠ cb → w'.heap[k]? = w.heap[k]?) ∧ w'.heap.size = w.heap.size := by
  obtain ⟨w', s1, s2, s3, s4, _⟩ := storeCells_run (P := P) [y] 0 0 #[c0] w hc (.inl rfl) (by simp) (by simpa using h1)
  refine ⟨w', ?_, by simpa [splice] using s2, s3, s4⟩
  unfold execOp; rw [ho]
  have hsz : ¬ ((#[y] : Array Value).size ≠ 1) := by simp
  have hl : (#[y] : Array Value).toList = [y] := rfl
  simp only [ha, Instr.storeAt, Instr.sureAddr, storeVar, Sem.run_bind, Sem.run_pure, Result.andThen_ok, size_run hs, hx, hsz, if_false, hl, s1]
theorem set_cell {cb : Nat} {c0 y : Value} {el : TypeId} (hc : w.heap[cb]? = some (.cells #[c0] el (0, 0))) : (w.setCell ⟨cb, 0, none⟩ y).heap[cb]? = some (.cells #[y] el (0, 0)) ∧ (∀ k, k ≠ cb → (w.setCell ⟨cb, 0, none⟩ y).heap[k]? = w.heap[k]?) ∧ (w.setCell ⟨cb, 0, none⟩ y).heap.size = w.heap.size := by
  refine ⟨?_, fun k hk => ?_, ?_⟩
  · simp [World.setCell, Array.getElem?_modify, hc]
  · simp [World.setCell, Array.getElem?_modify, Ne.symm hk]
  · simp [World.setCell]
theorem x_store1 {t : TypeId} {a x : Operand} {cb : Nat} {c0 y : Value} {el : TypeId} (ho : o.op = .store t a x) (hs : size P t = some 1) (ha : ρ a = .pointer (some ⟨cb, 0, none⟩)) (hx : (ρ x).cells = #[y]) (h1 : y.oneCell' = true) (hc : w.heap[cb]? = some (.cells #[c0] el (0, 0))) :
    (execOp ρ o).run P w = .ok .skip (w.setCell ⟨cb, 0, none⟩ y) := by
  have hcell : w.cell? ⟨cb, 0, none⟩ = some c0 := by simp [World.cell?, hc]
  have hfro : w.frozen? ⟨cb, 0, none⟩ = false := by simp [World.frozen?, hc]
  have hst : (store ⟨cb, 0, none⟩ y).run P w = .ok () (w.setCell ⟨cb, 0, none⟩ y) := by
    rw [run_store P w _ y _ h1, hcell]
    simp [hfro]
  have hst2 : (storeCells ⟨cb, 0, none⟩ [y]).run P w = .ok () (w.setCell ⟨cb, 0, none⟩ y) := by
    simp only [storeCells, addr_add, Nat.add_zero, Sem.run_bind, hst, Result.andThen_ok, Sem.run_pure]
  unfold execOp; rw [ho]
  have hsz : ¬ ((#[y] : Array Value).size ≠ 1) := by simp
  have hl : (#[y] : Array Value).toList = [y] := rfl
  simp only [ha, Instr.storeAt, Instr.sureAddr, storeVar, Sem.run_bind, Sem.run_pure, Result.andThen_ok, size_run hs, hx, hsz, if_false, hl, hst2]
theorem x_loadVar {t : TypeId} {cb : Nat} {y : Value} {el : TypeId} {fz : Nat × Nat} (hg : isAgg P t = some false) (hc : w.heap[cb]? = some (.cells #[y] el fz)) : (loadVar t ⟨cb, 0, none⟩).run P w = .ok y w := by
  have hcell : w.cell? ⟨cb, 0, none⟩ = some y := by simp [World.cell?, hc]
  simp only [loadVar, Sem.run_bind, isAgg_run hg, Result.andThen_ok, Bool.false_eq_true, if_false]
  simp [load, Sem.run, hcell]
theorem x_load {t : TypeId} {a : Operand} {cb : Nat} {y : Value} {el : TypeId} {fz : Nat × Nat} (ho : o.op = .load t a) (hg : isAgg P t = some false) (ha : ρ a = .pointer (some ⟨cb, 0, none⟩)) (hc : w.heap[cb]? = some (.cells #[y] el fz)) : (execOp ρ o).run P w = .ok (.value y) w := by
  unfold execOp; rw [ho]
  refine vals _ _ w _ ?_
  simp [Instr.loadAt, ha, Instr.sureAddr, x_loadVar hg hc]
theorem x_fieldAddr {t : TypeId} {x : Operand} {cb : Nat} {fd : Field} (ho : o.op = .fieldAddr t x 0) (hf : fieldOf P t 0 = some fd) (hoff : fd.offset = 0) (hs : size P fd.type = some 1) (ha : ρ x = .pointer (some ⟨cb, 0, none⟩)) : (execOp ρ o).run P w = .ok (.value (.pointer (some ⟨cb, 0, none⟩))) w := by
  unfold fieldOf at hf
  split at hf
  · rename_i fs hfs
    rw [nth_get] at hf
    have hf' : fs[0]? = some fd := by simpa using hf
    have := run_underlying hfs w
    unfold execOp; rw [ho]
    refine vals _ _ w _ ?_
    simp [Instr.fieldAt, ha, this, hf', Instr.sureAddr, fieldPlace, size_run hs, hoff, addr_add]
  · cases hf
end runs
end Go.Ai
