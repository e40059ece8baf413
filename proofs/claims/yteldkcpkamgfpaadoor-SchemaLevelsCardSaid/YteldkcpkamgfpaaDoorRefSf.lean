/- What the reference's shift, Shift, Free and Uses (chapter 3) come to, for every row of nodes; condition: the strings' sizes. -/
import Derived.Test.YteldkcpkamgfpaaDoorRefCt
namespace Go.Proofs.YteldkcpkamgfpaaDoor
set_option linter.unusedSimpArgs false
set_option linter.unusedVariables false
open Go.RowKit Go.BigFrame

/-! ### rows of rows that are the call's own -/
theorem ownsRow_grown {w w' : World} {base size n : Nat} {e : TypeId} {v : Value} {xs : List Value} {r : Option Nat} (h : w.ownsRow base e size v n xs) (hg : w.grownBy w' r) (hne : ∀ y, v.ownBlock = some y → r ≠ some y) : w'.ownsRow base e size v n xs :=
  ownsRow_kept (K := fun y => r ≠ some y) h ⟨hg.size, fun b hb hk => hg.block b hb (fun e => hk e.symm)⟩ (fun g h => hne g h)
def OwnNN (base : Nat) (w : World) (v : Value) (L : List (List Nd)) : Prop :=
  ∃ vs : List Value, vs.length = L.length ∧ w.ownsRow base 22 1 v L.length vs ∧ (∀ x, x ∈ vs → x.oneCell' = true) ∧ ∀ i (hi : i < L.length) x, vs[i]? = some x → OwnN base w x L[i] ∧ ∀ y, x.ownBlock = some y → v.ownBlock ≠ some y
theorem OwnNN.read {base : Nat} {w : World} {v : Value} {L : List (List Nd)} (h : OwnNN base w v L) : ReadNN w v L := by
  obtain ⟨vs, h1, h2, _, h3⟩ := h
  exact ⟨vs, h1, RowAt.of_own h2, fun i hi x hx => (h3 i hi x hx).1.read⟩
theorem OwnNN.below {base : Nat} {w w' : World} {v : Value} {L : List (List Nd)} (h : OwnNN base w v L) (hb : Below w.heap.size w w') : OwnNN base w' v L := by
  obtain ⟨vs, h1, h2, h4, h3⟩ := h
  exact ⟨vs, h1, ownsRow_below h2 hb (fun g hg => (h2.lt g hg).2), h4, fun i hi x hx => ⟨ownsRow_below (h3 i hi x hx).1 hb (fun g hg => ((h3 i hi x hx).1.lt g hg).2), (h3 i hi x hx).2⟩⟩
theorem OwnNN.push {base : Nat} {w w' : World} {v v' p : Value} {L : List (List Nd)} {l : List Nd} {vs : List Value} (h1 : vs.length = L.length) (h2 : w.ownsRow base 22 1 v L.length vs) (h4 : ∀ x, x ∈ vs → x.oneCell' = true)
    (h3 : ∀ i (hi : i < L.length) x, vs[i]? = some x → OwnN base w x L[i] ∧ ∀ y, x.ownBlock = some y → v.ownBlock ≠ some y)
    (hp : OwnN base w p l) (hpv : ∀ y, p.ownBlock = some y → v.ownBlock ≠ some y) (hp1 : p.oneCell' = true)
    (ho : w'.ownsRow base 22 1 v' (L.length + 1) (vs ++ [p])) (hg : w.grownBy w' v.ownBlock) (hat : v'.ownBlock = v.ownBlock ∨ v'.ownBlock = some w.heap.size) : OwnNN base w' v' (L ++ [l]) := by
  have hfar : ∀ (x : Value) (m : List Nd), OwnN base w x m → (∀ y, x.ownBlock = some y → v.ownBlock ≠ some y) → OwnN base w' x m ∧ ∀ y, x.ownBlock = some y → v'.ownBlock ≠ some y := by
    intro x m hx hn
    refine ⟨ownsRow_grown hx hg hn, fun y hy => ?_⟩
    rcases hat with e | e
    · rw [e]; exact hn y hy
    · rw [e]; intro h; have := (hx.lt y hy).2; simp at h; omega
  refine ⟨vs ++ [p], by simp [h1], by rw [List.length_append]; exact ho, fun x hx => ?_, fun i hi x hx => ?_⟩
  · rcases List.mem_append.1 hx with hx | hx
    · exact h4 x hx
    · simp at hx; subst hx; exact hp1
  · by_cases hil : i < L.length
    · rw [List.getElem_append_left hil]
      rw [List.getElem?_append_left (by omega)] at hx
      exact hfar x _ (h3 i hil x hx).1 (h3 i hil x hx).2
    · have : i = L.length := by simp at hi; omega
      subst this
      rw [List.getElem?_append_right (by omega), h1, Nat.sub_self] at hx
      simp at hx
      subst hx
      rw [List.getElem_append_right (by omega)]
      simp only [Nat.sub_self, List.getElem_cons_zero]
      exact hfar p l hp hpv
theorem ownN_one {base : Nat} {w : World} {v : Value} {l : List Nd} (h : OwnN base w v l) : v.oneCell' = true := by
  obtain ⟨a, cap, rfl, _⟩ := (RowAt.of_own h).form
  rfl

/-! ### something of each part -/
def zws {β : Type} (g : Nd → Nat → β) : List Tm → List Nat → Nat → List (List β)
  | [], _, _ => []
  | t :: r, bs, u => t.zw g (u + bs.headD 0) :: zws g r bs.tail u
theorem zws_flat {β : Type} (g : Nd → Nat → β) : ∀ (l : List Tm) (bs : List Nat) (u : Nat), (zws g l bs u).flatten = zwL g l bs u := by
  intro l
  induction l with
  | nil => intro bs u; rw [zwL_nil]; rfl
  | cons t r ih => intro bs u; rw [zwL_cons, ← ih]; rfl
theorem zws_length {β : Type} (g : Nd → Nat → β) : ∀ (l : List Tm) (bs : List Nat) (u : Nat), (zws g l bs u).length = l.length := by
  intro l
  induction l with
  | nil => intro bs u; rfl
  | cons t r ih => intro bs u; simp [zws, ih]
theorem zws_take {β : Type} (g : Nd → Nat → β) : ∀ (l : List Tm) (bs : List Nat) (u j : Nat) (hj : j < l.length), (zws g l bs u).take (j + 1) = (zws g l bs u).take j ++ [(l[j]).zw g (u + bs.getD j 0)] := by
  intro l
  induction l with
  | nil => intro bs u j hj; simp at hj
  | cons t r ih =>
    intro bs u j hj
    cases j with
    | zero => cases bs <;> simp [zws]
    | succ j =>
      simp only [zws, List.take_succ_cons, List.getElem_cons_succ, List.cons_append]
      rw [ih bs.tail u j (by simpa using hj)]
      cases bs <;> rfl
/-- the first error in the first parts -/
def pE (b k : Int) (cs : List Tm) (bs : List Nat) (u j : Nat) : Int := fstE (zwL (shE b k) (cs.take j) bs u)
theorem pE_zero (b k : Int) (cs : List Tm) (bs : List Nat) (u : Nat) : pE b k cs bs u 0 = 0 := by unfold pE; rw [List.take_zero, zwL_nil]; rfl
theorem pE_succ (b k : Int) (cs : List Tm) (bs : List Nat) (u : Nat) {j : Nat} (hj : j < cs.length) (h0 : pE b k cs bs u j = 0) : pE b k cs bs u (j + 1) = fstE ((cs[j]).zw (shE b k) (u + bs.getD j 0)) := by
  unfold pE at *
  rw [zwL_take _ _ _ _ _ hj, fstE_append, if_pos h0]
theorem pE_end (b k : Int) (cs : List Tm) (bs : List Nat) (u : Nat) {j : Nat} (hj : j < cs.length) {c : Int} (h0 : pE b k cs bs u (j + 1) = c) (hc : c ≠ 0) : fstE (zwL (shE b k) cs bs u) = c := by
  have e : zwL (shE b k) cs bs u = zwL (shE b k) (cs.take (j + 1)) bs u ++ zwL (shE b k) (cs.drop (j + 1)) (bs.drop (j + 1)) u := by
    have : ∀ (l : List Tm) (bs : List Nat) (m : Nat), zwL (shE b k) l bs u = zwL (shE b k) (l.take m) bs u ++ zwL (shE b k) (l.drop m) (bs.drop m) u := by
      intro l
      induction l with
      | nil => intro bs m; simp [zwL_nil]
      | cons t r ih =>
        intro bs m
        cases m with
        | zero => simp [zwL_nil]
        | succ m =>
          have e : bs.drop (m + 1) = bs.tail.drop m := by cases bs <;> simp
          rw [List.take_succ_cons, List.drop_succ_cons, zwL_cons, zwL_cons, List.append_assoc, e, ← ih bs.tail m]
    exact this cs bs (j + 1)
  unfold pE at h0
  rw [e, fstE_append, h0, if_neg hc]
theorem shE_non {b k : Int} {n : Nd} {u : Nat} (h : ¬ (n.K = 0 ∧ k ≤ n.N - u)) : shE b k n u = 0 := by unfold shE; rw [if_neg h]
theorem shN_non {b k : Int} {n : Nd} {u : Nat} (h : ¬ (n.K = 0 ∧ k ≤ n.N - u)) : shN b k n u = n := by unfold shN; rw [if_neg h]

/-! ### the reference's shift -/
def RShPost (b k : Int) (t : Tm) (u : Nat) (w : World) (e : Ending) (w' : World) : Prop :=
  ∃ v, e = .returned (.tuple #[v, .int .i64 (fstE (t.zw (shE b k) u))]) ∧ OwnN w.heap.size w' v (if fstE (t.zw (shE b k) u) = 0 then t.zw (shN b k) u else []) ∧ Below w.heap.size w w'
theorem RShPost.bad {b k : Int} {t : Tm} {u : Nat} {w w' : World} {c : Int} (hc : fstE (t.zw (shE b k) u) = c) (h0 : c ≠ 0) (hb : Below w.heap.size w w') : RShPost b k t u w (.returned (.tuple #[.slice none 0 0, .int .i64 c])) w' :=
  ⟨_, by rw [hc], by rw [hc, if_neg h0]; exact World.ownsRow_nil _ _ _ _, hb⟩
theorem RShPost.good {b k : Int} {t : Tm} {u : Nat} {w w' : World} {v : Value} {l : List Nd} (hc : fstE (t.zw (shE b k) u) = 0) (hl : t.zw (shN b k) u = l) (ho : OwnN w.heap.size w' v l) (hb : Below w.heap.size w w') : RShPost b k t u w (.returned (.tuple #[v, .int .i64 0])) w' :=
  ⟨_, by rw [hc], by rw [hc, if_pos rfl, hl]; exact ho, hb⟩
def RShRel (b k : Int) (cs : List Tm) (bs : List Nat) (u : Nat) (w w1 : World) (out i : Value) (wr : World) : Prop :=
  ∃ j, j ≤ cs.length ∧ i = .int .i64 (j : Int) ∧ pE b k cs bs u j = 0 ∧ OwnNN w1.heap.size wr out ((zws (shN b k) cs bs u).take j) ∧ Below w.heap.size w wr ∧ Below w1.heap.size w1 wr

/-! ### Shift, Free, Uses of the reference -/
def RShiftPost (b k : Int) (l : List Nd) (w : World) (e : Ending) (w' : World) : Prop :=
  ∃ v, e = .returned (.tuple #[v, .int .i64 (shiftE b k l)]) ∧ OwnN w.heap.size w' v (shiftL b k l) ∧ Below w.heap.size w w'

theorem topF (L : List Int) : ∀ c : Int, L.foldl fF (c + 1) = L.foldl max c + 1 := by
  induction L with
  | nil => intro c; rfl
  | cons x r ih =>
    intro c
    rw [List.foldl_cons, List.foldl_cons, ← ih]
    congr 1
    unfold fF
    omega
theorem most_top {l : List Nd} {T : Tm} (hc : chk l = 0) (hw : whole l = some T) : mostK (-1) (T.fv 0) + 1 = freeN l := by
  rw [freeN_top hc hw]
  unfold topV mostK
  have e : (T.fv 0).filter (fun x => decide ((-1 : Int) < 0) || x == -1) = T.fv 0 := List.filter_eq_self.2 fun x _ => by simp
  rw [e]
  exact (topF _ (-1)).symm
theorem cnt_uses {l : List Nd} {T : Tm} {k : Int} (hk : 0 ≤ k) (hc : chk l = 0) (hw : whole l = some T) : cntK k (T.fv 0) = usesN k l := by
  rw [usesN_fv k hc hw]
  unfold cntK
  rw [if_neg (by omega)]
theorem uses_neg {l : List Nd} {k : Int} (hk : k < 0) : usesN k l = 0 := by
  by_cases hc : chk l = 0
  · obtain ⟨_, T, hw, _⟩ := chk_ok hc
    obtain ⟨hwf, _⟩ := whole_some hw
    rw [usesN_fv k hc hw]
    exact cntV_none fun x hx => by have := (fv_bound hwf x hx).1; omega
  · exact usesN_bad k hc

set_option maxHeartbeats 1000000 in
theorem reffree_any (l : List Nd) (v : Value) (w : World) (hv : ReadN w v l) (hs : SmallN l) :
    Calls Tryd.prog 80 #[v] w fun e w' => e = .returned (.tuple #[.int .i64 (freeN l), .int .i64 (chk l)]) ∧ Below w.heap.size w w' := by
  have HCK := Lib.hid (refcheck2_any l v w hv hs)
  obtain ⟨at_, ct, rfl⟩ := ReadN.len_slice hv
  obtain ⟨c, hc⟩ : ∃ c, chk l = c := ⟨_, rfl⟩
  by_cases h0 : c = 0
  · subst h0
    obtain ⟨hle, T, hw, hd⟩ := chk_ok hc
    obtain ⟨hwf, hfl⟩ := whole_some hw
    have HRS : Hid (∀ w', Below w.heap.size w w' → Calls Tryd.prog 89 #[.slice at_ l.length ct, .int .i64 (-1), .int .i64 0] w' (CountPost (-1) (T.fv 0) w')) := by
      show ∀ w', _
      intro w' hb'
      have h := refcount_all (-1) T hwf 0 (.slice at_ l.length ct) w' (by omega) (by rw [hfl]; exact hv.below hb') (by rw [hfl]; exact hs) (by rw [hfl]; exact hle)
      exact h
    have hm := most_top hc hw
    have hmb := mostK_bd (-1) _ (fv_bd hwf 0)
    obtain ⟨m, hmm⟩ : ∃ m, mostK (-1) (T.fv 0) = m := ⟨_, rfl⟩
    rw [hmm] at hm hmb
    rw [hc, ← hm]
    have HMM := Lib.hid hmm
    have HC := Lib.hid hc
    clear hv hs hw hwf hfl hc hm hmm
    go_enter Tryd.func80, Tryd.ntmps80
    go_wp2_with fail
    refine HCK.out.mono ?_
    rintro e w1 ⟨rfl, hb1'⟩
    rw [HC.out]
    have HB1 := Lib.hid hb1'
    clear hb1'
    go_wp2_with fail
    refine (HRS.out _ HB1.out).mono ?_
    rintro e w3 ⟨rfl, hb3⟩
    rw [HMM.out]
    have HB3 := chainB HB1 hb3
    clear hb3
    go_wp2_with fail
    go_ret2
    exact ⟨rfl, HB3.out⟩
  · have hcb : (c != 0) = true := by simpa using h0
    have hF : freeN l = 0 := by unfold freeN; rw [if_neg (by rw [hc]; exact h0)]
    rw [hF, hc]
    have HC := Lib.hid hc
    clear hv hs hc hF
    go_enter Tryd.func80, Tryd.ntmps80
    go_wp2_with fail
    refine HCK.out.mono ?_
    rintro e w1 ⟨rfl, hb1'⟩
    rw [HC.out]
    have HB1 := Lib.hid hb1'
    clear hb1'
    go_wp2_with fail
    go_ret2
    exact ⟨rfl, HB1.out⟩

end Go.Proofs.YteldkcpkamgfpaaDoor

