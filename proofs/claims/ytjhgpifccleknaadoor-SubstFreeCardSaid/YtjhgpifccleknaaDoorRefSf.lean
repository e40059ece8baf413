/- What the reference's shift, Shift, Free and Uses (chapter 3) come to, for every row of nodes; condition: the strings' sizes. -/
import Derived.Test.YtjhgpifccleknaaDoorRefCt
namespace Go.Proofs.YtjhgpifccleknaaDoor
set_option linter.unusedSimpArgs false
set_option linter.unusedVariables false
open Go.RowKit Go.BigFrame

/-! ### rows of rows that are the call's own -/
theorem ownsRow_grown {w w' : World} {base size n : Nat} {e : TypeId} {v : Value} {xs : List Value} {r : Option Nat} (h : w.ownsRow base e size v n xs) (hg : w.grownBy w' r) (hne : ∀ y, v.ownBlock = some y → r ≠ some y) : w'.ownsRow base e size v n xs :=
  ownsRow_kept (K := fun y => r ≠ some y) h ⟨hg.size, fun b hb hk => hg.block b hb (fun e => hk e.symm)⟩ (fun g h => hne g h)
def OwnNN (base : Nat) (w : World) (v : Value) (L : List (List Nd)) : Prop :=
  ∃ vs : List Value, vs.length = L.length ∧ w.ownsRow base 30 1 v L.length vs ∧ (∀ x, x ∈ vs → x.oneCell' = true) ∧ ∀ i (hi : i < L.length) x, vs[i]? = some x → OwnN base w x L[i] ∧ ∀ y, x.ownBlock = some y → v.ownBlock ≠ some y
theorem OwnNN.read {base : Nat} {w : World} {v : Value} {L : List (List Nd)} (h : OwnNN base w v L) : ReadNN w v L := by
  obtain ⟨vs, h1, h2, _, h3⟩ := h
  exact ⟨vs, h1, RowAt.of_own h2, fun i hi x hx => (h3 i hi x hx).1.read⟩
theorem OwnNN.below {base : Nat} {w w' : World} {v : Value} {L : List (List Nd)} (h : OwnNN base w v L) (hb : Below w.heap.size w w') : OwnNN base w' v L := by
  obtain ⟨vs, h1, h2, h4, h3⟩ := h
  exact ⟨vs, h1, ownsRow_below h2 hb (fun g hg => (h2.lt g hg).2), h4, fun i hi x hx => ⟨ownsRow_below (h3 i hi x hx).1 hb (fun g hg => ((h3 i hi x hx).1.lt g hg).2), (h3 i hi x hx).2⟩⟩
theorem OwnNN.push {base : Nat} {w w' : World} {v v' p : Value} {L : List (List Nd)} {l : List Nd} {vs : List Value} (h1 : vs.length = L.length) (h2 : w.ownsRow base 30 1 v L.length vs) (h4 : ∀ x, x ∈ vs → x.oneCell' = true)
    (h3 : ∀ i (hi : i < L.length) x, vs[i]? = some x → OwnN base w x L[i] ∧ ∀ y, x.ownBlock = some y → v.ownBlock ≠ some y)
    (hp : OwnN base w p l) (hpv : ∀ y, p.ownBlock = some y → v.ownBlock ≠ some y) (hp1 : p.oneCell' = true)
    (ho : w'.ownsRow base 30 1 v' (L.length + 1) (vs ++ [p])) (hg : w.grownBy w' v.ownBlock) (hat : v'.ownBlock = v.ownBlock ∨ v'.ownBlock = some w.heap.size) : OwnNN base w' v' (L ++ [l]) := by
  have hfar : ∀ (x : Value) (m : List Nd), OwnN base w x m → (∀ y, x.ownBlock = some y → v.ownBlock ≠ some y) → OwnN base w' x m ∧ ∀ y, x.ownBlock = some y → v'.ownBlock ≠ some y := by
    intro x m hx hn
    refine ⟨ownsRow_grown hx hg hn, fun y hy => ?_⟩
    rcases hat with e | e
    · rw [e]; exact hn y hy
    · rw [e]; intro h; have := (hx.lt y hy).2; simp at h; omega
  refine ⟨vs ++ [p], by simp [h1], by rw [List.length_append]; exact ho, fun x hx => ?_, fun i hi x hx => ?_⟩
  · rcases List.mem_append.1 hx with hx | hx
    · exact h4 x hx
    · simp at hx; subst hx; exact hp1
  · by_cases hil : i < L.length
    · rw [List.getElem_append_left hil]
      rw [List.getElem?_append_left (by omega)] at hx
      exact hfar x _ (h3 i hil x hx).1 (h3 i hil x hx).2
    · have : i = L.length := by simp at hi; omega
      subst this
      rw [List.getElem?_append_right (by omega), h1, Nat.sub_self] at hx
      simp at hx
      subst hx
      rw [List.getElem_append_right (by omega)]
      simp only [Nat.sub_self, List.getElem_cons_zero]
      exact hfar p l hp hpv
theorem ownN_one {base : Nat} {w : World} {v : Value} {l : List Nd} (h : OwnN base w v l) : v.oneCell' = true := by
  obtain ⟨a, cap, rfl, _⟩ := (RowAt.of_own h).form
  rfl

/-! ### something of each part -/
def zws {β : Type} (g : Nd → Nat → β) : List Tm → List Nat → Nat → List (List β)
  | [], _, _ => []
  | t :: r, bs, u => t.zw g (u + bs.headD 0) :: zws g r bs.tail u
theorem zws_flat {β : Type} (g : Nd → Nat → β) : ∀ (l : List Tm) (bs : List Nat) (u : Nat), (zws g l bs u).flatten = zwL g l bs u := by
  intro l
  induction l with
  | nil => intro bs u; rw [zwL_nil]; rfl
  | cons t r ih => intro bs u; rw [zwL_cons, ← ih]; rfl
theorem zws_length {β : Type} (g : Nd → Nat → β) : ∀ (l : List Tm) (bs : List Nat) (u : Nat), (zws g l bs u).length = l.length := by
  intro l
  induction l with
  | nil => intro bs u; rfl
  | cons t r ih => intro bs u; simp [zws, ih]
theorem zws_take {β : Type} (g : Nd → Nat → β) : ∀ (l : List Tm) (bs : List Nat) (u j : Nat) (hj : j < l.length), (zws g l bs u).take (j + 1) = (zws g l bs u).take j ++ [(l[j]).zw g (u + bs.getD j 0)] := by
  intro l
  induction l with
  | nil => intro bs u j hj; simp at hj
  | cons t r ih =>
    intro bs u j hj
    cases j with
    | zero => cases bs <;> simp [zws]
    | succ j =>
      simp only [zws, List.take_succ_cons, List.getElem_cons_succ, List.cons_append]
      rw [ih bs.tail u j (by simpa using hj)]
      cases bs <;> rfl
/-- the first error in the first parts -/
def pE (b k : Int) (cs : List Tm) (bs : List Nat) (u j : Nat) : Int := fstE (zwL (shE b k) (cs.take j) bs u)
theorem pE_zero (b k : Int) (cs : List Tm) (bs : List Nat) (u : Nat) : pE b k cs bs u 0 = 0 := by unfold pE; rw [List.take_zero, zwL_nil]; rfl
theorem pE_succ (b k : Int) (cs : List Tm) (bs : List Nat) (u : Nat) {j : Nat} (hj : j < cs.length) (h0 : pE b k cs bs u j = 0) : pE b k cs bs u (j + 1) = fstE ((cs[j]).zw (shE b k) (u + bs.getD j 0)) := by
  unfold pE at *
  rw [zwL_take _ _ _ _ _ hj, fstE_append, if_pos h0]
theorem pE_end (b k : Int) (cs : List Tm) (bs : List Nat) (u : Nat) {j : Nat} (hj : j < cs.length) {c : Int} (h0 : pE b k cs bs u (j + 1) = c) (hc : c ≠ 0) : fstE (zwL (shE b k) cs bs u) = c := by
  have e : zwL (shE b k) cs bs u = zwL (shE b k) (cs.take (j + 1)) bs u ++ zwL (shE b k) (cs.drop (j + 1)) (bs.drop (j + 1)) u := by
    have : ∀ (l : List Tm) (bs : List Nat) (m : Nat), zwL (shE b k) l bs u = zwL (shE b k) (l.take m) bs u ++ zwL (shE b k) (l.drop m) (bs.drop m) u := by
      intro l
      induction l with
      | nil => intro bs m; simp [zwL_nil]
      | cons t r ih =>
        intro bs m
        cases m with
        | zero => simp [zwL_nil]
        | succ m =>
          have e : bs.drop (m + 1) = bs.tail.drop m := by cases bs <;> simp
          rw [List.take_succ_cons, List.drop_succ_cons, zwL_cons, zwL_cons, List.append_assoc, e, ← ih bs.tail m]
    exact this cs bs (j + 1)
  unfold pE at h0
  rw [e, fstE_append, h0, if_neg hc]
theorem shE_non {b k : Int} {n : Nd} {u : Nat} (h : ¬ (n.K = 0 ∧ k ≤ n.N - u)) : shE b k n u = 0 := by unfold shE; rw [if_neg h]
theorem shN_non {b k : Int} {n : Nd} {u : Nat} (h : ¬ (n.K = 0 ∧ k ≤ n.N - u)) : shN b k n u = n := by unfold shN; rw [if_neg h]

/-! ### the reference's shift -/
def RShPost (b k : Int) (t : Tm) (u : Nat) (w : World) (e : Ending) (w' : World) : Prop :=
  ∃ v, e = .returned (.tuple #[v, .int .i64 (fstE (t.zw (shE b k) u))]) ∧ OwnN w.heap.size w' v (if fstE (t.zw (shE b k) u) = 0 then t.zw (shN b k) u else []) ∧ Below w.heap.size w w'
theorem RShPost.bad {b k : Int} {t : Tm} {u : Nat} {w w' : World} {c : Int} (hc : fstE (t.zw (shE b k) u) = c) (h0 : c ≠ 0) (hb : Below w.heap.size w w') : RShPost b k t u w (.returned (.tuple #[.slice none 0 0, .int .i64 c])) w' :=
  ⟨_, by rw [hc], by rw [hc, if_neg h0]; exact World.ownsRow_nil _ _ _ _, hb⟩
theorem RShPost.good {b k : Int} {t : Tm} {u : Nat} {w w' : World} {v : Value} {l : List Nd} (hc : fstE (t.zw (shE b k) u) = 0) (hl : t.zw (shN b k) u = l) (ho : OwnN w.heap.size w' v l) (hb : Below w.heap.size w w') : RShPost b k t u w (.returned (.tuple #[v, .int .i64 0])) w' :=
  ⟨_, by rw [hc], by rw [hc, if_pos rfl, hl]; exact ho, hb⟩
def RShIt (b k : Int) (t : Tm) : Prop := t.wf = true → ∀ (u : Nat) (v : Value) (w : World), u + 2 * t.dep ≤ 30000 → ReadN w v t.flat → SmallN t.flat → t.flat.length ≤ 4000 →
    Calls Tryd.prog 76 #[v, .int .i64 b, .int .i64 k, .int .i64 (u : Int)] w (RShPost b k t u w)

def RShRel (b k : Int) (cs : List Tm) (bs : List Nat) (u : Nat) (w w1 : World) (out i : Value) (wr : World) : Prop :=
  ∃ j, j ≤ cs.length ∧ i = .int .i64 (j : Int) ∧ pE b k cs bs u j = 0 ∧ OwnNN w1.heap.size wr out ((zws (shN b k) cs bs u).take j) ∧ Below w.heap.size w wr ∧ Below w1.heap.size w1 wr

set_option maxRecDepth 20000 in
set_option maxHeartbeats 4000000 in
theorem rsh_all (b k : Int) (hb : -1000 ≤ b ∧ b ≤ 1000) (hk : 0 ≤ k ∧ k ≤ 1000) : ∀ t : Tm, RShIt b k t := by
  refine Tm.ind ?_
  intro nd cs ih hwf u v w hu hv hs hlen
  obtain ⟨i0, hi, hz0, hz1, hz2⟩ := info_parts Tryd.infoNodes
  obtain ⟨hr, har, hks⟩ := wf_iff.1 hwf
  obtain ⟨ad, cp, rfl⟩ := ReadN.len_slice hv
  have hsz : nd.S.size ≤ maxLen := hs nd (List.mem_of_getLast? (flat_last _))
  have hroot := root_any (Tm.mk nd cs).flat nd _ w hv (flat_last _)
  obtain ⟨hb1, hb2⟩ := hb
  obtain ⟨hk1, hk2⟩ := hk
  by_cases hv0 : nd.K = 0 ∧ k ≤ nd.N - (u : Int)
  · obtain ⟨hK, hge⟩ := hv0
    obtain ⟨evar, hN0, hN9, _⟩ := var_right hr hK
    have hkb : (nd.K == 0) = true := by simpa using hK
    have hcs : cs = [] := by
      rw [(var_right hr hK).2.2.2] at har
      exact List.eq_nil_of_length_eq_zero har
    have hzE : (Tm.mk nd cs).zw (shE b k) u = [if nd.N + b - (u : Int) < k then 30 else if 99 < nd.N + b then 2 else 0] := by
      rw [zw_mk, hcs, zwL_nil]
      show [shE b k nd u] = _
      unfold shE
      rw [if_pos ⟨hK, hge⟩]
    have hzN : (Tm.mk nd cs).zw (shN b k) u = [⟨0, nd.N + b, 0, ByteArray.empty⟩] := by
      rw [zw_mk, hcs, zwL_nil]
      show [shN b k nd u] = _
      unfold shN
      rw [if_pos ⟨hK, hge⟩, evar]
    have HZN := Lib.hid hzN
    obtain ⟨T, hT⟩ : ∃ T, Tm.mk nd cs = T := ⟨_, rfl⟩
    rw [hT] at hzE HZN ⊢ hroot hlen
    obtain ⟨n, hn⟩ : ∃ n, T.flat.length = n := ⟨_, rfl⟩
    rw [hn] at hroot hlen ⊢
    have hu3 : u ≤ 30000 := by omega
    have HR := Lib.hid hroot
    by_cases h30 : nd.N + b - (u : Int) < k
    · have hE : fstE (T.zw (shE b k) u) = 30 := by rw [hzE, if_pos h30]; rfl
      have HE := Lib.hid hE
      clear hroot hv hs hn hwf har hks ih hK hcs hzE hzN hT hE evar
      go_enter Tryd.func76, Tryd.ntmps76
      go_wp2_with fail
      refine HR.out.mono ?_
      rintro e w1 ⟨rfl, hb1'⟩
      have HB1 := Lib.hid hb1'; clear hb1' HR
      go_wp2_with fail
      go_ret2
      exact RShPost.bad HE.out (by omega) (HB1.out.alloc HB1.out.size _)
    · by_cases h99 : nd.N + b > 99
      · have hE : fstE (T.zw (shE b k) u) = 2 := by rw [hzE, if_neg h30, if_pos (by omega)]; rfl
        have HE := Lib.hid hE
        clear hroot hv hs hn hwf har hks ih hK hcs hzE hzN hT hE evar
        go_enter Tryd.func76, Tryd.ntmps76
        go_wp2_with fail
        refine HR.out.mono ?_
        rintro e w1 ⟨rfl, hb1'⟩
        have HB1 := Lib.hid hb1'; clear hb1' HR
        go_wp2_with fail
        go_ret2
        exact RShPost.bad HE.out (by omega) (HB1.out.alloc HB1.out.size _)
      · have hE : fstE (T.zw (shE b k) u) = 0 := by rw [hzE, if_neg h30, if_neg (by omega)]; rfl
        have HE := Lib.hid hE
        clear hroot hv hs hn hwf har hks ih hK hcs hzE hzN hT hE evar
        go_enter Tryd.func76, Tryd.ntmps76
        go_wp2_with fail
        refine HR.out.mono ?_
        rintro e w1 ⟨rfl, hb1'⟩
        have HB1 := Lib.hid hb1'; clear hb1' HR
        go_wp2_with fail
        go_ret2
        refine RShPost.good HE.out HZN.out ?_ ((HB1.out.alloc HB1.out.size _).alloc (by have := HB1.out.size; simp; omega) _)
        have hsz1 := HB1.out.size
        have h := World.ownsRow_lit (base := w.heap.size) (e := 23) (size := 4) (w1.alloc (.cells #[.int .i64 nd.K, .int .i64 nd.N, .int .i64 nd.M, .string nd.S] 23)) #[.int .i64 0, .int .i64 (nd.N + b), .int .i64 0, .string ByteArray.empty] 1 (by simp; omega) (by unfold maxLen; omega) rfl
        rw [World.size_alloc] at h
        exact h
  have hBc : (nd.K == 0) = false ∨ ((nd.K == 0) = true ∧ 0 ≤ nd.N ∧ nd.N ≤ 99 ∧ ¬ k ≤ nd.N - (u : Int)) := by
    by_cases hK : nd.K = 0
    · have h := right_var hr hK
      exact .inr ⟨by simpa using hK, h.1, h.2, fun h => hv0 ⟨hK, h⟩⟩
    · exact .inl (by simpa using hK)
  have hm4 : cs.length ≤ 4000 := by have := flatL_ge cs; rw [flat_mk, List.length_append] at hlen; omega
  have hfl4 : (flatL cs).length ≤ 4000 := by rw [flat_mk, List.length_append] at hlen; omega
  have HIH : Hid (∀ (i : Nat) (hi : i < cs.length) (y : Nat) (v : Value) (w' : World), y ≤ 2 → ReadN w' v (cs[i]).flat → Calls Tryd.prog 76 #[v, .int .i64 b, .int .i64 k, .int .i64 ((u : Int) + (y : Int))] w' (RShPost b k cs[i] (u + y) w')) := by
    show ∀ (i : Nat) (hi : i < cs.length) (y : Nat) (v : Value) (w' : World), _
    intro i hi y v w' hy hv'
    have h1 := part_len (nd := nd) hi
    have h2 := dep_le_depL (List.getElem_mem hi)
    rw [dep_mk] at hu
    have := ih cs[i] (List.getElem_mem hi) (hks _ (List.getElem_mem hi)) (u + y) v w' (by omega) hv' (part_small hs hi) (by omega)
    rw [show (((u + y : Nat)) : Int) = (u : Int) + (y : Int) from by omega] at this
    exact this
  have HPA : Hid (∀ w', Below w.heap.size w w' → Calls Tryd.prog 42 #[.slice ad (Tm.mk nd cs).flat.length cp] w' (PartsPost cs w')) := by
    show ∀ w', _
    intro w' hb
    exact refparts_any nd cs _ w' hwf (hv.below hb) hs hlen
  obtain ⟨bs, hbs⟩ : ∃ bs, bnds nd = bs := ⟨_, rfl⟩
  have hb2 : ∀ y, y ∈ bs → y ≤ 2 := by rw [← hbs]; exact bnds_two hr
  have HB2L := Lib.hid hb2
  have hzE : (Tm.mk nd cs).zw (shE b k) u = zwL (shE b k) cs bs u ++ [0] := by rw [zw_mk, hbs, shE_non hv0]
  have hzN : (Tm.mk nd cs).zw (shN b k) u = (zws (shN b k) cs bs u).flatten ++ [nd] := by rw [zw_mk, hbs, shN_non hv0, zws_flat]
  have HZN := Lib.hid hzN
  have HZL : Hid ((zws (shN b k) cs bs u).flatten.length ≤ 4000) := by
    show _ ≤ _
    rw [zws_flat]
    unfold zwL
    rw [List.length_zipWith, undL_length, Nat.min_self]
    exact hfl4
  have HZE : Hid (∀ c, fstE (zwL (shE b k) cs bs u) = c → fstE ((Tm.mk nd cs).zw (shE b k) u) = c) := by
    show ∀ c, _
    intro c hc
    rw [hzE, fstE_append, hc]
    by_cases h : c = 0
    · rw [if_pos h, h]; rfl
    · rw [if_neg h]
  obtain ⟨T, hT⟩ : ∃ T, Tm.mk nd cs = T := ⟨_, rfl⟩
  rw [hT] at HZE HZN ⊢ hroot hlen HPA
  have hu3 : u ≤ 30000 := by omega
  have HR := Lib.hid hroot
  have HRR := Lib.hid hr
  have HAR := Lib.hid har
  have HBS := Lib.hid hbs
  obtain ⟨n, hn⟩ : ∃ n, T.flat.length = n := ⟨_, rfl⟩
  rw [hn] at HPA HR hlen ⊢
  clear hroot hv hs hn hwf har hks ih hbs hb2 hr hzE hzN hT hv0 hu
  rcases hBc with hkb | ⟨hkb, hN0, hN9, hnk⟩
  all_goals
    refine callsIn_wide.1 (callsIn_of_wp (F := Fence.wide) (n := 3) Tryd.func76 rfl trivial ?_ rfl)
    simp only [Tryd.ntmps76, List.size_toArray, List.length_cons, List.length_nil, Nat.reduceAdd, Nat.reduceSub, Array.replicate_succ, Array.replicate_zero, List.push_toArray, List.append_toArray, List.nil_append, List.cons_append]
    gi_wp2_with fail
    refine enterW2 HR.out ?_
    rintro e w1 ⟨rfl, hb1'⟩
    have HB1 := Lib.hid hb1'
    clear hb1' HR
    gi_wp2_with fail
    refine enterW2 (refbinds_any nd _ hsz) ?_
    rintro e w3 ⟨vb, lb, rfl, hvb, hlb, hb3⟩
    have hlb := hlb HRR.out
    rw [HRR.out]
    subst hlb
    obtain ⟨ba, bc, rfl, hrow, hbl⟩ := binds_row hvb HAR.out
    rw [HBS.out] at hrow hbl
    have hbx : Below (w1.heap.size + 1) (w1.alloc (.cells #[.int .i64 nd.K, .int .i64 nd.N, .int .i64 nd.M, .string nd.S] 23)) w3 := hb3.mono (by simp)
    have HB3 : Hid (Below w.heap.size w w3) := (HB1.out.alloc HB1.out.size _).trans (hb3.mono (by have := HB1.out.size; simp; omega))
    have HBX := Lib.hid hbx
    have HROW := Lib.hid hrow
    have HBL := Lib.hid hbl
    clear hb3 hvb hrow hbl hbx
    gi_wp2_with fail
    refine enterW2 (HPA.out _ HB3.out) ?_
    rintro e w4 ⟨pa, pc, rfl, hnn, hb4⟩
    have HROW := Lib.hid (HROW.out.below hb4)
    have HB4 := chainB HB3 hb4
    have HNN := Lib.hid hnn
    have HBX4 := Lib.hid (HBX.out.trans (hb4.mono (by have := HBX.out.size; simp at this; omega)))
    clear hb4 hnn HPA HBX
    gi_wp2_with fail
    gi_loopw [15, 16] (fun out i wr => RShRel b k cs bs u w w4 out i wr) (fun _ i _ => cs.length - (intOf i).toNat)
    case atStart =>
      refine ⟨0, Nat.zero_le _, rfl, pE_zero _ _ _ _ _, ⟨[], by simp, ?_, (fun x hx => by cases hx), fun i hi => by simp at hi⟩, HB4.out.alloc HB4.out.size _, (Below.refl _ _).alloc (Nat.le_refl _) _⟩
      exact World.ownsRow_lit w4 #[] 0 (Nat.le_refl _) (by unfold maxLen; omega) rfl
    case round =>
      rename World => wa
      obtain ⟨j, hj, rfl, hp0, hnn, hb, hbb⟩ := hrel
      have HB := Lib.hid hb; clear hb
      have HBB := Lib.hid hbb; clear hbb
      have hzl := zws_length (shN b k) cs bs u
      have hlj : ((zws (shN b k) cs bs u).take j).length = j := by rw [List.length_take, hzl]; omega
      by_cases hlt : j < cs.length
      · obtain ⟨pb, po, a1, c1, rfl, hpb, g1, r1⟩ := kid_at (HNN.out.below HBB.out) hlt
        obtain ⟨gb, ob, rfl, hgb, g2⟩ := bind_at (HROW.out.below HBB.out) hlt HBL.out
        have hpe := pE_succ b k cs bs u hlt hp0
        have hnx := zws_take (shN b k) cs bs u j hlt
        obtain ⟨y, hy⟩ : ∃ y, bs.getD j 0 = y := ⟨_, rfl⟩
        have hy2 : y ≤ 2 := by
          rw [← hy, List.getD_eq_getElem?_getD, List.getElem?_eq_getElem (by rw [HBL.out]; exact hlt)]
          exact HB2L.out _ (List.getElem_mem _)
        rw [hy] at g2 hpe hnx
        have hcall := HIH.out j hlt y
        obtain ⟨c, hc⟩ : ∃ c, fstE ((cs[j]).zw (shE b k) (u + y)) = c := ⟨_, rfl⟩
        have HCX : Hid (∀ m, Calls Tryd.prog 76 #[.slice a1 (cs[j]).flat.length c1, .int .i64 b, .int .i64 k, .int .i64 ((u : Int) + (y : Int))] (wa.drewN m) fun e w' => ∃ v, e = .returned (.tuple #[v, .int .i64 c]) ∧ OwnN wa.heap.size w' v (if c = 0 then (cs[j]).zw (shN b k) (u + y) else []) ∧ Below wa.heap.size wa w') := by
          show ∀ m, _
          intro m
          have := hcall (.slice a1 (cs[j]).flat.length c1) (wa.drewN m) hy2 (RowAt.drewN r1 m)
          unfold RShPost at this
          rw [hc] at this
          exact this.mono fun e w' ⟨v, h1, h2, h3⟩ => ⟨v, h1, h2, (below_drewN (Below.refl _ wa) m).trans h3⟩
        rw [hc] at hpe
        obtain ⟨q, hq⟩ : ∃ q, (cs[j]).flat.length = q := ⟨_, rfl⟩
        rw [hq] at g1 HCX
        have HPE := Lib.hid hpe
        have HNX := Lib.hid hnx
        obtain ⟨vs, hvl, hown, hone, hel⟩ := hnn
        rw [hlj] at hown
        obtain ⟨ao, co, rfl, _⟩ := (RowAt.of_own hown).form
        have HVL := Lib.hid hvl
        have HOWN := Lib.hid hown
        have HONE := Lib.hid hone
        have HEL := Lib.hid hel
        have HLJ := Lib.hid hlj
        clear hpe hnx hcall r1 hy hc hq hp0 hvl hown hone hel hlj hzl
        gi_wp2_with fail
        refine wpIn_region_mid 12 (by kernel_rfl) (by kernel_rfl) (by kernel_rfl) ?_
        simp only [List.take_succ_cons, List.take_zero, List.drop_succ_cons, List.drop_zero]
        repeat (first | gi_big_quiet_skip | (gi_big_quiet_want; gi_big_quiet_op; go_big_quiet_on))
        refine wpQuietIn_nil ?_
        intro mq
        gi_wp2_with fail
        refine enterW2 (HCX.out mq) ?_
        rintro e w5 ⟨v5, rfl, ho5, hb5⟩
        have HO5 := Lib.hid ho5
        have HB5 := Lib.hid hb5
        clear ho5 hb5
        gi_wp2_with fail
        repeat (first | gi_big_quiet_skip | (gi_big_quiet_want; gi_big_quiet_op; go_big_quiet_on))
        refine wpQuietIn_nil ?_
        rintro w6' ⟨rq, rfl⟩
        obtain ⟨w6, hw6⟩ : ∃ w6, w5.drewN rq = w6 := ⟨_, rfl⟩
        have hb6 : Below wa.heap.size wa w6 := by rw [← hw6]; exact below_drewN HB5.out rq
        have ho6 : OwnN wa.heap.size w6 v5 (if c = 0 then (cs[j]).zw (shN b k) (u + y) else []) := by rw [← hw6]; exact HO5.out
        rw [hw6]
        have HB6 := Lib.hid hb6
        have HB6W := chainB HB hb6
        have HBB6 := chainB HBB hb6
        clear hw6 hb6
        by_cases h0 : c = 0
        rotate_left
        · have hcb : (c != 0) = true := by simpa using h0
          have hpe := HPE.out
          gi_wp2_with fail
          refine bodyPost_ret (results_tmp2 rfl _ _ _) rfl ?_
          exact RShPost.bad (HZE.out c (pE_end b k cs bs u hlt hpe h0)) h0 HB6W.out
        · subst h0
          rw [if_pos rfl] at ho6
          obtain ⟨lz, hlz⟩ : ∃ lz, (cs[j]).zw (shN b k) (u + y) = lz := ⟨_, rfl⟩
          have hnx := HNX.out
          rw [hlz] at ho6 hnx
          have HNX2 := Lib.hid hnx
          obtain ⟨av, cv, rfl, _⟩ := (RowAt.of_own ho6).form
          obtain ⟨lq, hlq⟩ : ∃ lq, lz.length = lq := ⟨_, rfl⟩
          rw [hlq] at ho6 ⊢
          clear HO5 HCX HNX hnx hlz
          have hfar : ∀ g, (Value.slice av lq cv).ownBlock = some g → (Value.slice ao j co).ownBlock ≠ some g := fun g hg h => by
            have h1 := (ho6.lt g hg).1
            have h2 := (HOWN.out.lt g h).2
            omega
          have hp1 := ownN_one ho6
          have hown6 := ownsRow_below HOWN.out HB6.out (fun g hg => (HOWN.out.lt g hg).2)
          have HO6 := Lib.hid ho6
          have HOWN6 := Lib.hid hown6
          have HFAR := Lib.hid hfar
          have hj4 : j ≤ 4000 := by omega
          have hs6 : w4.heap.size ≤ w6.heap.size := HBB6.out.size
          clear ho6 hown6 hfar
          have HA1 : Hid ((w6.alloc (.cells #[Value.slice av lq cv] 30)).ownsRow w4.heap.size 30 1 (.slice ao j co) j vs) := ownsRow_below HOWN6.out ((Below.refl _ _).alloc (Nat.le_refl _) _) (fun g hg => (HOWN6.out.lt g hg).2)
          have HA2 : Hid (RowAt (w6.alloc (.cells #[Value.slice av lq cv] 30)) 1 (.slice (some ⟨w6.heap.size, 0, none⟩) 1 1) 1 [Value.slice av lq cv]) := RowAt.lit w6 _ #[Value.slice av lq cv] 1 rfl (by unfold maxLen; omega)
          have HA3 : Hid (∀ x, x ∈ [Value.slice av lq cv] → x.oneCell' = true) := by
            show ∀ x, _
            intro x hx
            simp at hx
            subst hx
            exact hp1
          have hA4 : (j + 1) * 24 ≤ 140737488355328 := by omega
          have hA5 : j + 1 ≤ maxLen := by unfold maxLen; omega
          have hA6 : w4.heap.size ≤ (w6.alloc (.cells #[Value.slice av lq cv] 30)).heap.size := by simp; omega
          gi_wp2_with (gi_at_builtin; refine wpListIn_append_row rfl (.tmp 79) (.tmp 81) 41 rfl w4.heap.size 30 i0 (.slice none 0 0) 1 24 Tryd.underlying41 hi hz0 hz1 hz2 rfl (by decide) (.slice ao j co) j vs rfl HA1.out (.slice (some ⟨w6.heap.size, 0, none⟩) 1 1) 1 [Value.slice av lq cv] rfl HA2.out HA3.out hA4 hA5 hA6 ?_; intro v7 w7 hown7 hg7 hat7)
          have h64 : Below w6.heap.size w6 (w6.alloc (.cells #[Value.slice av lq cv] 30)) := (Below.refl _ _).alloc (Nat.le_refl _) _
          have hbb7 : Below w4.heap.size w4 w7 := (HBB6.out.alloc HBB6.out.size _).grown hg7 hA6 (fun g hg => (HOWN6.out.lt g hg).1)
          have hb7 : Below w.heap.size w w7 := HB4.out.trans (hbb7.mono HB4.out.size)
          have hsa : w4.heap.size ≤ wa.heap.size := HBB.out.size
          have h3a : ∀ i (hi : i < ((zws (shN b k) cs bs u).take j).length) x, vs[i]? = some x → OwnN w4.heap.size (w6.alloc (.cells #[Value.slice av lq cv] 30)) x ((zws (shN b k) cs bs u).take j)[i] ∧ ∀ y, x.ownBlock = some y → (Value.slice ao j co).ownBlock ≠ some y :=
            fun i hi x hx => ⟨ownsRow_below (ownsRow_below (HEL.out i hi x hx).1 HB6.out (fun g hg => ((HEL.out i hi x hx).1.lt g hg).2)) h64 (fun g hg => by have := ((HEL.out i hi x hx).1.lt g hg).2; have := HB6.out.size; omega), (HEL.out i hi x hx).2⟩
          have hpa : OwnN w4.heap.size (w6.alloc (.cells #[Value.slice av lq cv] 30)) (.slice av lq cv) lz := by
            refine ownsRow_below (ownsRow_base (b := wa.heap.size) ?_ hsa) h64 (fun g hg => (HO6.out.lt g hg).2)
            have h := HO6.out
            exact h
          have hnn7 := OwnNN.push (w := w6.alloc (.cells #[Value.slice av lq cv] 30)) HVL.out (by rw [HLJ.out]; exact HA1.out) HONE.out h3a hpa HFAR.out hp1 (by rw [HLJ.out]; exact hown7) hg7 hat7
          rw [← HNX2.out] at hnn7
          have HNN7 := Lib.hid hnn7
          have HB7 := Lib.hid hb7
          have HBB7 := Lib.hid hbb7
          clear hown7 hg7 hat7 h64 hbb7 hb7 h3a hpa hnn7
          gi_wp2_with fail
          exact ⟨⟨j + 1, by omega, by go_num, HPE.out, HNN7.out, HB7.out, HBB7.out⟩, by simp [intOf]; omega⟩
      · obtain rfl : j = cs.length := by omega
        rw [List.take_of_length_le (by rw [hzl]; exact Nat.le_refl _)] at hnn
        have hz0' : fstE (zwL (shE b k) cs bs u) = 0 := by unfold pE at hp0; rwa [List.take_length] at hp0
        have hE0 := HZE.out 0 hz0'
        obtain ⟨c0, c1, c2, c3, hltb⟩ := box_cells (HBX4.out.trans (HBB.out.mono (by have := HBX4.out.size; simp at this; omega)))
        have HOF := Lib.hid (refof_any nd _ _ wa hnn.read (by have := HZL.out; omega))
        have HE0 := Lib.hid hE0
        clear hnn hz0' hE0 hp0 hzl hlj
        gi_wp2_with fail
        refine enterW2 HOF.out ?_
        rintro e w9 ⟨v9, rfl, ho9, hb9⟩
        rw [← HZN.out] at ho9
        have HO9 := Lib.hid ho9
        have HB9 := chainB HB hb9
        clear ho9 hb9
        gi_wp2_with fail
        refine bodyPost_ret (results_tmp2 rfl _ _ _) rfl ?_
        exact RShPost.good HE0.out rfl (ownsRow_base HO9.out HB.out.size) HB9.out

/-! ### Shift, Free, Uses of the reference -/
def RShiftPost (b k : Int) (l : List Nd) (w : World) (e : Ending) (w' : World) : Prop :=
  ∃ v, e = .returned (.tuple #[v, .int .i64 (shiftE b k l)]) ∧ OwnN w.heap.size w' v (shiftL b k l) ∧ Below w.heap.size w w'

set_option maxRecDepth 20000 in
set_option maxHeartbeats 1000000 in
theorem refshift_any (l : List Nd) (v : Value) (by_ from_ : Int) (w : World) (hv : ReadN w v l) (hs : SmallN l) :
    Calls Tryd.prog 45 #[v, .int .i64 by_, .int .i64 from_] w (RShiftPost (clampI by_) (max 0 (clampI from_)) l w) := by
  have HCK := Lib.hid (refcheck2_any l v w hv hs)
  obtain ⟨b, hb⟩ : ∃ b, clampI by_ = b := ⟨_, rfl⟩
  obtain ⟨kf, hkf⟩ : ∃ k, clampI from_ = k := ⟨_, rfl⟩
  have hb1 := clampI_le by_
  have hk1 := clampI_le from_
  rw [hb] at hb1 ⊢
  rw [hkf] at hk1 ⊢
  have HCB : Hid (∀ x : World, Calls Tryd.prog 77 #[.int .i64 by_] x fun e w' => e = .returned (.int .i64 b) ∧ w' = x) := by
    show ∀ x, _
    intro x; rw [← hb]; exact rclamp_any by_ x
  have HCF : Hid (∀ x : World, Calls Tryd.prog 77 #[.int .i64 from_] x fun e w' => e = .returned (.int .i64 kf) ∧ w' = x) := by
    show ∀ x, _
    intro x; rw [← hkf]; exact rclamp_any from_ x
  obtain ⟨k, hkk⟩ : ∃ k, max 0 kf = k := ⟨_, rfl⟩
  have hite : (if 0 < kf then kf else 0) = k := by rw [← hkk]; split <;> omega
  have hk0 : 0 ≤ k ∧ k ≤ 1000 := by omega
  rw [hkk]
  obtain ⟨at_, ct, rfl⟩ := ReadN.len_slice hv
  clear hb hkf hkk
  obtain ⟨c, hc⟩ : ∃ c, chk l = c := ⟨_, rfl⟩
  by_cases h0 : c = 0
  · subst h0
    obtain ⟨hle, T, hw, hd⟩ := chk_ok hc
    obtain ⟨hwf, hfl⟩ := whole_some hw
    have HRS : Hid (∀ w', Below w.heap.size w w' → Calls Tryd.prog 76 #[.slice at_ l.length ct, .int .i64 b, .int .i64 k, .int .i64 0] w' (RShPost b k T 0 w')) := by
      show ∀ w', _
      intro w' hb'
      have h := rsh_all b k hb1 hk0 T hwf 0 (.slice at_ l.length ct) w' (by omega) (by rw [hfl]; exact hv.below hb') (by rw [hfl]; exact hs) (by rw [hfl]; exact hle)
      exact h
    have hE := shiftE_of (b := b) (k := k) hc hw
    have hL : shiftL b k l = if fstE (T.zw (shE b k) 0) = 0 then T.zw (shN b k) 0 else [] := by unfold shiftL; rw [hE, hw]
    have HE := Lib.hid hE
    have HL := Lib.hid hL
    have HC := Lib.hid hc
    clear hv hs hE hL hw hwf hfl hc
    go_enter Tryd.func45, Tryd.ntmps45
    go_wp2_with fail
    refine HCK.out.mono ?_
    rintro e w1 ⟨rfl, hb1'⟩
    rw [HC.out]
    have HB1 := Lib.hid hb1'
    clear hb1'
    go_wp2_with fail
    refine (HCB.out _).mono ?_
    rintro e w2 ⟨rfl, rfl⟩
    go_wp2_with fail
    refine (HCF.out _).mono ?_
    rintro e w2 ⟨rfl, rfl⟩
    go_wp2_with fail
    try rw [hite]
    refine (HRS.out _ HB1.out).mono ?_
    rintro e w3 ⟨v3, rfl, ho, hb3⟩
    rw [← HL.out] at ho
    rw [← HE.out]
    have HO := Lib.hid ho
    have HB3 := chainB HB1 hb3
    clear ho hb3
    go_wp2_with fail
    go_ret2
    exact ⟨_, rfl, ownsRow_base HO.out HB1.out.size, HB3.out⟩
  · have hcb : (c != 0) = true := by simpa using h0
    have hE := shiftE_bad (b := b) (k := k) (l := l) (by rw [hc]; exact h0)
    have hL := shiftL_bad (b := b) (k := k) (l := l) (by rw [hE, hc]; exact h0)
    rw [hc] at hE
    have HE := Lib.hid hE
    have HL := Lib.hid hL
    have HC := Lib.hid hc
    clear hv hs hE hL hc
    go_enter Tryd.func45, Tryd.ntmps45
    go_wp2_with fail
    refine HCK.out.mono ?_
    rintro e w1 ⟨rfl, hb1'⟩
    rw [HC.out]
    have HB1 := Lib.hid hb1'
    clear hb1'
    go_wp2_with fail
    go_ret2
    exact ⟨_, by rw [HE.out]; rfl, by rw [HL.out]; exact World.ownsRow_nil _ _ _ _, HB1.out⟩

theorem topF (L : List Int) : ∀ c : Int, L.foldl fF (c + 1) = L.foldl max c + 1 := by
  induction L with
  | nil => intro c; rfl
  | cons x r ih =>
    intro c
    rw [List.foldl_cons, List.foldl_cons, ← ih]
    congr 1
    unfold fF
    omega
theorem most_top {l : List Nd} {T : Tm} (hc : chk l = 0) (hw : whole l = some T) : mostK (-1) (T.fv 0) + 1 = freeN l := by
  rw [freeN_top hc hw]
  unfold topV mostK
  have e : (T.fv 0).filter (fun x => decide ((-1 : Int) < 0) || x == -1) = T.fv 0 := List.filter_eq_self.2 fun x _ => by simp
  rw [e]
  exact (topF _ (-1)).symm
theorem cnt_uses {l : List Nd} {T : Tm} {k : Int} (hk : 0 ≤ k) (hc : chk l = 0) (hw : whole l = some T) : cntK k (T.fv 0) = usesN k l := by
  rw [usesN_fv k hc hw]
  unfold cntK
  rw [if_neg (by omega)]
theorem uses_neg {l : List Nd} {k : Int} (hk : k < 0) : usesN k l = 0 := by
  by_cases hc : chk l = 0
  · obtain ⟨_, T, hw, _⟩ := chk_ok hc
    obtain ⟨hwf, _⟩ := whole_some hw
    rw [usesN_fv k hc hw]
    exact cntV_none fun x hx => by have := (fv_bound hwf x hx).1; omega
  · exact usesN_bad k hc

set_option maxHeartbeats 1000000 in
theorem reffree_any (l : List Nd) (v : Value) (w : World) (hv : ReadN w v l) (hs : SmallN l) :
    Calls Tryd.prog 47 #[v] w fun e w' => e = .returned (.tuple #[.int .i64 (freeN l), .int .i64 (chk l)]) ∧ Below w.heap.size w w' := by
  have HCK := Lib.hid (refcheck2_any l v w hv hs)
  obtain ⟨at_, ct, rfl⟩ := ReadN.len_slice hv
  obtain ⟨c, hc⟩ : ∃ c, chk l = c := ⟨_, rfl⟩
  by_cases h0 : c = 0
  · subst h0
    obtain ⟨hle, T, hw, hd⟩ := chk_ok hc
    obtain ⟨hwf, hfl⟩ := whole_some hw
    have HRS : Hid (∀ w', Below w.heap.size w w' → Calls Tryd.prog 79 #[.slice at_ l.length ct, .int .i64 (-1), .int .i64 0] w' (CountPost (-1) (T.fv 0) w')) := by
      show ∀ w', _
      intro w' hb'
      have h := refcount_all (-1) T hwf 0 (.slice at_ l.length ct) w' (by omega) (by rw [hfl]; exact hv.below hb') (by rw [hfl]; exact hs) (by rw [hfl]; exact hle)
      exact h
    have hm := most_top hc hw
    have hmb := mostK_bd (-1) _ (fv_bd hwf 0)
    obtain ⟨m, hmm⟩ : ∃ m, mostK (-1) (T.fv 0) = m := ⟨_, rfl⟩
    rw [hmm] at hm hmb
    rw [hc, ← hm]
    have HMM := Lib.hid hmm
    have HC := Lib.hid hc
    clear hv hs hw hwf hfl hc hm hmm
    go_enter Tryd.func47, Tryd.ntmps47
    go_wp2_with fail
    refine HCK.out.mono ?_
    rintro e w1 ⟨rfl, hb1'⟩
    rw [HC.out]
    have HB1 := Lib.hid hb1'
    clear hb1'
    go_wp2_with fail
    refine (HRS.out _ HB1.out).mono ?_
    rintro e w3 ⟨rfl, hb3⟩
    rw [HMM.out]
    have HB3 := chainB HB1 hb3
    clear hb3
    go_wp2_with fail
    go_ret2
    exact ⟨rfl, HB3.out⟩
  · have hcb : (c != 0) = true := by simpa using h0
    have hF : freeN l = 0 := by unfold freeN; rw [if_neg (by rw [hc]; exact h0)]
    rw [hF, hc]
    have HC := Lib.hid hc
    clear hv hs hc hF
    go_enter Tryd.func47, Tryd.ntmps47
    go_wp2_with fail
    refine HCK.out.mono ?_
    rintro e w1 ⟨rfl, hb1'⟩
    rw [HC.out]
    have HB1 := Lib.hid hb1'
    clear hb1'
    go_wp2_with fail
    go_ret2
    exact ⟨rfl, HB1.out⟩

set_option maxHeartbeats 1000000 in
theorem refuses_any (l : List Nd) (v : Value) (k : Int) (w : World) (hv : ReadN w v l) (hs : SmallN l) :
    Calls Tryd.prog 48 #[v, .int .i64 k] w fun e w' => e = .returned (.tuple #[.int .i64 (usesN k l), .int .i64 (chk l)]) ∧ Below w.heap.size w w' := by
  have HCK := Lib.hid (refcheck2_any l v w hv hs)
  obtain ⟨at_, ct, rfl⟩ := ReadN.len_slice hv
  obtain ⟨c, hc⟩ : ∃ c, chk l = c := ⟨_, rfl⟩
  by_cases h0 : c = 0
  · subst h0
    by_cases hk : k < 0
    · rw [uses_neg hk, hc]
      have HC := Lib.hid hc
      clear hv hs hc
      go_enter Tryd.func48, Tryd.ntmps48
      go_wp2_with fail
      refine HCK.out.mono ?_
      rintro e w1 ⟨rfl, hb1'⟩
      rw [HC.out]
      have HB1 := Lib.hid hb1'
      clear hb1'
      go_wp2_with fail
      go_ret2
      exact ⟨rfl, HB1.out⟩
    obtain ⟨hle, T, hw, hd⟩ := chk_ok hc
    obtain ⟨hwf, hfl⟩ := whole_some hw
    have HRS : Hid (∀ w', Below w.heap.size w w' → Calls Tryd.prog 79 #[.slice at_ l.length ct, .int .i64 k, .int .i64 0] w' (CountPost k (T.fv 0) w')) := by
      show ∀ w', _
      intro w' hb'
      have h := refcount_all k T hwf 0 (.slice at_ l.length ct) w' (by omega) (by rw [hfl]; exact hv.below hb') (by rw [hfl]; exact hs) (by rw [hfl]; exact hle)
      exact h
    have hm := cnt_uses (k := k) (by omega) hc hw
    obtain ⟨m, hmm⟩ : ∃ m, cntK k (T.fv 0) = m := ⟨_, rfl⟩
    obtain ⟨q, hqq⟩ : ∃ m, mostK k (T.fv 0) = m := ⟨_, rfl⟩
    rw [hmm] at hm
    rw [hc, ← hm]
    have HMM := Lib.hid hmm
    have HQQ := Lib.hid hqq
    have HC := Lib.hid hc
    clear hv hs hw hwf hfl hc hm hmm hqq
    go_enter Tryd.func48, Tryd.ntmps48
    go_wp2_with fail
    refine HCK.out.mono ?_
    rintro e w1 ⟨rfl, hb1'⟩
    rw [HC.out]
    have HB1 := Lib.hid hb1'
    clear hb1'
    go_wp2_with fail
    refine (HRS.out _ HB1.out).mono ?_
    rintro e w3 ⟨rfl, hb3⟩
    rw [HMM.out, HQQ.out]
    have HB3 := chainB HB1 hb3
    clear hb3
    go_wp2_with fail
    go_ret2
    exact ⟨rfl, HB3.out⟩
  · have hcb : (c != 0) = true := by simpa using h0
    rw [usesN_bad k (by rw [hc]; exact h0), hc]
    have HC := Lib.hid hc
    clear hv hs hc
    go_enter Tryd.func48, Tryd.ntmps48
    go_wp2_with fail
    refine HCK.out.mono ?_
    rintro e w1 ⟨rfl, hb1'⟩
    rw [HC.out]
    have HB1 := Lib.hid hb1'
    clear hb1'
    go_wp2_with fail
    go_ret2
    exact ⟨rfl, HB1.out⟩

end Go.Proofs.YtjhgpifccleknaaDoor
