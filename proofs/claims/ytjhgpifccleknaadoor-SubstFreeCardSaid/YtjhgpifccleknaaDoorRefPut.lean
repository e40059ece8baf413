/- What the reference's put, Put, Subst and Inst (chapter 4) come to, for every row of nodes that is not too long; condition: the strings' sizes. -/
import Derived.Test.YtjhgpifccleknaaDoorInst
import Derived.Test.YtjhgpifccleknaaDoorRefSf
namespace Go.Proofs.YtjhgpifccleknaaDoor
set_option linter.unusedSimpArgs false
set_option linter.unusedVariables false
open Go.RowKit Go.BigFrame

/-! ### what is put, from any variable on -/
def gU (k : Nat) (L : List (List Nd)) (v : Int) : Option (List Nd) := if (k : Int) ≤ v then L[(v - k).toNat]? else none
def gB (k : Nat) (L : List (List Nd)) (v : Int) (x : Nat) : Int := if v < k then 0 else if v < k + (L.length : Int) then (x : Int) + k else (L.length : Int)
theorem outN_congr {pU qU : Int → Option (List Nd)} {pB qB : Int → Nat → Int} (hU : ∀ v, 0 ≤ v → pU v = qU v) (hB : ∀ v x, 0 ≤ v → pB v x = qB v x) : outN pU pB = outN qU qB := by
  funext n x
  unfold outN
  by_cases h : n.K = 0 ∧ (x : Int) ≤ n.N
  · rw [if_pos h, if_pos h, hU _ (by omega), hB _ _ (by omega)]
  · rw [if_neg h, if_neg h]
theorem errN_congr {pU qU : Int → Option (List Nd)} {pB qB : Int → Nat → Int} (hU : ∀ v, 0 ≤ v → pU v = qU v) (hB : ∀ v x, 0 ≤ v → pB v x = qB v x) : errN pU pB = errN qU qB := by
  funext n x
  unfold errN
  by_cases h : n.K = 0 ∧ (x : Int) ≤ n.N
  · rw [if_pos h, if_pos h, hU _ (by omega), hB _ _ (by omega)]
  · rw [if_neg h, if_neg h]
theorem putE_congr {pU qU : Int → Option (List Nd)} {pB qB : Int → Nat → Int} (hU : ∀ v, 0 ≤ v → pU v = qU v) (hB : ∀ v x, 0 ≤ v → pB v x = qB v x) : putE pU pB = putE qU qB := by
  funext T
  unfold putE
  rw [outN_congr hU hB, errN_congr hU hB]
theorem putL_congr {pU qU : Int → Option (List Nd)} {pB qB : Int → Nat → Int} (hU : ∀ v, 0 ≤ v → pU v = qU v) (hB : ∀ v x, 0 ≤ v → pB v x = qB v x) : putL pU pB = putL qU qB := by
  funext T
  unfold putL
  rw [outN_congr hU hB, putE_congr hU hB]
theorem sU_g (k : Nat) (u : List Nd) : ∀ v : Int, 0 ≤ v → sU k u v = gU k [u] v := by
  intro v hv
  unfold sU gU
  by_cases h : v = k
  · subst h
    rw [if_pos rfl, if_pos (by omega), show ((k : Int) - k).toNat = 0 from by omega]
    rfl
  · rw [if_neg h]
    split
    · rw [List.getElem?_eq_none (by simp; omega)]
    · rfl
theorem sB_g (k : Nat) (u : List Nd) : ∀ (v : Int) (x : Nat), 0 ≤ v → sB k v x = gB k [u] v x := by
  intro v x hv
  unfold sB gB
  simp only [List.length_singleton]
  split
  · rw [if_neg (by omega), if_pos (by omega)]
  · split
    · rw [if_neg (by omega), if_neg (by omega)]; rfl
    · rw [if_pos (by omega)]
theorem iU_g (L : List (List Nd)) : ∀ v : Int, 0 ≤ v → iU L v = gU 0 L v := by
  intro v hv
  unfold iU gU
  rw [if_pos (by simpa using hv)]
  congr 1
  omega
theorem iB_g (L : List (List Nd)) : ∀ (v : Int) (x : Nat), 0 ≤ v → iB L v x = gB 0 L v x := by
  intro v x hv
  unfold iB gB
  split
  · rw [if_neg (by omega), if_pos (by omega)]; omega
  · rw [if_neg (by omega), if_neg (by omega)]

/-! ### the first error of the first parts -/
def qE (g : Nd → Nat → Int) (cs : List Tm) (bs : List Nat) (u j : Nat) : Int := fstE (zwL g (cs.take j) bs u)
theorem qE_zero (g : Nd → Nat → Int) (cs : List Tm) (bs : List Nat) (u : Nat) : qE g cs bs u 0 = 0 := by unfold qE; rw [List.take_zero, zwL_nil]; rfl
theorem qE_succ (g : Nd → Nat → Int) (cs : List Tm) (bs : List Nat) (u : Nat) {j : Nat} (hj : j < cs.length) (h0 : qE g cs bs u j = 0) : qE g cs bs u (j + 1) = fstE ((cs[j]).zw g (u + bs.getD j 0)) := by
  unfold qE at *
  rw [zwL_take _ _ _ _ _ hj, fstE_append, if_pos h0]
theorem zwL_cut {β : Type} (g : Nd → Nat → β) (u : Nat) : ∀ (l : List Tm) (bs : List Nat) (m : Nat), zwL g l bs u = zwL g (l.take m) bs u ++ zwL g (l.drop m) (bs.drop m) u := by
  intro l
  induction l with
  | nil => intro bs m; simp [zwL_nil]
  | cons t r ih =>
    intro bs m
    cases m with
    | zero => simp [zwL_nil]
    | succ m =>
      have e : bs.drop (m + 1) = bs.tail.drop m := by cases bs <;> simp
      rw [List.take_succ_cons, List.drop_succ_cons, zwL_cons, zwL_cons, List.append_assoc, e, ← ih bs.tail m]
theorem qE_end (g : Nd → Nat → Int) (cs : List Tm) (bs : List Nat) (u : Nat) {j : Nat} (hj : j < cs.length) {c : Int} (h0 : qE g cs bs u (j + 1) = c) (hc : c ≠ 0) : fstE (zwL g cs bs u) = c := by
  unfold qE at h0
  rw [zwL_cut g u cs bs (j + 1), fstE_append, h0, if_neg hc]
/-- the first parts' rows -/
def pts (g : Nd → Nat → List Nd) (cs : List Tm) (bs : List Nat) (u j : Nat) : List (List Nd) := ((zws g cs bs u).take j).map List.flatten
theorem pts_succ (g : Nd → Nat → List Nd) (cs : List Tm) (bs : List Nat) (u j : Nat) (hj : j < cs.length) : pts g cs bs u (j + 1) = pts g cs bs u j ++ [((cs[j]).zw g (u + bs.getD j 0)).flatten] := by
  unfold pts
  rw [zws_take g cs bs u j hj, List.map_append]
  rfl
theorem pts_length (g : Nd → Nat → List Nd) (cs : List Tm) (bs : List Nat) (u j : Nat) (hj : j ≤ cs.length) : (pts g cs bs u j).length = j := by
  unfold pts
  rw [List.length_map, List.length_take, zws_length]
  omega
theorem flat_flats {β : Type} : ∀ L : List (List (List β)), (L.map List.flatten).flatten = L.flatten.flatten := by
  intro L
  induction L with
  | nil => rfl
  | cons x r ih => simp [ih]
theorem pts_all (g : Nd → Nat → List Nd) (cs : List Tm) (bs : List Nat) (u : Nat) : (pts g cs bs u cs.length).flatten = (zwL g cs bs u).flatten := by
  unfold pts
  rw [List.take_of_length_le (by rw [zws_length]; exact Nat.le_refl _), flat_flats, zws_flat]
theorem flatten_le {β : Type} {m : Nat} : ∀ L : List (List β), (∀ x, x ∈ L → x.length ≤ m) → L.flatten.length ≤ L.length * m := by
  intro L
  induction L with
  | nil => intro _; simp
  | cons x r ih =>
    intro h
    have h1 := h x (by simp)
    have h2 := ih fun y hy => h y (by simp [hy])
    rw [List.flatten_cons, List.length_append, List.length_cons, Nat.add_mul]
    omega
theorem outN_len {pU : Int → Option (List Nd)} {pB : Int → Nat → Int} (hU : ∀ v U, pU v = some U → chk U = 0) (n : Nd) (x : Nat) : (outN pU pB n x).length ≤ 4000 := by
  unfold outN
  split
  · cases hu : pU (n.N - x) with
    | none => simp
    | some U =>
      have h1 := (chk_ok (hU _ _ hu)).1
      have h2 := shiftL_len (b := pB (n.N - x) x) (k := 0) (by omega) (l := U)
      show (shiftL _ 0 U).length ≤ _
      omega
  · simp
theorem zwL_mem {β : Type} (g : Nd → Nat → β) {l : List Tm} {bs : List Nat} {u : Nat} {y : β} (h : y ∈ zwL g l bs u) : ∃ n x, y = g n x := by
  unfold zwL at h
  obtain ⟨i, hi, e⟩ := List.mem_iff_getElem.1 h
  rw [List.getElem_zipWith] at e
  exact ⟨_, _, e.symm⟩

/-! ### rows of rows that are read, in a row of the call's own -/
def HasNN (base : Nat) (w : World) (v : Value) (L : List (List Nd)) : Prop :=
  ∃ vs : List Value, vs.length = L.length ∧ w.ownsRow base 30 1 v L.length vs ∧ (∀ x, x ∈ vs → x.oneCell' = true) ∧ ∀ i (hi : i < L.length) x, vs[i]? = some x → ReadN w x L[i] ∧ ∀ y, x.ownBlock = some y → v.ownBlock ≠ some y ∧ y < w.heap.size
theorem HasNN.read {base : Nat} {w : World} {v : Value} {L : List (List Nd)} (h : HasNN base w v L) : ReadNN w v L := by
  obtain ⟨vs, h1, h2, _, h3⟩ := h
  exact ⟨vs, h1, RowAt.of_own h2, fun i hi x hx => (h3 i hi x hx).1⟩
theorem ReadN.ownLt {w : World} {v : Value} {l : List Nd} (h : ReadN w v l) (hn : l ≠ []) {g : Nat} (hg : v.ownBlock = some g) : g < w.heap.size := by
  obtain ⟨b, o, c, rfl, _, _, hb, _⟩ := RowAt.pos h (by cases l with | nil => exact absurd rfl hn | cons => simp)
  have : b = g := by simpa [Value.ownBlock] using hg
  omega
theorem HasNN.push {base : Nat} {w w' : World} {v v' p : Value} {L : List (List Nd)} {l : List Nd} {vs : List Value} (h1 : vs.length = L.length) (h2 : w.ownsRow base 30 1 v L.length vs) (h4 : ∀ x, x ∈ vs → x.oneCell' = true)
    (h3 : ∀ i (hi : i < L.length) x, vs[i]? = some x → ReadN w x L[i] ∧ ∀ y, x.ownBlock = some y → v.ownBlock ≠ some y ∧ y < w.heap.size)
    (hp : ReadN w p l) (hpv : ∀ y, p.ownBlock = some y → v.ownBlock ≠ some y ∧ y < w.heap.size) (hp1 : p.oneCell' = true)
    (ho : w'.ownsRow base 30 1 v' (L.length + 1) (vs ++ [p])) (hg : w.grownBy w' v.ownBlock) (hat : v'.ownBlock = v.ownBlock ∨ v'.ownBlock = some w.heap.size) : HasNN base w' v' (L ++ [l]) := by
  have hfar : ∀ (x : Value) (m : List Nd), ReadN w x m → (∀ y, x.ownBlock = some y → v.ownBlock ≠ some y ∧ y < w.heap.size) → ReadN w' x m ∧ ∀ y, x.ownBlock = some y → v'.ownBlock ≠ some y ∧ y < w'.heap.size := by
    intro x m hx hn
    refine ⟨RowAt.kept (K := fun y => v.ownBlock ≠ some y) hx ⟨hg.size, fun b hb hk => hg.block b hb (fun e => hk e.symm)⟩ (fun g h => (hn g h).1), fun y hy => ⟨?_, by have := (hn y hy).2; have := hg.size; omega⟩⟩
    rcases hat with e | e
    · rw [e]; exact (hn y hy).1
    · rw [e]; intro h; have := (hn y hy).2; simp at h; omega
  refine ⟨vs ++ [p], by simp [h1], by rw [List.length_append]; exact ho, fun x hx => ?_, fun i hi x hx => ?_⟩
  · rcases List.mem_append.1 hx with hx | hx
    · exact h4 x hx
    · simp at hx; subst hx; exact hp1
  · by_cases hil : i < L.length
    · rw [List.getElem_append_left hil]
      rw [List.getElem?_append_left (by omega)] at hx
      exact hfar x _ (h3 i hil x hx).1 (h3 i hil x hx).2
    · have : i = L.length := by simp at hi; omega
      subst this
      rw [List.getElem?_append_right (by omega), h1, Nat.sub_self] at hx
      simp at hx
      subst hx
      rw [List.getElem_append_right (by omega)]
      simp only [Nat.sub_self, List.getElem_cons_zero]
      exact hfar p l hp hpv

/-! ### put -/
def RPutPost (g : Nd → Nat → List Nd) (f : Nd → Nat → Int) (t : Tm) (u : Nat) (v0 : Value) (w : World) (e : Ending) (w' : World) : Prop :=
  ∃ v, e = .returned (.tuple #[v, .int .i64 (fstE (t.zw f u))]) ∧ ReadN w' v (if fstE (t.zw f u) = 0 then (t.zw g u).flatten else []) ∧ (∀ y, v.ownBlock = some y → y < w'.heap.size ∧ (w.heap.size ≤ y ∨ v0.ownBlock = some y)) ∧ Below w.heap.size w w'
theorem RPutPost.bad {g : Nd → Nat → List Nd} {f : Nd → Nat → Int} {t : Tm} {u : Nat} {v0 : Value} {w w' : World} {c : Int} (hc : fstE (t.zw f u) = c) (h0 : c ≠ 0) (hb : Below w.heap.size w w') : RPutPost g f t u v0 w (.returned (.tuple #[.slice none 0 0, .int .i64 c])) w' :=
  ⟨.slice none 0 0, by rw [hc], by rw [hc, if_neg h0]; exact RowAt.nil _ _, (fun y h => by cases h), hb⟩
theorem RPutPost.good {g : Nd → Nat → List Nd} {f : Nd → Nat → Int} {t : Tm} {u : Nat} {v0 v : Value} {w w' : World} {l : List Nd} (hc : fstE (t.zw f u) = 0) (hl : (t.zw g u).flatten = l) (ho : OwnN w.heap.size w' v l) (hb : Below w.heap.size w w') : RPutPost g f t u v0 w (.returned (.tuple #[v, .int .i64 0])) w' :=
  ⟨_, by rw [hc], by rw [hc, if_pos rfl, hl]; exact ho.read, (fun y h => ⟨(ho.lt y h).2, .inl (ho.lt y h).1⟩), hb⟩
def RPutIt (k : Nat) (L : List (List Nd)) (t : Tm) : Prop := t.wf = true → ∀ (u : Nat) (v vL : Value) (w : World), u + 2 * t.dep ≤ 400 → ReadN w v t.flat → SmallN t.flat → t.flat.length ≤ 250 → ReadNN w vL L →
    Calls Tryd.prog 92 #[v, .int .i64 (k : Int), .int .i64 (u : Int), vL] w (RPutPost (outN (gU k L) (gB k L)) (errN (gU k L) (gB k L)) t u v w)

def RPutRel (g : Nd → Nat → List Nd) (f : Nd → Nat → Int) (cs : List Tm) (bs : List Nat) (u : Nat) (w w1 : World) (out i : Value) (wr : World) : Prop :=
  ∃ j, j ≤ cs.length ∧ i = .int .i64 (j : Int) ∧ qE f cs bs u j = 0 ∧ HasNN w1.heap.size wr out (pts g cs bs u j) ∧ Below w.heap.size w wr ∧ Below w1.heap.size w1 wr

set_option maxRecDepth 20000 in
set_option maxHeartbeats 4000000 in
theorem rput_all (k : Nat) (hk : k ≤ 99) (L : List (List Nd)) (hLn : L.length ≤ 1000) (hLc : ∀ l, l ∈ L → chk l = 0) (hLs : SmallNN L) : ∀ t : Tm, RPutIt k L t := by
  refine Tm.ind ?_
  intro nd cs ih hwf u v vL w hu hv hs hlen hvL
  obtain ⟨i0, hi, hz0, hz1, hz2⟩ := info_parts Tryd.infoNodes
  obtain ⟨hr, har, hks⟩ := wf_iff.1 hwf
  have hUc : ∀ v U, gU k L v = some U → chk U = 0 := by
    intro v U h
    unfold gU at h
    split at h
    · exact hLc U (List.mem_of_getElem? h)
    · cases h
  obtain ⟨ad, cp, rfl⟩ := ReadN.len_slice hv
  obtain ⟨al, cl, rfl⟩ : ∃ al cl, vL = .slice al L.length cl := by
    obtain ⟨vs, _, hr, _⟩ := hvL
    obtain ⟨a, c, h, _⟩ := hr.form
    exact ⟨a, c, h⟩
  have hsz : nd.S.size ≤ maxLen := hs nd (List.mem_of_getLast? (flat_last _))
  have hroot := root_any (Tm.mk nd cs).flat nd _ w hv (flat_last _)
  have hu4 : u ≤ 400 := by rw [dep_mk] at hu; omega
  by_cases hK : nd.K = 0
  · obtain ⟨evar, hN0, hN9, har0⟩ := var_right hr hK
    have hkb : (nd.K == 0) = true := by simpa using hK
    have hcs : cs = [] := by
      rw [har0] at har
      exact List.eq_nil_of_length_eq_zero har
    have hzE : ∀ f : Nd → Nat → Int, (Tm.mk nd cs).zw f u = [f nd u] := fun f => by rw [zw_mk, hcs, zwL_nil]; rfl
    have hzN : ∀ g : Nd → Nat → List Nd, ((Tm.mk nd cs).zw g u).flatten = g nd u := fun g => by rw [zw_mk, hcs, zwL_nil]; simp
    have hfl : (Tm.mk nd cs).flat = [nd] := by rw [flat_mk, hcs]; rfl
    obtain ⟨T, hT⟩ : ∃ T, Tm.mk nd cs = T := ⟨_, rfl⟩
    rw [hT] at hzE hzN hroot hlen hv hfl ⊢
    by_cases hlo : nd.N - (u : Int) < k
    · have hE : fstE (T.zw (errN (gU k L) (gB k L)) u) = 0 := by
        rw [hzE]
        show fstE [errN _ _ nd u] = 0
        have : errN (gU k L) (gB k L) nd u = 0 := by
          by_cases h : nd.K = 0 ∧ (u : Int) ≤ nd.N
          · exact errN_none _ _ h (by unfold gU; rw [if_neg (by omega)])
          · exact errN_non _ _ h
        rw [this]; rfl
      have hN : (T.zw (outN (gU k L) (gB k L)) u).flatten = T.flat := by
        rw [hzN, hfl]
        by_cases h : nd.K = 0 ∧ (u : Int) ≤ nd.N
        · rw [outN_none _ _ h (by unfold gU; rw [if_neg (by omega)])]
          have : gB k L (nd.N - u) u = 0 := by unfold gB; rw [if_pos (by omega)]
          rw [this, Int.sub_zero]
        · exact outN_non _ _ h
      have HE := Lib.hid hE
      have HN := Lib.hid hN
      have HR := Lib.hid hroot
      have HV := Lib.hid hv
      clear hroot hs hwf har hks ih hK hcs hzE hzN hT evar hfl hE hN hv hvL hUc
      go_enter Tryd.func92, Tryd.ntmps92
      go_wp2_with fail
      refine HR.out.mono ?_
      rintro e w1 ⟨rfl, hb1'⟩
      have HB1 := Lib.hid hb1'; clear hb1' HR
      go_wp2_with fail
      go_ret2
      have hb2 : Below w.heap.size w (w1.alloc (.cells #[.int .i64 nd.K, .int .i64 nd.N, .int .i64 nd.M, .string nd.S] 23)) := HB1.out.alloc HB1.out.size _
      refine ⟨.slice ad T.flat.length cp, by rw [HE.out]; rfl, by rw [HE.out, if_pos rfl, HN.out]; exact HV.out.below hb2, fun y hy => ⟨?_, .inr hy⟩, hb2⟩
      have := HV.out.ownLt (List.ne_nil_of_length_pos (flat_pos _)) hy
      have := hb2.size
      omega
    obtain ⟨i, hi'⟩ := Int.eq_ofNat_of_zero_le (show 0 ≤ nd.N - (u : Int) - k by omega)
    obtain ⟨vv, hvv⟩ := Int.eq_ofNat_of_zero_le (show 0 ≤ nd.N - (u : Int) by omega)
    have hvi : (vv : Int) - (k : Int) = (i : Int) := by omega
    have hux : nd.K = 0 ∧ (u : Int) ≤ nd.N := ⟨hK, by omega⟩
    by_cases hin : i < L.length
    · have hUg : gU k L (nd.N - u) = some L[i] := by
        unfold gU
        rw [if_pos (by omega), show (nd.N - (u : Int) - k).toNat = i from by omega]
        exact List.getElem?_eq_getElem hin
      have hBg : gB k L (nd.N - u) u = (u : Int) + k := by unfold gB; rw [if_neg (by omega), if_pos (by omega)]
      have hE : fstE (T.zw (errN (gU k L) (gB k L)) u) = shiftE ((u : Int) + k) 0 L[i] := by
        rw [hzE]
        show fstE [errN _ _ nd u] = _
        rw [errN_some _ _ hux hUg, hBg, fstE_cons]
        split
        · rename_i h; rw [h]; rfl
        · rfl
      have hN : (T.zw (outN (gU k L) (gB k L)) u).flatten = shiftL ((u : Int) + k) 0 L[i] := by rw [hzN, outN_some _ _ hux hUg, hBg]
      have hsU : SmallN L[i] := hLs _ (List.getElem_mem hin)
      have HSH : Hid (∀ (x : Value) (w' : World), ReadN w' x L[i] → Calls Tryd.prog 45 #[x, .int .i64 ((u : Int) + (k : Int)), .int .i64 0] w' (RShiftPost ((u : Int) + k) 0 L[i] w')) := by
        show ∀ (x : Value) (w' : World), _
        intro x w' hx
        have h := refshift_any L[i] x ((u : Int) + k) 0 w' hx hsU
        rw [show clampI ((u : Int) + k) = (u : Int) + k from by unfold clampI; omega, show max 0 (clampI 0) = 0 from by decide] at h
        exact h
      obtain ⟨cc, hcc⟩ : ∃ c, shiftE ((u : Int) + k) 0 L[i] = c := ⟨_, rfl⟩
      have HE := Lib.hid hE
      have HN := Lib.hid hN
      have HCC := Lib.hid hcc
      have HR := Lib.hid hroot
      have HV := Lib.hid hv
      have HVL := Lib.hid hvL
      clear hroot hs hwf har hks ih hK hcs hzE hzN hT evar hfl hE hN hv hvL hUc hUg hBg hsU hcc hux hi'
      have hvk : decide ((vv : Int) < (k : Int)) = false := by simp; omega
      have hvn : decide ((vv : Int) < (k : Int) + (L.length : Int)) = true := by simp; omega
      go_enter Tryd.func92, Tryd.ntmps92
      go_wp2_with fail
      refine HR.out.mono ?_
      rintro e w1 ⟨rfl, hb1'⟩
      have hb2 : Below w.heap.size w (w1.alloc (.cells #[.int .i64 nd.K, .int .i64 nd.N, .int .i64 nd.M, .string nd.S] 23)) := hb1'.alloc hb1'.size _
      obtain ⟨_, ⟨h0, _⟩ | ⟨pb, po, pcap, hpe, hpb⟩⟩ := ReadNN.shape HVL.out
      · subst h0; simp at hin
      obtain ⟨rfl, rfl⟩ : al = some ⟨pb, po, none⟩ ∧ cl = pcap := by simpa using hpe
      obtain ⟨a1, c1, g1, r1⟩ := (HVL.out.below hb2).at hin
      obtain ⟨w2, hw2⟩ : ∃ w2, w1.alloc (.cells #[.int .i64 nd.K, .int .i64 nd.N, .int .i64 nd.M, .string nd.S] 23) = w2 := ⟨_, rfl⟩
      rw [hw2] at g1 r1 hb2
      have q2 := Blk.new w1 23 #[.int .i64 nd.K, .int .i64 nd.N, .int .i64 nd.M, .string nd.S]
      rw [hw2] at q2
      have k0 := q2.cell 0
      have k1 := q2.cell 1
      have HB2 := Lib.hid hb2
      have R1 := Lib.hid r1
      obtain ⟨bx, hbx⟩ : ∃ bx, w1.heap.size = bx := ⟨_, rfl⟩
      rw [hbx] at k0 k1
      clear hb1' HR hb2 r1 hpe q2
      go_wp2_with fail
      refine (HSH.out _ _ R1.out).mono ?_
      rintro e w3 ⟨v3, rfl, ho3, hb3⟩
      rw [HCC.out]
      have HO3 := Lib.hid ho3
      have HB3 := chainB HB2 hb3
      clear ho3 hb3
      go_wp2_with fail
      go_ret2
      have ho := HO3.out
      have hsz2 := HB2.out.size
      refine ⟨v3, by rw [HE.out, HCC.out]; rfl, ?_, fun y hy => ⟨(ho.lt y hy).2, .inl (by have := (ho.lt y hy).1; omega)⟩, HB3.out⟩
      rw [HE.out, HN.out]
      split
      · exact ho.read
      · rename_i hne
        rw [shiftL_bad hne] at ho
        exact ho.read
    · have hUg : gU k L (nd.N - u) = none := by
        unfold gU
        rw [if_pos (by omega), List.getElem?_eq_none (by omega)]
      have hBg : gB k L (nd.N - u) u = (L.length : Int) := by unfold gB; rw [if_neg (by omega), if_neg (by omega)]
      have hE : fstE (T.zw (errN (gU k L) (gB k L)) u) = 0 := by
        rw [hzE]
        show fstE [errN _ _ nd u] = _
        rw [errN_none _ _ hux hUg]
        rfl
      have hN : (T.zw (outN (gU k L) (gB k L)) u).flatten = [⟨0, nd.N - (L.length : Int), 0, ByteArray.empty⟩] := by
        rw [hzN, outN_none _ _ hux hUg, hBg, evar]
      have HE := Lib.hid hE
      have HN := Lib.hid hN
      have HR := Lib.hid hroot
      clear hroot hs hwf har hks ih hK hcs hzE hzN hT evar hfl hE hN hv hvL hUc hUg hBg hux hi'
      have hvk : decide ((vv : Int) < (k : Int)) = false := by simp; omega
      have hvn : decide ((vv : Int) < (k : Int) + (L.length : Int)) = false := by simp; omega
      go_enter Tryd.func92, Tryd.ntmps92
      go_wp2_with fail
      refine HR.out.mono ?_
      rintro e w1 ⟨rfl, hb1'⟩
      have HB1 := Lib.hid hb1'
      clear hb1' HR
      go_wp2_with fail
      go_ret2
      refine RPutPost.good HE.out HN.out ?_ ((HB1.out.alloc HB1.out.size _).alloc (by have := HB1.out.size; simp; omega) _)
      have hsz1 := HB1.out.size
      have h := World.ownsRow_lit (base := w.heap.size) (e := 23) (size := 4) (w1.alloc (.cells #[.int .i64 nd.K, .int .i64 nd.N, .int .i64 nd.M, .string nd.S] 23)) #[.int .i64 0, .int .i64 (nd.N - (L.length : Int)), .int .i64 0, .string ByteArray.empty] 1 (by simp; omega) (by unfold maxLen; omega) rfl
      rw [World.size_alloc] at h
      exact h
  have hkb : (nd.K == 0) = false := by simpa using hK
  have hm4 : cs.length ≤ 4000 := by have := flatL_ge cs; rw [flat_mk, List.length_append] at hlen; omega
  have hfl2 : (flatL cs).length ≤ 249 := by rw [flat_mk, List.length_append] at hlen; simp at hlen; omega
  obtain ⟨g, hg⟩ : ∃ g, outN (gU k L) (gB k L) = g := ⟨_, rfl⟩
  obtain ⟨f, hf⟩ : ∃ f, errN (gU k L) (gB k L) = f := ⟨_, rfl⟩
  have hgl : ∀ n x, (g n x).length ≤ 4000 := by rw [← hg]; exact outN_len hUc
  have HIH : Hid (∀ (i : Nat) (hi : i < cs.length) (y : Nat) (v vL : Value) (w' : World), y ≤ 2 → ReadN w' v (cs[i]).flat → ReadNN w' vL L → Calls Tryd.prog 92 #[v, .int .i64 (k : Int), .int .i64 ((u : Int) + (y : Int)), vL] w' (RPutPost g f cs[i] (u + y) v w')) := by
    show ∀ (i : Nat) (hi : i < cs.length) (y : Nat) (v vL : Value) (w' : World), _
    intro i hi y v vL w' hy hv' hvL'
    have h1 := part_len (nd := nd) hi
    have h2 := dep_le_depL (List.getElem_mem hi)
    rw [dep_mk] at hu
    have := ih cs[i] (List.getElem_mem hi) (hks _ (List.getElem_mem hi)) (u + y) v vL w' (by omega) hv' (part_small hs hi) (by omega) hvL'
    rw [show (((u + y : Nat)) : Int) = (u : Int) + (y : Int) from by omega, hg, hf] at this
    exact this
  rw [hg, hf]
  have HPA : Hid (∀ w', Below w.heap.size w w' → Calls Tryd.prog 42 #[.slice ad (Tm.mk nd cs).flat.length cp] w' (PartsPost cs w')) := by
    show ∀ w', _
    intro w' hb
    exact refparts_any nd cs _ w' hwf (hv.below hb) hs (by omega)
  obtain ⟨bs, hbs⟩ : ∃ bs, bnds nd = bs := ⟨_, rfl⟩
  have hb2 : ∀ y, y ∈ bs → y ≤ 2 := by rw [← hbs]; exact bnds_two hr
  have HB2L := Lib.hid hb2
  have hzE : (Tm.mk nd cs).zw f u = zwL f cs bs u ++ [0] := by rw [zw_mk, hbs, ← hf, errN_non _ _ (fun h => hK h.1)]
  have hzN : ((Tm.mk nd cs).zw g u).flatten = (pts g cs bs u cs.length).flatten ++ [nd] := by rw [zw_mk, hbs, List.flatten_append, pts_all, ← hg, outN_non _ _ (fun h => hK h.1)]; simp
  have HZN := Lib.hid hzN
  have HZL : Hid ((pts g cs bs u cs.length).flatten.length ≤ 1000000) := by
    show _ ≤ _
    rw [pts_all]
    have h1 := flatten_le (m := 4000) (zwL g cs bs u) (fun x hx => by obtain ⟨n, y, rfl⟩ := zwL_mem g hx; exact hgl n y)
    have h2 : (zwL g cs bs u).length = (flatL cs).length := by unfold zwL; rw [List.length_zipWith, undL_length, Nat.min_self]
    omega
  have HZE : Hid (∀ c, fstE (zwL f cs bs u) = c → fstE ((Tm.mk nd cs).zw f u) = c) := by
    show ∀ c, _
    intro c hc
    rw [hzE, fstE_append, hc]
    by_cases h : c = 0
    · rw [if_pos h, h]; rfl
    · rw [if_neg h]
  have HKF : Hid (∀ i (hi : i < cs.length), (cs[i]).flat ≠ []) := fun i hi => List.ne_nil_of_length_pos (flat_pos _)
  obtain ⟨T, hT⟩ : ∃ T, Tm.mk nd cs = T := ⟨_, rfl⟩
  rw [hT] at HZE HZN ⊢ hroot hlen HPA
  have HR := Lib.hid hroot
  have HRR := Lib.hid hr
  have HAR := Lib.hid har
  have HBS := Lib.hid hbs
  have HVL := Lib.hid hvL
  obtain ⟨n, hn⟩ : ∃ n, T.flat.length = n := ⟨_, rfl⟩
  rw [hn] at HPA HR hlen ⊢
  obtain ⟨ln, hln⟩ : ∃ n, L.length = n := ⟨_, rfl⟩
  rw [hln] at HVL hLn ⊢
  clear hroot hv hs hn hwf har hks ih hbs hb2 hr hzE hzN hT hu hvL hln hK hf hg hgl hUc hLc hLs
  refine callsIn_wide.1 (callsIn_of_wp (F := Fence.wide) (n := 3) Tryd.func92 rfl trivial ?_ rfl)
  simp only [Tryd.ntmps92, List.size_toArray, List.length_cons, List.length_nil, Nat.reduceAdd, Nat.reduceSub, Array.replicate_succ, Array.replicate_zero, List.push_toArray, List.append_toArray, List.nil_append, List.cons_append]
  gi_wp2_with fail
  refine enterW2 HR.out ?_
  rintro e w1 ⟨rfl, hb1'⟩
  have HB1 := Lib.hid hb1'
  clear hb1' HR
  gi_wp2_with fail
  refine enterW2 (refbinds_any nd _ hsz) ?_
  rintro e w3 ⟨vb, lb, rfl, hvb, hlb, hb3⟩
  have hlb := hlb HRR.out
  rw [HRR.out]
  subst hlb
  obtain ⟨ba, bc, rfl, hrow, hbl⟩ := binds_row hvb HAR.out
  rw [HBS.out] at hrow hbl
  have hbx : Below (w1.heap.size + 1) (w1.alloc (.cells #[.int .i64 nd.K, .int .i64 nd.N, .int .i64 nd.M, .string nd.S] 23)) w3 := hb3.mono (by simp)
  have HB3 : Hid (Below w.heap.size w w3) := (HB1.out.alloc HB1.out.size _).trans (hb3.mono (by have := HB1.out.size; simp; omega))
  have HBX := Lib.hid hbx
  have HROW := Lib.hid hrow
  have HBL := Lib.hid hbl
  clear hb3 hvb hrow hbl hbx
  gi_wp2_with fail
  refine enterW2 (HPA.out _ HB3.out) ?_
  rintro e w4 ⟨pa, pc, rfl, hnn, hb4⟩
  have HROW := Lib.hid (HROW.out.below hb4)
  have HB4 := chainB HB3 hb4
  have HNN := Lib.hid hnn
  have HBX4 := Lib.hid (HBX.out.trans (hb4.mono (by have := HBX.out.size; simp at this; omega)))
  clear hb4 hnn HPA HBX
  gi_wp2_with fail
  gi_loopw [15, 16] (fun out i wr => RPutRel g f cs bs u w w4 out i wr) (fun _ i _ => cs.length - (intOf i).toNat)
  case atStart =>
    refine ⟨0, Nat.zero_le _, rfl, qE_zero _ _ _ _, ⟨[], by simp [pts], ?_, (fun x hx => by cases hx), fun i hi => by simp [pts] at hi⟩, HB4.out.alloc HB4.out.size _, (Below.refl _ _).alloc (Nat.le_refl _) _⟩
    exact World.ownsRow_lit w4 #[] 0 (Nat.le_refl _) (by unfold maxLen; omega) rfl
  case round =>
    rename World => wa
    obtain ⟨j, hj, rfl, hp0, hnn, hb, hbb⟩ := hrel
    have HB := Lib.hid hb; clear hb
    have HBB := Lib.hid hbb; clear hbb
    have hlj := pts_length g cs bs u j hj
    by_cases hlt : j < cs.length
    · obtain ⟨pb, po, a1, c1, rfl, hpb, g1, r1⟩ := kid_at (HNN.out.below HBB.out) hlt
      obtain ⟨gb, ob, rfl, hgb, g2⟩ := bind_at (HROW.out.below HBB.out) hlt HBL.out
      have hpe := qE_succ f cs bs u hlt hp0
      have hnx := pts_succ g cs bs u j hlt
      obtain ⟨y, hy⟩ : ∃ y, bs.getD j 0 = y := ⟨_, rfl⟩
      have hy2 : y ≤ 2 := by
        rw [← hy, List.getD_eq_getElem?_getD, List.getElem?_eq_getElem (by rw [HBL.out]; exact hlt)]
        exact HB2L.out _ (List.getElem_mem _)
      rw [hy] at g2 hpe hnx
      have hcall := HIH.out j hlt y
      have hx4 : ∀ q, (Value.slice a1 (cs[j]).flat.length c1).ownBlock = some q → q < w4.heap.size := by
        intro q hq
        obtain ⟨pb', po', a1', c1', e1, e2, g1', r1'⟩ := kid_at HNN.out hlt
        obtain ⟨rfl, rfl⟩ : pb = pb' ∧ po = po' := by simpa using e1
        have g3 := (HBB.out.cell (p := ⟨pb, po + j, none⟩) e2).trans g1'
        rw [g1] at g3
        obtain ⟨rfl, rfl⟩ : a1 = a1' ∧ c1 = c1' := by simpa using g3
        exact r1'.ownLt (HKF.out j hlt) hq
      obtain ⟨c, hc⟩ : ∃ c, fstE ((cs[j]).zw f (u + y)) = c := ⟨_, rfl⟩
      have HCX : Hid (∀ m, Calls Tryd.prog 92 #[.slice a1 (cs[j]).flat.length c1, .int .i64 (k : Int), .int .i64 ((u : Int) + (y : Int)), .slice al ln cl] (wa.drewN m) fun e w' => ∃ v, e = .returned (.tuple #[v, .int .i64 c]) ∧ ReadN w' v (if c = 0 then ((cs[j]).zw g (u + y)).flatten else []) ∧ (∀ q, v.ownBlock = some q → q < w'.heap.size ∧ (wa.heap.size ≤ q ∨ q < w4.heap.size)) ∧ Below wa.heap.size wa w') := by
        show ∀ m, _
        intro m
        have := hcall (.slice a1 (cs[j]).flat.length c1) (.slice al ln cl) (wa.drewN m) hy2 (RowAt.drewN r1 m) ((HVL.out.below HB.out).below (below_drewN (Below.refl _ wa) m))
        unfold RPutPost at this
        rw [hc] at this
        exact this.mono fun e w' ⟨v, h1, h2, h4, h3⟩ => ⟨v, h1, h2, (fun q hq => ⟨(h4 q hq).1, (h4 q hq).2.imp id (hx4 q)⟩), (below_drewN (Below.refl _ wa) m).trans h3⟩
      rw [hc] at hpe
      obtain ⟨q, hq⟩ : ∃ q, (cs[j]).flat.length = q := ⟨_, rfl⟩
      rw [hq] at g1 HCX
      have HPE := Lib.hid hpe
      have HNX := Lib.hid hnx
      obtain ⟨vs, hvl, hown, hone, hel⟩ := hnn
      rw [hlj] at hown
      obtain ⟨ao, co, rfl, _⟩ := (RowAt.of_own hown).form
      have HVL2 := Lib.hid hvl
      have HOWN := Lib.hid hown
      have HONE := Lib.hid hone
      have HEL := Lib.hid hel
      have HLJ := Lib.hid hlj
      have hu4' : u + y ≤ 500 := by omega
      clear hpe hnx hcall r1 hy hc hq hp0 hvl hown hone hel hlj hx4
      gi_wp2_with fail
      refine wpIn_region_mid 12 (by kernel_rfl) (by kernel_rfl) (by kernel_rfl) ?_
      simp only [List.take_succ_cons, List.take_zero, List.drop_succ_cons, List.drop_zero]
      repeat (first | gi_big_quiet_skip | (gi_big_quiet_want; gi_big_quiet_op; go_big_quiet_on))
      refine wpQuietIn_nil ?_
      intro mq
      gi_wp2_with fail
      refine enterW2 (HCX.out mq) ?_
      rintro e w5 ⟨v5, rfl, ho5, hx5, hb5⟩
      have HO5 := Lib.hid ho5
      have HX5 := Lib.hid hx5
      have HB5 := Lib.hid hb5
      clear ho5 hb5 hx5
      gi_wp2_with fail
      repeat (first | gi_big_quiet_skip | (gi_big_quiet_want; gi_big_quiet_op; go_big_quiet_on))
      refine wpQuietIn_nil ?_
      rintro w6' ⟨rq, rfl⟩
      obtain ⟨w6, hw6⟩ : ∃ w6, w5.drewN rq = w6 := ⟨_, rfl⟩
      have hb6 : Below wa.heap.size wa w6 := by rw [← hw6]; exact below_drewN HB5.out rq
      have ho6 : ReadN w6 v5 (if c = 0 then ((cs[j]).zw g (u + y)).flatten else []) := by rw [← hw6]; exact RowAt.drewN HO5.out rq
      have hx6 : ∀ q, v5.ownBlock = some q → q < w6.heap.size ∧ (wa.heap.size ≤ q ∨ q < w4.heap.size) := by
        intro q hq
        refine ⟨?_, (HX5.out q hq).2⟩
        have h1 := (HX5.out q hq).1
        have h2 := (below_drewN (Below.refl w5.heap.size w5) rq).size
        rw [hw6] at h2
        omega
      rw [hw6]
      have HB6 := Lib.hid hb6
      have HB6W := chainB HB hb6
      have HBB6 := chainB HBB hb6
      clear hw6 hb6
      by_cases h0 : c = 0
      rotate_left
      · have hcb : (c != 0) = true := by simpa using h0
        have hpe := HPE.out
        clear hx6 ho6
        gi_wp2_with fail
        refine bodyPost_ret (results_tmp2 rfl _ _ _) rfl ?_
        exact RPutPost.bad (HZE.out c (qE_end f cs bs u hlt hpe h0)) h0 HB6W.out
      · subst h0
        rw [if_pos rfl] at ho6
        obtain ⟨lz, hlz⟩ : ∃ lz, ((cs[j]).zw g (u + y)).flatten = lz := ⟨_, rfl⟩
        have hnx := HNX.out
        rw [hlz] at ho6 hnx
        have HNX2 := Lib.hid hnx
        obtain ⟨av, cv, rfl, _⟩ := RowAt.form ho6
        obtain ⟨lq, hlq⟩ : ∃ lq, lz.length = lq := ⟨_, rfl⟩
        rw [hlq] at ho6 hx6 ⊢
        clear HO5 HCX HNX hnx hlz HX5
        have hfar : ∀ g, (Value.slice av lq cv).ownBlock = some g → (Value.slice ao j co).ownBlock ≠ some g := fun g hg h => by
          have h1 := (hx6 g hg).2
          have h2 := (HOWN.out.lt g h)
          omega
        have hp1 : (Value.slice av lq cv).oneCell' = true := rfl
        have hown6 := ownsRow_below HOWN.out HB6.out (fun g hg => (HOWN.out.lt g hg).2)
        have HO6 := Lib.hid ho6
        have HOWN6 := Lib.hid hown6
        have HFAR := Lib.hid hfar
        have HX6 := Lib.hid hx6
        have hj4 : j ≤ 4000 := by omega
        have hs6 : w4.heap.size ≤ w6.heap.size := HBB6.out.size
        clear ho6 hown6 hfar hx6
        have HA1 : Hid ((w6.alloc (.cells #[Value.slice av lq cv] 30)).ownsRow w4.heap.size 30 1 (.slice ao j co) j vs) := ownsRow_below HOWN6.out ((Below.refl _ _).alloc (Nat.le_refl _) _) (fun g hg => (HOWN6.out.lt g hg).2)
        have HA2 : Hid (RowAt (w6.alloc (.cells #[Value.slice av lq cv] 30)) 1 (.slice (some ⟨w6.heap.size, 0, none⟩) 1 1) 1 [Value.slice av lq cv]) := RowAt.lit w6 _ #[Value.slice av lq cv] 1 rfl (by unfold maxLen; omega)
        have HA3 : Hid (∀ x, x ∈ [Value.slice av lq cv] → x.oneCell' = true) := by
          show ∀ x, _
          intro x hx
          simp at hx
          subst hx
          exact hp1
        have hA4 : (j + 1) * 24 ≤ 140737488355328 := by omega
        have hA5 : j + 1 ≤ maxLen := by unfold maxLen; omega
        have hA6 : w4.heap.size ≤ (w6.alloc (.cells #[Value.slice av lq cv] 30)).heap.size := by simp; omega
        gi_wp2_with (gi_at_builtin; refine wpListIn_append_row rfl (.tmp 90) (.tmp 92) 41 rfl w4.heap.size 30 i0 (.slice none 0 0) 1 24 Tryd.underlying41 hi hz0 hz1 hz2 rfl (by decide) (.slice ao j co) j vs rfl HA1.out (.slice (some ⟨w6.heap.size, 0, none⟩) 1 1) 1 [Value.slice av lq cv] rfl HA2.out HA3.out hA4 hA5 hA6 ?_; intro v7 w7 hown7 hg7 hat7)
        have h64 : Below w6.heap.size w6 (w6.alloc (.cells #[Value.slice av lq cv] 30)) := (Below.refl _ _).alloc (Nat.le_refl _) _
        have hbb7 : Below w4.heap.size w4 w7 := (HBB6.out.alloc HBB6.out.size _).grown hg7 hA6 (fun g hg => (HOWN6.out.lt g hg).1)
        have hb7 : Below w.heap.size w w7 := HB4.out.trans (hbb7.mono HB4.out.size)
        have hsa : w4.heap.size ≤ wa.heap.size := HBB.out.size
        have h6a : wa.heap.size ≤ w6.heap.size := HB6.out.size
        have h3a : ∀ i (hi : i < (pts g cs bs u j).length) x, vs[i]? = some x → ReadN (w6.alloc (.cells #[Value.slice av lq cv] 30)) x (pts g cs bs u j)[i] ∧ ∀ y, x.ownBlock = some y → (Value.slice ao j co).ownBlock ≠ some y ∧ y < (w6.alloc (.cells #[Value.slice av lq cv] 30)).heap.size :=
          fun i hi x hx => ⟨((HEL.out i hi x hx).1.below HB6.out).below h64, fun y hy => ⟨((HEL.out i hi x hx).2 y hy).1, by have := ((HEL.out i hi x hx).2 y hy).2; simp; omega⟩⟩
        have hpa : ReadN (w6.alloc (.cells #[Value.slice av lq cv] 30)) (.slice av lq cv) lz := by
          have h := HO6.out
          exact ReadN.below h h64
        have hpf : ∀ y, (Value.slice av lq cv).ownBlock = some y → (Value.slice ao j co).ownBlock ≠ some y ∧ y < (w6.alloc (.cells #[Value.slice av lq cv] 30)).heap.size := fun y hy => ⟨HFAR.out y hy, by have := (HX6.out y hy).1; simp; omega⟩
        have hnn7 := HasNN.push (w := w6.alloc (.cells #[Value.slice av lq cv] 30)) HVL2.out (by rw [HLJ.out]; exact HA1.out) HONE.out h3a hpa hpf hp1 (by rw [HLJ.out]; exact hown7) hg7 hat7
        rw [← HNX2.out] at hnn7
        have HNN7 := Lib.hid hnn7
        have HB7 := Lib.hid hb7
        have HBB7 := Lib.hid hbb7
        clear hown7 hg7 hat7 h64 hbb7 hb7 h3a hpa hnn7 hpf
        gi_wp2_with fail
        exact ⟨⟨j + 1, by omega, by go_num, HPE.out, HNN7.out, HB7.out, HBB7.out⟩, by simp [intOf]; omega⟩
    · obtain rfl : j = cs.length := by omega
      have hz0' : fstE (zwL f cs bs u) = 0 := by unfold qE at hp0; rwa [List.take_length] at hp0
      have hE0 := HZE.out 0 hz0'
      obtain ⟨c0, c1, c2, c3, hltb⟩ := box_cells (HBX4.out.trans (HBB.out.mono (by have := HBX4.out.size; simp at this; omega)))
      have hnr := hnn.read
      have HOF := Lib.hid (refof_any nd _ _ wa hnr HZL.out)
      have HE0 := Lib.hid hE0
      clear hnn hz0' hE0 hp0 hlj hnr
      gi_wp2_with fail
      refine enterW2 HOF.out ?_
      rintro e w9 ⟨v9, rfl, ho9, hb9⟩
      rw [← HZN.out] at ho9
      have HO9 := Lib.hid ho9
      have HB9 := chainB HB hb9
      clear ho9 hb9
      gi_wp2_with fail
      refine bodyPost_ret (results_tmp2 rfl _ _ _) rfl ?_
      exact RPutPost.good HE0.out rfl (ownsRow_base HO9.out HB.out.size) HB9.out

end Go.Proofs.YtjhgpifccleknaaDoor
