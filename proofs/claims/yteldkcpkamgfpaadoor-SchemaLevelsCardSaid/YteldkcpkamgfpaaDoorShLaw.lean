/- Plain: the laws of chapter 3, of rows of nodes: a shift that goes well makes a term as deep; there and back; two are one; free variables and uses behind a shift; parts. No function of the program is named here. -/
import Derived.Test.YteldkcpkamgfpaaDoorEa
namespace Go.Proofs.YteldkcpkamgfpaaDoor
set_option linter.unusedSimpArgs false
set_option linter.unusedVariables false

/-! ### nodes with their binders, as pairs -/
def Tm.prs (t : Tm) (u : Nat) : List (Nd × Nat) := t.flat.zip (t.und u)
theorem zw_prs {β : Type} (g : Nd → Nat → β) (t : Tm) (u : Nat) : t.zw g u = (t.prs u).map fun p => g p.1 p.2 := by
  unfold Tm.zw Tm.prs
  rw [List.zip, List.map_zipWith]
theorem prs_right {t : Tm} (hw : t.wf = true) {u : Nat} {p : Nd × Nat} (h : p ∈ t.prs u) : rightB p.1 = true := by
  unfold Tm.prs at h
  obtain ⟨n, v⟩ := p
  exact flat_right t hw n (List.of_mem_zip h).1
theorem zw_congr {β : Type} {g h : Nd → Nat → β} {t : Tm} {u : Nat} (e : ∀ p, p ∈ t.prs u → g p.1 p.2 = h p.1 p.2) : t.zw g u = t.zw h u := by
  rw [zw_prs, zw_prs]
  exact List.map_congr_left e
theorem shE_all {b k : Int} {t : Tm} {u : Nat} (h : fstE (t.zw (shE b k) u) = 0) : ∀ p, p ∈ t.prs u → shE b k p.1 p.2 = 0 := by
  intro p hp
  refine fstE_zero.1 h _ ?_
  rw [zw_prs]
  exact List.mem_map_of_mem hp

theorem right_var {n : Nd} (h : rightB n = true) (hk : n.K = 0) : 0 ≤ n.N ∧ n.N ≤ 99 := by
  obtain ⟨_, h1, h2, _⟩ := var_right h hk
  exact ⟨h1, h2⟩

/-- a shift that goes well makes a term, as deep, of as many nodes -/
theorem sh_fine {b k : Int} (hk : 0 ≤ k) {t : Tm} (hw : t.wf = true) {u : Nat} (h : fstE (t.zw (shE b k) u) = 0) :
    (t.sh b k u).wf = true ∧ (t.sh b k u).dep = t.dep ∧ (t.sh b k u).flat = t.zw (shN b k) u ∧ (t.sh b k u).flat.length = t.flat.length := by
  have hf := sh_flat b k hk t hw u
  refine ⟨?_, ?_, hf, by rw [hf, zw_length]⟩
  · refine bnd_wf t hw u fun x hx => ?_
    rw [zw_prs] at hx
    obtain ⟨p, hp, rfl⟩ := List.mem_map.1 hx
    have h1 := shE_all h p hp
    have h2 := prs_right hw hp
    by_cases hv : p.1.K = 0 ∧ (p.2 : Int) ≤ p.1.N
    · simp only [if_pos hv]
      obtain ⟨h3, h4⟩ := right_var h2 hv.1
      unfold shE at h1
      unfold shf
      split
      · rename_i hc
        rw [if_pos ⟨hv.1, hc⟩] at h1
        split at h1
        · cases h1
        · split at h1
          · cases h1
          · exact wf_vr (by omega) (by omega)
      · exact wf_vr (by omega) (by omega)
    · simp only [if_neg hv]
  · unfold Tm.sh
    exact bnd_dep (fun v u _ => by unfold shf; split <;> exact ⟨_, rfl⟩) t hw u

theorem bnds_var {n : Nd} (hr : rightB n = true) (hK : n.K = 0) : bnds n = [] := by
  have := (var_right hr hK).2.2.2
  unfold arity at this
  exact List.eq_nil_of_length_eq_zero this

/-- a shift leaves the binders as they are -/
theorem und_sh (b k : Int) : ∀ t : Tm, t.wf = true → ∀ u, (t.sh b k u).und u = t.und u := by
  refine Tm.ind ?_
  intro n l ih hw u
  unfold Tm.sh
  by_cases h : n.K = 0 ∧ (u : Int) ≤ n.N
  · obtain ⟨e, _⟩ := wf_var hw h.1
    rw [bnd_var _ _ _ _ h.1 h.2, e]
    unfold shf
    split <;> simp [vr, und_mk, undL_nil]
  · rw [bnd_non _ _ _ _ h, und_mk, und_mk]
    congr 1
    have hl : ∀ l : List Tm, (∀ t, t ∈ l → ∀ u, (t.sh b k u).und u = t.und u) → ∀ bs, undL (bndL (shf b k) l bs u) bs u = undL l bs u := by
      intro l
      induction l with
      | nil => intro _ bs; rw [bndL_nil]
      | cons t r ihr =>
        intro h bs
        rw [bndL_cons, undL_cons, undL_cons, ihr (fun t ht => h t (by simp [ht]))]
        have := h t (by simp) (u + bs.headD 0)
        unfold Tm.sh at this
        rw [this]
    exact hl l (fun t ht => ih t ht ((wf_iff.1 hw).2.2 t ht)) _

theorem zipWith_zip {α β γ : Type} (g : α → Nat → γ) (f : β → Nat → α) : ∀ (a : List β) (b : List Nat), List.zipWith g (List.zipWith f a b) b = List.zipWith (fun x v => g (f x v) v) a b := by
  intro a
  induction a with
  | nil => intro b; rfl
  | cons x r ih => intro b; cases b with
    | nil => rfl
    | cons y s => simp [ih]

/-- what is told of each node behind a shift -/
theorem zw_sh {β : Type} (g : Nd → Nat → β) {b k : Int} (hk : 0 ≤ k) {t : Tm} (hw : t.wf = true) (u : Nat) : (t.sh b k u).zw g u = t.zw (fun n v => g (shN b k n v) v) u := by
  show List.zipWith g (t.sh b k u).flat ((t.sh b k u).und u) = _
  rw [und_sh b k t hw u, sh_flat b k hk t hw u]
  unfold Tm.zw
  exact zipWith_zip g (shN b k) _ _

/-! ### rows of nodes -/
theorem shiftE_fine {b k : Int} {l : List Nd} (h : shiftE b k l = 0) : chk l = 0 ∧ ∃ T, whole l = some T ∧ fstE (T.zw (shE b k) 0) = 0 ∧ shiftL b k l = T.zw (shN b k) 0 := by
  have h0 := h
  unfold shiftE at h
  split at h
  · rename_i hc
    obtain ⟨_, T, hw, _⟩ := chk_ok hc
    rw [hw] at h
    refine ⟨hc, T, hw, h, ?_⟩
    unfold shiftL
    rw [if_pos h0, hw]
  · rename_i hc
    exact absurd h hc
theorem shiftL_bad {b k : Int} {l : List Nd} (h : shiftE b k l ≠ 0) : shiftL b k l = [] := by unfold shiftL; rw [if_neg h]
theorem shiftE_of {b k : Int} {l : List Nd} {T : Tm} (hc : chk l = 0) (hw : whole l = some T) : shiftE b k l = fstE (T.zw (shE b k) 0) := by
  unfold shiftE
  rw [if_pos hc, hw]
theorem shiftE_bad {b k : Int} {l : List Nd} (hc : chk l ≠ 0) : shiftE b k l = chk l := by unfold shiftE; rw [if_neg hc]

/-- what a shift that goes well makes -/
theorem shiftL_fine {b k : Int} (hk : 0 ≤ k) {l : List Nd} (h : shiftE b k l = 0) :
    ∃ T, whole l = some T ∧ T.wf = true ∧ whole (shiftL b k l) = some (T.sh b k 0) ∧ chk (shiftL b k l) = 0 ∧ (shiftL b k l).length = l.length ∧ shiftL b k l = T.zw (shN b k) 0 ∧ fstE (T.zw (shE b k) 0) = 0 := by
  obtain ⟨hc, T, hw, he, hl⟩ := shiftE_fine h
  obtain ⟨hle, T', hw', hd⟩ := chk_ok hc
  rw [hw] at hw'
  obtain rfl := Option.some.inj hw'
  obtain ⟨hwf, hfl⟩ := whole_some hw
  obtain ⟨h1, h2, h3, h4⟩ := sh_fine hk hwf he
  rw [hl, ← h3]
  refine ⟨T, hw, hwf, whole_flat h1, ?_, by rw [h4, hfl], h3, he⟩
  rw [chk_flat h1, if_neg (by rw [h4, hfl]; omega), if_neg (by omega)]

theorem shN_size (b k : Int) (n : Nd) (u : Nat) : (shN b k n u).S = n.S := by unfold shN; split <;> rfl
theorem shiftL_small {b k : Int} {l : List Nd} {m : Nat} (hs : ∀ n, n ∈ l → n.S.size ≤ m) : ∀ n, n ∈ shiftL b k l → n.S.size ≤ m := by
  intro n hn
  by_cases h : shiftE b k l = 0
  · obtain ⟨hc, T, hw, he, hl⟩ := shiftE_fine h
    obtain ⟨hwf, hfl⟩ := whole_some hw
    rw [hl, zw_prs] at hn
    obtain ⟨p, hp, rfl⟩ := List.mem_map.1 hn
    rw [shN_size]
    refine hs _ ?_
    rw [← hfl]
    exact (List.of_mem_zip hp).1
  · rw [shiftL_bad h] at hn; cases hn

/-- by nothing -/
theorem shE_zero {k : Int} {n : Nd} {u : Nat} (hr : rightB n = true) : shE 0 k n u = 0 := by
  unfold shE
  split
  · rename_i h
    have := right_var hr h.1
    rw [if_neg (by omega), if_neg (by omega)]
  · rfl
theorem shN_zero (k : Int) (n : Nd) (u : Nat) : shN 0 k n u = n := by
  unfold shN
  split
  · rw [Int.add_zero]
  · rfl
theorem zw_id {T : Tm} {u : Nat} : T.zw (fun n _ => n) u = T.flat := by
  unfold Tm.zw
  have h : ∀ (a : List Nd) (b : List Nat), a.length = b.length → List.zipWith (fun n (_ : Nat) => n) a b = a := by
    intro a
    induction a with
    | nil => intro b _; rfl
    | cons x r ih => intro b hb; cases b with
      | nil => simp at hb
      | cons y s => simp at hb; simp [ih s hb]
  exact h _ _ (und_length T u).symm
theorem fstE_same {t : Tm} {g : Nd → Nat → Int} {u : Nat} (h : ∀ p, p ∈ t.prs u → g p.1 p.2 = 0) : fstE (t.zw g u) = 0 := by
  refine fstE_zero.2 fun e he => ?_
  rw [zw_prs] at he
  obtain ⟨p, hp, rfl⟩ := List.mem_map.1 he
  exact h p hp
theorem shift_zero {k : Int} {l : List Nd} (hc : chk l = 0) : shiftE 0 k l = 0 ∧ shiftL 0 k l = l := by
  obtain ⟨_, T, hw, _⟩ := chk_ok hc
  obtain ⟨hwf, hfl⟩ := whole_some hw
  have he : shiftE 0 k l = 0 := by rw [shiftE_of hc hw]; exact fstE_same fun p hp => shE_zero (prs_right hwf hp)
  refine ⟨he, ?_⟩
  unfold shiftL
  rw [if_pos he, hw]
  show T.zw (shN 0 k) 0 = l
  rw [← hfl, ← zw_id (T := T) (u := 0)]
  exact zw_congr fun p _ => shN_zero k p.1 p.2

/-- there and back -/
theorem shift_back {a k : Int} (ha : 0 ≤ a) (hk : 0 ≤ k) {l : List Nd} (h : shiftE a k l = 0) : shiftE (-a) k (shiftL a k l) = 0 ∧ shiftL (-a) k (shiftL a k l) = l := by
  obtain ⟨T, hw, hwf, hw2, hc2, _, hl, he⟩ := shiftL_fine hk h
  obtain ⟨_, hfl⟩ := whole_some hw
  have hall := shE_all he
  have he2 : shiftE (-a) k (shiftL a k l) = 0 := by
    rw [shiftE_of hc2 hw2, zw_sh _ hk hwf]
    refine fstE_same fun p hp => ?_
    have h1 := hall p hp
    have h2 := prs_right hwf hp
    unfold shE at h1 ⊢
    unfold shN
    by_cases hv : p.1.K = 0 ∧ k ≤ p.1.N - p.2
    · have := right_var h2 hv.1
      rw [if_pos hv]
      simp only
      rw [if_pos ⟨hv.1, by omega⟩, if_neg (by omega), if_neg (by omega)]
    · rw [if_neg hv, if_neg hv]
  refine ⟨he2, ?_⟩
  unfold shiftL
  rw [if_pos (show shiftE (-a) k (if shiftE a k l = 0 then _ else _) = 0 from he2)]
  show (match whole (shiftL a k l) with | some T => T.zw (shN (-a) k) 0 | none => []) = l
  rw [hw2]
  show (T.sh a k 0).zw (shN (-a) k) 0 = l
  rw [zw_sh _ hk hwf, ← hfl, ← zw_id (T := T) (u := 0)]
  refine zw_congr fun p hp => ?_
  unfold shN
  by_cases hv : p.1.K = 0 ∧ k ≤ p.1.N - p.2
  · rw [if_pos hv]
    simp only
    rw [if_pos ⟨hv.1, by omega⟩]
    obtain ⟨n, v⟩ := p
    simp only
    congr 1
    omega
  · rw [if_neg hv, if_neg hv]

/-- two are one -/
theorem shift_add {a b k : Int} (ha : 0 ≤ a) (hb : 0 ≤ b) (hk : 0 ≤ k) {l : List Nd} (h : shiftE a k l = 0) :
    shiftE b k (shiftL a k l) = shiftE (a + b) k l ∧ shiftL b k (shiftL a k l) = shiftL (a + b) k l := by
  obtain ⟨T, hw, hwf, hw2, hc2, _, hl, he⟩ := shiftL_fine hk h
  obtain ⟨hc, _⟩ := shiftE_fine h
  have he2 : shiftE b k (shiftL a k l) = shiftE (a + b) k l := by
    rw [shiftE_of hc2 hw2, zw_sh _ hk hwf, shiftE_of hc hw]
    congr 1
    refine zw_congr fun p hp => ?_
    unfold shE shN
    by_cases hv : p.1.K = 0 ∧ k ≤ p.1.N - p.2
    · rw [if_pos hv, if_pos hv]
      simp only
      have e : p.1.N + a + b = p.1.N + (a + b) := by omega
      rw [if_pos ⟨hv.1, by omega⟩, e]
    · rw [if_neg hv, if_neg hv, if_neg hv]
  refine ⟨he2, ?_⟩
  by_cases hz : shiftE (a + b) k l = 0
  · obtain ⟨_, T2, hw3, _, hl3⟩ := shiftE_fine hz
    rw [hw] at hw3
    obtain rfl := Option.some.inj hw3
    obtain ⟨_, T4, hw4, _, hl4⟩ := shiftE_fine (he2.trans hz)
    rw [hw2] at hw4
    obtain rfl := Option.some.inj hw4
    rw [hl4, hl3, zw_sh _ hk hwf]
    refine zw_congr fun p hp => ?_
    unfold shN
    by_cases hv : p.1.K = 0 ∧ k ≤ p.1.N - p.2
    · rw [if_pos hv, if_pos hv]
      simp only
      rw [if_pos ⟨hv.1, by omega⟩]
      obtain ⟨n, v⟩ := p
      simp only
      congr 1
      omega
    · rw [if_neg hv, if_neg hv, if_neg hv]
  · rw [shiftL_bad hz, shiftL_bad (by rw [he2]; exact hz)]

/-! ### free variables behind a shift -/
theorem fv_prs (T : Tm) (u : Nat) : T.fv u = ((T.prs u).map fun p => fvG p.1 p.2).flatten := by unfold Tm.fv; rw [zw_prs]
theorem fv_bound {T : Tm} (hw : T.wf = true) {u : Nat} : ∀ x, x ∈ T.fv u → 0 ≤ x ∧ x ≤ 99 := by
  intro x hx
  rw [fv_prs] at hx
  obtain ⟨L, hL, hx⟩ := List.mem_flatten.1 hx
  obtain ⟨p, hp, rfl⟩ := List.mem_map.1 hL
  exact fvG_mem (prs_right hw hp) x hx
theorem fv_sh {b : Int} (hb : 0 ≤ b) {T : Tm} (hw : T.wf = true) (u : Nat) : (T.sh b 0 u).fv u = (T.fv u).map (· + b) := by
  unfold Tm.fv
  rw [zw_sh _ (Int.le_refl 0) hw, List.map_flatten, zw_prs, zw_prs, List.map_map]
  congr 1
  refine List.map_congr_left fun p hp => ?_
  simp only [Function.comp]
  unfold fvG shN
  by_cases hv : p.1.K = 0 ∧ 0 ≤ p.1.N - p.2
  · rw [if_pos hv]
    simp only
    rw [if_pos ⟨hv.1, by omega⟩, if_pos ⟨hv.1, by omega⟩]
    simp only [List.map_cons, List.map_nil, List.cons.injEq, and_true]
    omega
  · rw [if_neg hv, if_neg (by omega)]
    rfl
/-- one above the greatest, or 0 -/
def topV (L : List Int) : Int := L.foldl fF 0
theorem topV_mem (L : List Int) : ∀ a, L.foldl fF a = a ∨ ∃ x, x ∈ L ∧ L.foldl fF a = x + 1 := by
  induction L with
  | nil => intro a; exact .inl rfl
  | cons y r ih =>
    intro a
    rw [List.foldl_cons]
    rcases ih (fF a y) with h | ⟨x, hx, h⟩
    · rw [h]
      unfold fF
      by_cases h2 : a ≤ y + 1
      · exact .inr ⟨y, by simp, by omega⟩
      · exact .inl (by omega)
    · exact .inr ⟨x, by simp [hx], h⟩
theorem topV_eq {L M : List Int} (h : ∀ x, x ∈ L ↔ x ∈ M) : topV L = topV M := by
  have h1 := foldF_ge L 0
  have h2 := foldF_ge M 0
  unfold topV
  rcases topV_mem L 0 with a | ⟨x, hx, a⟩
  · rcases topV_mem M 0 with b | ⟨y, hy, b⟩
    · rw [a, b]
    · have := h1.2 y ((h y).2 hy)
      have := h2.1
      omega
  · have h3 := h2.2 x ((h x).1 hx)
    rcases topV_mem M 0 with b | ⟨y, hy, b⟩
    · have := h1.1
      omega
    · have := h1.2 y ((h y).2 hy)
      omega
theorem freeN_top {l : List Nd} {T : Tm} (hk : chk l = 0) (hw : whole l = some T) : freeN l = topV (T.fv 0) := by
  rw [freeN_fv hk hw]
  refine topV_eq fun x => ?_
  unfold Tm.fv
  simp [List.mem_flatten]
theorem topV_shift {b : Int} (hb : 0 ≤ b) (L : List Int) (hL : ∀ x, x ∈ L → 0 ≤ x) : topV (L.map (· + b)) = if topV L = 0 then 0 else topV L + b := by
  have h1 := foldF_ge L 0
  have h2 := foldF_ge (L.map (· + b)) 0
  unfold topV
  rcases topV_mem L 0 with a | ⟨x, hx, a⟩
  · rw [if_pos a]
    have : L = [] := by
      cases L with
      | nil => rfl
      | cons y r => have := h1.2 y (by simp); have := hL y (by simp); omega
    rw [this]; rfl
  · have hx0 := hL x hx
    rw [if_neg (by omega)]
    have h3 := h2.2 (x + b) (List.mem_map.2 ⟨x, hx, rfl⟩)
    rcases topV_mem (L.map (· + b)) 0 with c | ⟨y, hy, c⟩
    · omega
    · obtain ⟨z, hz, rfl⟩ := List.mem_map.1 hy
      have := h1.2 z hz
      omega
theorem topV_zero {L : List Int} (hL : ∀ x, x ∈ L → 0 ≤ x) (h : topV L = 0) : L = [] := by
  cases L with
  | nil => rfl
  | cons y r =>
    have := (foldF_ge (y :: r) 0).2 y (by simp)
    have := hL y (by simp)
    unfold topV at h
    omega
theorem cntV_shift (k b : Int) (L : List Int) : cntV (k + b) (L.map (· + b)) = cntV k L := by
  unfold cntV
  have e : ((fun x : Int => x == k + b) ∘ fun x : Int => x + b) = fun x : Int => x == k := by
    funext x
    show (x + b == k + b) = (x == k)
    rw [Bool.eq_iff_iff, beq_iff_eq, beq_iff_eq]
    omega
  rw [List.countP_map]
  show ((List.countP ((fun x : Int => x == k + b) ∘ fun x : Int => x + b) L : Nat) : Int) = _
  rw [e]
theorem cntV_none {k : Int} {L : List Int} (h : ∀ x, x ∈ L → x ≠ k) : cntV k L = 0 := by
  unfold cntV
  have : L.countP (· == k) = 0 := List.countP_eq_zero.2 fun x hx => by simpa using h x hx
  rw [this]; rfl

theorem free_shift {b : Int} (hb : 0 ≤ b) {l : List Nd} (h : shiftE b 0 l = 0) : freeN (shiftL b 0 l) = if freeN l = 0 then 0 else freeN l + b := by
  obtain ⟨T, hw, hwf, hw2, hc2, _, hl, he⟩ := shiftL_fine (Int.le_refl 0) h
  obtain ⟨hc, _⟩ := shiftE_fine h
  rw [freeN_top hc2 hw2, freeN_top hc hw, fv_sh hb hwf, topV_shift hb _ (fun x hx => (fv_bound hwf x hx).1)]
theorem free_closed {b : Int} {l : List Nd} (h : shiftE b 0 l = 0) (hz : freeN l = 0) : shiftL b 0 l = l := by
  obtain ⟨T, hw, hwf, hw2, hc2, _, hl, he⟩ := shiftL_fine (Int.le_refl 0) h
  obtain ⟨hc, _⟩ := shiftE_fine h
  obtain ⟨_, hfl⟩ := whole_some hw
  rw [freeN_top hc hw] at hz
  have hnil := topV_zero (fun x hx => (fv_bound hwf x hx).1) hz
  rw [hl, ← hfl]
  conv => rhs; rw [← zw_id (T := T) (u := 0)]
  refine zw_congr fun p hp => ?_
  unfold shN
  rw [if_neg]
  rintro ⟨h1, h2⟩
  have : p.1.N - p.2 ∈ T.fv 0 := by
    rw [fv_prs]
    refine List.mem_flatten.2 ⟨fvG p.1 p.2, List.mem_map.2 ⟨p, hp, rfl⟩, ?_⟩
    unfold fvG
    rw [if_pos ⟨h1, by omega⟩]
    simp
  rw [hnil] at this
  cases this
theorem freeN_bound {l : List Nd} (h : chk l = 0) : 0 ≤ freeN l ∧ freeN l ≤ 100 := by
  obtain ⟨_, T, hw, _⟩ := chk_ok h
  obtain ⟨hwf, _⟩ := whole_some hw
  rw [freeN_top h hw]
  have h1 := foldF_ge (T.fv 0) 0
  refine ⟨h1.1, ?_⟩
  rcases topV_mem (T.fv 0) 0 with a | ⟨x, hx, a⟩
  · unfold topV; omega
  · have := (fv_bound hwf x hx).2
    unfold topV; omega
theorem uses_shift {b k : Int} (hb : 0 ≤ b) {l : List Nd} (h : shiftE b 0 l = 0) : usesN (k + b) (shiftL b 0 l) = usesN k l := by
  obtain ⟨T, hw, hwf, hw2, hc2, _, hl, he⟩ := shiftL_fine (Int.le_refl 0) h
  obtain ⟨hc, _⟩ := shiftE_fine h
  rw [usesN_fv _ hc2 hw2, usesN_fv _ hc hw, fv_sh hb hwf, cntV_shift]
theorem uses_below {b : Int} (hb : 0 ≤ b) {l : List Nd} (h : shiftE b 0 l = 0) : usesN (b - 1) (shiftL b 0 l) = 0 := by
  obtain ⟨T, hw, hwf, hw2, hc2, _, hl, he⟩ := shiftL_fine (Int.le_refl 0) h
  rw [usesN_fv _ hc2 hw2, fv_sh hb hwf]
  refine cntV_none fun x hx => ?_
  obtain ⟨z, hz, rfl⟩ := List.mem_map.1 hx
  have := (fv_bound hwf z hz).1
  omega

/-! ### parts -/
theorem und_add (b : Nat) : ∀ (t : Tm) (u : Nat), t.und (u + b) = (t.und u).map (· + b) := by
  refine Tm.ind ?_
  intro n l ih u
  rw [und_mk, und_mk, List.map_append]
  congr 1
  have hl : ∀ l : List Tm, (∀ t, t ∈ l → ∀ u, t.und (u + b) = (t.und u).map (· + b)) → ∀ bs, undL l bs (u + b) = (undL l bs u).map (· + b) := by
    intro l
    induction l with
    | nil => intro _ bs; rw [undL_nil, undL_nil]; rfl
    | cons t r ihr =>
      intro h bs
      rw [undL_cons, undL_cons, List.map_append, ihr (fun t ht => h t (by simp [ht]))]
      have e : u + b + bs.headD 0 = (u + bs.headD 0) + b := by omega
      rw [e, h t (by simp)]
  exact hl l ih _
theorem zw_add {β : Type} (g : Nd → Nat → β) (b : Nat) (t : Tm) (u : Nat) : t.zw g (u + b) = t.zw (fun n v => g n (v + b)) u := by
  unfold Tm.zw
  rw [und_add, List.zipWith_map_right]
theorem zwL_part {β : Type} (g : Nd → Nat → β) : ∀ (l : List Tm) (bs : List Nat) (u i : Nat) (hi : i < l.length) (x : β), x ∈ (l[i]).zw g (u + bs.getD i 0) → x ∈ zwL g l bs u := by
  intro l
  induction l with
  | nil => intro bs u i hi; simp at hi
  | cons t r ih =>
    intro bs u i hi x hx
    rw [zwL_cons]
    cases i with
    | zero => cases bs <;> exact List.mem_append.2 (.inl (by simpa using hx))
    | succ i =>
      refine List.mem_append.2 (.inr (ih bs.tail u i (by simpa using hi) x ?_))
      cases bs <;> simpa using hx
theorem shE_add (e k : Int) (b : Nat) (n : Nd) (v : Nat) : shE e k n (v + b) = shE e (k + b) n v := by
  unfold shE
  by_cases h : n.K = 0 ∧ k ≤ n.N - ((v + b : Nat) : Int)
  · have h' : n.K = 0 ∧ k + b ≤ n.N - (v : Int) := ⟨h.1, by omega⟩
    rw [if_pos h, if_pos h']
    by_cases h2 : n.N + e - ((v + b : Nat) : Int) < k
    · have h3 : n.N + e - (v : Int) < k + b := by omega
      rw [if_pos h2, if_pos h3]
    · have h3 : ¬ n.N + e - (v : Int) < k + b := by omega
      rw [if_neg h2, if_neg h3]
  · have h' : ¬ (n.K = 0 ∧ k + b ≤ n.N - (v : Int)) := by omega
    rw [if_neg h, if_neg h']
theorem shN_add (e k : Int) (b : Nat) (n : Nd) (v : Nat) : shN e k n (v + b) = shN e (k + b) n v := by
  unfold shN
  by_cases h : n.K = 0 ∧ k ≤ n.N - ((v + b : Nat) : Int)
  · have h' : n.K = 0 ∧ k + b ≤ n.N - (v : Int) := ⟨h.1, by omega⟩
    rw [if_pos h, if_pos h']
  · have h' : ¬ (n.K = 0 ∧ k + b ≤ n.N - (v : Int)) := by omega
    rw [if_neg h, if_neg h']
theorem bndL_get (f : Int → Nat → Tm) : ∀ (l : List Tm) (bs : List Nat) (u i : Nat) (hi : i < l.length), (bndL f l bs u)[i]'(by rw [bndL_length]; exact hi) = (l[i]).bnd f (u + bs.getD i 0) := by
  intro l
  induction l with
  | nil => intro bs u i hi; simp at hi
  | cons t r ih =>
    intro bs u i hi
    simp only [bndL_cons]
    cases i with
    | zero => cases bs <;> simp
    | succ i =>
      simp only [List.getElem_cons_succ]
      rw [ih bs.tail u i (by simpa using hi)]
      cases bs <;> simp

/-- a term that is no variable, shifted: its root stays, its parts are shifted from as much further on -/
theorem shift_parts {a k : Int} (hk : 0 ≤ k) {l : List Nd} (h : shiftE a k l = 0) {nd : Nd} {cs : List Tm} (hw : whole l = some (Tm.mk nd cs)) (hK : nd.K ≠ 0) :
    ∃ ds : List Tm, whole (shiftL a k l) = some (Tm.mk nd ds) ∧ ds.length = cs.length ∧ ∀ i (hi : i < cs.length) (hj : i < ds.length),
      shiftE a (k + ((bnds nd).getD i 0 : Nat)) cs[i].flat = 0 ∧ shiftL a (k + ((bnds nd).getD i 0 : Nat)) cs[i].flat = ds[i].flat := by
  obtain ⟨T, hw', hwf, hw2, hc2, _, hl, he⟩ := shiftL_fine hk h
  obtain ⟨hc, _⟩ := shiftE_fine h
  rw [hw] at hw'
  obtain rfl := Option.some.inj hw'
  have hsh : (Tm.mk nd cs).sh a k 0 = Tm.mk nd (bndL (shf a k) cs (bnds nd) 0) := by
    unfold Tm.sh
    rw [bnd_non _ _ _ _ (fun h => hK h.1)]
  refine ⟨bndL (shf a k) cs (bnds nd) 0, by rw [hw2, hsh], bndL_length _ _ _ _, fun i hi hj => ?_⟩
  obtain ⟨hpk, hpw, _⟩ := part_ok hc hw hi
  have hcw : cs[i].wf = true := (wf_iff.1 hwf).2.2 _ (List.getElem_mem hi)
  obtain ⟨b, hb⟩ : ∃ b, (bnds nd).getD i 0 = b := ⟨_, rfl⟩
  have hzw : cs[i].zw (shE a (k + (b : Int))) 0 = cs[i].zw (shE a k) (0 + b) := by
    rw [zw_add]
    exact zw_congr fun p _ => (shE_add a k b p.1 p.2).symm
  have hze : fstE (cs[i].zw (shE a (k + (b : Int))) 0) = 0 := by
    rw [hzw]
    refine fstE_zero.2 fun e hx => fstE_zero.1 he e ?_
    rw [zw_mk]
    exact List.mem_append.2 (.inl (zwL_part _ cs (bnds nd) 0 i hi e (by rw [hb]; exact hx)))
  rw [hb]
  have h1 : shiftE a (k + (b : Int)) cs[i].flat = 0 := by rw [shiftE_of hpk hpw]; exact hze
  refine ⟨h1, ?_⟩
  obtain ⟨_, T2, hw3, _, hl3⟩ := shiftE_fine h1
  rw [hpw] at hw3
  obtain rfl := Option.some.inj hw3
  rw [hl3, bndL_get _ _ _ _ _ hi, hb]
  have := sh_flat a (k + (b : Int)) (by omega) cs[i] hcw 0
  rw [← this]
  unfold Tm.sh
  rw [← sh_part a k b hk cs[i] hcw 0]

end Go.Proofs.YteldkcpkamgfpaaDoor

