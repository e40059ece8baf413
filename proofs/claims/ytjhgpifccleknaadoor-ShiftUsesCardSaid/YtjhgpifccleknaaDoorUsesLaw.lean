/- Plain: how often a variable is used is how often it is in the parts, seen from there; Free is above each one that is. No function of the program is named here. -/
import Derived.Test.YtjhgpifccleknaaDoorFree
namespace Go.Proofs.YtjhgpifccleknaaDoor
set_option linter.unusedSimpArgs false
set_option linter.unusedVariables false

def cntV (k : Int) (L : List Int) : Int := (L.countP (· == k) : Nat)
theorem cntV_append (k : Int) (a b : List Int) : cntV k (a ++ b) = cntV k a + cntV k b := by unfold cntV; rw [List.countP_append]; omega
theorem cntV_nil (k : Int) : cntV k [] = 0 := rfl
theorem cntV_one {k x : Int} (h : x ≠ k) : cntV k [x] = 0 := by unfold cntV; rw [List.countP_cons_of_neg (by simpa using h)]; rfl
theorem cntV_rev (k : Int) (L : List (List Int)) : cntV k L.reverse.flatten = cntV k L.flatten := by
  induction L with
  | nil => rfl
  | cons x r ih =>
    rw [List.reverse_cons, List.flatten_append, cntV_append, ih]
    simp only [List.flatten_cons, List.flatten_nil, List.append_nil, cntV_append]
    omega
theorem foldU (k : Int) (L : List Int) : ∀ a, L.foldl (fU k) a = a + cntV k L := by
  induction L with
  | nil => intro a; rw [cntV_nil]; simp
  | cons x r ih =>
    intro a
    rw [List.foldl_cons, ih, show x :: r = [x] ++ r from rfl, cntV_append]
    unfold fU cntV
    by_cases h : x = k
    · simp [h]; omega
    · simp [h]
theorem fvL_append (a b : List (List Int)) : (a ++ b).flatten = a.flatten ++ b.flatten := List.flatten_append
theorem fv_mk (n : Nd) (l : List Tm) (u : Nat) : (Tm.mk n l).fv u = (zwL fvG l (bnds n) u).flatten ++ fvG n u := by
  unfold Tm.fv
  rw [zw_mk, List.flatten_append]
  simp
theorem usesN_fv {l : List Nd} {T : Tm} (k : Int) (hk : chk l = 0) (hw : whole l = some T) : usesN k l = cntV k (T.fv 0) := by
  unfold usesN
  rw [if_pos hk, hw]
  show (fvs T T.flat.length).foldl (fU k) 0 = _
  rw [foldU, fvs_all, cntV_rev]
  unfold Tm.fv
  omega
theorem usesN_bad {l : List Nd} (k : Int) (hk : chk l ≠ 0) : usesN k l = 0 := by unfold usesN; rw [if_neg hk]
theorem freeN_fv {l : List Nd} {T : Tm} (hk : chk l = 0) (hw : whole l = some T) : freeN l = (T.zw fvG 0).reverse.flatten.foldl fF 0 := by
  unfold freeN
  rw [if_pos hk, hw]
  show (fvs T T.flat.length).foldl fF 0 = _
  rw [fvs_all]
theorem foldF_ge (L : List Int) : ∀ a, a ≤ L.foldl fF a ∧ ∀ x, x ∈ L → x + 1 ≤ L.foldl fF a := by
  induction L with
  | nil => intro a; simp
  | cons y r ih =>
    intro a
    obtain ⟨h1, h2⟩ := ih (fF a y)
    rw [List.foldl_cons]
    have h3 : a ≤ fF a y ∧ y + 1 ≤ fF a y := by unfold fF; omega
    refine ⟨by omega, fun x hx => ?_⟩
    rcases List.mem_cons.1 hx with rfl | hx
    · omega
    · exact h2 x hx
theorem free_above {l : List Nd} {T : Tm} {k : Int} (hk : chk l = 0) (hw : whole l = some T) (hu : usesN k l ≠ 0) : k < freeN l := by
  rw [usesN_fv k hk hw] at hu
  rw [freeN_fv hk hw]
  have hm : k ∈ (T.zw fvG 0).reverse.flatten := by
    have h2 : cntV k (T.zw fvG 0).reverse.flatten ≠ 0 := by rw [cntV_rev]; exact hu
    unfold cntV at h2
    have h3 : 0 < (T.zw fvG 0).reverse.flatten.countP (· == k) := by omega
    obtain ⟨x, hx, hxk⟩ := List.countP_pos_iff.1 h3
    have : x = k := by simpa using hxk
    rw [← this]; exact hx
  have := (foldF_ge _ 0).2 k hm
  omega

/-- seen from under more binders -/
theorem fvG_under {n : Nd} (u b : Nat) {k : Int} (hk : 0 ≤ k) : cntV k (fvG n (u + b)) = cntV (k + b) (fvG n u) := by
  unfold fvG cntV
  by_cases h : n.K = 0
  · by_cases h2 : n.N = k + b + u
    · rw [if_pos ⟨h, by omega⟩, if_pos ⟨h, by omega⟩]
      have e1 : n.N - ((u + b : Nat) : Int) = k := by omega
      have e2 : n.N - (u : Int) = k + b := by omega
      rw [e1, e2]
      simp
    · have z1 : cntV k (if n.K = 0 ∧ ((u + b : Nat) : Int) ≤ n.N then [n.N - ((u + b : Nat) : Int)] else []) = 0 := by
        split
        · have : n.N - ((u + b : Nat) : Int) ≠ k := by omega
          exact cntV_one this
        · rfl
      have z2 : cntV (k + b) (if n.K = 0 ∧ (u : Int) ≤ n.N then [n.N - (u : Int)] else []) = 0 := by
        split
        · have : n.N - (u : Int) ≠ k + b := by omega
          exact cntV_one this
        · rfl
      exact z1.trans z2.symm
  · rw [if_neg (fun h2 => h h2.1), if_neg (fun h2 => h h2.1)]
    rfl
theorem fv_under (b : Nat) {k : Int} (hk : 0 ≤ k) : ∀ (t : Tm) (u : Nat), cntV k (t.fv (u + b)) = cntV (k + b) (t.fv u) := by
  refine Tm.ind ?_
  intro n l ih u
  rw [fv_mk, fv_mk, cntV_append, cntV_append, fvG_under u b hk]
  have hl : ∀ l : List Tm, (∀ t, t ∈ l → ∀ u, cntV k (t.fv (u + b)) = cntV (k + b) (t.fv u)) → ∀ bs, cntV k (zwL fvG l bs (u + b)).flatten = cntV (k + b) (zwL fvG l bs u).flatten := by
    intro l
    induction l with
    | nil => intro _ bs; rw [zwL_nil, zwL_nil]; rfl
    | cons t r ihr =>
      intro h bs
      rw [zwL_cons, zwL_cons, List.flatten_append, List.flatten_append, cntV_append, cntV_append, ihr (fun t ht => h t (by simp [ht]))]
      have e : u + b + bs.headD 0 = (u + bs.headD 0) + b := by omega
      rw [e]
      have := h t (by simp) (u + bs.headD 0)
      unfold Tm.fv at this
      rw [this]
  rw [hl l ih]

/-- the uses in the first parts -/
def sumU (v : Int) (cs : List Tm) (bs : List Nat) (i : Nat) : Int := ((List.range i).map fun j => cntV (v + (bs.getD j 0 : Nat)) ((cs.getD j (vr 0)).fv 0)).sum
theorem sumU_zero (v : Int) (cs : List Tm) (bs : List Nat) : sumU v cs bs 0 = 0 := rfl
theorem sumU_succ (v : Int) (cs : List Tm) (bs : List Nat) (i : Nat) : sumU v cs bs (i + 1) = sumU v cs bs i + cntV (v + (bs.getD i 0 : Nat)) ((cs.getD i (vr 0)).fv 0) := by
  unfold sumU
  rw [List.range_succ, List.map_append, List.sum_append]
  simp
theorem sumU_all {v : Int} (hv : 0 ≤ v) : ∀ (cs : List Tm) (bs : List Nat), sumU v cs bs cs.length = cntV v (zwL fvG cs bs 0).flatten := by
  intro cs
  induction cs with
  | nil => intro bs; rw [zwL_nil]; rfl
  | cons t r ih =>
    intro bs
    rw [zwL_cons, List.flatten_append, cntV_append, ← ih bs.tail]
    have h1 := fv_under (bs.headD 0) hv t 0
    unfold Tm.fv at h1
    rw [h1]
    unfold sumU
    rw [List.length_cons, List.range_succ_eq_map, List.map_cons, List.sum_cons, List.map_map]
    congr 1
    · cases bs <;> rfl
    · congr 1
      refine List.map_congr_left fun j _ => ?_
      cases bs <;> rfl
theorem uses_parts {l : List Nd} {nd : Nd} {cs : List Tm} {v : Int} (hv : 0 ≤ v) (hk : chk l = 0) (hw : whole l = some (Tm.mk nd cs)) (hK : nd.K ≠ 0) : sumU v cs (bnds nd) cs.length = usesN v l := by
  rw [usesN_fv v hk hw, fv_mk, cntV_append, sumU_all hv]
  have : fvG nd 0 = [] := by unfold fvG; rw [if_neg (fun h => hK h.1)]
  rw [this, cntV_nil]
  omega
theorem uses_var {l : List Nd} {nd : Nd} {cs : List Tm} {v : Int} (hv : 0 ≤ v) (hk : chk l = 0) (hw : whole l = some (Tm.mk nd cs)) (hK : nd.K = 0) : usesN v l = if nd.N = v then 1 else 0 := by
  obtain ⟨hwf, _⟩ := whole_some hw
  obtain ⟨h1, h2, h3⟩ := wf_iff.1 hwf
  obtain ⟨_, h4, _, h5⟩ := var_right h1 hK
  rw [h5] at h2
  obtain rfl : cs = [] := List.eq_nil_of_length_eq_zero h2
  rw [usesN_fv v hk hw, fv_mk, cntV_append, zwL_nil]
  have : fvG nd 0 = [nd.N] := by unfold fvG; rw [if_pos ⟨hK, by omega⟩]; simp
  rw [this]
  unfold cntV
  by_cases h : nd.N = v
  · simp [h]
  · simp [h]
theorem part_ok {l : List Nd} {nd : Nd} {cs : List Tm} (hk : chk l = 0) (hw : whole l = some (Tm.mk nd cs)) {i : Nat} (hi : i < cs.length) : chk (cs[i]).flat = 0 ∧ whole (cs[i]).flat = some cs[i] ∧ (∀ n, n ∈ (cs[i]).flat → n ∈ l) := by
  obtain ⟨hl, T, hw', hd⟩ := chk_ok hk
  rw [hw] at hw'
  obtain rfl := Option.some.inj hw'
  obtain ⟨hwf, hfl⟩ := whole_some hw
  have hp : walkP (Tm.mk nd cs) [(i : Int)] = some cs[i] := by
    show (if 0 ≤ (i : Int) ∧ (i : Int) < (cs.length : Int) then (cs[(i : Int).toNat]?).bind (fun c => walkP c []) else none) = _
    rw [if_pos (by omega), Int.toNat_natCast, List.getElem?_eq_getElem hi]
    rfl
  obtain ⟨h1, h2, h3, h4⟩ := walkP_wf hwf hp
  rw [hfl] at h2 h4
  refine ⟨?_, whole_flat h1, h4⟩
  rw [chk_flat h1, if_neg (by omega), if_neg (by omega)]

end Go.Proofs.YtjhgpifccleknaaDoor
