/- shift.each, its two bodies, shift.Free, Uses, Has: what they come to. -/
import Derived.Test.YtjhgpifccleknaaDoorNodes
import Derived.Test.YtjhgpifccleknaaDoorTreeD
import Derived.Test.YtjhgpifccleknaaDoorPart
namespace Go.Proofs.YtjhgpifccleknaaDoor
set_option linter.unusedSimpArgs false
set_option linter.unusedVariables false
open Go.RowKit
attribute [local go_sem] Oper.semAt_some

/-- the free variable that a node is, seen from under u binders -/
def fvG (n : Nd) (u : Nat) : List Int := if n.K = 0 ∧ (u : Int) ≤ n.N then [n.N - u] else []
/-- the free variables of a term under u binders, in the nodes' order -/
def Tm.fv (T : Tm) (u : Nat) : List Int := (T.zw fvG u).flatten
/-- those of the last j nodes, the last one first -/
def fvs (T : Tm) (j : Nat) : List Int := ((T.zw fvG 0).reverse.take j).flatten
theorem fvs_zero (T : Tm) : fvs T 0 = [] := rfl
theorem fvs_all (T : Tm) : fvs T T.flat.length = (T.zw fvG 0).reverse.flatten := by
  unfold fvs
  rw [List.take_of_length_le (by simp [zw_length])]
theorem fvs_step {T : Tm} (hw : T.wf = true) {j : Nat} (hj : j < T.flat.length) : fvs T (j + 1) = fvs T j ++ fvG (T.flat[T.flat.length - 1 - j]) ((stk T j).headD 0) := by
  unfold fvs
  have hl : (T.zw fvG 0).length = T.flat.length := zw_length _ _ _
  have h : (T.zw fvG 0).reverse[j]? = some (fvG (T.flat[T.flat.length - 1 - j]) ((stk T j).headD 0)) := by
    rw [List.getElem?_reverse (by omega), hl]
    unfold Tm.zw
    have h1 := und_get hw hj
    have h2 : T.flat[T.flat.length - 1 - j]? = some (T.flat[T.flat.length - 1 - j]) := List.getElem?_eq_getElem (by omega)
    rw [List.getElem?_zipWith, h1, h2]
  rw [List.take_add_one, h, List.flatten_append]
  simp
theorem fvG_mem {n : Nd} {u : Nat} (hr : rightB n = true) : ∀ x, x ∈ fvG n u → 0 ≤ x ∧ x ≤ 99 := by
  intro x hx
  unfold fvG at hx
  split at hx
  · rename_i h
    have := var_right hr h.1
    simp at hx
    omega
  · cases hx




set_option maxHeartbeats 1000000 in
theorem free1_any (x acc : Int) (bx : Nat) (A : World) (h0 : A.cell? ⟨bx, 0, none⟩ = some (.int .i64 acc)) (h1 : A.frozen? ⟨bx, 0, none⟩ = false) (hx : 0 ≤ x ∧ x ≤ 99) (ha : 0 ≤ acc ∧ acc ≤ 10000) :
    Calls Tryd.prog 73 #[.int .i64 x, .pointer (some ⟨bx, 0, none⟩)] A fun e B => (∃ u, e = .returned u) ∧ B = A.setCell ⟨bx, 0, none⟩ (.int .i64 (max acc (x + 1))) := by
  go_enter Tryd.func73, Tryd.ntmps73
  go_wp2_with fail
  all_goals
    go_end0
    refine ⟨⟨_, rfl⟩, ?_⟩
    congr 2
    omega

set_option maxHeartbeats 1000000 in
theorem uses1_any (x k acc : Int) (bk bx : Nat) (A : World) (h0 : A.cell? ⟨bx, 0, none⟩ = some (.int .i64 acc)) (h1 : A.frozen? ⟨bx, 0, none⟩ = false) (hk : A.cell? ⟨bk, 0, none⟩ = some (.int .i64 k)) (ha : 0 ≤ acc ∧ acc ≤ 10000) :
    Calls Tryd.prog 71 #[.int .i64 x, .pointer (some ⟨bk, 0, none⟩), .pointer (some ⟨bx, 0, none⟩)] A fun e B => (∃ u, e = .returned u) ∧ B = (if x = k then A.setCell ⟨bx, 0, none⟩ (.int .i64 (acc + 1)) else A) := by
  by_cases hh : x = k
  · have hb : (x == k) = true := by simpa using hh
    rw [if_pos hh]
    go_enter Tryd.func71, Tryd.ntmps71
    go_wp2_with fail
    go_end0
    exact ⟨⟨_, rfl⟩, rfl⟩
  · have hb : (x == k) = false := by simpa using hh
    rw [if_neg hh]
    go_enter Tryd.func71, Tryd.ntmps71
    go_wp2_with fail
    go_end0
    exact ⟨⟨_, rfl⟩, rfl⟩

theorem nodesf_any (a : Option Addr) (n c : Nat) (w : World) :
    Calls Tryd.prog 75 #[.slice a n c] w fun e w' =>
      e = .returned (.func (.func 89) #[] #[.pointer (some ⟨w.heap.size, 0, none⟩)]) ∧ w' = w.alloc (.cells #[.slice a n c] 30) := by
  go_enter Tryd.func75, Tryd.ntmps75
  go_wp2
  go_ret
  exact ⟨rfl, rfl⟩

def fF (acc x : Int) : Int := max acc (x + 1)
def fU (k acc x : Int) : Int := if x = k then acc + 1 else acc
theorem fold_bound {f : Int → Int → Int} (hf : ∀ acc x, 0 ≤ acc → 0 ≤ x → x ≤ 99 → 0 ≤ f acc x ∧ f acc x ≤ max (acc + 1) 100) (L : List Int) (h : ∀ x, x ∈ L → 0 ≤ x ∧ x ≤ 99) : ∀ (acc : Int) (m : Nat), 0 ≤ acc → acc ≤ 100 + m → 0 ≤ L.foldl f acc ∧ L.foldl f acc ≤ 100 + m + L.length := by
  induction L with
  | nil => intro acc m h1 h2; simp; omega
  | cons x r ih =>
    intro acc m h1 h2
    have hx := h x (by simp)
    have h3 := hf acc x h1 hx.1 hx.2
    have := ih (fun y hy => h y (by simp [hy])) (f acc x) (m + 1) h3.1 (by omega)
    simp only [List.foldl_cons, List.length_cons]
    omega
theorem fF_ok (acc x : Int) (h1 : 0 ≤ acc) (h2 : 0 ≤ x) (h3 : x ≤ 99) : 0 ≤ fF acc x ∧ fF acc x ≤ max (acc + 1) 100 := by unfold fF; omega
theorem fU_ok (k acc x : Int) (h1 : 0 ≤ acc) (h2 : 0 ≤ x) (h3 : x ≤ 99) : 0 ≤ fU k acc x ∧ fU k acc x ≤ max (acc + 1) 100 := by unfold fU; split <;> omega
theorem fvG_len (n : Nd) (u : Nat) : (fvG n u).length ≤ 1 := by unfold fvG; split <;> simp
theorem fvs_facts {T : Tm} (hw : T.wf = true) : ∀ j, j ≤ T.flat.length → (fvs T j).length ≤ j ∧ ∀ x, x ∈ fvs T j → 0 ≤ x ∧ x ≤ 99 := by
  intro j
  induction j with
  | zero => intro _; simp [fvs_zero]
  | succ j ih =>
    intro hj
    rw [fvs_step hw (by omega)]
    obtain ⟨h1, h2⟩ := ih (by omega)
    refine ⟨?_, fun x hx => ?_⟩
    · rw [List.length_append]
      have := fvG_len (T.flat[T.flat.length - 1 - j]) ((stk T j).headD 0)
      omega
    · rcases List.mem_append.1 hx with hx | hx
      · exact h2 x hx
      · exact fvG_mem (flat_right T hw _ (List.getElem_mem (by omega))) x hx
theorem fvs_bound {T : Tm} (hw : T.wf = true) {f : Int → Int → Int} (hf : ∀ acc x, 0 ≤ acc → 0 ≤ x → x ≤ 99 → 0 ≤ f acc x ∧ f acc x ≤ max (acc + 1) 100) (j : Nat) (hj : j ≤ T.flat.length) : 0 ≤ (fvs T j).foldl f 0 ∧ (fvs T j).foldl f 0 ≤ 100 + j := by
  obtain ⟨h1, h2⟩ := fvs_facts hw j hj
  have := fold_bound hf (fvs T j) h2 0 0 (by omega) (by omega)
  omega

/-- what the loop of shift.each holds -/
def EachI (bx : Nat) (W : World) (T : Tm) (f : Int → Int → Int) (j : Nat) (S : Bset) (A : World) : Prop :=
  Chg (fun b => b = bx ∨ W.heap.size ≤ b) W A ∧ (∀ b, S b → W.heap.size ≤ b) ∧ bx < W.heap.size ∧ Blk A bx 3 #[.int .i64 ((fvs T j).foldl f 0)]
theorem EachI.stab (bx : Nat) (W : World) (T : Tm) (f : Int → Int → Int) : Stab (EachI bx W T f) := by
  intro j S A B S' ⟨h1, h2, h3, h4⟩ hc hs
  refine ⟨h1.trans (hc.mono fun b _ h => .inr (h2 b h)), fun b h => ?_, h3, h4.stab (fun h => by have := h2 _ h; omega) hc⟩
  rcases hs b h with h | h
  · exact h2 b h
  · have := h1.size; omega

/-- what shift.each leaves in the box that its body writes -/
def EachPost (l : List Nd) (f : Int → Int → Int) (bx : Nat) (we : World) (e : Ending) (w' : World) : Prop :=
  e = .returned (.int .i64 (chk l)) ∧ (∃ acc, Blk w' bx 3 #[.int .i64 acc] ∧ (chk l ≠ 0 → acc = 0) ∧ ∀ T, chk l = 0 → whole l = some T → acc = (fvs T T.flat.length).foldl f 0) ∧ Below we.heap.size we w'

theorem chainB {we a b : World} (h : Hid (Below we.heap.size we a)) (hb : Below a.heap.size a b) : Hid (Below we.heap.size we b) := h.out.trans (hb.mono h.out.size)

set_option maxRecDepth 20000 in
set_option maxHeartbeats 4000000 in
theorem each_free (l : List Nd) (v : Value) (we w : World) (bx : Nat) (hS : ShapesAt we) (hv : ReadN we v l) (hs : SmallN l) (hwe : Below we.heap.size we w) (hbx : we.heap.size ≤ bx) (hb0 : Blk w bx 3 #[.int .i64 0]) :
    Calls Tryd.prog 70 #[v, .func (.func 73) #[] #[.pointer (some ⟨bx, 0, none⟩)]] w (EachPost l fF bx we) := by
  obtain ⟨at_, ct, rfl⟩ := ReadN.len_slice hv
  have HV := Lib.hid hv; clear hv
  have HS := Lib.hid hS; clear hS
  have HSM := Lib.hid hs; clear hs
  have HB0 := Lib.hid hb0; clear hb0
  have HWE := Lib.hid hwe; clear hwe
  have hws : we.heap.size ≤ w.heap.size := HWE.out.size
  have hbw : bx < w.heap.size := HB0.out.lt
  obtain ⟨w1, hw1⟩ : ∃ w1, (w.alloc (.cells #[.slice at_ l.length ct] 30)).alloc (.cells #[.func (.func 73) #[] #[.pointer (some ⟨bx, 0, none⟩)]] 88) = w1 := ⟨_, rfl⟩
  have hbl1 : Blk w1 w.heap.size 30 #[.slice at_ l.length ct] := by rw [← hw1]; exact (Blk.new w _ _).alloc _
  have hbl2 : Blk w1 (w.heap.size + 1) 88 #[.func (.func 73) #[] #[.pointer (some ⟨bx, 0, none⟩)]] := by rw [← hw1]; have := Blk.new (w.alloc (.cells #[.slice at_ l.length ct] 30)) 88 #[.func (.func 73) #[] #[.pointer (some ⟨bx, 0, none⟩)]]; rwa [World.size_alloc] at this
  have hb1 : Below w.heap.size w w1 := by rw [← hw1]; exact ((Below.refl _ w).alloc (Nat.le_refl _) _).alloc (by simp) _
  have HBL1 := Lib.hid hbl1; clear hbl1
  have HBL2 := Lib.hid hbl2; clear hbl2
  have HB1 := Lib.hid hb1; clear hb1
  have c1 : w1.cell? ⟨w.heap.size, 0, none⟩ = some (.slice at_ l.length ct) := HBL1.out.cell 0
  refine callsIn_wide.1 (callsIn_of_wp_marks (n := 3) Tryd.func70 rfl trivial ?_)
  simp only [Tryd.ntmps70, List.size_toArray, List.length_cons, List.length_nil, Nat.reduceAdd, Nat.reduceSub, Array.replicate_succ, Array.replicate_zero, List.push_toArray, List.append_toArray, List.nil_append, List.cons_append]
  gi_wp2_with fail
  have hbe1 : Below we.heap.size we w1 := HWE.out.trans (HB1.out.mono hws)
  have HBE1 := Lib.hid hbe1; clear hbe1
  try rw [hw1]
  refine enterW2 (tcheck_any l _ w1 (HS.out.below HBE1.out) (HV.out.below HBE1.out) HSM.out) ?_
  rintro e w2 ⟨rfl, hb2⟩
  have hs12 := hb2.size
  have h1s : w1.heap.size = w.heap.size + 2 := by rw [← hw1]; simp
  clear hw1
  have HBL1 := Lib.hid (HBL1.out.below hb2 (by omega))
  have HBL2 := Lib.hid (HBL2.out.below hb2 (by omega))
  have HX2 : Hid (Blk w2 bx 3 #[.int .i64 0]) := (HB0.out.below HB1.out hbw).below hb2 (by omega)
  have HBE2 := chainB HBE1 hb2
  by_cases hk : chk l = 0
  rotate_left
  · obtain ⟨c, hc⟩ : ∃ c, chk l = c := ⟨_, rfl⟩
    have HC := Lib.hid hc
    rw [hc] at hk ⊢
    have hkb : (c != 0) = true := by simpa using hk
    clear hc c1 hb2
    gi_wp2_with fail
    exact postM0 (results_tmp rfl _ _ _) rfl ⟨by rw [HC.out]; rfl, ⟨0, HX2.out, fun _ => rfl, fun T h => absurd (HC.out.symm.trans h) hk⟩, HBE2.out⟩
  obtain ⟨hle, T, hw, _⟩ := chk_ok hk
  obtain ⟨hwf, hfl⟩ := whole_some hw
  have c2 : w2.cell? ⟨w.heap.size, 0, none⟩ = some (.slice at_ l.length ct) := HBL1.out.cell 0
  rw [hk]
  have HC := Lib.hid hk; clear hk
  clear c1 hb2
  gi_wp2_with fail
  refine enterW2 (nodesf_any _ _ _ _) ?_
  rintro e W6 ⟨rfl, rfl⟩
  obtain ⟨W0, hW0⟩ : ∃ W0, w2.alloc (.cells #[.slice at_ l.length ct] 30) = W0 := ⟨_, rfl⟩
  have hs0 : W0.heap.size = w2.heap.size + 1 := by rw [← hW0]; simp
  have bt : Blk W0 w2.heap.size 30 #[.slice at_ l.length ct] := by rw [← hW0]; exact Blk.new _ _ _
  have hb20 : Below w2.heap.size w2 W0 := by rw [← hW0]; exact (Below.refl _ _).alloc (Nat.le_refl _) _
  rw [hW0]
  clear hW0
  have HBE0 := chainB HBE2 hb20
  have HBL1 := Lib.hid (HBL1.out.below hb20 (by omega))
  have HBL2 := Lib.hid (HBL2.out.below hb20 (by omega))
  have HX0 : Hid (Blk W0 bx 3 #[.int .i64 0]) := HX2.out.below hb20 (by omega)
  have hv0 := HV.out.below HBE0.out
  subst hfl
  obtain ⟨b, off, cap, he, _, _, _, _⟩ := RowAt.pos HV.out (flat_pos T)
  obtain ⟨rfl, rfl⟩ : at_ = some ⟨b, off, none⟩ ∧ ct = cap := by simpa using he
  have hbwe : b < we.heap.size := by
    obtain ⟨b', off', cap', he', _, _, hlt, _⟩ := RowAt.pos HV.out (flat_pos T)
    have : b = b' := by simp at he'; exact he'.1.1
    omega
  have hit := nodes_iter 2 T hwf hle HSM.out b off ct w2.heap.size (fun x => x < we.heap.size ∨ x = w2.heap.size) we W0 HS.out ⟨HBE0.out.size, fun x h1 _ => HBE0.out.block x h1⟩ (by rw [bt.cell 0]; rfl) hv0 (.inr rfl) (.inl hbwe) (fun x h => .inl h) (fun x h => by omega)
  have HIT := Lib.hid hit; clear hit
  have h0 : EachI bx W0 T fF 0 (fun _ => False) W0 := ⟨Chg.refl _ _, (fun b h => h.elim), by omega, by rw [fvs_zero]; exact HX0.out⟩
  have H0 := Lib.hid h0; clear h0
  have HWF := Lib.hid hwf
  have HWH := Lib.hid hw
  have HV0 := Lib.hid hv0
  clear hwf hw hv0 bt hb20 he c2
  gi_wp2_with fail
  refine wpIn_rangeFunc_round (F := Fence.wide) (n := 3) (K := fun x => x < we.heap.size ∨ x = w2.heap.size) (w0 := W0) (N := T.flat.length) (enc := encU T)
    (lb := #[.pointer (some ⟨w2.heap.size, 0, none⟩)]) (gf := 89) rfl (by omega) rfl trivial (enters_of Tryd.func89 (by kernel_rfl) rfl) HIT.out
    (Kept.refl _ _) (Nat.le_refl _) (fun b h => by omega) (fun j => rfl) (EachI bx W0 T fF) (fun _ _ _ _ => False) (EachI.stab _ _ _ _)
    (fun _ _ _ _ _ _ h _ _ => h) H0.out ?round ?done (fun D cd j S A _ h => h.elim)
  case round =>
    intro l' j S A hj hi hS
    have HI := Lib.hid hi; clear hi
    have HSS := Lib.hid hS; clear hS
    obtain ⟨k, hk⟩ : ∃ k, T.flat.length = k + 1 + j := ⟨T.flat.length - 1 - j, by omega⟩
    have hkl : k < T.flat.length := by omega
    obtain ⟨x, hx⟩ : ∃ x, (stk T j).headD 0 = x := ⟨_, rfl⟩
    obtain ⟨nd, hnd⟩ : ∃ nd, T.flat[k] = nd := ⟨_, rfl⟩
    have hmem : nd ∈ T.flat := by rw [← hnd]; exact List.getElem_mem hkl
    have hnr := flat_right T HWF.out nd hmem
    have hstep : fvs T (j + 1) = fvs T j ++ fvG nd x := by
      rw [fvs_step HWF.out hj, hx, ← hnd]
      congr 3
      omega
    have hen : encU T j = #[.int .i64 (k : Int), .int .i64 (x : Int)] := by
      unfold encU
      rw [hx, show T.flat.length - 1 - j = k from by omega]
    rw [hen]
    have hx2 : x ≤ 10000 := by
      rw [← hx]
      cases h : stk T j with
      | nil => simp
      | cons y r => have := stk_bound HWF.out j (by omega) y (by rw [h]; simp); simp only [List.headD_cons]; omega
    have HSTEP := Lib.hid hstep
    have HKK := Lib.hid hk
    clear hen hk hstep hx
    gi_wp2_with fail
    refine ⟨Kept.refl _ _, fun C hC => ?_⟩
    obtain ⟨hch, hSC, hbn, hblk⟩ := EachI.stab _ _ _ _ j S A C S HI.out hC (fun b h => .inl h)
    have HC0 : Hid (Below we.heap.size we C) := HBE0.out.trans (hch.to_below (fun y h => by omega) HBE0.out.size)
    have cT : C.cell? ⟨w.heap.size, 0, none⟩ = some (.slice (some ⟨b, off, none⟩) T.flat.length ct) := hch.cell (by show ¬ _; simp; omega) (HBL1.out.cell 0)
    have cF : C.cell? ⟨w.heap.size + 1, 0, none⟩ = some (.func (.func 73) #[] #[.pointer (some ⟨bx, 0, none⟩)]) := hch.cell (by show ¬ _; simp; omega) (HBL2.out.cell 0)
    obtain ⟨r0, r1, r2, r3⟩ : C.cell? ⟨b, off + k * 4, none⟩ = some (.int .i64 nd.K) ∧ C.cell? ⟨b, off + k * 4 + 1, none⟩ = some (.int .i64 nd.N) ∧ C.cell? ⟨b, off + k * 4 + 2, none⟩ = some (.int .i64 nd.M) ∧ C.cell? ⟨b, off + k * 4 + 3, none⟩ = some (.string nd.S) := by
      have h := HV.out.below HC0.out
      obtain ⟨_, ⟨h0, _⟩ | ⟨b', off', cap', he, _, _, _, hc⟩⟩ := ReadN.cases h
      · rw [h0] at hkl; simp at hkl
      · obtain ⟨⟨rfl, rfl⟩, rfl⟩ : (b = b' ∧ off = off') ∧ ct = cap' := by simpa using he
        have := hc k hkl
        rw [hnd] at this
        exact this
    have hC1 : w.heap.size + 1 < C.heap.size := by have := hch.size; omega
    have hC2 : bx < C.heap.size := by have := hch.size; omega
    have HCH := Lib.hid hch; clear hch
    have HSC := Lib.hid hSC; clear hSC
    have HBLK := Lib.hid hblk; clear hblk
    have HCC := Lib.hid hC; clear hC
    have hkeep : ∀ E, Chg (fun y => y = bx) C E → Kept (fun y => S y ∨ (y < we.heap.size ∨ y = w2.heap.size)) C E := fun E hE => hE.kept fun y h h2 => by
      rcases h with h | h
      · have := HSC.out y h; omega
      · omega
    have HKEEP := Lib.hid hkeep; clear hkeep
    have hnext : ∀ E, Chg (fun y => y = bx) C E → Blk E bx 3 #[.int .i64 ((fvs T (j + 1)).foldl fF 0)] → EachI bx W0 T fF (j + 1) S E := fun E hE hB => ⟨HCH.out.trans (hE.mono fun y _ h => .inl h), HSC.out, hbn, hB⟩
    have HNEXT := Lib.hid hnext; clear hnext
    by_cases hv : nd.K = 0 ∧ (x : Int) ≤ nd.N
    · obtain ⟨hK, hN⟩ := hv
      have hr := var_right hnr hK
      have hN9 : nd.N ≤ 99 := hr.2.2.1
      have hN0 : 0 ≤ nd.N := hr.2.1
      have hbb : (nd.K == 0) = true := by simpa using hK
      have hdd : decide (nd.N ≥ (x : Int)) = true := by simpa using hN
      have hfv : fvG nd x = [nd.N - x] := by unfold fvG; rw [if_pos ⟨hK, hN⟩]
      obtain ⟨N, hNn⟩ : ∃ N, nd.N = N := ⟨_, rfl⟩
      rw [hNn] at r1 hN hN9 hN0 hdd hfv
      have HFV := Lib.hid hfv; clear hfv
      have HBD := Lib.hid (fvs_bound HWF.out fF_ok j (by omega))
      clear hr hnr hnd hmem hNn hK
      have hval : (fvs T (j + 1)).foldl fF 0 = fF ((fvs T j).foldl fF 0) (N - x) := by rw [HSTEP.out, HFV.out, List.foldl_append]; rfl
      have HVAL := Lib.hid hval; clear hval
      gi_wp2_with fail
      have hblA := HBLK.out.alloc (Obj.cells #[Value.int .i64 nd.K, Value.int .i64 N, Value.int .i64 nd.M, Value.string nd.S] 23)
      have HBA := Lib.hid hblA; clear hblA
      refine enterR2 (free1_any (N - x) ((fvs T j).foldl fF 0) bx _ (HBA.out.cell 0) (HBA.out.frozen 0) ⟨by omega, by omega⟩ ⟨HBD.out.1, by have := HBD.out.2; omega⟩) ?_
      rintro e B ⟨⟨u, rfl⟩, hB⟩
      have hE : Chg (fun y => y = bx) C B := by rw [hB]; exact (Chg.alloc (S := fun y => y = bx) C _).trans (Chg.setCell _ _ _ rfl)
      have hBl : Blk B bx 3 #[.int .i64 ((fvs T (j + 1)).foldl fF 0)] := by rw [HVAL.out, hB]; exact HBA.out.set_ 0 _
      have HE := Lib.hid hE; clear hE
      have HBL := Lib.hid hBl; clear hBl hB
      gi_wp2_with fail
      exact ⟨HKEEP.out _ HE.out, HNEXT.out _ HE.out HBL.out⟩
    · have hfv : fvG nd x = [] := by unfold fvG; rw [if_neg hv]
      have HFV := Lib.hid hfv; clear hfv
      have hd : (nd.K == 0) = false ∨ ((nd.K == 0) = true ∧ decide (nd.N ≥ (x : Int)) = false) := by
        by_cases h : nd.K = 0
        · exact .inr ⟨by simpa using h, by simp; omega⟩
        · exact .inl (by simpa using h)
      have hnx : EachI bx W0 T fF (j + 1) S C := ⟨HCH.out, HSC.out, hbn, by rw [HSTEP.out, HFV.out, List.append_nil]; exact HBLK.out⟩
      clear hv hnr hnd hmem
      rcases hd with h1 | ⟨h1, h2⟩
      all_goals
        gi_wp2_with fail
        exact ⟨HKEEP.out _ (Chg.alloc _ _), EachI.stab _ _ _ _ _ S C _ S hnx (Chg.alloc _ _) (fun y h => .inl h)⟩
  case done =>
    intro D S A hi hSD hwD hK
    have hbD : bx ≠ D := by have := hi.2.2.1; omega
    have hst := EachI.stab _ _ _ _ _ S A (A.putObj D (.deferred none)) S hi (Chg.putObj _ _ _ hSD) (fun b h => .inl h)
    have HST := Lib.hid hst; clear hst hi
    gi_wp2_with fail
    refine postM1 hK rfl (results_tmp rfl _ _ _) ⟨by rw [HC.out]; rfl, ⟨_, HST.out.2.2.2, (fun h => absurd HC.out h), fun T' _ h => ?_⟩, ?_⟩
    · have := HWH.out.symm.trans h
      obtain rfl : T = T' := Option.some.inj this
      rfl
    · exact HBE0.out.trans (HST.out.1.to_below (fun y h => by omega) HBE0.out.size)

set_option maxRecDepth 20000 in
set_option maxHeartbeats 4000000 in
theorem each_uses (l : List Nd) (v : Value) (kk : Int) (bk : Nat) (we w : World) (bx : Nat) (hS : ShapesAt we) (hv : ReadN we v l) (hs : SmallN l) (hwe : Below we.heap.size we w) (hbx : we.heap.size ≤ bx) (hb0 : Blk w bx 3 #[.int .i64 0]) (hbk : we.heap.size ≤ bk) (hkx : bk ≠ bx) (hbk0 : Blk w bk 3 #[.int .i64 kk]) :
    Calls Tryd.prog 70 #[v, .func (.func 71) #[] #[.pointer (some ⟨bk, 0, none⟩), .pointer (some ⟨bx, 0, none⟩)]] w (EachPost l (fU kk) bx we) := by
  obtain ⟨at_, ct, rfl⟩ := ReadN.len_slice hv
  have HV := Lib.hid hv; clear hv
  have HS := Lib.hid hS; clear hS
  have HSM := Lib.hid hs; clear hs
  have HB0 := Lib.hid hb0; clear hb0
  have HWE := Lib.hid hwe; clear hwe
  have hws : we.heap.size ≤ w.heap.size := HWE.out.size
  have hbw : bx < w.heap.size := HB0.out.lt
  have HBK := Lib.hid hbk0; clear hbk0
  have hbkw : bk < w.heap.size := HBK.out.lt
  obtain ⟨w1, hw1⟩ : ∃ w1, (w.alloc (.cells #[.slice at_ l.length ct] 30)).alloc (.cells #[.func (.func 71) #[] #[.pointer (some ⟨bk, 0, none⟩), .pointer (some ⟨bx, 0, none⟩)]] 88) = w1 := ⟨_, rfl⟩
  have hbl1 : Blk w1 w.heap.size 30 #[.slice at_ l.length ct] := by rw [← hw1]; exact (Blk.new w _ _).alloc _
  have hbl2 : Blk w1 (w.heap.size + 1) 88 #[.func (.func 71) #[] #[.pointer (some ⟨bk, 0, none⟩), .pointer (some ⟨bx, 0, none⟩)]] := by rw [← hw1]; have := Blk.new (w.alloc (.cells #[.slice at_ l.length ct] 30)) 88 #[.func (.func 71) #[] #[.pointer (some ⟨bk, 0, none⟩), .pointer (some ⟨bx, 0, none⟩)]]; rwa [World.size_alloc] at this
  have hb1 : Below w.heap.size w w1 := by rw [← hw1]; exact ((Below.refl _ w).alloc (Nat.le_refl _) _).alloc (by simp) _
  have HBL1 := Lib.hid hbl1; clear hbl1
  have HBL2 := Lib.hid hbl2; clear hbl2
  have HB1 := Lib.hid hb1; clear hb1
  have c1 : w1.cell? ⟨w.heap.size, 0, none⟩ = some (.slice at_ l.length ct) := HBL1.out.cell 0
  refine callsIn_wide.1 (callsIn_of_wp_marks (n := 3) Tryd.func70 rfl trivial ?_)
  simp only [Tryd.ntmps70, List.size_toArray, List.length_cons, List.length_nil, Nat.reduceAdd, Nat.reduceSub, Array.replicate_succ, Array.replicate_zero, List.push_toArray, List.append_toArray, List.nil_append, List.cons_append]
  gi_wp2_with fail
  have hbe1 : Below we.heap.size we w1 := HWE.out.trans (HB1.out.mono hws)
  have HBE1 := Lib.hid hbe1; clear hbe1
  try rw [hw1]
  refine enterW2 (tcheck_any l _ w1 (HS.out.below HBE1.out) (HV.out.below HBE1.out) HSM.out) ?_
  rintro e w2 ⟨rfl, hb2⟩
  have hs12 := hb2.size
  have h1s : w1.heap.size = w.heap.size + 2 := by rw [← hw1]; simp
  clear hw1
  have HBL1 := Lib.hid (HBL1.out.below hb2 (by omega))
  have HBL2 := Lib.hid (HBL2.out.below hb2 (by omega))
  have HX2 : Hid (Blk w2 bx 3 #[.int .i64 0]) := (HB0.out.below HB1.out hbw).below hb2 (by omega)
  have HBE2 := chainB HBE1 hb2
  have HBK2 : Hid (Blk w2 bk 3 #[.int .i64 kk]) := (HBK.out.below HB1.out hbkw).below hb2 (by omega)
  by_cases hk : chk l = 0
  rotate_left
  · obtain ⟨c, hc⟩ : ∃ c, chk l = c := ⟨_, rfl⟩
    have HC := Lib.hid hc
    rw [hc] at hk ⊢
    have hkb : (c != 0) = true := by simpa using hk
    clear hc c1 hb2
    gi_wp2_with fail
    exact postM0 (results_tmp rfl _ _ _) rfl ⟨by rw [HC.out]; rfl, ⟨0, HX2.out, fun _ => rfl, fun T h => absurd (HC.out.symm.trans h) hk⟩, HBE2.out⟩
  obtain ⟨hle, T, hw, _⟩ := chk_ok hk
  obtain ⟨hwf, hfl⟩ := whole_some hw
  have c2 : w2.cell? ⟨w.heap.size, 0, none⟩ = some (.slice at_ l.length ct) := HBL1.out.cell 0
  rw [hk]
  have HC := Lib.hid hk; clear hk
  clear c1 hb2
  gi_wp2_with fail
  refine enterW2 (nodesf_any _ _ _ _) ?_
  rintro e W6 ⟨rfl, rfl⟩
  obtain ⟨W0, hW0⟩ : ∃ W0, w2.alloc (.cells #[.slice at_ l.length ct] 30) = W0 := ⟨_, rfl⟩
  have hs0 : W0.heap.size = w2.heap.size + 1 := by rw [← hW0]; simp
  have bt : Blk W0 w2.heap.size 30 #[.slice at_ l.length ct] := by rw [← hW0]; exact Blk.new _ _ _
  have hb20 : Below w2.heap.size w2 W0 := by rw [← hW0]; exact (Below.refl _ _).alloc (Nat.le_refl _) _
  rw [hW0]
  clear hW0
  have HBE0 := chainB HBE2 hb20
  have HBL1 := Lib.hid (HBL1.out.below hb20 (by omega))
  have HBL2 := Lib.hid (HBL2.out.below hb20 (by omega))
  have HX0 : Hid (Blk W0 bx 3 #[.int .i64 0]) := HX2.out.below hb20 (by omega)
  have HBK0 : Hid (Blk W0 bk 3 #[.int .i64 kk]) := HBK2.out.below hb20 (by omega)
  have hv0 := HV.out.below HBE0.out
  subst hfl
  obtain ⟨b, off, cap, he, _, _, _, _⟩ := RowAt.pos HV.out (flat_pos T)
  obtain ⟨rfl, rfl⟩ : at_ = some ⟨b, off, none⟩ ∧ ct = cap := by simpa using he
  have hbwe : b < we.heap.size := by
    obtain ⟨b', off', cap', he', _, _, hlt, _⟩ := RowAt.pos HV.out (flat_pos T)
    have : b = b' := by simp at he'; exact he'.1.1
    omega
  have hit := nodes_iter 2 T hwf hle HSM.out b off ct w2.heap.size (fun x => x < we.heap.size ∨ x = w2.heap.size) we W0 HS.out ⟨HBE0.out.size, fun x h1 _ => HBE0.out.block x h1⟩ (by rw [bt.cell 0]; rfl) hv0 (.inr rfl) (.inl hbwe) (fun x h => .inl h) (fun x h => by omega)
  have HIT := Lib.hid hit; clear hit
  have h0 : EachI bx W0 T (fU kk) 0 (fun _ => False) W0 := ⟨Chg.refl _ _, (fun b h => h.elim), by omega, by rw [fvs_zero]; exact HX0.out⟩
  have H0 := Lib.hid h0; clear h0
  have HWF := Lib.hid hwf
  have HWH := Lib.hid hw
  have HV0 := Lib.hid hv0
  clear hwf hw hv0 bt hb20 he c2
  gi_wp2_with fail
  refine wpIn_rangeFunc_round (F := Fence.wide) (n := 3) (K := fun x => x < we.heap.size ∨ x = w2.heap.size) (w0 := W0) (N := T.flat.length) (enc := encU T)
    (lb := #[.pointer (some ⟨w2.heap.size, 0, none⟩)]) (gf := 89) rfl (by omega) rfl trivial (enters_of Tryd.func89 (by kernel_rfl) rfl) HIT.out
    (Kept.refl _ _) (Nat.le_refl _) (fun b h => by omega) (fun j => rfl) (EachI bx W0 T (fU kk)) (fun _ _ _ _ => False) (EachI.stab _ _ _ _)
    (fun _ _ _ _ _ _ h _ _ => h) H0.out ?round ?done (fun D cd j S A _ h => h.elim)
  case round =>
    intro l' j S A hj hi hS
    have HI := Lib.hid hi; clear hi
    have HSS := Lib.hid hS; clear hS
    obtain ⟨k, hk⟩ : ∃ k, T.flat.length = k + 1 + j := ⟨T.flat.length - 1 - j, by omega⟩
    have hkl : k < T.flat.length := by omega
    obtain ⟨x, hx⟩ : ∃ x, (stk T j).headD 0 = x := ⟨_, rfl⟩
    obtain ⟨nd, hnd⟩ : ∃ nd, T.flat[k] = nd := ⟨_, rfl⟩
    have hmem : nd ∈ T.flat := by rw [← hnd]; exact List.getElem_mem hkl
    have hnr := flat_right T HWF.out nd hmem
    have hstep : fvs T (j + 1) = fvs T j ++ fvG nd x := by
      rw [fvs_step HWF.out hj, hx, ← hnd]
      congr 3
      omega
    have hen : encU T j = #[.int .i64 (k : Int), .int .i64 (x : Int)] := by
      unfold encU
      rw [hx, show T.flat.length - 1 - j = k from by omega]
    rw [hen]
    have hx2 : x ≤ 10000 := by
      rw [← hx]
      cases h : stk T j with
      | nil => simp
      | cons y r => have := stk_bound HWF.out j (by omega) y (by rw [h]; simp); simp only [List.headD_cons]; omega
    have HSTEP := Lib.hid hstep
    have HKK := Lib.hid hk
    clear hen hk hstep hx
    gi_wp2_with fail
    refine ⟨Kept.refl _ _, fun C hC => ?_⟩
    obtain ⟨hch, hSC, hbn, hblk⟩ := EachI.stab _ _ _ _ j S A C S HI.out hC (fun b h => .inl h)
    have HC0 : Hid (Below we.heap.size we C) := HBE0.out.trans (hch.to_below (fun y h => by omega) HBE0.out.size)
    have cT : C.cell? ⟨w.heap.size, 0, none⟩ = some (.slice (some ⟨b, off, none⟩) T.flat.length ct) := hch.cell (by show ¬ _; simp; omega) (HBL1.out.cell 0)
    have cF : C.cell? ⟨w.heap.size + 1, 0, none⟩ = some (.func (.func 71) #[] #[.pointer (some ⟨bk, 0, none⟩), .pointer (some ⟨bx, 0, none⟩)]) := hch.cell (by show ¬ _; simp; omega) (HBL2.out.cell 0)
    obtain ⟨r0, r1, r2, r3⟩ : C.cell? ⟨b, off + k * 4, none⟩ = some (.int .i64 nd.K) ∧ C.cell? ⟨b, off + k * 4 + 1, none⟩ = some (.int .i64 nd.N) ∧ C.cell? ⟨b, off + k * 4 + 2, none⟩ = some (.int .i64 nd.M) ∧ C.cell? ⟨b, off + k * 4 + 3, none⟩ = some (.string nd.S) := by
      have h := HV.out.below HC0.out
      obtain ⟨_, ⟨h0, _⟩ | ⟨b', off', cap', he, _, _, _, hc⟩⟩ := ReadN.cases h
      · rw [h0] at hkl; simp at hkl
      · obtain ⟨⟨rfl, rfl⟩, rfl⟩ : (b = b' ∧ off = off') ∧ ct = cap' := by simpa using he
        have := hc k hkl
        rw [hnd] at this
        exact this
    have hC1 : w.heap.size + 1 < C.heap.size := by have := hch.size; omega
    have hC2 : bx < C.heap.size := by have := hch.size; omega
    have HCH := Lib.hid hch; clear hch
    have HSC := Lib.hid hSC; clear hSC
    have HBLK := Lib.hid hblk; clear hblk
    have HCC := Lib.hid hC; clear hC
    have HBKC : Hid (Blk C bk 3 #[.int .i64 kk]) := HBK0.out.stab (S := fun y => y = bx ∨ W0.heap.size ≤ y) (by show ¬ _; omega) HCH.out
    have hkeep : ∀ E, Chg (fun y => y = bx) C E → Kept (fun y => S y ∨ (y < we.heap.size ∨ y = w2.heap.size)) C E := fun E hE => hE.kept fun y h h2 => by
      rcases h with h | h
      · have := HSC.out y h; omega
      · omega
    have HKEEP := Lib.hid hkeep; clear hkeep
    have hnext : ∀ E, Chg (fun y => y = bx) C E → Blk E bx 3 #[.int .i64 ((fvs T (j + 1)).foldl (fU kk) 0)] → EachI bx W0 T (fU kk) (j + 1) S E := fun E hE hB => ⟨HCH.out.trans (hE.mono fun y _ h => .inl h), HSC.out, hbn, hB⟩
    have HNEXT := Lib.hid hnext; clear hnext
    by_cases hv : nd.K = 0 ∧ (x : Int) ≤ nd.N
    · obtain ⟨hK, hN⟩ := hv
      have hr := var_right hnr hK
      have hN9 : nd.N ≤ 99 := hr.2.2.1
      have hN0 : 0 ≤ nd.N := hr.2.1
      have hbb : (nd.K == 0) = true := by simpa using hK
      have hdd : decide (nd.N ≥ (x : Int)) = true := by simpa using hN
      have hfv : fvG nd x = [nd.N - x] := by unfold fvG; rw [if_pos ⟨hK, hN⟩]
      obtain ⟨N, hNn⟩ : ∃ N, nd.N = N := ⟨_, rfl⟩
      rw [hNn] at r1 hN hN9 hN0 hdd hfv
      have HFV := Lib.hid hfv; clear hfv
      have HBD := Lib.hid (fvs_bound HWF.out (fU_ok kk) j (by omega))
      clear hr hnr hnd hmem hNn hK
      have hval : (fvs T (j + 1)).foldl (fU kk) 0 = (fU kk) ((fvs T j).foldl (fU kk) 0) (N - x) := by rw [HSTEP.out, HFV.out, List.foldl_append]; rfl
      have HVAL := Lib.hid hval; clear hval
      gi_wp2_with fail
      have hblA := HBLK.out.alloc (Obj.cells #[Value.int .i64 nd.K, Value.int .i64 N, Value.int .i64 nd.M, Value.string nd.S] 23)
      have HBA := Lib.hid hblA; clear hblA
      refine enterR2 (uses1_any (N - x) kk ((fvs T j).foldl (fU kk) 0) bk bx _ (HBA.out.cell 0) (HBA.out.frozen 0) ((HBKC.out.alloc _).cell 0) ⟨HBD.out.1, by have := HBD.out.2; omega⟩) ?_
      rintro e B ⟨⟨u, rfl⟩, hB⟩
      have hE : Chg (fun y => y = bx) C B := by
        rw [hB]
        split
        · exact (Chg.alloc (S := fun y => y = bx) C _).trans (Chg.setCell _ _ _ rfl)
        · exact Chg.alloc C _
      have hBl : Blk B bx 3 #[.int .i64 ((fvs T (j + 1)).foldl (fU kk) 0)] := by
        rw [HVAL.out, hB, fU]
        by_cases hq : N - x = kk
        · rw [if_pos hq, if_pos hq]; exact HBA.out.set_ 0 _
        · rw [if_neg hq, if_neg hq]; exact HBA.out
      have HE := Lib.hid hE; clear hE
      have HBL := Lib.hid hBl; clear hBl hB
      gi_wp2_with fail
      exact ⟨HKEEP.out _ HE.out, HNEXT.out _ HE.out HBL.out⟩
    · have hfv : fvG nd x = [] := by unfold fvG; rw [if_neg hv]
      have HFV := Lib.hid hfv; clear hfv
      have hd : (nd.K == 0) = false ∨ ((nd.K == 0) = true ∧ decide (nd.N ≥ (x : Int)) = false) := by
        by_cases h : nd.K = 0
        · exact .inr ⟨by simpa using h, by simp; omega⟩
        · exact .inl (by simpa using h)
      have hnx : EachI bx W0 T (fU kk) (j + 1) S C := ⟨HCH.out, HSC.out, hbn, by rw [HSTEP.out, HFV.out, List.append_nil]; exact HBLK.out⟩
      clear hv hnr hnd hmem
      rcases hd with h1 | ⟨h1, h2⟩
      all_goals
        gi_wp2_with fail
        exact ⟨HKEEP.out _ (Chg.alloc _ _), EachI.stab _ _ _ _ _ S C _ S hnx (Chg.alloc _ _) (fun y h => .inl h)⟩
  case done =>
    intro D S A hi hSD hwD hK
    have hbD : bx ≠ D := by have := hi.2.2.1; omega
    have hst := EachI.stab _ _ _ _ _ S A (A.putObj D (.deferred none)) S hi (Chg.putObj _ _ _ hSD) (fun b h => .inl h)
    have HST := Lib.hid hst; clear hst hi
    gi_wp2_with fail
    refine postM1 hK rfl (results_tmp rfl _ _ _) ⟨by rw [HC.out]; rfl, ⟨_, HST.out.2.2.2, (fun h => absurd HC.out h), fun T' _ h => ?_⟩, ?_⟩
    · have := HWH.out.symm.trans h
      obtain rfl : T = T' := Option.some.inj this
      rfl
    · exact HBE0.out.trans (HST.out.1.to_below (fun y h => by omega) HBE0.out.size)

end Go.Proofs.YtjhgpifccleknaaDoor
