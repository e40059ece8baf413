/- shift.each, its two bodies, shift.Free, Uses, Has: what they come to. shift.Free, Uses, Has, and chapter 3's heavy and shown: what they come to. Plain: how often a variable is used is how often it is in the parts, seen from there; Free is above each one that is. No function of the program is named here. A region that draws its order, whose calls make memory, and whose operations read cells that lay before: walked once, in the class of worlds that leave what lay below as it was; a fact on each such world is a fact on 'x.w'. No function of the program is named here. A region that draws its order, walked once inside a round of a range over a function: the kit's fenced quiet law without 'no round', for operations that are no defer statements. No function of the program is named here. shift.clamp, the reference's Clamp, and what a shift is said to come to. -/
import Derived.Test.YteldkcpkamgfpaaDoorPt
import Derived.Test.YteldkcpkamgfpaaDoorTr
import Derived.Test.YteldkcpkamgfpaaDoorGr
import Derived.Test.YteldkcpkamgfpaaDoorBa
import Derived.Test.YteldkcpkamgfpaaDoorBw
import Derived.BigQuiet
import Derived.Deep.QuietTactic
import Derived.OwnWalkIn
import Derived.Sort.BigQuietIn
namespace Go.Proofs.YteldkcpkamgfpaaDoor
set_option linter.unusedSimpArgs false
set_option linter.unusedVariables false
open Go.RowKit
attribute [local go_sem] Oper.semAt_some

/-- the free variable that a node is, seen from under u binders -/
def fvG (n : Nd) (u : Nat) : List Int := if n.K = 0 ∧ (u : Int) ≤ n.N then [n.N - u] else []
/-- the free variables of a term under u binders, in the nodes' order -/
def Tm.fv (T : Tm) (u : Nat) : List Int := (T.zw fvG u).flatten
/-- those of the last j nodes, the last one first -/
def fvs (T : Tm) (j : Nat) : List Int := ((T.zw fvG 0).reverse.take j).flatten
theorem fvs_zero (T : Tm) : fvs T 0 = [] := rfl
theorem fvs_all (T : Tm) : fvs T T.flat.length = (T.zw fvG 0).reverse.flatten := by
  unfold fvs
  rw [List.take_of_length_le (by simp [zw_length])]
theorem fvs_step {T : Tm} (hw : T.wf = true) {j : Nat} (hj : j < T.flat.length) : fvs T (j + 1) = fvs T j ++ fvG (T.flat[T.flat.length - 1 - j]) ((stk T j).headD 0) := by
  unfold fvs
  have hl : (T.zw fvG 0).length = T.flat.length := zw_length _ _ _
  have h : (T.zw fvG 0).reverse[j]? = some (fvG (T.flat[T.flat.length - 1 - j]) ((stk T j).headD 0)) := by
    rw [List.getElem?_reverse (by omega), hl]
    unfold Tm.zw
    have h1 := und_get hw hj
    have h2 : T.flat[T.flat.length - 1 - j]? = some (T.flat[T.flat.length - 1 - j]) := List.getElem?_eq_getElem (by omega)
    rw [List.getElem?_zipWith, h1, h2]
  rw [List.take_add_one, h, List.flatten_append]
  simp
theorem fvG_mem {n : Nd} {u : Nat} (hr : rightB n = true) : ∀ x, x ∈ fvG n u → 0 ≤ x ∧ x ≤ 99 := by
  intro x hx
  unfold fvG at hx
  split at hx
  · rename_i h
    have := var_right hr h.1
    simp at hx
    omega
  · cases hx




set_option maxHeartbeats 1000000 in
theorem free1_any (x acc : Int) (bx : Nat) (A : World) (h0 : A.cell? ⟨bx, 0, none⟩ = some (.int .i64 acc)) (h1 : A.frozen? ⟨bx, 0, none⟩ = false) (hx : 0 ≤ x ∧ x ≤ 99) (ha : 0 ≤ acc ∧ acc ≤ 10000) :
    Calls Tryd.prog 88 #[.int .i64 x, .pointer (some ⟨bx, 0, none⟩)] A fun e B => (∃ u, e = .returned u) ∧ B = A.setCell ⟨bx, 0, none⟩ (.int .i64 (max acc (x + 1))) := by
  go_enter Tryd.func88, Tryd.ntmps88
  go_wp2_with fail
  all_goals
    go_end0
    refine ⟨⟨_, rfl⟩, ?_⟩
    congr 2
    omega

theorem nodesf_any (a : Option Addr) (n c : Nat) (w : World) :
    Calls Tryd.prog 95 #[.slice a n c] w fun e w' =>
      e = .returned (.func (.func 96) #[] #[.pointer (some ⟨w.heap.size, 0, none⟩)]) ∧ w' = w.alloc (.cells #[.slice a n c] 22) := by
  go_enter Tryd.func95, Tryd.ntmps95
  go_wp2
  go_ret
  exact ⟨rfl, rfl⟩

def fF (acc x : Int) : Int := max acc (x + 1)
def fU (k acc x : Int) : Int := if x = k then acc + 1 else acc
theorem fold_bound {f : Int → Int → Int} (hf : ∀ acc x, 0 ≤ acc → 0 ≤ x → x ≤ 99 → 0 ≤ f acc x ∧ f acc x ≤ max (acc + 1) 100) (L : List Int) (h : ∀ x, x ∈ L → 0 ≤ x ∧ x ≤ 99) : ∀ (acc : Int) (m : Nat), 0 ≤ acc → acc ≤ 100 + m → 0 ≤ L.foldl f acc ∧ L.foldl f acc ≤ 100 + m + L.length := by
  induction L with
  | nil => intro acc m h1 h2; simp; omega
  | cons x r ih =>
    intro acc m h1 h2
    have hx := h x (by simp)
    have h3 := hf acc x h1 hx.1 hx.2
    have := ih (fun y hy => h y (by simp [hy])) (f acc x) (m + 1) h3.1 (by omega)
    simp only [List.foldl_cons, List.length_cons]
    omega
theorem fF_ok (acc x : Int) (h1 : 0 ≤ acc) (h2 : 0 ≤ x) (h3 : x ≤ 99) : 0 ≤ fF acc x ∧ fF acc x ≤ max (acc + 1) 100 := by unfold fF; omega
theorem fU_ok (k acc x : Int) (h1 : 0 ≤ acc) (h2 : 0 ≤ x) (h3 : x ≤ 99) : 0 ≤ fU k acc x ∧ fU k acc x ≤ max (acc + 1) 100 := by unfold fU; split <;> omega
theorem fvG_len (n : Nd) (u : Nat) : (fvG n u).length ≤ 1 := by unfold fvG; split <;> simp
theorem fvs_facts {T : Tm} (hw : T.wf = true) : ∀ j, j ≤ T.flat.length → (fvs T j).length ≤ j ∧ ∀ x, x ∈ fvs T j → 0 ≤ x ∧ x ≤ 99 := by
  intro j
  induction j with
  | zero => intro _; simp [fvs_zero]
  | succ j ih =>
    intro hj
    rw [fvs_step hw (by omega)]
    obtain ⟨h1, h2⟩ := ih (by omega)
    refine ⟨?_, fun x hx => ?_⟩
    · rw [List.length_append]
      have := fvG_len (T.flat[T.flat.length - 1 - j]) ((stk T j).headD 0)
      omega
    · rcases List.mem_append.1 hx with hx | hx
      · exact h2 x hx
      · exact fvG_mem (flat_right T hw _ (List.getElem_mem (by omega))) x hx
theorem fvs_bound {T : Tm} (hw : T.wf = true) {f : Int → Int → Int} (hf : ∀ acc x, 0 ≤ acc → 0 ≤ x → x ≤ 99 → 0 ≤ f acc x ∧ f acc x ≤ max (acc + 1) 100) (j : Nat) (hj : j ≤ T.flat.length) : 0 ≤ (fvs T j).foldl f 0 ∧ (fvs T j).foldl f 0 ≤ 100 + j := by
  obtain ⟨h1, h2⟩ := fvs_facts hw j hj
  have := fold_bound hf (fvs T j) h2 0 0 (by omega) (by omega)
  omega

/-- what the loop of shift.each holds -/
def EachI (bx : Nat) (W : World) (T : Tm) (f : Int → Int → Int) (j : Nat) (S : Bset) (A : World) : Prop :=
  Chg (fun b => b = bx ∨ W.heap.size ≤ b) W A ∧ (∀ b, S b → W.heap.size ≤ b) ∧ bx < W.heap.size ∧ Blk A bx 3 #[.int .i64 ((fvs T j).foldl f 0)]
theorem EachI.stab (bx : Nat) (W : World) (T : Tm) (f : Int → Int → Int) : Stab (EachI bx W T f) := by
  intro j S A B S' ⟨h1, h2, h3, h4⟩ hc hs
  refine ⟨h1.trans (hc.mono fun b _ h => .inr (h2 b h)), fun b h => ?_, h3, h4.stab (fun h => by have := h2 _ h; omega) hc⟩
  rcases hs b h with h | h
  · exact h2 b h
  · have := h1.size; omega

/-- what shift.each leaves in the box that its body writes -/
def EachPost (l : List Nd) (f : Int → Int → Int) (bx : Nat) (we : World) (e : Ending) (w' : World) : Prop :=
  e = .returned (.int .i64 (chk l)) ∧ (∃ acc, Blk w' bx 3 #[.int .i64 acc] ∧ (chk l ≠ 0 → acc = 0) ∧ ∀ T, chk l = 0 → whole l = some T → acc = (fvs T T.flat.length).foldl f 0) ∧ Below we.heap.size we w'

theorem chainB {we a b : World} (h : Hid (Below we.heap.size we a)) (hb : Below a.heap.size a b) : Hid (Below we.heap.size we b) := h.out.trans (hb.mono h.out.size)

set_option maxRecDepth 20000 in
set_option maxHeartbeats 4000000 in
theorem each_free (l : List Nd) (v : Value) (we w : World) (bx : Nat) (hS : ShapesAt we) (hv : ReadN we v l) (hs : SmallN l) (hwe : Below we.heap.size we w) (hbx : we.heap.size ≤ bx) (hb0 : Blk w bx 3 #[.int .i64 0]) :
    Calls Tryd.prog 87 #[v, .func (.func 88) #[] #[.pointer (some ⟨bx, 0, none⟩)]] w (EachPost l fF bx we) := by
  obtain ⟨at_, ct, rfl⟩ := ReadN.len_slice hv
  have HV := Lib.hid hv; clear hv
  have HS := Lib.hid hS; clear hS
  have HSM := Lib.hid hs; clear hs
  have HB0 := Lib.hid hb0; clear hb0
  have HWE := Lib.hid hwe; clear hwe
  have hws : we.heap.size ≤ w.heap.size := HWE.out.size
  have hbw : bx < w.heap.size := HB0.out.lt
  obtain ⟨w1, hw1⟩ : ∃ w1, (w.alloc (.cells #[.slice at_ l.length ct] 22)).alloc (.cells #[.func (.func 88) #[] #[.pointer (some ⟨bx, 0, none⟩)]] 120) = w1 := ⟨_, rfl⟩
  have hbl1 : Blk w1 w.heap.size 22 #[.slice at_ l.length ct] := by rw [← hw1]; exact (Blk.new w _ _).alloc _
  have hbl2 : Blk w1 (w.heap.size + 1) 120 #[.func (.func 88) #[] #[.pointer (some ⟨bx, 0, none⟩)]] := by rw [← hw1]; have := Blk.new (w.alloc (.cells #[.slice at_ l.length ct] 22)) 120 #[.func (.func 88) #[] #[.pointer (some ⟨bx, 0, none⟩)]]; rwa [World.size_alloc] at this
  have hb1 : Below w.heap.size w w1 := by rw [← hw1]; exact ((Below.refl _ w).alloc (Nat.le_refl _) _).alloc (by simp) _
  have HBL1 := Lib.hid hbl1; clear hbl1
  have HBL2 := Lib.hid hbl2; clear hbl2
  have HB1 := Lib.hid hb1; clear hb1
  have c1 : w1.cell? ⟨w.heap.size, 0, none⟩ = some (.slice at_ l.length ct) := HBL1.out.cell 0
  refine callsIn_wide.1 (callsIn_of_wp_marks (n := 3) Tryd.func87 rfl trivial ?_)
  simp only [Tryd.ntmps87, List.size_toArray, List.length_cons, List.length_nil, Nat.reduceAdd, Nat.reduceSub, Array.replicate_succ, Array.replicate_zero, List.push_toArray, List.append_toArray, List.nil_append, List.cons_append]
  gi_wp2_with fail
  have hbe1 : Below we.heap.size we w1 := HWE.out.trans (HB1.out.mono hws)
  have HBE1 := Lib.hid hbe1; clear hbe1
  try rw [hw1]
  refine enterW2 (tcheck_any l _ w1 (HS.out.below HBE1.out) (HV.out.below HBE1.out) HSM.out) ?_
  rintro e w2 ⟨rfl, hb2⟩
  have hs12 := hb2.size
  have h1s : w1.heap.size = w.heap.size + 2 := by rw [← hw1]; simp
  clear hw1
  have HBL1 := Lib.hid (HBL1.out.below hb2 (by omega))
  have HBL2 := Lib.hid (HBL2.out.below hb2 (by omega))
  have HX2 : Hid (Blk w2 bx 3 #[.int .i64 0]) := (HB0.out.below HB1.out hbw).below hb2 (by omega)
  have HBE2 := chainB HBE1 hb2
  by_cases hk : chk l = 0
  rotate_left
  · obtain ⟨c, hc⟩ : ∃ c, chk l = c := ⟨_, rfl⟩
    have HC := Lib.hid hc
    rw [hc] at hk ⊢
    have hkb : (c != 0) = true := by simpa using hk
    clear hc c1 hb2
    gi_wp2_with fail
    exact postM0 (results_tmp rfl _ _ _) rfl ⟨by rw [HC.out]; rfl, ⟨0, HX2.out, fun _ => rfl, fun T h => absurd (HC.out.symm.trans h) hk⟩, HBE2.out⟩
  obtain ⟨hle, T, hw, _⟩ := chk_ok hk
  obtain ⟨hwf, hfl⟩ := whole_some hw
  have c2 : w2.cell? ⟨w.heap.size, 0, none⟩ = some (.slice at_ l.length ct) := HBL1.out.cell 0
  rw [hk]
  have HC := Lib.hid hk; clear hk
  clear c1 hb2
  gi_wp2_with fail
  refine enterW2 (nodesf_any _ _ _ _) ?_
  rintro e W6 ⟨rfl, rfl⟩
  obtain ⟨W0, hW0⟩ : ∃ W0, w2.alloc (.cells #[.slice at_ l.length ct] 22) = W0 := ⟨_, rfl⟩
  have hs0 : W0.heap.size = w2.heap.size + 1 := by rw [← hW0]; simp
  have bt : Blk W0 w2.heap.size 22 #[.slice at_ l.length ct] := by rw [← hW0]; exact Blk.new _ _ _
  have hb20 : Below w2.heap.size w2 W0 := by rw [← hW0]; exact (Below.refl _ _).alloc (Nat.le_refl _) _
  rw [hW0]
  clear hW0
  have HBE0 := chainB HBE2 hb20
  have HBL1 := Lib.hid (HBL1.out.below hb20 (by omega))
  have HBL2 := Lib.hid (HBL2.out.below hb20 (by omega))
  have HX0 : Hid (Blk W0 bx 3 #[.int .i64 0]) := HX2.out.below hb20 (by omega)
  have hv0 := HV.out.below HBE0.out
  subst hfl
  obtain ⟨b, off, cap, he, _, _, _, _⟩ := RowAt.pos HV.out (flat_pos T)
  obtain ⟨rfl, rfl⟩ : at_ = some ⟨b, off, none⟩ ∧ ct = cap := by simpa using he
  have hbwe : b < we.heap.size := by
    obtain ⟨b', off', cap', he', _, _, hlt, _⟩ := RowAt.pos HV.out (flat_pos T)
    have : b = b' := by simp at he'; exact he'.1.1
    omega
  have hit := nodes_iter 2 T hwf hle HSM.out b off ct w2.heap.size (fun x => x < we.heap.size ∨ x = w2.heap.size) we W0 HS.out ⟨HBE0.out.size, fun x h1 _ => HBE0.out.block x h1⟩ (by rw [bt.cell 0]; rfl) hv0 (.inr rfl) (.inl hbwe) (fun x h => .inl h) (fun x h => by omega)
  have HIT := Lib.hid hit; clear hit
  have h0 : EachI bx W0 T fF 0 (fun _ => False) W0 := ⟨Chg.refl _ _, (fun b h => h.elim), by omega, by rw [fvs_zero]; exact HX0.out⟩
  have H0 := Lib.hid h0; clear h0
  have HWF := Lib.hid hwf
  have HWH := Lib.hid hw
  have HV0 := Lib.hid hv0
  clear hwf hw hv0 bt hb20 he c2
  gi_wp2_with fail
  refine wpIn_rangeFunc_round (F := Fence.wide) (n := 3) (K := fun x => x < we.heap.size ∨ x = w2.heap.size) (w0 := W0) (N := T.flat.length) (enc := encU T)
    (lb := #[.pointer (some ⟨w2.heap.size, 0, none⟩)]) (gf := 96) rfl (by omega) rfl trivial (enters_of Tryd.func96 (by kernel_rfl) rfl) HIT.out
    (Kept.refl _ _) (Nat.le_refl _) (fun b h => by omega) (fun j => rfl) (EachI bx W0 T fF) (fun _ _ _ _ => False) (EachI.stab _ _ _ _)
    (fun _ _ _ _ _ _ h _ _ => h) H0.out ?round ?done (fun D cd j S A _ h => h.elim)
  case round =>
    intro l' j S A hj hi hS
    have HI := Lib.hid hi; clear hi
    have HSS := Lib.hid hS; clear hS
    obtain ⟨k, hk⟩ : ∃ k, T.flat.length = k + 1 + j := ⟨T.flat.length - 1 - j, by omega⟩
    have hkl : k < T.flat.length := by omega
    obtain ⟨x, hx⟩ : ∃ x, (stk T j).headD 0 = x := ⟨_, rfl⟩
    obtain ⟨nd, hnd⟩ : ∃ nd, T.flat[k] = nd := ⟨_, rfl⟩
    have hmem : nd ∈ T.flat := by rw [← hnd]; exact List.getElem_mem hkl
    have hnr := flat_right T HWF.out nd hmem
    have hstep : fvs T (j + 1) = fvs T j ++ fvG nd x := by
      rw [fvs_step HWF.out hj, hx, ← hnd]
      congr 3
      omega
    have hen : encU T j = #[.int .i64 (k : Int), .int .i64 (x : Int)] := by
      unfold encU
      rw [hx, show T.flat.length - 1 - j = k from by omega]
    rw [hen]
    have hx2 : x ≤ 10000 := by
      rw [← hx]
      cases h : stk T j with
      | nil => simp
      | cons y r => have := stk_bound HWF.out j (by omega) y (by rw [h]; simp); simp only [List.headD_cons]; omega
    have HSTEP := Lib.hid hstep
    have HKK := Lib.hid hk
    clear hen hk hstep hx
    gi_wp2_with fail
    refine ⟨Kept.refl _ _, fun C hC => ?_⟩
    obtain ⟨hch, hSC, hbn, hblk⟩ := EachI.stab _ _ _ _ j S A C S HI.out hC (fun b h => .inl h)
    have HC0 : Hid (Below we.heap.size we C) := HBE0.out.trans (hch.to_below (fun y h => by omega) HBE0.out.size)
    have cT : C.cell? ⟨w.heap.size, 0, none⟩ = some (.slice (some ⟨b, off, none⟩) T.flat.length ct) := hch.cell (by show ¬ _; simp; omega) (HBL1.out.cell 0)
    have cF : C.cell? ⟨w.heap.size + 1, 0, none⟩ = some (.func (.func 88) #[] #[.pointer (some ⟨bx, 0, none⟩)]) := hch.cell (by show ¬ _; simp; omega) (HBL2.out.cell 0)
    obtain ⟨r0, r1, r2, r3⟩ : C.cell? ⟨b, off + k * 4, none⟩ = some (.int .i64 nd.K) ∧ C.cell? ⟨b, off + k * 4 + 1, none⟩ = some (.int .i64 nd.N) ∧ C.cell? ⟨b, off + k * 4 + 2, none⟩ = some (.int .i64 nd.M) ∧ C.cell? ⟨b, off + k * 4 + 3, none⟩ = some (.string nd.S) := by
      have h := HV.out.below HC0.out
      obtain ⟨_, ⟨h0, _⟩ | ⟨b', off', cap', he, _, _, _, hc⟩⟩ := ReadN.cases h
      · rw [h0] at hkl; simp at hkl
      · obtain ⟨⟨rfl, rfl⟩, rfl⟩ : (b = b' ∧ off = off') ∧ ct = cap' := by simpa using he
        have := hc k hkl
        rw [hnd] at this
        exact this
    have hC1 : w.heap.size + 1 < C.heap.size := by have := hch.size; omega
    have hC2 : bx < C.heap.size := by have := hch.size; omega
    have HCH := Lib.hid hch; clear hch
    have HSC := Lib.hid hSC; clear hSC
    have HBLK := Lib.hid hblk; clear hblk
    have HCC := Lib.hid hC; clear hC
    have hkeep : ∀ E, Chg (fun y => y = bx) C E → Kept (fun y => S y ∨ (y < we.heap.size ∨ y = w2.heap.size)) C E := fun E hE => hE.kept fun y h h2 => by
      rcases h with h | h
      · have := HSC.out y h; omega
      · omega
    have HKEEP := Lib.hid hkeep; clear hkeep
    have hnext : ∀ E, Chg (fun y => y = bx) C E → Blk E bx 3 #[.int .i64 ((fvs T (j + 1)).foldl fF 0)] → EachI bx W0 T fF (j + 1) S E := fun E hE hB => ⟨HCH.out.trans (hE.mono fun y _ h => .inl h), HSC.out, hbn, hB⟩
    have HNEXT := Lib.hid hnext; clear hnext
    by_cases hv : nd.K = 0 ∧ (x : Int) ≤ nd.N
    · obtain ⟨hK, hN⟩ := hv
      have hr := var_right hnr hK
      have hN9 : nd.N ≤ 99 := hr.2.2.1
      have hN0 : 0 ≤ nd.N := hr.2.1
      have hbb : (nd.K == 0) = true := by simpa using hK
      have hdd : decide (nd.N ≥ (x : Int)) = true := by simpa using hN
      have hfv : fvG nd x = [nd.N - x] := by unfold fvG; rw [if_pos ⟨hK, hN⟩]
      obtain ⟨N, hNn⟩ : ∃ N, nd.N = N := ⟨_, rfl⟩
      rw [hNn] at r1 hN hN9 hN0 hdd hfv
      have HFV := Lib.hid hfv; clear hfv
      have HBD := Lib.hid (fvs_bound HWF.out fF_ok j (by omega))
      clear hr hnr hnd hmem hNn hK
      have hval : (fvs T (j + 1)).foldl fF 0 = fF ((fvs T j).foldl fF 0) (N - x) := by rw [HSTEP.out, HFV.out, List.foldl_append]; rfl
      have HVAL := Lib.hid hval; clear hval
      gi_wp2_with fail
      have hblA := HBLK.out.alloc (Obj.cells #[Value.int .i64 nd.K, Value.int .i64 N, Value.int .i64 nd.M, Value.string nd.S] 30)
      have HBA := Lib.hid hblA; clear hblA
      refine enterR2 (free1_any (N - x) ((fvs T j).foldl fF 0) bx _ (HBA.out.cell 0) (HBA.out.frozen 0) ⟨by omega, by omega⟩ ⟨HBD.out.1, by have := HBD.out.2; omega⟩) ?_
      rintro e B ⟨⟨u, rfl⟩, hB⟩
      have hE : Chg (fun y => y = bx) C B := by rw [hB]; exact (Chg.alloc (S := fun y => y = bx) C _).trans (Chg.setCell _ _ _ rfl)
      have hBl : Blk B bx 3 #[.int .i64 ((fvs T (j + 1)).foldl fF 0)] := by rw [HVAL.out, hB]; exact HBA.out.set_ 0 _
      have HE := Lib.hid hE; clear hE
      have HBL := Lib.hid hBl; clear hBl hB
      gi_wp2_with fail
      exact ⟨HKEEP.out _ HE.out, HNEXT.out _ HE.out HBL.out⟩
    · have hfv : fvG nd x = [] := by unfold fvG; rw [if_neg hv]
      have HFV := Lib.hid hfv; clear hfv
      have hd : (nd.K == 0) = false ∨ ((nd.K == 0) = true ∧ decide (nd.N ≥ (x : Int)) = false) := by
        by_cases h : nd.K = 0
        · exact .inr ⟨by simpa using h, by simp; omega⟩
        · exact .inl (by simpa using h)
      have hnx : EachI bx W0 T fF (j + 1) S C := ⟨HCH.out, HSC.out, hbn, by rw [HSTEP.out, HFV.out, List.append_nil]; exact HBLK.out⟩
      clear hv hnr hnd hmem
      rcases hd with h1 | ⟨h1, h2⟩
      all_goals
        gi_wp2_with fail
        exact ⟨HKEEP.out _ (Chg.alloc _ _), EachI.stab _ _ _ _ _ S C _ S hnx (Chg.alloc _ _) (fun y h => .inl h)⟩
  case done =>
    intro D S A hi hSD hwD hK
    have hbD : bx ≠ D := by have := hi.2.2.1; omega
    have hst := EachI.stab _ _ _ _ _ S A (A.putObj D (.deferred none)) S hi (Chg.putObj _ _ _ hSD) (fun b h => .inl h)
    have HST := Lib.hid hst; clear hst hi
    gi_wp2_with fail
    refine postM1 hK rfl (results_tmp rfl _ _ _) ⟨by rw [HC.out]; rfl, ⟨_, HST.out.2.2.2, (fun h => absurd HC.out h), fun T' _ h => ?_⟩, ?_⟩
    · have := HWH.out.symm.trans h
      obtain rfl : T = T' := Option.some.inj this
      rfl
    · exact HBE0.out.trans (HST.out.1.to_below (fun y h => by omega) HBE0.out.size)

end Go.Proofs.YteldkcpkamgfpaaDoor

namespace Go.Proofs.YteldkcpkamgfpaaDoor
set_option linter.unusedSimpArgs false
set_option linter.unusedVariables false
open Go.RowKit

def freeN (l : List Nd) : Int := if chk l = 0 then (match whole l with | some T => (fvs T T.flat.length).foldl fF 0 | none => 0) else 0
def usesN (k : Int) (l : List Nd) : Int := if chk l = 0 then (match whole l with | some T => (fvs T T.flat.length).foldl (fU k) 0 | none => 0) else 0

theorem each_end {l : List Nd} {f : Int → Int → Int} {bx : Nat} {we w' : World} {e : Ending} (h : EachPost l f bx we e w') :
    e = .returned (.int .i64 (chk l)) ∧ Blk w' bx 3 #[.int .i64 (if chk l = 0 then (match whole l with | some T => (fvs T T.flat.length).foldl f 0 | none => 0) else 0)] ∧ Below we.heap.size we w' := by
  obtain ⟨rfl, ⟨acc, h1, h2, h3⟩, h4⟩ := h
  refine ⟨rfl, ?_, h4⟩
  by_cases hk : chk l = 0
  · obtain ⟨_, T, hw, _⟩ := chk_ok hk
    rw [if_pos hk, hw]
    rw [h3 T hk hw] at h1
    exact h1
  · rw [if_neg hk]
    rw [h2 hk] at h1
    exact h1

set_option maxHeartbeats 1000000 in
theorem free_any (l : List Nd) (v : Value) (w : World) (hS : ShapesAt w) (hv : ReadN w v l) (hs : SmallN l) :
    Calls Tryd.prog 79 #[v] w fun e w' => e = .returned (.tuple #[.int .i64 (freeN l), .int .i64 (chk l)]) ∧ Below w.heap.size w w' := by
  have hE := each_free l v w (w.alloc (.cells #[.int .i64 0] 3)) w.heap.size hS hv hs ((Below.refl _ w).alloc (Nat.le_refl _) _) (Nat.le_refl _) (Blk.new _ _ _)
  have HE := Lib.hid hE; clear hE hS hs
  obtain ⟨at_, ct, rfl⟩ := ReadN.len_slice hv
  clear hv
  go_enter Tryd.func79, Tryd.ntmps79
  go_wp2_with fail
  refine HE.out.mono ?_
  intro e w1 hp
  obtain ⟨rfl, hb, hbe⟩ := each_end hp
  have c0 : w1.cell? ⟨w.heap.size, 0, none⟩ = some (.int .i64 (freeN l)) := hb.cell 0
  have HB := Lib.hid hbe
  clear hb hbe hp HE
  go_wp2_with fail
  go_ret2
  exact ⟨rfl, HB.out⟩

def oneVar : List Nd := [⟨0, 2, 0, ByteArray.empty⟩]
theorem ov_chk : chk oneVar = 0 := by decide +kernel
theorem ov_free : freeN oneVar = 3 := by decide +kernel
theorem ov_small : SmallN oneVar := by
  intro n hn
  simp [oneVar] at hn
  subst hn
  show (0 : Nat) ≤ maxLen
  omega

end Go.Proofs.YteldkcpkamgfpaaDoor

namespace Go.Proofs.YteldkcpkamgfpaaDoor
set_option linter.unusedSimpArgs false
set_option linter.unusedVariables false

def cntV (k : Int) (L : List Int) : Int := (L.countP (· == k) : Nat)
theorem cntV_append (k : Int) (a b : List Int) : cntV k (a ++ b) = cntV k a + cntV k b := by unfold cntV; rw [List.countP_append]; omega
theorem cntV_nil (k : Int) : cntV k [] = 0 := rfl
theorem cntV_one {k x : Int} (h : x ≠ k) : cntV k [x] = 0 := by unfold cntV; rw [List.countP_cons_of_neg (by simpa using h)]; rfl
theorem cntV_rev (k : Int) (L : List (List Int)) : cntV k L.reverse.flatten = cntV k L.flatten := by
  induction L with
  | nil => rfl
  | cons x r ih =>
    rw [List.reverse_cons, List.flatten_append, cntV_append, ih]
    simp only [List.flatten_cons, List.flatten_nil, List.append_nil, cntV_append]
    omega
theorem foldU (k : Int) (L : List Int) : ∀ a, L.foldl (fU k) a = a + cntV k L := by
  induction L with
  | nil => intro a; rw [cntV_nil]; simp
  | cons x r ih =>
    intro a
    rw [List.foldl_cons, ih, show x :: r = [x] ++ r from rfl, cntV_append]
    unfold fU cntV
    by_cases h : x = k
    · simp [h]; omega
    · simp [h]
theorem fvL_append (a b : List (List Int)) : (a ++ b).flatten = a.flatten ++ b.flatten := List.flatten_append
theorem fv_mk (n : Nd) (l : List Tm) (u : Nat) : (Tm.mk n l).fv u = (zwL fvG l (bnds n) u).flatten ++ fvG n u := by
  unfold Tm.fv
  rw [zw_mk, List.flatten_append]
  simp
theorem usesN_fv {l : List Nd} {T : Tm} (k : Int) (hk : chk l = 0) (hw : whole l = some T) : usesN k l = cntV k (T.fv 0) := by
  unfold usesN
  rw [if_pos hk, hw]
  show (fvs T T.flat.length).foldl (fU k) 0 = _
  rw [foldU, fvs_all, cntV_rev]
  unfold Tm.fv
  omega
theorem usesN_bad {l : List Nd} (k : Int) (hk : chk l ≠ 0) : usesN k l = 0 := by unfold usesN; rw [if_neg hk]
theorem freeN_fv {l : List Nd} {T : Tm} (hk : chk l = 0) (hw : whole l = some T) : freeN l = (T.zw fvG 0).reverse.flatten.foldl fF 0 := by
  unfold freeN
  rw [if_pos hk, hw]
  show (fvs T T.flat.length).foldl fF 0 = _
  rw [fvs_all]
theorem foldF_ge (L : List Int) : ∀ a, a ≤ L.foldl fF a ∧ ∀ x, x ∈ L → x + 1 ≤ L.foldl fF a := by
  induction L with
  | nil => intro a; simp
  | cons y r ih =>
    intro a
    obtain ⟨h1, h2⟩ := ih (fF a y)
    rw [List.foldl_cons]
    have h3 : a ≤ fF a y ∧ y + 1 ≤ fF a y := by unfold fF; omega
    refine ⟨by omega, fun x hx => ?_⟩
    rcases List.mem_cons.1 hx with rfl | hx
    · omega
    · exact h2 x hx
theorem free_above {l : List Nd} {T : Tm} {k : Int} (hk : chk l = 0) (hw : whole l = some T) (hu : usesN k l ≠ 0) : k < freeN l := by
  rw [usesN_fv k hk hw] at hu
  rw [freeN_fv hk hw]
  have hm : k ∈ (T.zw fvG 0).reverse.flatten := by
    have h2 : cntV k (T.zw fvG 0).reverse.flatten ≠ 0 := by rw [cntV_rev]; exact hu
    unfold cntV at h2
    have h3 : 0 < (T.zw fvG 0).reverse.flatten.countP (· == k) := by omega
    obtain ⟨x, hx, hxk⟩ := List.countP_pos_iff.1 h3
    have : x = k := by simpa using hxk
    rw [← this]; exact hx
  have := (foldF_ge _ 0).2 k hm
  omega

/-- seen from under more binders -/
theorem fvG_under {n : Nd} (u b : Nat) {k : Int} (hk : 0 ≤ k) : cntV k (fvG n (u + b)) = cntV (k + b) (fvG n u) := by
  unfold fvG cntV
  by_cases h : n.K = 0
  · by_cases h2 : n.N = k + b + u
    · rw [if_pos ⟨h, by omega⟩, if_pos ⟨h, by omega⟩]
      have e1 : n.N - ((u + b : Nat) : Int) = k := by omega
      have e2 : n.N - (u : Int) = k + b := by omega
      rw [e1, e2]
      simp
    · have z1 : cntV k (if n.K = 0 ∧ ((u + b : Nat) : Int) ≤ n.N then [n.N - ((u + b : Nat) : Int)] else []) = 0 := by
        split
        · have : n.N - ((u + b : Nat) : Int) ≠ k := by omega
          exact cntV_one this
        · rfl
      have z2 : cntV (k + b) (if n.K = 0 ∧ (u : Int) ≤ n.N then [n.N - (u : Int)] else []) = 0 := by
        split
        · have : n.N - (u : Int) ≠ k + b := by omega
          exact cntV_one this
        · rfl
      exact z1.trans z2.symm
  · rw [if_neg (fun h2 => h h2.1), if_neg (fun h2 => h h2.1)]
    rfl
theorem fv_under (b : Nat) {k : Int} (hk : 0 ≤ k) : ∀ (t : Tm) (u : Nat), cntV k (t.fv (u + b)) = cntV (k + b) (t.fv u) := by
  refine Tm.ind ?_
  intro n l ih u
  rw [fv_mk, fv_mk, cntV_append, cntV_append, fvG_under u b hk]
  have hl : ∀ l : List Tm, (∀ t, t ∈ l → ∀ u, cntV k (t.fv (u + b)) = cntV (k + b) (t.fv u)) → ∀ bs, cntV k (zwL fvG l bs (u + b)).flatten = cntV (k + b) (zwL fvG l bs u).flatten := by
    intro l
    induction l with
    | nil => intro _ bs; rw [zwL_nil, zwL_nil]; rfl
    | cons t r ihr =>
      intro h bs
      rw [zwL_cons, zwL_cons, List.flatten_append, List.flatten_append, cntV_append, cntV_append, ihr (fun t ht => h t (by simp [ht]))]
      have e : u + b + bs.headD 0 = (u + bs.headD 0) + b := by omega
      rw [e]
      have := h t (by simp) (u + bs.headD 0)
      unfold Tm.fv at this
      rw [this]
  rw [hl l ih]

/-- the uses in the first parts -/
def sumU (v : Int) (cs : List Tm) (bs : List Nat) (i : Nat) : Int := ((List.range i).map fun j => cntV (v + (bs.getD j 0 : Nat)) ((cs.getD j (vr 0)).fv 0)).sum
theorem sumU_zero (v : Int) (cs : List Tm) (bs : List Nat) : sumU v cs bs 0 = 0 := rfl
theorem sumU_succ (v : Int) (cs : List Tm) (bs : List Nat) (i : Nat) : sumU v cs bs (i + 1) = sumU v cs bs i + cntV (v + (bs.getD i 0 : Nat)) ((cs.getD i (vr 0)).fv 0) := by
  unfold sumU
  rw [List.range_succ, List.map_append, List.sum_append]
  simp
theorem sumU_all {v : Int} (hv : 0 ≤ v) : ∀ (cs : List Tm) (bs : List Nat), sumU v cs bs cs.length = cntV v (zwL fvG cs bs 0).flatten := by
  intro cs
  induction cs with
  | nil => intro bs; rw [zwL_nil]; rfl
  | cons t r ih =>
    intro bs
    rw [zwL_cons, List.flatten_append, cntV_append, ← ih bs.tail]
    have h1 := fv_under (bs.headD 0) hv t 0
    unfold Tm.fv at h1
    rw [h1]
    unfold sumU
    rw [List.length_cons, List.range_succ_eq_map, List.map_cons, List.sum_cons, List.map_map]
    congr 1
    · cases bs <;> rfl
    · congr 1
      refine List.map_congr_left fun j _ => ?_
      cases bs <;> rfl
theorem uses_parts {l : List Nd} {nd : Nd} {cs : List Tm} {v : Int} (hv : 0 ≤ v) (hk : chk l = 0) (hw : whole l = some (Tm.mk nd cs)) (hK : nd.K ≠ 0) : sumU v cs (bnds nd) cs.length = usesN v l := by
  rw [usesN_fv v hk hw, fv_mk, cntV_append, sumU_all hv]
  have : fvG nd 0 = [] := by unfold fvG; rw [if_neg (fun h => hK h.1)]
  rw [this, cntV_nil]
  omega
theorem uses_var {l : List Nd} {nd : Nd} {cs : List Tm} {v : Int} (hv : 0 ≤ v) (hk : chk l = 0) (hw : whole l = some (Tm.mk nd cs)) (hK : nd.K = 0) : usesN v l = if nd.N = v then 1 else 0 := by
  obtain ⟨hwf, _⟩ := whole_some hw
  obtain ⟨h1, h2, h3⟩ := wf_iff.1 hwf
  obtain ⟨_, h4, _, h5⟩ := var_right h1 hK
  rw [h5] at h2
  obtain rfl : cs = [] := List.eq_nil_of_length_eq_zero h2
  rw [usesN_fv v hk hw, fv_mk, cntV_append, zwL_nil]
  have : fvG nd 0 = [nd.N] := by unfold fvG; rw [if_pos ⟨hK, by omega⟩]; simp
  rw [this]
  unfold cntV
  by_cases h : nd.N = v
  · simp [h]
  · simp [h]
theorem part_ok {l : List Nd} {nd : Nd} {cs : List Tm} (hk : chk l = 0) (hw : whole l = some (Tm.mk nd cs)) {i : Nat} (hi : i < cs.length) : chk (cs[i]).flat = 0 ∧ whole (cs[i]).flat = some cs[i] ∧ (∀ n, n ∈ (cs[i]).flat → n ∈ l) := by
  obtain ⟨hl, T, hw', hd⟩ := chk_ok hk
  rw [hw] at hw'
  obtain rfl := Option.some.inj hw'
  obtain ⟨hwf, hfl⟩ := whole_some hw
  have hp : walkP (Tm.mk nd cs) [(i : Int)] = some cs[i] := by
    show (if 0 ≤ (i : Int) ∧ (i : Int) < (cs.length : Int) then (cs[(i : Int).toNat]?).bind (fun c => walkP c []) else none) = _
    rw [if_pos (by omega), Int.toNat_natCast, List.getElem?_eq_getElem hi]
    rfl
  obtain ⟨h1, h2, h3, h4⟩ := walkP_wf hwf hp
  rw [hfl] at h2 h4
  refine ⟨?_, whole_flat h1, h4⟩
  rw [chk_flat h1, if_neg (by omega), if_neg (by omega)]

end Go.Proofs.YteldkcpkamgfpaaDoor

namespace Go.Proofs.YteldkcpkamgfpaaDoor
set_option linter.unusedSimpArgs false
set_option linter.unusedVariables false
open Go.RowKit

end Go.Proofs.YteldkcpkamgfpaaDoor

namespace Go.Proofs.YteldkcpkamgfpaaDoor
set_option linter.unusedSimpArgs false
set_option linter.unusedVariables false
open Go.RowKit

section
variable {F : Fence} {n : Nat} {P : Program} {ops : Array Oper} {C : World → Prop} {md : Region.Mode}
theorem wpIn_of_quietR {o : Oper} {a : Act} {K : Act → Prop} {K' : Act → World → Prop} {Q' : Exit → Act → World → Prop} {w : World} (hnd : ∀ c, o.op ≠ .defer c) (hw : C w) (h : ∀ a w', C w' → K a → K' a w')
    (ha : o.askedIn F P a C) (hh : o.quietIn F n P a C K) : o.wpIn F n P a w K' Q' := by
  obtain ⟨v, h1, h2⟩ := hh
  have h3 := h1 w hw
  unfold Oper.quietAtIn at h3
  unfold Oper.wpIn
  refine ⟨ha w hw, ?_⟩
  rw [Oper.semAt_plain F _ _ hnd]
  generalize (execOp a.eval o).run P w = r at *
  cases r with
  | ok x w' =>
    cases x <;> simp only [Oper.quietUponIn] at h3 <;> simp only [Oper.uponIn]
    case value u =>
      obtain ⟨e1, e2⟩ := h3
      rw [e1, e2]
      exact h _ _ hw h2
    case skip =>
      obtain ⟨e1, e2⟩ := h3
      rw [e1, ← e2]
      exact h _ _ hw h2
    case enter f args =>
      obtain ⟨e1, hd, hc⟩ := h3
      rw [e1]
      exact ⟨hd, hc.mono fun e w'' ⟨he, hw''⟩ => by subst he; exact h _ _ hw'' h2⟩
  | halt x w' => simp only [Oper.quietUponIn] at h3

theorem wpOpIn_of_qOpInR {i : Nat} {a : Act} {K : Act → Prop} {K' : Act → World → Prop} {Q' : Exit → Act → World → Prop} {w : World} (hnd : ∀ (i : Nat) (o : Oper), ops[i]? = some o → ∀ c, o.op ≠ .defer c) (hC : C w) (h : ∀ a w', C w' → K a → K' a w')
    (hh : qOpIn F n P ops C i K a) : wpOpIn F n P ops Q' i K' a w := by
  unfold qOpIn at hh
  unfold wpOpIn
  split
  · rename_i ho; simp only [ho] at hh; exact h _ _ hC hh
  · rename_i o ho
    simp only [ho] at hh
    obtain ⟨ha, hh⟩ := hh
    split
    · rename_i hw; simp only [hw, if_true] at hh; exact wpIn_of_quietR (hnd _ _ ho) hC h ha hh
    · rename_i hw; simp only [hw] at hh; exact ⟨ha w hC, h _ _ hC hh⟩

theorem wpAnyIn_of_quietR {Q : Act → Prop} {Q' : Exit → Act → World → Prop} (hnd : ∀ (i : Nat) (o : Oper), ops[i]? = some o → ∀ c, o.op ≠ .defer c) (hQ : ∀ a w, C w → Q a → Q' .normal a w) : ∀ (fuel : Nat) (listed : Array Bool) (a : Act) (w : World), C w →
    wpAnyQIn F n P md ops C Q fuel listed a → wpAnyIn F n P md ops Q' fuel listed a w
  | 0, _, _, _, hw, h => ⟨h.1, hQ _ _ hw h.2⟩
  | fuel + 1, _, _, _, hw, h => ⟨fun h0 => hQ _ _ hw (h.1 h0), fun i hi => wpOpIn_of_qOpInR hnd hw (fun a' w' hw' => wpAnyIn_of_quietR hnd hQ fuel _ a' w' hw') (h.2 i hi)⟩

/-- no operation is a defer statement: told by looking -/
def noDefer (l : List Oper) : Bool := l.all fun o => match o.op with | .defer _ => false | _ => true
theorem noDefer_spec {l : List Oper} (h : noDefer l = true) : ∀ (i : Nat) (o : Oper), l.toArray[i]? = some o → ∀ c, o.op ≠ .defer c := by
  intro i o ho c hc
  have hm : o ∈ l := by
    have := Array.mem_of_getElem? ho
    simpa using this
  have := List.all_eq_true.1 h o hm
  rw [hc] at this
  simp at this

theorem wpIn_region_bwR {id : Nat} {Q : Exit → Act → World → Prop} {a : Act} {w : World} {l : List Oper} {B : Nat} {W : World} (hd : noDefer l = true) (hm : P.follows .mixedOrders = true) (hB : Region.lexB .any l.toArray = true)
    (hb : Below B W w.drew) (h : wpQuietIn F n P l.toArray (fun w => ∃ x : BW B W, w = x.w) (fun a' => ∀ w', Below B W w' → Q .normal a' w') l a) : (Code.region id l.toArray true).wpIn F n P Q a w := by
  simp only [Region.lexB, Bool.and_eq_true] at hB
  refine wpIn_region_any hm (wpAnyIn_of_quietR (C := fun w => ∃ x : BW B W, w = x.w) (Q := fun a' => ∀ w', Below B W w' → Q .normal a' w') (noDefer_spec hd) (fun _ w' hw' h => by obtain ⟨x, rfl⟩ := hw'; exact h _ x.h) _ _ _ _ ⟨⟨_, hb⟩, rfl⟩ ?_)
  have := wpAnyQIn_lex (F := F) (n := n) (C := fun w => ∃ x : BW B W, w = x.w) (md := .any) hB.1 l.toArray.toList 0 (Array.replicate l.toArray.size false) a (by simp) (by simpa using hB.2) (by simpa using h)
  simpa using this
end

end Go.Proofs.YteldkcpkamgfpaaDoor

namespace Go.Proofs.YteldkcpkamgfpaaDoor
set_option linter.unusedSimpArgs false
set_option linter.unusedVariables false
open Go.RowKit

def clampI (n : Int) : Int := max (-1000) (min n 1000)
theorem clampI_le (n : Int) : -1000 ≤ clampI n ∧ clampI n ≤ 1000 := by unfold clampI; omega
theorem clampI_id {n : Int} (h1 : -1000 ≤ n) (h2 : n ≤ 1000) : clampI n = n := by unfold clampI; omega

/-- the error of a shift by b from k on (numbers that are clamped), and what it makes -/
def shiftE (b k : Int) (l : List Nd) : Int := if chk l = 0 then (match whole l with | some T => fstE (T.zw (shE b k) 0) | none => 0) else chk l
def shiftL (b k : Int) (l : List Nd) : List Nd := if shiftE b k l = 0 then (match whole l with | some T => T.zw (shN b k) 0 | none => []) else []

theorem fstE_cons (e : Int) (l : List Int) : fstE (e :: l) = if e = 0 then fstE l else e := by simp only [fstE]

/-- the errors of the last j nodes, and the nodes as they are behind j rounds -/
def errJ (b k : Int) (T : Tm) (j : Nat) : Int := fstE ((T.zw (shE b k) 0).drop (T.flat.length - j))
def outJ (b k : Int) (T : Tm) (j : Nat) : List Nd := T.flat.take (T.flat.length - j) ++ (T.zw (shN b k) 0).drop (T.flat.length - j)
theorem errJ_zero (b k : Int) (T : Tm) : errJ b k T 0 = 0 := by
  unfold errJ
  rw [Nat.sub_zero, List.drop_of_length_le (by rw [zw_length]; exact Nat.le_refl _)]
  rfl
theorem errJ_all (b k : Int) (T : Tm) : errJ b k T T.flat.length = fstE (T.zw (shE b k) 0) := by unfold errJ; rw [Nat.sub_self]; rfl
theorem outJ_zero (b k : Int) (T : Tm) : outJ b k T 0 = T.flat := by
  unfold outJ
  rw [Nat.sub_zero, List.drop_of_length_le (by rw [zw_length]; exact Nat.le_refl _), List.take_length, List.append_nil]
theorem outJ_all (b k : Int) (T : Tm) : outJ b k T T.flat.length = T.zw (shN b k) 0 := by unfold outJ; rw [Nat.sub_self]; rfl
theorem outJ_length (b k : Int) (T : Tm) (j : Nat) : (outJ b k T j).length = T.flat.length := by
  unfold outJ
  rw [List.length_append, List.length_take, List.length_drop, zw_length]
  omega
theorem zw_get {β : Type} (g : Nd → Nat → β) {T : Tm} (hw : T.wf = true) {j : Nat} (hj : j < T.flat.length) : (T.zw g 0)[T.flat.length - 1 - j]? = some (g (T.flat[T.flat.length - 1 - j]) ((stk T j).headD 0)) := by
  unfold Tm.zw
  have h1 := und_get hw hj
  have h2 : T.flat[T.flat.length - 1 - j]? = some (T.flat[T.flat.length - 1 - j]) := List.getElem?_eq_getElem (by omega)
  rw [List.getElem?_zipWith, h1, h2]
theorem errJ_step (b k : Int) {T : Tm} (hw : T.wf = true) {j : Nat} (hj : j < T.flat.length) : errJ b k T (j + 1) = if shE b k (T.flat[T.flat.length - 1 - j]) ((stk T j).headD 0) = 0 then errJ b k T j else shE b k (T.flat[T.flat.length - 1 - j]) ((stk T j).headD 0) := by
  unfold errJ
  have hl : T.flat.length - 1 - j < (T.zw (shE b k) 0).length := by rw [zw_length]; omega
  have e : T.flat.length - (j + 1) = T.flat.length - 1 - j := by omega
  have e2 : T.flat.length - 1 - j + 1 = T.flat.length - j := by omega
  have h := zw_get (shE b k) hw hj
  rw [List.getElem?_eq_getElem hl] at h
  rw [e, List.drop_eq_getElem_cons hl, e2, Option.some.inj h, fstE_cons]
theorem outJ_step (b k : Int) {T : Tm} (hw : T.wf = true) {j : Nat} (hj : j < T.flat.length) : outJ b k T (j + 1) = (outJ b k T j).set (T.flat.length - 1 - j) (shN b k (T.flat[T.flat.length - 1 - j]) ((stk T j).headD 0)) := by
  have hl : T.flat.length - 1 - j < (T.zw (shN b k) 0).length := by rw [zw_length]; omega
  have h := zw_get (shN b k) hw hj
  rw [List.getElem?_eq_getElem hl] at h
  have e : T.flat.length - (j + 1) = T.flat.length - 1 - j := by omega
  have e2 : T.flat.length - 1 - j + 1 = T.flat.length - j := by omega
  unfold outJ
  rw [e, List.drop_eq_getElem_cons hl, e2, Option.some.inj h]
  have e3 : T.flat.length - j = (T.flat.length - 1 - j) + 1 := by omega
  rw [e3, List.take_add_one, List.getElem?_eq_getElem (by omega)]
  have hlen : (T.flat.take (T.flat.length - 1 - j)).length = T.flat.length - 1 - j := by rw [List.length_take]; omega
  show _ = ((T.flat.take (T.flat.length - 1 - j) ++ [T.flat[T.flat.length - 1 - j]]) ++ _).set _ _
  rw [List.append_assoc, List.set_append, if_neg (by rw [hlen]; omega), hlen, Nat.sub_self]
  rfl
theorem outJ_get (b k : Int) {T : Tm} {j : Nat} (hj : j < T.flat.length) : (outJ b k T j)[T.flat.length - 1 - j]'(by rw [outJ_length]; omega) = T.flat[T.flat.length - 1 - j] := by
  unfold outJ
  rw [List.getElem_append_left (by rw [List.length_take]; omega)]
  simp

end Go.Proofs.YteldkcpkamgfpaaDoor

