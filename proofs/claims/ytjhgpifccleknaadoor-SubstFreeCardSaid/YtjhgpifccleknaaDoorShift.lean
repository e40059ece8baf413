/- shift.Shift: what it comes to, for every row of nodes and all numbers, where the table of shapes lies as it is laid. -/
import Derived.Test.YtjhgpifccleknaaDoorQuietM
import Derived.Test.YtjhgpifccleknaaDoorShLaw
import Derived.Shelf.RegionOpen
namespace Go.Proofs.YtjhgpifccleknaaDoor
set_option linter.unusedSimpArgs false
set_option linter.unusedVariables false
open Go.RowKit Go.BigFrame
attribute [local go_sem] Oper.semAt_some

theorem ownsRow_set {w : World} {base size n g cap : Nat} {e : TypeId} {xs : List Value} (h : w.ownsRow base e size (.slice (some ⟨g, 0, none⟩) n cap) n xs) (j : Nat) (u : Value) :
    (w.setCell ⟨g, j, none⟩ u).ownsRow base e size (.slice (some ⟨g, 0, none⟩) n cap) n (xs.set j u) := by
  refine ⟨by rw [List.length_set]; exact h.1, ?_⟩
  rcases h.2 with ⟨h1, _⟩ | ⟨g', cap', cur, he, hb, hg, h1, h2, h3, h4⟩
  · cases h1
  · obtain ⟨rfl, rfl⟩ : g = g' ∧ cap = cap' := by simpa using he
    refine .inr ⟨g, cap, cur.setIfInBounds j u, rfl, hb, Blk.set_ hg j u, h1, h2, by simpa using h3, ?_⟩
    rw [← h4, Array.toList_setIfInBounds, List.take_set]

theorem nodes_set : ∀ (l : List Nd) (i : Nat) (N : Int), (hi : i < l.length) → (l.flatMap nodeV).set (i * 4 + 1) (.int .i64 N) = (l.set i { l[i] with N := N }).flatMap nodeV := by
  intro l
  induction l with
  | nil => intro i N h; simp at h
  | cons x r ih =>
    intro i N h
    cases i with
    | zero => simp [nodeV]
    | succ i =>
      have := ih i N (by simpa using h)
      have e : (i + 1) * 4 + 1 = (i * 4 + 1) + 4 := by omega
      rw [e, List.flatMap_cons, List.set_cons_succ, List.flatMap_cons, List.getElem_cons_succ, ← this]
      simp [nodeV]

theorem set_same {α : Type} {l : List α} {i : Nat} {x : α} (h : l[i]? = some x) : l.set i x = l := by
  obtain ⟨hi, rfl⟩ := List.getElem?_eq_some_iff.1 h
  exact List.set_getElem_self hi

/-- what the loop of shift.Shift holds -/
def ShiftI (base be g cap : Nat) (W : World) (T : Tm) (b k : Int) (j : Nat) (S : Bset) (A : World) : Prop :=
  Chg (fun x => (x = be ∨ x = g) ∨ W.heap.size ≤ x) W A ∧ (∀ x, S x → W.heap.size ≤ x) ∧ (be < W.heap.size ∧ g < W.heap.size ∧ be ≠ g) ∧ Blk A be 32 #[.int .i64 (errJ b k T j)] ∧
  A.ownsRow base 23 4 (.slice (some ⟨g, 0, none⟩) T.flat.length cap) T.flat.length ((outJ b k T j).flatMap nodeV)
theorem ShiftI.stab (base be g cap : Nat) (W : World) (T : Tm) (b k : Int) : Stab (ShiftI base be g cap W T b k) := by
  intro j S A B S' ⟨h1, h2, h3, h4, h5⟩ hc hs
  refine ⟨h1.trans (hc.mono fun b _ h => .inr (h2 b h)), fun b h => ?_, h3, h4.stab (fun h => by have := h2 _ h; omega) hc, ownsRow_kept h5 (hc.kept (K := fun x => ¬ S x) (fun x h => h)) (fun x hx hS => by simp [Value.ownBlock] at hx; have := h2 _ hS; omega)⟩
  rcases hs b h with h | h
  · exact h2 b h
  · have := h1.size; omega

def ShiftPost (l : List Nd) (b k : Int) (w : World) (e : Ending) (w' : World) : Prop :=
  ∃ v, e = .returned (.tuple #[v, .int .i64 (shiftE b k l)]) ∧ OwnN w.heap.size w' v (shiftL b k l) ∧ Below w.heap.size w w'

set_option maxRecDepth 20000 in
set_option maxHeartbeats 4000000 in
theorem shift_any (l : List Nd) (v : Value) (by_ from_ : Int) (w : World) (hS : ShapesAt w) (hv : ReadN w v l) (hs : SmallN l) :
    Calls Tryd.prog 44 #[v, .int .i64 by_, .int .i64 from_] w (ShiftPost l (clampI by_) (max 0 (clampI from_)) w) := by
  obtain ⟨i0, hi, hz0, hz1, hz2⟩ := info_parts Tryd.infoNode
  obtain ⟨at_, ct, rfl⟩ := ReadN.len_slice hv
  have HV := Lib.hid hv; clear hv
  have HS := Lib.hid hS; clear hS
  have HSM := Lib.hid hs; clear hs
  obtain ⟨b, hb⟩ : ∃ b, clampI by_ = b := ⟨_, rfl⟩
  obtain ⟨kf, hkf⟩ : ∃ k, clampI from_ = k := ⟨_, rfl⟩
  have hb1 := clampI_le by_
  have hk1 := clampI_le from_
  rw [hb] at hb1 ⊢
  rw [hkf] at hk1 ⊢
  have HCB : Hid (∀ x : World, Calls Tryd.prog 74 #[.int .i64 by_] x fun e w' => e = .returned (.int .i64 b) ∧ w' = x) := by
    show ∀ x, _
    intro x; rw [← hb]; exact clamp_any by_ x
  have HCK : Hid (∀ x : World, Calls Tryd.prog 74 #[.int .i64 from_] x fun e w' => e = .returned (.int .i64 kf) ∧ w' = x) := by
    show ∀ x, _
    intro x; rw [← hkf]; exact clamp_any from_ x
  clear hb hkf
  obtain ⟨w1, hw1⟩ : ∃ w1, (w.alloc (.cells #[.int .i64 by_] 3)).alloc (.cells #[.int .i64 from_] 3) = w1 := ⟨_, rfl⟩
  have hbl1 : Blk w1 w.heap.size 3 #[.int .i64 by_] := by rw [← hw1]; exact (Blk.new w _ _).alloc _
  have hbl2 : Blk w1 (w.heap.size + 1) 3 #[.int .i64 from_] := by rw [← hw1]; have := Blk.new (w.alloc (.cells #[.int .i64 by_] 3)) 3 #[.int .i64 from_]; rwa [World.size_alloc] at this
  have hbw1 : Below w.heap.size w w1 := by rw [← hw1]; exact ((Below.refl _ w).alloc (Nat.le_refl _) _).alloc (by simp) _
  have h1s : w1.heap.size = w.heap.size + 2 := by rw [← hw1]; simp
  have HB1 := Lib.hid hbw1; clear hbw1
  have HBL1 := Lib.hid hbl1; clear hbl1
  have HBL2 := Lib.hid hbl2; clear hbl2
  refine callsIn_wide.1 (callsIn_of_wp_marks (n := 3) Tryd.func44 rfl trivial ?_)
  simp only [Tryd.ntmps44, List.size_toArray, List.length_cons, List.length_nil, Nat.reduceAdd, Nat.reduceSub, Array.replicate_succ, Array.replicate_zero, List.push_toArray, List.append_toArray, List.nil_append, List.cons_append]
  gi_wp2_with fail
  try rw [hw1]
  refine enterW2 (tcheck_any l _ w1 (HS.out.below HB1.out) (HV.out.below HB1.out) HSM.out) ?_
  rintro e w2 ⟨rfl, hb2⟩
  clear hw1
  have hs12 := hb2.size
  have HBL1 := Lib.hid (HBL1.out.below hb2 (by omega))
  have HBL2 := Lib.hid (HBL2.out.below hb2 (by omega))
  have HB2 := chainB HB1 hb2
  clear hb2
  obtain ⟨c, hc⟩ : ∃ c, chk l = c := ⟨_, rfl⟩
  have HC := Lib.hid hc
  rw [hc]
  clear hc
  by_cases hk : c = 0
  rotate_left
  · have hkb : (c != 0) = true := by simpa using hk
    have hE : shiftE b (max 0 kf) l = c := by unfold shiftE; rw [if_neg (by rw [HC.out]; exact hk), HC.out]
    have hL : shiftL b (max 0 kf) l = [] := by unfold shiftL; rw [if_neg (by rw [hE]; exact hk)]
    have HE := Lib.hid hE
    have HL := Lib.hid hL
    have hmix : Tryd.prog.follows .mixedOrders = true := by kernel_rfl
    have HB3 : Hid (Below w.heap.size w (w2.alloc (.cells #[.int .i64 c] 32))) := HB2.out.alloc HB2.out.size _
    clear hE hL
    gi_wp2_with fail
    gi_region
    all_goals
      gi_wp2_with fail
      exact postM0 (results_tmp2 rfl _ _ _) rfl ⟨_, by rw [HE.out]; rfl, by rw [HL.out]; exact World.ownsRow_nil _ _ _ _, HB3.out.drew⟩
  subst hk
  gi_wp2_with fail
  obtain ⟨w3, hw3⟩ : ∃ w3, w2.alloc (.cells #[.int .i64 0] 32) = w3 := ⟨_, rfl⟩
  have hbe : Blk w3 w2.heap.size 32 #[.int .i64 0] := by rw [← hw3]; exact Blk.new _ _ _
  have h3s : w3.heap.size = w2.heap.size + 1 := by rw [← hw3]; simp
  have hb23 : Below w2.heap.size w2 w3 := by rw [← hw3]; exact (Below.refl _ _).alloc (Nat.le_refl _) _
  have HBE := Lib.hid hbe; clear hbe
  have HBL1 := Lib.hid (HBL1.out.below hb23 (by omega))
  have HBL2 := Lib.hid (HBL2.out.below hb23 (by omega))
  have HB3 := chainB HB2 hb23
  clear hb23
  have hmix : Tryd.prog.follows .mixedOrders = true := by kernel_rfl
  have c1 : w3.cell? ⟨w.heap.size, 0, none⟩ = some (.int .i64 by_) := HBL1.out.cell 0
  have c2 : w3.cell? ⟨w.heap.size + 1, 0, none⟩ = some (.int .i64 from_) := HBL2.out.cell 0
  have d1 : w3.frozen? ⟨w.heap.size, 0, none⟩ = false := HBL1.out.frozen 0
  have d2 : w3.frozen? ⟨w.heap.size + 1, 0, none⟩ = false := HBL2.out.frozen 0
  obtain ⟨k, hkk⟩ : ∃ k, max 0 kf = k := ⟨_, rfl⟩
  have hite : (if 0 < kf then kf else 0) = k := by rw [← hkk]; split <;> omega
  have hk0 : 0 ≤ k ∧ k ≤ 1000 := by omega
  have HKM := Lib.hid hkk
  clear hkk
  rw [hw3]
  clear hw3
  refine wpIn_mono (Q := fun e a' w' => e = .normal ∧ (Blk w' w.heap.size 3 #[.int .i64 b] ∧ Blk w' (w.heap.size + 1) 3 #[.int .i64 k] ∧ Blk w' w2.heap.size 32 #[.int .i64 0] ∧ w'.heap.size = w3.heap.size ∧ Below w.heap.size w w') ∧ ∃ u18 u19 u20 u21 u22 : Value, a' = { tmps := #[.slice at_ l.length ct, .int .i64 by_, .int .i64 from_, undef, .pointer (some ⟨w.heap.size, 0, none⟩), .pointer (some ⟨w.heap.size + 1, 0, none⟩), .slice none 0 0, .int .i64 0, .pointer (some ⟨w2.heap.size, 0, none⟩), undef, undef, undef, undef, .slice at_ l.length ct, .int .i64 0, .int .i64 0, .bool false, undef, u18, u19, u20, u21, u22, undef, undef, undef, undef, undef, undef, undef, undef, undef, undef, undef, undef, undef, undef, undef, undef, undef, undef, undef, undef, undef, undef, undef, undef, undef, undef, undef, undef, undef, undef, undef, undef, undef, undef, undef, undef, undef, undef, undef, undef, undef, undef, undef, undef, undef, undef, undef, undef, undef, undef, undef], defers := [] }) ?_ ?_
  · have e1 : ∀ W4, Below w.heap.size w W4 → Blk W4 w2.heap.size 32 #[.int .i64 0] → True := fun _ _ _ => trivial
    gi_region_with_o (first
      | (refine enterW2 (HCB.out _) ?_; rintro e w' ⟨rfl, rfl⟩)
      | (refine enterW2 (HCK.out _) ?_; rintro e w' ⟨rfl, rfl⟩))
    all_goals
      try rw [hite]
      refine ⟨rfl, ⟨?_, ?_, ?_, by simp [World.setCell], ?_⟩, _, _, _, _, _, rfl⟩
    all_goals
      first
      | exact (HBL1.out.set_ 0 (.int .i64 b)).far (by show _ ≠ _; simp) _
      | exact (HBL1.out.far (by show _ ≠ _; simp) _).set_ 0 (.int .i64 b)
      | exact (HBL2.out.far (by show _ ≠ _; simp) _).set_ 0 (.int .i64 k)
      | exact (HBL2.out.set_ 0 (.int .i64 k)).far (by show _ ≠ _; simp) _
      | exact (HBE.out.far (by show _ ≠ _; simp; omega) _).far (by show _ ≠ _; simp; omega) _
      | exact ((HB3.out.setCell (by show _ ≤ _; simp) _).setCell (by show _ ≤ _; simp) _).drew
  rintro e a' w4 ⟨rfl, ⟨hA, hB, hC, h4s, h4b⟩, u18, u19, u20, u21, u22, rfl⟩
  dsimp only
  obtain ⟨hle, T, hw, _⟩ := chk_ok HC.out
  obtain ⟨hwf, hfl⟩ := whole_some hw
  subst hfl
  obtain ⟨N, hN⟩ : ∃ N, T.flat.length = N := ⟨_, rfl⟩
  have hNp : 0 < N := by rw [← hN]; exact flat_pos T
  have HNN := Lib.hid hN
  have HB4 := Lib.hid h4b; clear h4b
  have HA := Lib.hid hA; have HBK := Lib.hid hB; have HE := Lib.hid hC
  have HWF := Lib.hid hwf
  have HWH := Lib.hid hw
  have hone : Hid (∀ u, u ∈ T.flat.flatMap nodeV → u.oneCell' = true) := nodes_one _
  have hrd : RowAt w4 4 (.slice at_ N ct) N (T.flat.flatMap nodeV) := by have h := HV.out.below HB4.out; unfold ReadN at h; rw [hN] at h; exact h
  have HRD := Lib.hid hrd
  rw [hN] at hle ⊢
  clear hA hB hC hwf hw hrd c1 c2 d1 d2 hN
  gi_wp2_with (gi_at_builtin; refine wpListIn_append_row rfl (.const (.slice none 0 0)) (.tmp 23) 30 rfl w.heap.size 23 i0 (.agg #[.int .i64 0, .int .i64 0, .int .i64 0, .string ByteArray.empty]) 4 40 Tryd.underlying30 hi hz0 hz1 hz2 rfl (by decide) (.slice none 0 0) 0 [] rfl (World.ownsRow_nil _ _ _ _) (.slice at_ N ct) N (T.flat.flatMap nodeV) rfl HRD.out hone.out (by omega) (by unfold maxLen; omega) (by omega) ?_; intro v5 w5 hown5 hg5 hat5; rw [Nat.zero_add, List.nil_append] at hown5; obtain ⟨g, capo, rfl, hgb, hgl, hgc1, hgc2, _, _, _⟩ := ownsRow_open hown5 hNp; have hb5 : Below w.heap.size w w5 := HB4.out.grown hg5 (by omega) (fun g hg => by cases hg); have hs45 := hg5.size; have hgk : ∀ x, x < w4.heap.size → w5.heap[x]? = w4.heap[x]? := (fun x hx => hg5.block x hx (by simp [Value.ownBlock])); have hge : w4.heap.size ≤ g := (hat5.elim (fun e => by cases e) (fun e => by simp [Value.ownBlock] at e; omega)); have HO5 := Lib.hid hown5; have HB5 := Lib.hid hb5; have HGK := Lib.hid hgk; clear hown5 hg5 hat5 hb5 hgk)
  refine enterW2 (nodesf_any _ _ _ _) ?_
  rintro e W6 ⟨rfl, rfl⟩
  gi_wp2_with fail
  obtain ⟨W0, hW0⟩ : ∃ W0, (w5.alloc (.cells #[.slice (some ⟨g, 0, none⟩) N capo] 30)).alloc (.cells #[.slice at_ N ct] 30) = W0 := ⟨_, rfl⟩
  have hs0 : W0.heap.size = w5.heap.size + 2 := by rw [← hW0]; simp
  have bo : Blk W0 w5.heap.size 30 #[.slice (some ⟨g, 0, none⟩) N capo] := by rw [← hW0]; exact (Blk.new _ _ _).alloc _
  have bt : Blk W0 (w5.heap.size + 1) 30 #[.slice at_ N ct] := by rw [← hW0]; have := Blk.new (w5.alloc (.cells #[.slice (some ⟨g, 0, none⟩) N capo] 30)) 30 #[.slice at_ N ct]; rwa [World.size_alloc] at this
  have hb50 : Below w5.heap.size w5 W0 := by rw [← hW0]; exact ((Below.refl _ _).alloc (Nat.le_refl _) _).alloc (by simp) _
  rw [hW0]
  clear hW0
  have HB0 := chainB HB5 hb50
  have hA5 : Blk W0 w.heap.size 3 #[.int .i64 b] := ((HGK.out _ (by have := HA.out.lt; omega)).trans HA.out : w5.heap[w.heap.size]? = _) |> fun h => Blk.below (w := w5) h hb50 (by have := HA.out.lt; omega)
  have hK5 : Blk W0 (w.heap.size + 1) 3 #[.int .i64 k] := ((HGK.out _ (by have := HBK.out.lt; omega)).trans HBK.out : w5.heap[w.heap.size + 1]? = _) |> fun h => Blk.below (w := w5) h hb50 (by have := HBK.out.lt; omega)
  have hE5 : Blk W0 w2.heap.size 32 #[.int .i64 0] := ((HGK.out _ (by have := HE.out.lt; omega)).trans HE.out : w5.heap[w2.heap.size]? = _) |> fun h => Blk.below (w := w5) h hb50 (by have := HE.out.lt; omega)
  have hO5 : W0.ownsRow w.heap.size 23 4 (.slice (some ⟨g, 0, none⟩) N capo) N (T.flat.flatMap nodeV) := ownsRow_below HO5.out hb50 (fun x h => by simp [Value.ownBlock] at h; omega)
  have hv0 := HV.out.below HB0.out
  obtain ⟨bb, off, cap, he, _, _, _, _⟩ := RowAt.pos HV.out (flat_pos T)
  obtain ⟨rfl, rfl⟩ : at_ = some ⟨bb, off, none⟩ ∧ ct = cap := by simpa using he
  have hbwe : bb < w.heap.size := by
    obtain ⟨b', off', cap', he', _, _, hlt, _⟩ := RowAt.pos HV.out (flat_pos T)
    have : bb = b' := by simp at he'; exact he'.1.1
    omega
  have he4 := HE.out.lt
  have hit := nodes_iter 2 T HWF.out (by rw [HNN.out]; exact hle) HSM.out bb off ct (w5.heap.size + 1) (fun x => x < w.heap.size ∨ x = w5.heap.size + 1) w W0 HS.out ⟨HB0.out.size, fun x h1 _ => HB0.out.block x h1⟩ (by rw [bt.cell 0, HNN.out]; rfl) hv0 (.inr rfl) (.inl hbwe) (fun x h => .inl h) (fun x h => by omega)
  rw [HNN.out] at hit
  have HIT := Lib.hid hit; clear hit
  have h0 : ShiftI w.heap.size w2.heap.size g capo W0 T b k 0 (fun _ => False) W0 := ⟨Chg.refl _ _, (fun b h => h.elim), ⟨by omega, by omega, by omega⟩, by rw [errJ_zero]; exact hE5, by rw [outJ_zero, HNN.out]; exact hO5⟩
  have H0 := Lib.hid h0; clear h0
  have HBO := Lib.hid bo
  have HA5 := Lib.hid hA5; have HK5 := Lib.hid hK5
  have HV0 := Lib.hid hv0
  clear bo bt hb50 hA5 hK5 hE5 hO5 hv0 he
  refine wpIn_rangeFunc_round (F := Fence.wide) (n := 3) (K := fun x => x < w.heap.size ∨ x = w5.heap.size + 1) (w0 := W0) (N := N) (enc := encU T)
    (lb := #[.pointer (some ⟨w5.heap.size + 1, 0, none⟩)]) (gf := 89) rfl (by omega) rfl trivial (enters_of Tryd.func89 (by kernel_rfl) rfl) HIT.out
    (Kept.refl _ _) (Nat.le_refl _) (fun b h => by omega) (fun j => rfl) (ShiftI w.heap.size w2.heap.size g capo W0 T b k) (fun _ _ _ _ => False) (ShiftI.stab _ _ _ _ _ _ _ _)
    (fun _ _ _ _ _ _ h _ _ => h) H0.out ?round ?done (fun D cd j S A _ h => h.elim)
  case round =>
    intro l' j S A hj hi hS
    have HI := Lib.hid hi; clear hi
    have HSS := Lib.hid hS; clear hS
    obtain ⟨i, hi'⟩ : ∃ i, N = i + 1 + j := ⟨N - 1 - j, by omega⟩
    have hiN : i < N := by omega
    have hjT : j < T.flat.length := by rw [HNN.out]; exact hj
    have hiT : i < T.flat.length := by rw [HNN.out]; exact hiN
    have eix : T.flat.length - 1 - j = i := by rw [HNN.out]; omega
    obtain ⟨x, hx⟩ : ∃ x, (stk T j).headD 0 = x := ⟨_, rfl⟩
    obtain ⟨nd, hnd⟩ : ∃ nd, T.flat[i] = nd := ⟨_, rfl⟩
    have hmem : nd ∈ T.flat := by rw [← hnd]; exact List.getElem_mem hiT
    have hnr := flat_right T HWF.out nd hmem
    have hes : errJ b k T (j + 1) = if shE b k nd x = 0 then errJ b k T j else shE b k nd x := by
      have h := errJ_step b k HWF.out hjT
      simp only [eix, hx, hnd] at h
      exact h
    have hos : outJ b k T (j + 1) = (outJ b k T j).set i (shN b k nd x) := by
      have h := outJ_step b k HWF.out hjT
      simp only [eix, hx, hnd] at h
      exact h
    have hog : (outJ b k T j)[i]? = some nd := by
      have h := outJ_get b k (T := T) hjT
      rw [List.getElem?_eq_getElem (by rw [outJ_length]; exact hiT)]
      simp only [eix, hnd] at h
      rw [h]
    have hen : encU T j = #[.int .i64 (i : Int), .int .i64 (x : Int)] := by
      unfold encU
      rw [hx, eix]
    rw [hen]
    have hx2 : x ≤ 10000 := by
      rw [← hx]
      cases h : stk T j with
      | nil => simp
      | cons y r => have := stk_bound HWF.out j (by omega) y (by rw [h]; simp); simp only [List.headD_cons]; omega
    have HES := Lib.hid hes
    have HOS := Lib.hid hos
    have HOG := Lib.hid hog
    clear hen hes hos hog hx eix
    gi_wp2_with fail
    refine ⟨Kept.refl _ _, fun C hC => ?_⟩
    obtain ⟨hch, hSC, ⟨hbe, hbg, hne⟩, hblk, hown⟩ := ShiftI.stab _ _ _ _ _ _ _ _ j S A C S HI.out hC (fun b h => .inl h)
    have cO : C.cell? ⟨w5.heap.size, 0, none⟩ = some (.slice (some ⟨g, 0, none⟩) N capo) := hch.cell (by show ¬ _; simp; omega) (HBO.out.cell 0)
    have cB : C.cell? ⟨w.heap.size, 0, none⟩ = some (.int .i64 b) := hch.cell (by show ¬ _; simp; omega) (HA5.out.cell 0)
    have cF : C.cell? ⟨w.heap.size + 1, 0, none⟩ = some (.int .i64 k) := hch.cell (by show ¬ _; simp; omega) (HK5.out.cell 0)
    have cE : C.cell? ⟨w2.heap.size, 0, none⟩ = some (.int .i64 (errJ b k T j)) := hblk.cell 0
    have dE : C.frozen? ⟨w2.heap.size, 0, none⟩ = false := hblk.frozen 0
    obtain ⟨r0, r1⟩ : C.cell? ⟨g, i * 4, none⟩ = some (.int .i64 nd.K) ∧ C.cell? ⟨g, i * 4 + 1, none⟩ = some (.int .i64 nd.N) := by
      have hrd : ReadN C (.slice (some ⟨g, 0, none⟩) (outJ b k T j).length capo) (outJ b k T j) := by
        unfold ReadN
        rw [outJ_length]
        exact RowAt.of_own hown
      obtain ⟨hil, hin⟩ := List.getElem?_eq_some_iff.1 HOG.out
      obtain ⟨_, ⟨h0, _⟩ | ⟨b', off', cap', he, _, _, _, hc⟩⟩ := ReadN.cases hrd
      · rw [h0] at hil; simp at hil
      · obtain ⟨⟨rfl, rfl⟩, rfl⟩ : (g = b' ∧ 0 = off') ∧ capo = cap' := by simpa using he
        have h4 := hc i hil
        rw [hin] at h4
        simp only [Nat.zero_add] at h4
        exact ⟨h4.1, h4.2.1⟩
    have dN : C.frozen? ⟨g, i * 4 + 1, none⟩ = false := by
      obtain ⟨g', c', he, _, _, _, _, _, _, hf⟩ := ownsRow_open hown (by omega)
      obtain ⟨rfl, rfl⟩ : g = g' ∧ capo = c' := by simpa using he
      exact hf _
    have HCH := Lib.hid hch; clear hch
    have HSC := Lib.hid hSC; clear hSC
    have HBLK := Lib.hid hblk; clear hblk
    have HOWN := Lib.hid hown; clear hown
    have HCC := Lib.hid hC; clear hC
    have HIC : Hid (ShiftI w.heap.size w2.heap.size g capo W0 T b k j S C) := ⟨HCH.out, HSC.out, ⟨hbe, hbg, hne⟩, HBLK.out, HOWN.out⟩
    have HOG2 : Hid ((outJ b k T j)[i]? = some nd) := HOG.out
    by_cases hv : nd.K = 0 ∧ k ≤ nd.N - x
    rotate_left
    · have hsE : shE b k nd x = 0 := by unfold shE; rw [if_neg hv]
      have hsN : shN b k nd x = nd := by unfold shN; rw [if_neg hv]
      have hnxt : ShiftI w.heap.size w2.heap.size g capo W0 T b k (j + 1) S C := by
        have h := HIC.out
        have e1 : errJ b k T (j + 1) = errJ b k T j := by rw [HES.out, if_pos hsE]
        have e2 : outJ b k T (j + 1) = outJ b k T j := by rw [HOS.out, hsN]; exact set_same HOG.out
        unfold ShiftI at h ⊢
        rw [e1, e2]
        exact h
      have HNX : Hid (∀ m, ShiftI w.heap.size w2.heap.size g capo W0 T b k (j + 1) S (C.drewN m)) := fun m => ShiftI.stab _ _ _ _ _ _ _ _ _ _ _ _ _ hnxt (Chg.drewN _ _) (fun b h => .inl h)
      clear hsE hsN hnxt
      by_cases hK : nd.K = 0
      · have hkb : (nd.K != 0) = false := by simpa using hK
        have hlt : nd.N - x < k := by omega
        obtain ⟨hN0, hN9⟩ := right_var hnr hK
        clear hv
        gi_wp2_with fail
        refine wpIn_region_draws (by kernel_rfl) (by kernel_rfl) (by kernel_rfl) ?_
        repeat (first | gi_big_quiet_skip | (gi_big_quiet_want; gi_big_quiet_op; go_big_quiet_on))
        refine wpQuietIn_nil ?_
        rintro w9 ⟨nq, rfl⟩
        gi_wp2_with fail
        exact ⟨(Chg.drewN C nq).kept (S := fun _ => False) (fun _ _ h => h), HNX.out nq⟩
      · have hkb : (nd.K != 0) = true := by simpa using hK
        clear hv
        gi_wp2_with fail
        refine wpIn_region_draws (by kernel_rfl) (by kernel_rfl) (by kernel_rfl) ?_
        repeat (first | gi_big_quiet_skip | (gi_big_quiet_want; gi_big_quiet_op; go_big_quiet_on))
        refine wpQuietIn_nil ?_
        rintro w9 ⟨nq, rfl⟩
        gi_wp2_with fail
        exact ⟨(Chg.drewN C nq).kept (S := fun _ => False) (fun _ _ h => h), HNX.out nq⟩
    · obtain ⟨hK, hgk⟩ := hv
      have hkb : (nd.K != 0) = false := by simpa using hK
      obtain ⟨hN0, hN9⟩ := right_var hnr hK
      have hnl : ¬ nd.N - x < k := by omega
      gi_wp2_with fail
      refine wpIn_region_draws (by kernel_rfl) (by kernel_rfl) (by kernel_rfl) ?_
      repeat (first | gi_big_quiet_skip | (gi_big_quiet_want; gi_big_quiet_op; go_big_quiet_on))
      refine wpQuietIn_nil ?_
      rintro w9 ⟨nq, rfl⟩
      gi_wp2_with fail
      refine wpIn_region_mid 8 (by kernel_rfl) (by kernel_rfl) (by kernel_rfl) ?_
      simp only [List.take_succ_cons, List.take_zero, List.drop_succ_cons, List.drop_zero]
      repeat (first | gi_big_quiet_skip | (gi_big_quiet_want; gi_big_quiet_op; go_big_quiet_on))
      refine wpQuietIn_nil ?_
      intro mq
      gi_wp2_with fail
      refine wpQuietIn_nil ?_
      rintro w3' ⟨rq, rfl⟩
      obtain ⟨C1, hC1⟩ : ∃ C1, C.drewN (nq + mq) = C1 := ⟨_, rfl⟩
      rw [hC1]
      have hch1 : Chg (fun _ => False) C C1 := by rw [← hC1]; exact Chg.drewN _ _
      have hI1 := ShiftI.stab _ _ _ _ _ _ _ _ j S C C1 S HIC.out (hch1.mono fun _ _ h => h.elim) (fun b h => .inl h)
      clear hC1
      obtain ⟨C2, hC2⟩ : ∃ C2, (C1.setCell ⟨g, i * 4 + 1, none⟩ (.int .i64 (nd.N + b))).drewN rq = C2 := ⟨_, rfl⟩
      have hch2 : Chg (fun y => y = g) C C2 := by rw [← hC2]; exact ((hch1.mono fun _ _ h => h.elim).trans (Chg.setCell (S := fun y => y = g) C1 ⟨g, i * 4 + 1, none⟩ _ rfl)).trans (Chg.drewN _ _)
      have hblk2 : Blk C2 w2.heap.size 32 #[.int .i64 (errJ b k T j)] := by rw [← hC2]; exact (hI1.2.2.2.1.far (by show _ ≠ g; exact hne) _).drewN rq
      have hsN : shN b k nd x = { nd with N := nd.N + b } := by unfold shN; rw [if_pos ⟨hK, hgk⟩]
      have hown2 : C2.ownsRow w.heap.size 23 4 (.slice (some ⟨g, 0, none⟩) T.flat.length capo) T.flat.length ((outJ b k T (j + 1)).flatMap nodeV) := by
        rw [← hC2]
        have h := ownsRow_set hI1.2.2.2.2 (i * 4 + 1) (.int .i64 (nd.N + b))
        obtain ⟨hil, hin⟩ := List.getElem?_eq_some_iff.1 HOG.out
        rw [nodes_set _ _ _ hil, hin, ← hsN, ← HOS.out] at h
        exact h
      have cN2 : C2.cell? ⟨g, i * 4 + 1, none⟩ = some (.int .i64 (nd.N + b)) := by
        obtain ⟨g', c', he, _, _, _, _, _, hcl, _⟩ := ownsRow_open hown2 (by omega)
        obtain ⟨rfl, rfl⟩ : g = g' ∧ capo = c' := by simpa using he
        have h1 := hcl (i * 4 + 1) (by rw [HNN.out]; omega)
        have hil : i < (outJ b k T (j + 1)).length := by rw [outJ_length]; exact hiT
        rw [h1, nodes_get _ _ hil 1 (by omega)]
        have h2 : (outJ b k T (j + 1))[i] = { nd with N := nd.N + b } := by
          have := HOS.out
          rw [hsN] at this
          simp only [this, List.getElem_set_self]
        rw [h2]
        rfl
      have cB2 : C2.cell? ⟨w.heap.size, 0, none⟩ = some (.int .i64 b) := hch2.cell (by show ¬ (w.heap.size = g); omega) cB
      have cF2 : C2.cell? ⟨w.heap.size + 1, 0, none⟩ = some (.int .i64 k) := hch2.cell (by show ¬ (w.heap.size + 1 = g); omega) cF
      have cE2 : C2.cell? ⟨w2.heap.size, 0, none⟩ = some (.int .i64 (errJ b k T j)) := hblk2.cell 0
      have dE2 : C2.frozen? ⟨w2.heap.size, 0, none⟩ = false := hblk2.frozen 0
      have FIN : Hid (∀ (C3 : World) (e : Int), Chg (fun y => y = w2.heap.size) C2 C3 → Blk C3 w2.heap.size 32 #[.int .i64 e] → e = errJ b k T (j + 1) →
          Kept (fun y => S y ∨ (y < w.heap.size ∨ y = w5.heap.size + 1)) C C3 ∧ ShiftI w.heap.size w2.heap.size g capo W0 T b k (j + 1) S C3) := by
        show ∀ (C3 : World) (e : Int), _
        intro C3 e hc3 hb3 he
        have hall : Chg (fun y => y = w2.heap.size ∨ y = g) C C3 := (hch2.mono fun y _ h => .inr h).trans (hc3.mono fun y _ h => .inl h)
        refine ⟨hall.kept fun y hy h => ?_, ?_⟩
        · have := HSC.out y
          rcases hy with hy | hy | hy
          · have := this hy; omega
          · omega
          · omega
        · refine ⟨HCH.out.trans (hall.mono fun y _ h => .inl h), HSC.out, ⟨hbe, hbg, hne⟩, by rw [← he]; exact hb3, ?_⟩
          exact ownsRow_kept hown2 (hc3.kept (K := fun y => y ≠ w2.heap.size) (fun y h => h)) (fun y h => by simp [Value.ownBlock] at h; omega)
      rw [hC2]
      have HB2' := Lib.hid hblk2
      clear hC2 hch1 hI1 hch2 hblk2 hsN hown2 cB cF cE dE cO r0 r1 dN
      gi_wp2_with fail
      refine wpIn_region_draws (by kernel_rfl) (by kernel_rfl) (by kernel_rfl) ?_
      repeat (first | gi_big_quiet_skip | (gi_big_quiet_want; gi_big_quiet_op; go_big_quiet_on))
      refine wpQuietIn_nil ?_
      rintro w9 ⟨zq, rfl⟩
      by_cases hs : nd.N + b - x < k
      · have hE : (30 : Int) = errJ b k T (j + 1) := by
          have hsE : shE b k nd x = 30 := by unfold shE; rw [if_pos ⟨hK, hgk⟩, if_pos hs]
          rw [HES.out, hsE, if_neg (by decide)]
        have HE30 := Lib.hid hE; clear hE
        gi_wp2_with fail
        exact FIN.out _ 30 ((Chg.drewN _ _).trans (Chg.setCell _ _ _ rfl)) ((HB2'.out.drewN zq).set_ 0 (.int .i64 30)) HE30.out
      · by_cases hm9 : nd.N + b > 99
        · have hE : (2 : Int) = errJ b k T (j + 1) := by
            have hsE : shE b k nd x = 2 := by unfold shE; rw [if_pos ⟨hK, hgk⟩, if_neg hs, if_pos (by omega)]
            rw [HES.out, hsE, if_neg (by decide)]
          have HE2 := Lib.hid hE; clear hE
          gi_wp2_with fail
          exact FIN.out _ 2 ((Chg.drewN _ _).trans (Chg.setCell _ _ _ rfl)) ((HB2'.out.drewN zq).set_ 0 (.int .i64 2)) HE2.out
        · have hE : errJ b k T j = errJ b k T (j + 1) := by
            have hsE : shE b k nd x = 0 := by unfold shE; rw [if_pos ⟨hK, hgk⟩, if_neg hs, if_neg (by omega)]
            rw [HES.out, hsE, if_pos rfl]
          have HE0 := Lib.hid hE; clear hE
          gi_wp2_with fail
          exact FIN.out _ _ (Chg.drewN _ _) (HB2'.out.drewN zq) HE0.out
  case done =>
    intro D S A hi hSD hwD hK
    have hst := ShiftI.stab _ _ _ _ _ _ _ _ _ S A (A.putObj D (.deferred none)) S hi (Chg.putObj _ _ _ hSD) (fun b h => .inl h)
    have HST := Lib.hid hst; clear hst
    have cE : A.cell? ⟨w2.heap.size, 0, none⟩ = some (.int .i64 (errJ b k T N)) := hi.2.2.2.1.cell 0
    have cO : A.cell? ⟨w5.heap.size, 0, none⟩ = some (.slice (some ⟨g, 0, none⟩) N capo) := hi.1.cell (by show ¬ _; simp; omega) (HBO.out.cell 0)
    clear hi
    have hSE : shiftE b k T.flat = errJ b k T N := by
      unfold shiftE
      rw [if_pos HC.out, HWH.out]
      show fstE _ = _
      rw [← errJ_all, HNN.out]
    have HSE := Lib.hid hSE; clear hSE
    have hbl : Below w.heap.size w (A.putObj D (.deferred none)) := HB0.out.trans (HST.out.1.to_below (fun y h => by omega) HB0.out.size)
    have HBL := Lib.hid hbl; clear hbl
    obtain ⟨er, her⟩ : ∃ e, errJ b k T N = e := ⟨_, rfl⟩
    have HER := Lib.hid her
    rw [her] at cE
    clear her
    by_cases hz : er = 0
    · subst hz
      have hSL : shiftL b k T.flat = outJ b k T N := by
        unfold shiftL
        rw [if_pos (HSE.out.trans HER.out), HWH.out]
        show T.zw _ 0 = _
        rw [← outJ_all, HNN.out]
      have HSL := Lib.hid hSL; clear hSL
      gi_wp2_with fail
      refine postM1 hK rfl (results_tmp2 rfl _ _ _) ⟨_, by rw [HKM.out, HSE.out, HER.out]; rfl, ?_, HBL.out⟩
      rw [HKM.out, HSL.out]
      unfold OwnN
      rw [outJ_length]
      have := HST.out.2.2.2.2
      rw [HNN.out] at this ⊢
      exact this
    · have hzb : (er != 0) = true := by simpa using hz
      have hSL : shiftL b k T.flat = [] := by unfold shiftL; rw [if_neg (by rw [HSE.out, HER.out]; exact hz)]
      have HSL := Lib.hid hSL; clear hSL hz
      have hKd : (A.drew).heap[D]? = some (.deferred (some [])) := hK
      gi_wp2_with fail
      gi_region
      all_goals
        gi_wp2_with fail
        exact postM1 hKd rfl (results_tmp2 rfl _ _ _) ⟨_, by rw [HKM.out, HSE.out, HER.out]; rfl, by rw [HKM.out, HSL.out]; exact World.ownsRow_nil _ _ _ _, HBL.out.drew⟩

end Go.Proofs.YtjhgpifccleknaaDoor
