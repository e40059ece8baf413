/- What subst.nodes' iterator gives: the nodes of a term from the root on, each with how many binders it is under; where the table of shapes lies as it is laid. -/
import Derived.Test.YtjhgpifccleknaaDoorBkw
import Derived.Test.YtjhgpifccleknaaDoorQuietM
namespace Go.Proofs.YtjhgpifccleknaaDoor
set_option linter.unusedSimpArgs false
set_option linter.unusedVariables false
open Go.RowKit Go.BigFrame
attribute [local go_sem] Oper.semAt_some

theorem snodesf_any (a : Option Addr) (n c : Nat) (w : World) :
    Calls Tryd.prog 90 #[.slice a n c] w fun e w' =>
      e = .returned (.func (.func 94) #[] #[.pointer (some ⟨w.heap.size, 0, none⟩)]) ∧ w' = w.alloc (.cells #[.slice a n c] 30) := by
  go_enter Tryd.func90, Tryd.ntmps90
  go_wp2
  go_ret
  exact ⟨rfl, rfl⟩

/-- what the iterator hands on in round j -/
def encS (T : Tm) (j : Nat) : Array Value :=
  #[.agg #[.int .i64 (T.flat.getD (T.flat.length - 1 - j) ⟨0, 0, 0, ByteArray.empty⟩).K, .int .i64 (T.flat.getD (T.flat.length - 1 - j) ⟨0, 0, 0, ByteArray.empty⟩).N, .int .i64 (T.flat.getD (T.flat.length - 1 - j) ⟨0, 0, 0, ByteArray.empty⟩).M, .string (T.flat.getD (T.flat.length - 1 - j) ⟨0, 0, 0, ByteArray.empty⟩).S],
    .int .i64 (((stk T j).headD 0 : Nat) : Int)]
theorem encS_at {T : Tm} {j k x : Nat} {nd : Nd} (hk : T.flat.length = k + 1 + j) (hn : T.flat[k]? = some nd) (hx : (stk T j).headD 0 = x) : encS T j = #[.agg #[.int .i64 nd.K, .int .i64 nd.N, .int .i64 nd.M, .string nd.S], .int .i64 (x : Int)] := by
  have e : T.flat.length - 1 - j = k := by omega
  unfold encS
  rw [e, List.getD_eq_getElem?_getD, hn, hx]
  rfl

theorem roundIn_wide {n m l l' f : Nat} {P : Program} {tmps : Array Value} {assign body : Code} {w : World} {R : Ending → World → Prop} (h : RoundIn Fence.wide n P l f tmps assign body w R) : RoundIn (Fence.wide.inRound l') m P l f tmps assign body w R :=
  ⟨trivial, fun c cs _ => h.2 c cs (room_wide _)⟩

theorem enterR3 {P : Program} {m l : Nat} {f : FuncId} {args : Array Value} {w : World} {R R' : Ending → World → Prop} (h : Calls P f args w R') (hm : ∀ e w', R' e w' → R e w') :
    Fence.wide.fn f ∧ Fence.wide.depth = none ∧ CallsIn (Fence.wide.inRound l) m P f args w R :=
  ⟨trivial, rfl, (enterR2 h hm).2⟩

/-- the blocks of the iterator's own, as the one behind it is to keep them: those of the inner loop, and four -/
def SnS (S : Bset) (y2 y3 bt : Nat) (o : Value) : Bset := fun x => S x ∨ x = y2 ∨ x = y3 ∨ x = bt ∨ o.ownBlock = some x
/-- what the loop of subst.nodes' iterator holds -/
def SnI (T : Tm) (l : Nat) (y2 y3 bt : Nat) (K : Bset) (J : Nat → Bset → World → Prop) (W : World) (j : Nat) (S : Bset) (A : World) : Prop :=
  ∃ o, A.ownsRow W.heap.size 3 1 o (stk T j).length (stV (stk T j)) ∧ Blk A y2 113 #[.func (.yield l) #[] #[]] ∧ Blk A y3 25 #[o] ∧ J j (SnS S y2 y3 bt o) A ∧ Kept K W A ∧
    (∀ x, o.ownBlock = some x → ¬ S x ∧ x ≠ y2 ∧ x ≠ y3 ∧ x ≠ bt) ∧ (¬ S y2 ∧ ¬ S y3 ∧ ¬ S bt) ∧ (∀ x, S x → W.heap.size ≤ x) ∧ bt < A.heap.size
theorem SnI.stab {T : Tm} {l y2 y3 bt : Nat} {K : Bset} {J : Nat → Bset → World → Prop} {W : World} (hJ : Stab J) (h4 : ∀ x, K x → x < W.heap.size) : Stab (SnI T l y2 y3 bt K J W) := by
  intro j S A B S' ⟨o, h1, h2, h3, h5, h6, h7, h8, h9, h10⟩ hc hs
  have hne : ∀ x, x < A.heap.size → ¬ S x → ¬ S' x := fun x hx hn h => by
    rcases hs x h with h | h
    · exact hn h
    · omega
  refine ⟨o, ownsRow_kept h1 (hc.kept (K := fun x => ¬ S x) (fun x h => h)) (fun g hg => (h7 g hg).1), h2.stab h8.1 hc, h3.stab h8.2.1 hc, hJ j _ A B _ h5 (hc.mono fun x _ h => .inl h) ?_, h6.trans (hc.kept fun x hk h => by have := h9 x h; have := h4 x hk; omega), ?_, ?_, ?_, ?_⟩
  · rintro x (h | h | h | h | h)
    · rcases hs x h with h | h
      · exact .inl (.inl h)
      · exact .inr h
    · exact .inl (.inr (.inl h))
    · exact .inl (.inr (.inr (.inl h)))
    · exact .inl (.inr (.inr (.inr (.inl h))))
    · exact .inl (.inr (.inr (.inr (.inr h))))
  · intro x hx
    obtain ⟨a1, a2, a3, a4⟩ := h7 x hx
    exact ⟨hne x (h1.lt x hx).2 a1, a2, a3, a4⟩
  · exact ⟨hne _ h2.lt h8.1, hne _ h3.lt h8.2.1, hne _ h10 h8.2.2⟩
  · intro x hx
    rcases hs x hx with h | h
    · exact h9 x h
    · have := h6.size; omega
  · have := hc.size; omega

/-- what the loop over a node's binders holds -/
def SnQ (l y2 y3 bt : Nat) (K : Bset) (J : Nat → Bset → World → Prop) (W C : World) (jn m q : Nat) (S : Bset) (b x : Nat) (s bs : List Nat) (vb : Value) (i : Value) (wq : World) : Prop :=
  ∃ q' ao co, q' ≤ q ∧ i = .int .i64 (q' : Int) ∧ wq.ownsRow W.heap.size 3 1 (.slice ao (m + q') co) (m + q') (onV x s bs q') ∧ Blk wq y3 25 #[.slice ao (m + q') co] ∧ Blk wq y2 113 #[.func (.yield l) #[] #[]] ∧
    J jn (SnS S y2 y3 bt (.slice ao (m + q') co)) wq ∧ Kept K W wq ∧ Kept (fun y => S y ∨ y = bt ∨ y = b) C wq ∧ RowAt wq 1 vb q (bs.map fun y : Nat => Value.int .i64 (y : Int)) ∧
    (∀ y, vb.ownBlock = some y → (Value.slice ao (m + q') co).ownBlock ≠ some y ∧ y ≠ y3) ∧ (∀ y, (Value.slice ao (m + q') co).ownBlock = some y → ¬ S y ∧ y ≠ y2 ∧ y ≠ y3 ∧ y ≠ bt ∧ y ≠ b ∧ ¬ K y) ∧ C.heap.size ≤ wq.heap.size

set_option maxRecDepth 20000 in
set_option maxHeartbeats 4000000 in
theorem snodes_iter (T : Tm) (hwf : T.wf = true) (hlen : T.flat.length ≤ 4000) (hsm : SmallN T.flat) (b off cap bt : Nat) (K : Bset) (we w0 : World)
    (hSe : ShapesAt we) (hke : Kept (fun x => x < we.heap.size) we w0) (hct : w0.cell? ⟨bt, 0, none⟩ = some (.slice (some ⟨b, off, none⟩) T.flat.length cap))
    (hv : ReadN w0 (.slice (some ⟨b, off, none⟩) T.flat.length cap) T.flat) (k1 : K bt) (k2 : K b) (k3 : ∀ x, x < we.heap.size → K x) (k4 : ∀ x, K x → x < w0.heap.size) :
    Iter Fence.wide 2 Tryd.prog 94 #[.pointer (some ⟨bt, 0, none⟩)] (encS T) T.flat.length K w0 := by
  intro l J Jx W hW hJ hJx hY h0
  obtain ⟨N, hN⟩ : ∃ N, T.flat.length = N := ⟨_, rfl⟩
  have hNp : 0 < N := by rw [← hN]; exact flat_pos T
  have hke2 : Kept (fun x => x < we.heap.size) we W := hke.trans (hW.mono fun x h1 h2 => h1)
  have HSA : Hid (∀ A, Kept K W A → ShapesAt A) := fun A hA => hSe.kept (hke2.trans (hA.mono fun x _ h => k3 x h))
  have hvW := RowAt.kept hv hW (fun g hg => by
    simp [Value.ownBlock] at hg
    subst hg
    obtain ⟨_, _, _, he, _, _, hlt, _⟩ := RowAt.pos hv (by omega)
    simp at he
    obtain ⟨⟨rfl, rfl⟩, _⟩ := he
    exact hlt)
  have hctW := hW.cell (World.block_lt_of_cell? w0 _ hct) hct
  have hbtW : bt < W.heap.size := World.block_lt_of_cell? W _ hctW
  have hbW : b < W.heap.size := by
    obtain ⟨_, _, _, he, _, _, hlt, _⟩ := RowAt.pos hvW (by omega)
    simp at he
    obtain ⟨⟨rfl, rfl⟩, _⟩ := he
    exact hlt
  rw [hN] at hctW hlen
  rw [hN] at hY ⊢
  have HY := Lib.hid hY; clear hY
  have HJ := Lib.hid hJ; clear hJ
  have HJX := Lib.hid hJx; clear hJx
  have HWF := Lib.hid hwf; clear hwf
  have HSM := Lib.hid hsm; clear hsm
  have HNN := Lib.hid hN; clear hN
  have H0 := Lib.hid h0; clear h0
  have HVW := Lib.hid hvW
  have HK4W : Hid (∀ x, K x → x < W.heap.size) := fun x h => by have := k4 x h; have := hW.size; omega
  clear k4 hv hct hW hke hke2 hSe hvW
  refine callsIn_of_wp_marks Tryd.func94 rfl trivial ?_
  simp only [Tryd.ntmps94, List.size_toArray, List.length_cons, List.length_nil, Nat.reduceAdd, Nat.reduceSub, Array.replicate_succ, Array.replicate_zero, List.push_toArray, List.append_toArray, List.nil_append, List.cons_append]
  obtain ⟨W1, hW1⟩ : ∃ W1, ((W.alloc (.cells #[.func (.yield l) #[] #[]] 113)).alloc (.cells #[.int .i64 0] 3)).alloc (.cells #[.slice (some ⟨W.heap.size + 1, 0, none⟩) 1 1] 25) = W1 := ⟨_, rfl⟩
  have h1s : W1.heap.size = W.heap.size + 3 := by rw [← hW1]; simp
  have hb1 : Below W.heap.size W W1 := by rw [← hW1]; exact (((Below.refl _ W).alloc (Nat.le_refl _) _).alloc (by simp) _).alloc (by simp; omega) _
  have e2 : Blk W1 W.heap.size 113 #[.func (.yield l) #[] #[]] := by rw [← hW1]; exact ((Blk.new _ _ _).alloc _).alloc _
  have e3 : Blk W1 (W.heap.size + 1 + 1) 25 #[.slice (some ⟨W.heap.size + 1, 0, none⟩) 1 1] := by
    rw [← hW1]
    have := Blk.new ((W.alloc (.cells #[.func (.yield l) #[] #[]] 113)).alloc (.cells #[.int .i64 0] 3)) 25 #[.slice (some ⟨W.heap.size + 1, 0, none⟩) 1 1]
    rwa [World.size_alloc, World.size_alloc] at this
  have e4 : W1.ownsRow W.heap.size 3 1 (.slice (some ⟨W.heap.size + 1, 0, none⟩) 1 1) 1 [.int .i64 0] := by
    rw [← hW1]
    have := World.ownsRow_lit (base := W.heap.size) (e := 3) (size := 1) (W.alloc (.cells #[.func (.yield l) #[] #[]] 113)) #[.int .i64 0] 1 (by simp) (by unfold maxLen; omega) rfl
    rw [World.size_alloc] at this
    exact ownsRow_below this ((Below.refl _ _).alloc (Nat.le_refl _) _) (fun g hg => by simp [Value.ownBlock] at hg; simp; omega)
  have cbt : W1.cell? ⟨bt, 0, none⟩ = some (.slice (some ⟨b, off, none⟩) N cap) := (hb1.cell (p := ⟨bt, 0, none⟩) hbtW).trans hctW
  have HB1 := Lib.hid hb1
  have HE2 := Lib.hid e2
  have HE3 := Lib.hid e3
  have HE4 := Lib.hid e4
  clear hb1 e2 e3 e4 hctW
  have cw1 : (((W.alloc (.cells #[.func (.yield l) #[] #[]] 113)).alloc (.cells #[.int .i64 0] 3)).alloc (.cells #[.slice (some ⟨W.heap.size + 1, 0, none⟩) 1 1] 25)).cell? ⟨bt, 0, none⟩ = some (.slice (some ⟨b, off, none⟩) N cap) := by rw [hW1]; exact cbt
  gi_wp2_with fail
  refine enterW2 (bkwf_any _ _ _ _) ?_
  rintro e W6 ⟨rfl, rfl⟩
  clear cw1 hW1 cbt
  gi_wp2_with fail
  obtain ⟨y2, hy2⟩ : ∃ y, W.heap.size = y := ⟨_, rfl⟩
  obtain ⟨y3, hy3⟩ : ∃ y, W.heap.size + 1 + 1 = y := ⟨_, rfl⟩
  obtain ⟨bi, hbi⟩ : ∃ y, W.heap.size + 3 = y := ⟨_, rfl⟩
  have h1b : W1.heap.size = bi := by omega
  obtain ⟨W2, hW2⟩ : ∃ W2, W1.alloc (.cells #[.slice (some ⟨b, off, none⟩) N cap] 30) = W2 := ⟨_, rfl⟩
  have hs2 : W2.heap.size = bi + 1 := by rw [← hW2, ← h1b]; simp
  have hb12 : Below W1.heap.size W1 W2 := by rw [← hW2]; exact (Below.refl _ _).alloc (Nat.le_refl _) _
  have b2 : Blk W2 y2 113 #[.func (.yield l) #[] #[]] := by rw [← hy2]; exact HE2.out.below hb12 (by omega)
  have b3 : Blk W2 y3 25 #[.slice (some ⟨W.heap.size + 1, 0, none⟩) 1 1] := by rw [← hy3]; exact HE3.out.below hb12 (by omega)
  have b4 : W2.ownsRow W.heap.size 3 1 (.slice (some ⟨W.heap.size + 1, 0, none⟩) 1 1) 1 [.int .i64 0] := ownsRow_below HE4.out hb12 (fun g hg => by simp [Value.ownBlock] at hg; omega)
  have b5 : Blk W2 bi 30 #[.slice (some ⟨b, off, none⟩) N cap] := by rw [← hW2, ← h1b]; exact Blk.new _ _ _
  have hbW2 : Below W.heap.size W W2 := HB1.out.trans (hb12.mono (by omega))
  have hit := bkw_iter 1 T.flat (by rw [HNN.out]; exact hNp) (by rw [HNN.out]; exact hlen) b off cap bi (fun x => x = bi ∨ x = b) W2 (by rw [HNN.out]; exact b5.cell 0) (HVW.out.below hbW2) (.inl rfl) (.inr rfl)
  rw [HNN.out] at hit
  have h0 : SnI T l y2 y3 bi K J W 0 (fun _ => False) W2 := by
    refine ⟨.slice (some ⟨W.heap.size + 1, 0, none⟩) 1 1, by rw [stk_zero]; exact b4, b2, b3, ?_, ⟨hbW2.size, fun x hx hk => hbW2.block x hx⟩, ?_, ⟨fun h => h, fun h => h, fun h => h⟩, (fun x h => h.elim), b5.lt⟩
    · refine HJ.out 0 _ W W2 _ H0.out (Chg.fresh hbW2) ?_
      rintro x (h | h | h | h | h)
      · exact h.elim
      · exact .inr (by omega)
      · exact .inr (by omega)
      · exact .inr (by omega)
      · simp [Value.ownBlock] at h; exact .inr (by omega)
    · intro x hx
      simp [Value.ownBlock] at hx
      exact ⟨fun h => h, by omega, by omega, by omega⟩
  have HIT := Lib.hid hit
  have H0' := Lib.hid h0
  have HBI := Lib.hid b5
  rw [hW2, hbi, hy3, hy2]
  clear hit h0 b2 b3 b4 b5 hW2
  have hyy : y2 < y3 ∧ y3 < bi ∧ W.heap.size ≤ y2 ∧ b < y2 := by omega
  have HYY := Lib.hid hyy
  clear hy2 hy3 hbi h1b h1s hb12 HE2 HE3 HE4
  refine wpIn_rangeFunc_round (F := Fence.wide) (n := 2) (K := fun x => x = bi ∨ x = b) (w0 := W2) (N := N) (enc := encK T.flat)
    (lb := #[.pointer (some ⟨bi, 0, none⟩)]) (gf := 98) rfl (by omega) rfl trivial (enters_of Tryd.func98 (by kernel_rfl) rfl) HIT.out
    (Kept.refl _ _) (Nat.le_refl _) (fun x h => by omega) (fun j => rfl) (SnI T l y2 y3 bi K J W) (fun c j S A => c = .ret ∧ Jx j S A) (SnI.stab HJ.out HK4W.out)
    (fun c j S A B S' h hc hs => ⟨h.1, HJX.out j S A B S' h.2 hc hs⟩) H0'.out ?round ?done ?stop
  case round =>
    intro l' j S A hj hi hS
    have HI := Lib.hid hi; clear hi
    have HSS := Lib.hid hS; clear hS
    obtain ⟨k, hk⟩ : ∃ k, N = k + 1 + j := ⟨N - 1 - j, by omega⟩
    have hkN : k < N := by omega
    have hkl : k < T.flat.length := by rw [HNN.out]; omega
    obtain ⟨nd, hnd⟩ : ∃ nd, T.flat[k] = nd := ⟨_, rfl⟩
    have hmem : nd ∈ T.flat := by rw [← hnd]; exact List.getElem_mem hkl
    have hnr := flat_right T HWF.out nd hmem
    have hsz := HSM.out nd hmem
    have hgk : T.flat[k]? = some nd := by rw [← hnd]; exact List.getElem?_eq_getElem hkl
    obtain ⟨x, s, hs⟩ : ∃ x s, stk T j = x :: s := by
      cases h : stk T j with
      | nil => exact absurd h (stk_ne HWF.out j (by rw [HNN.out]; exact hj))
      | cons x s => exact ⟨x, s, rfl⟩
    obtain ⟨m, hm⟩ : ∃ m, s.length = m := ⟨_, rfl⟩
    have hx2 : x ≤ 2 * j := stk_bound HWF.out j (by rw [HNN.out]; omega) x (by rw [hs]; simp)
    have hml : m + 1 ≤ N - j := by have := stk_len HWF.out j (by rw [HNN.out]; omega); rw [hs, HNN.out] at this; simp at this; omega
    have hstep : stk T (j + 1) = vstep (x :: s) nd := by
      have h := stk_step (T := T) (j := j) (by rw [HNN.out]; exact hj)
      rw [hs] at h
      rw [h, ← hnd]
      congr 1
      congr 1
      rw [HNN.out]
      omega
    have henK := encK_at (l := T.flat) (j := j) (k := k) (nd := nd) (by rw [HNN.out]; exact hk) hgk
    have henS := encS_at (T := T) (j := j) (k := k) (x := x) (nd := nd) (by rw [HNN.out]; exact hk) hgk (by rw [hs]; rfl)
    rw [henK]
    have HES := Lib.hid henS
    have HST := Lib.hid hs
    have HSTEP := Lib.hid hstep
    have HM := Lib.hid hm
    have HNR := Lib.hid hnr
    clear henK henS hs hstep hm hnr hgk hnd hmem
    gi_wp2_with fail
    refine ⟨⟨by simp, fun y hy _ => Below.heap_alloc _ _ _ hy⟩, fun C hC => ?_⟩
    obtain ⟨o, hown, hb2, hb3, hJA, hkA, hdj, ⟨hn2, hn3, hnb⟩, hge, hbiA⟩ := HI.out
    obtain ⟨p, hp⟩ : ∃ p, A.heap.size = p := ⟨_, rfl⟩
    have hbp : Blk (A.alloc (.cells #[.int .i64 nd.K, .int .i64 nd.N, .int .i64 nd.M, .string nd.S] 23)) A.heap.size 23 #[.int .i64 nd.K, .int .i64 nd.N, .int .i64 nd.M, .string nd.S] := Blk.new _ _ _
    have hCA : Chg S A C := (Chg.alloc A _).trans hC
    have hpS : ¬ S p := fun h => by have := HSS.out _ h; omega
    have hbpC : Blk C p 23 #[.int .i64 nd.K, .int .i64 nd.N, .int .i64 nd.M, .string nd.S] := by rw [← hp]; rw [← hp] at hpS; exact hbp.stab hpS hC
    have hownC := ownsRow_kept hown (hCA.kept (K := fun y => ¬ S y) (fun y h => h)) (fun g hg => (hdj g hg).1)
    have hb2C := hb2.stab hn2 hCA
    have hb3C := hb3.stab hn3 hCA
    have hkC : Kept K W C := hkA.trans (hCA.kept fun x hk h => by have := hge x h; have := HK4W.out x hk; omega)
    have hbiC : bi < C.heap.size := by have := hCA.size; omega
    have hpC : p < C.heap.size := hbpC.lt
    have hlt2 := hb2.lt
    have hlt3 := hb3.lt
    rw [HST.out, List.length_cons, HM.out] at hownC
    obtain ⟨g, capo, rfl, hg1, hg2, hg3, hg4, _, hgc, _⟩ := ownsRow_open hownC (by omega)
    obtain ⟨hdg, hd2, hd3, hdb⟩ := hdj g rfl
    have hltg := (hown.lt g rfl).2
    have ctop : C.cell? ⟨g, m, none⟩ = some (.int .i64 (x : Int)) := (hgc m (by omega)).trans (by rw [← HM.out]; exact stV_top x s)
    obtain ⟨a', cap', he, hce, hcut⟩ := ownsRow_cut hownC (k := m) (by omega)
    obtain ⟨rfl, rfl⟩ : some ⟨g, 0, none⟩ = a' ∧ capo = cap' := by simpa using he
    rw [Nat.mul_one] at hcut
    have est : (stV (x :: s)).take m = stV s := by rw [← HM.out]; exact stV_tail x s
    rw [est] at hcut
    -- the stack is cut short
    obtain ⟨C2, hC2⟩ : ∃ C2, C.setCell ⟨y3, 0, none⟩ (.slice (some ⟨g, 0, none⟩) m capo) = C2 := ⟨_, rfl⟩
    have hch2 : Chg (fun y => y = y3) C C2 := by rw [← hC2]; exact Chg.setCell (S := fun y => y = y3) C ⟨y3, 0, none⟩ _ rfl
    have hsz2 : C2.heap.size = C.heap.size := by rw [← hC2]; simp [World.setCell]
    have q2 : Blk C2 y2 113 #[.func (.yield l) #[] #[]] := hb2C.stab (by omega) hch2
    have q3 : Blk C2 y3 25 #[.slice (some ⟨g, 0, none⟩) m capo] := by rw [← hC2]; exact hb3C.set_ 0 _
    have qp : Blk C2 p 23 #[.int .i64 nd.K, .int .i64 nd.N, .int .i64 nd.M, .string nd.S] := hbpC.stab (by omega) hch2
    have qo : C2.ownsRow W.heap.size 3 1 (.slice (some ⟨g, 0, none⟩) m capo) m (stV s) := ownsRow_kept hcut (hch2.kept (K := fun y => y ≠ y3) (fun y h => h)) (fun y hy => by simp [Value.ownBlock] at hy; omega)
    obtain ⟨S2, hS2⟩ : ∃ S2 : Bset, S2 = fun y => SnS S y2 y3 bi (.slice (some ⟨g, 0, none⟩) m capo) y ∨ y = p := ⟨_, rfl⟩
    have hJ2 : J j S2 C2 := by
      refine HJ.out j _ A C2 S2 hJA ((hCA.mono fun y _ h => .inl h).trans (hch2.mono fun y _ h => .inr (.inr (.inl h)))) ?_
      intro y hy
      rw [hS2] at hy
      rcases hy with (h | h | h | h | h) | h
      · exact .inl (.inl h)
      · exact .inl (.inr (.inl h))
      · exact .inl (.inr (.inr (.inl h)))
      · exact .inl (.inr (.inr (.inr (.inl h))))
      · exact .inl (.inr (.inr (.inr (.inr h))))
      · exact .inr (by omega)
    have hbd2 : ∀ y, S2 y → y < C2.heap.size := by
      intro y hy
      rw [hS2] at hy
      have := hCA.size
      rcases hy with (h | h | h | h | h) | h
      · have := HSS.out y h; omega
      · omega
      · omega
      · omega
      · simp [Value.ownBlock] at h; omega
      · omega
    obtain ⟨fn, tmps, assign, body, hy, hR⟩ := HY.out j S2 C2 hj hJ2 hbd2
    rw [HES.out] at hy
    have c2 : C2.cell? ⟨y2, 0, none⟩ = some (.func (.yield l) #[] #[]) := q2.cell 0
    have r0 : C2.cell? ⟨p, 0, none⟩ = some (.int .i64 nd.K) := qp.cell 0
    have r1 : C2.cell? ⟨p, 1, none⟩ = some (.int .i64 nd.N) := qp.cell 1
    have r2 : C2.cell? ⟨p, 2, none⟩ = some (.int .i64 nd.M) := qp.cell 2
    have r3 : C2.cell? ⟨p, 3, none⟩ = some (.string nd.S) := qp.cell 3
    have c3 : C.cell? ⟨y3, 0, none⟩ = some (.slice (some ⟨g, 0, none⟩) (m + 1) capo) := hb3C.cell 0
    have d3 : C.frozen? ⟨y3, 0, none⟩ = false := hb3C.frozen 0
    have HR := Lib.hid hR
    have HQ2 := Lib.hid q2
    have HQ3 := Lib.hid q3
    have HQP := Lib.hid qp
    have HQO := Lib.hid qo
    have HS2 := Lib.hid hS2
    have HCH2 := Lib.hid hch2
    have HKC := Lib.hid hkC
    have HCA := Lib.hid hCA
    have HSZ2 := Lib.hid hsz2
    have HGE := Lib.hid hge
    have hm9 : capo ≤ 9223372036854775807 := by unfold maxLen at hg4; omega
    clear hR q2 q3 qp qo hS2 hch2 hkC hown hb2 hb3 hJA hkA hdj hbp hCA hbpC hownC hb2C hb3C hgc he hce hcut est hsz2 hJ2 hbd2 hg4 hge hC
    rw [hp]
    gi_wp2_with fail
    refine ⟨rfl, (roundIn_wide HR.out).mono ?_⟩
    have HKC3 : Hid (∀ w3, Kept (fun y => S2 y ∨ K y) C2 w3 → Kept (fun y => S y ∨ y = bi ∨ y = b) C w3) := by
      show ∀ w3, _
      intro w3 hk3
      refine ⟨by have := hk3.size; have := HSZ2.out; omega, fun y hy h => ?_⟩
      have hy3n : y ≠ y3 := by
        rintro rfl
        rcases h with h | h | h
        · exact hn3 h
        · omega
        · omega
      refine (hk3.block y (by have := HSZ2.out; omega) ?_).trans (HCH2.out.block y hy hy3n)
      rw [HS2.out]
      rcases h with h | h | h
      · exact .inl (.inl (.inl h))
      · exact .inl (.inl (.inr (.inr (.inr (.inl h)))))
      · rw [h]; exact .inr k2
    rintro e w3 (⟨rfl, hj3, hk3⟩ | ⟨rfl, hj3, hk3⟩)
    rotate_left
    · have hfin : Kept (fun y => S y ∨ (y = bi ∨ y = b)) C w3 ∧ Jx (j + 1) S w3 := by
        refine ⟨HKC3.out w3 hk3, HJX.out (j + 1) S2 w3 w3 S hj3 (Chg.refl _ _) (fun y hy => .inl ?_)⟩
        rw [HS2.out]
        exact .inl (.inl hy)
      have HFIN := Lib.hid hfin
      clear hfin hj3 hk3 hy c2 c3 d3 r0 r1 r2 r3 ctop
      gi_wp2_with fail
      exact ⟨HFIN.out.1, rfl, HFIN.out.2⟩
    · have hk3c := HKC3.out w3 hk3
      have hKW3 : Kept K W w3 := HKC.out.trans ((HCH2.out.kept (K := K) (fun y hk h => by have := HK4W.out y hk; omega)).trans (hk3.mono fun y _ h => .inr h))
      have q2 : Blk w3 y2 113 #[.func (.yield l) #[] #[]] := (hk3.block y2 HQ2.out.lt (.inl (by rw [HS2.out]; exact .inl (.inr (.inl rfl))))).trans HQ2.out
      have q3 : Blk w3 y3 25 #[.slice (some ⟨g, 0, none⟩) m capo] := (hk3.block y3 HQ3.out.lt (.inl (by rw [HS2.out]; exact .inl (.inr (.inr (.inl rfl)))))).trans HQ3.out
      have qp : Blk w3 p 23 #[.int .i64 nd.K, .int .i64 nd.N, .int .i64 nd.M, .string nd.S] := (hk3.block p HQP.out.lt (.inl (by rw [HS2.out]; exact .inr rfl))).trans HQP.out
      have qo : w3.ownsRow W.heap.size 3 1 (.slice (some ⟨g, 0, none⟩) m capo) m (stV s) := ownsRow_kept HQO.out hk3 (fun y hy => .inl (by rw [HS2.out]; exact .inl (.inr (.inr (.inr (.inr hy))))))
      have r0 : w3.cell? ⟨p, 0, none⟩ = some (.int .i64 nd.K) := qp.cell 0
      have r1 : w3.cell? ⟨p, 1, none⟩ = some (.int .i64 nd.N) := qp.cell 1
      have r2 : w3.cell? ⟨p, 2, none⟩ = some (.int .i64 nd.M) := qp.cell 2
      have r3 : w3.cell? ⟨p, 3, none⟩ = some (.string nd.S) := qp.cell 3
      have hs3 : C.heap.size ≤ w3.heap.size := hk3c.size
      have HJ3 := Lib.hid hj3
      have HKC3' := Lib.hid hk3c
      have HKW3 := Lib.hid hKW3
      have HQ2 := Lib.hid q2
      have HQ3 := Lib.hid q3
      have HQO := Lib.hid qo
      clear hj3 hk3 hk3c hKW3 q2 q3 qp qo hy c2 c3 d3 ctop HQP HR HKC3
      gi_wp2_with fail
      refine enterR3 (binds_own nd _ (HSA.out _ HKW3.out) hsz) ?_
      rintro e w4 ⟨vb, rfl, hrb, hvo, hb4⟩
      rw [if_pos HNR.out] at hrb
      rw [HNR.out]
      obtain ⟨bs, hbs⟩ : ∃ bs, bnds nd = bs := ⟨_, rfl⟩
      have hb2' : ∀ y, y ∈ bs → y ≤ 2 := by rw [← hbs]; exact bnds_two HNR.out
      rw [hbs] at hrb
      obtain ⟨q, hq⟩ : ∃ q, bs.length = q := ⟨_, rfl⟩
      obtain ⟨ab, cb, rfl⟩ := ReadI.len_slice hrb
      rw [List.length_map, hq] at hvo ⊢
      have hrb' : RowAt w4 1 (.slice ab q cb) q (bs.map fun y : Nat => Value.int .i64 (y : Int)) := by
        unfold ReadI at hrb
        rw [List.length_map, hq, List.map_map] at hrb
        exact hrb
      have hqs : q ≤ 9223372036854775807 := by have := hrb'.small; unfold maxLen at this; omega
      have hq6 : q ≤ 100000 := by have := arity_small HNR.out; unfold arity at this; rw [hbs] at this; omega
      have hst : SnQ l y2 y3 bi K J W C (j + 1) m q S b x s bs (.slice ab q cb) (.int .i64 0) w4 := by
        refine ⟨0, some ⟨g, 0, none⟩, capo, Nat.zero_le _, rfl, ?_, HQ3.out.below hb4 HQ3.out.lt, HQ2.out.below hb4 HQ2.out.lt, ?_, ?_, ?_, hrb', ?_, ?_, by have := hb4.size; omega⟩
        · rw [onV_zero]; exact ownsRow_below HQO.out hb4 (fun y hy => (HQO.out.lt y hy).2)
        · refine HJ.out (j + 1) S2 w3 w4 _ HJ3.out (Chg.fresh hb4) (fun y hy => .inl ?_)
          rw [HS2.out]
          exact .inl hy
        · exact HKW3.out.trans ⟨hb4.size, fun y hy _ => hb4.block y hy⟩
        · exact HKC3'.out.trans ⟨hb4.size, fun y hy _ => hb4.block y hy⟩
        · intro y hy
          have := hvo y hy
          refine ⟨fun h => ?_, ?_⟩
          · simp [Value.ownBlock] at h; omega
          · have := HQ3.out.lt; omega
        · intro y hy
          simp [Value.ownBlock] at hy
          subst hy
          refine ⟨hdg, hd2, hd3, hdb, by omega, fun hk => by have := HK4W.out _ hk; omega⟩
      have HSTT := Lib.hid hst
      have HBS := Lib.hid hbs
      clear hrb hrb' hvo hb4 hbs hst r0 r1 r2 r3
      gi_wp2_with fail
      gi_loopw [39] (fun i wq => SnQ l y2 y3 bi K J W C (j + 1) m q S b x s bs (.slice ab q cb) i wq) (fun i _ => q - (intOf i).toNat)
      case atStart => exact HSTT.out
      case round =>
        rename World => wq
        obtain ⟨q', ao, co, hqq, rfl, hoq, hb3q, hb2q, hjq, hkq, hkcq, hrq, hnq, hoo, hszq⟩ := hrel
        have HJQ := Lib.hid hjq; clear hjq
        have HKQ := Lib.hid hkq; clear hkq
        have HKCQ := Lib.hid hkcq; clear hkcq
        have HOQ := Lib.hid hoq; clear hoq
        have HRQ := Lib.hid hrq; clear hrq
        have HNQ := Lib.hid hnq; clear hnq
        have HOO := Lib.hid hoo; clear hoo
        have HB3Q := Lib.hid hb3q; clear hb3q
        have HB2Q := Lib.hid hb2q; clear hb2q
        by_cases hql : q' < q
        · have hbl : q' < bs.length := by omega
          obtain ⟨y, hy⟩ : ∃ y, bs[q'] = y := ⟨_, rfl⟩
          have hy2' : y ≤ 2 := hb2' y (by rw [← hy]; exact List.getElem_mem hbl)
          obtain ⟨gb, ob, cb', he, _, _, hgb, hbc⟩ := RowAt.pos HRQ.out (by omega)
          obtain ⟨rfl, rfl⟩ : ab = some ⟨gb, ob, none⟩ ∧ cb = cb' := by simpa using he
          have cb0 : wq.cell? ⟨gb, ob + q', none⟩ = some (.int .i64 (y : Int)) := hbc q' _ (by simp [hbl, hy])
          have hst := onV_step (x := x) (s := s) hbl
          rw [hy] at hst
          have HST2 := Lib.hid hst; clear hst
          obtain ⟨hnq1, hnq2⟩ := HNQ.out gb rfl
          have c3 : wq.cell? ⟨y3, 0, none⟩ = some (.slice ao (m + q') co) := HB3Q.out.cell 0
          have hlt3 := HB3Q.out.lt
          obtain ⟨i0, hi, hz0, hz1, hz2⟩ := info_parts Tryd.infoInt
          have hwq : W.heap.size ≤ wq.heap.size := HKQ.out.size
          have hm4 : m ≤ 4000 := by omega
          have hq4 : q' ≤ 100000 := by omega
          have HA1 : Hid ((wq.alloc (.cells #[.int .i64 ((x : Int) + (y : Int))] 3)).ownsRow W.heap.size 3 1 (.slice ao (m + q') co) (m + q') (onV x s bs q')) := ownsRow_below HOQ.out ((Below.refl _ _).alloc (Nat.le_refl _) _) (fun g hg => (HOQ.out.lt g hg).2)
          have HA2 : Hid (RowAt (wq.alloc (.cells #[.int .i64 ((x : Int) + (y : Int))] 3)) 1 (.slice (some ⟨wq.heap.size, 0, none⟩) 1 1) 1 [.int .i64 ((x : Int) + (y : Int))]) := RowAt.lit wq _ #[.int .i64 ((x : Int) + (y : Int))] 1 rfl (by unfold maxLen; omega)
          have HA3 : Hid (∀ z, z ∈ [Value.int .i64 ((x : Int) + (y : Int))] → z.oneCell' = true) := by
            show ∀ z, _
            intro z hz
            simp at hz
            subst hz
            rfl
          have hA4 : (m + q' + 1) * 8 ≤ 140737488355328 := by omega
          have hA5 : m + q' + 1 ≤ maxLen := by unfold maxLen; omega
          have hA6 : W.heap.size ≤ (wq.alloc (.cells #[.int .i64 ((x : Int) + (y : Int))] 3)).heap.size := by simp; omega
          have HB3A : Hid (Blk (wq.alloc (.cells #[.int .i64 ((x : Int) + (y : Int))] 3)) y3 25 #[.slice ao (m + q') co]) := HB3Q.out.alloc _
          have hy3o : (Value.slice ao (m + q') co).ownBlock ≠ some y3 := fun h => (HOO.out y3 h).2.2.1 rfl
          have HY3O := Lib.hid hy3o
          clear hy he hbc hy3o
          gi_wp2_with (gi_at_builtin; refine wpListIn_append_row rfl (.tmp 43) (.tmp 47) 25 rfl W.heap.size 3 i0 (.int .i64 0) 1 8 Tryd.underlying25 hi hz0 hz1 hz2 rfl (by decide) (.slice ao (m + q') co) (m + q') (onV x s bs q') rfl HA1.out (.slice (some ⟨wq.heap.size, 0, none⟩) 1 1) 1 [.int .i64 ((x : Int) + (y : Int))] rfl HA2.out HA3.out hA4 hA5 hA6 ?_; intro v5 w5 hown5 hg5 hat5; obtain ⟨a5, c5, rfl, _⟩ := (RowAt.of_own hown5).form; have hb35 := HB3A.out.grown hg5 (fun h => HY3O.out h.symm); have c35 := hb35.cell 0; have d35 := hb35.frozen 0; have HB35 := Lib.hid hb35; have HOWN5 := Lib.hid hown5; have HG5 := Lib.hid hg5; have HAT5 := Lib.hid hat5; clear hown5 hg5 hat5 hb35)
          obtain ⟨w6, hw6⟩ : ∃ w6, w5.setCell ⟨y3, 0, none⟩ (.slice a5 (m + q' + 1) c5) = w6 := ⟨_, rfl⟩
          have hgA := HG5.out
          have hc6 : Chg (fun z => (Value.slice ao (m + q') co).ownBlock = some z ∨ z = y3) wq w6 := by
            rw [← hw6]
            exact ((Chg.alloc wq _).trans (Chg.grown hgA (fun g hg => .inl hg))).trans (Chg.setCell (S := fun z => (Value.slice ao (m + q') co).ownBlock = some z ∨ z = y3) w5 ⟨y3, 0, none⟩ _ (.inr rfl))
          have hv5 : ∀ z, (Value.slice a5 (m + q' + 1) c5).ownBlock = some z → (Value.slice ao (m + q') co).ownBlock = some z ∨ wq.heap.size + 1 ≤ z := by
            intro z hz
            rcases HAT5.out with e | e
            · exact .inl (e.symm.trans hz)
            · rw [hz] at e; simp at e; exact .inr (by omega)
          have hCq : C.heap.size ≤ wq.heap.size := hszq
          have hSA : ∀ z, S z → z < wq.heap.size := fun z hz => by have := HSS.out z hz; have := HCA.out.size; omega
          have hfin : SnQ l y2 y3 bi K J W C (j + 1) m q S b x s bs (.slice (some ⟨gb, ob, none⟩) q cb) (.int .i64 ((q' : Int) + 1)) w6 := by
            refine ⟨q' + 1, a5, c5, by omega, by go_num, ?_, ?_, ?_, ?_, ?_, ?_, ?_, ?_, ?_, by have := hc6.size; omega⟩
            · rw [HST2.out, ← hw6]
              refine ownsRow_kept HOWN5.out ((Chg.setCell (S := fun z => z = y3) w5 ⟨y3, 0, none⟩ _ rfl).kept (K := fun z => z ≠ y3) (fun z h => h)) (fun z hz => ?_)
              rcases hv5 z hz with h | h
              · rintro rfl; exact HY3O.out h
              · omega
            · rw [← hw6]; exact HB35.out.set_ 0 _
            · exact HB2Q.out.stab (S := fun z => (Value.slice ao (m + q') co).ownBlock = some z ∨ z = y3) (by rintro (h | h); exact (HOO.out y2 h).2.1 rfl; omega) hc6
            · refine HJ.out (j + 1) _ wq w6 _ HJQ.out (hc6.mono fun z _ h => ?_) ?_
              · rcases h with h | h
                · exact .inr (.inr (.inr (.inr h)))
                · exact .inr (.inr (.inl h))
              · rintro z (h | h | h | h | h)
                · exact .inl (.inl h)
                · exact .inl (.inr (.inl h))
                · exact .inl (.inr (.inr (.inl h)))
                · exact .inl (.inr (.inr (.inr (.inl h))))
                · rcases hv5 z h with h | h
                  · exact .inl (.inr (.inr (.inr (.inr h))))
                  · exact .inr (by omega)
            · refine HKQ.out.trans (hc6.kept fun z hk h => ?_)
              have := HK4W.out z hk
              rcases h with h | h
              · exact (HOO.out z h).2.2.2.2.2 hk
              · omega
            · refine HKCQ.out.trans (hc6.kept fun z hk h => ?_)
              rcases h with h | h
              · obtain ⟨u1, u2, u3, u4, u5, _⟩ := HOO.out z h
                rcases hk with hk | hk | hk
                · exact u1 hk
                · exact u4 hk
                · exact u5 hk
              · subst h
                rcases hk with hk | hk | hk
                · exact hn3 hk
                · omega
                · omega
            · exact RowAt.kept HRQ.out (hc6.kept (K := fun z => z = gb) (fun z hz h => by
                subst hz
                rcases h with h | h
                · exact hnq1 h
                · exact hnq2 h)) (fun z hz => by simp [Value.ownBlock] at hz; exact hz.symm)
            · intro z hz
              simp [Value.ownBlock] at hz
              subst hz
              refine ⟨fun h => ?_, hnq2⟩
              rcases hv5 _ h with h | h
              · exact hnq1 h
              · omega
            · intro z hz
              rcases hv5 z hz with h | h
              · exact HOO.out z h
              · refine ⟨fun hs => by have := hSA z hs; omega, by omega, by omega, by omega, by omega, fun hk => by have := HK4W.out z hk; omega⟩
          have HFIN := Lib.hid hfin
          rw [hw6]
          clear hfin hc6 hv5 hgA hw6 c35 d35 c3 cb0
          gi_wp2_with fail
          exact ⟨HFIN.out, by simp [intOf]; omega⟩
        · obtain rfl : q' = q := by omega
          have hl9 : (vstep (x :: s) nd).length = m + q' := by unfold vstep; simp [HBS.out, HM.out]; omega
          have hv9 : onV x s bs q' = stV (vstep (x :: s) nd) := by rw [← hq]; exact onV_all HBS.out.symm
          have hfin : SnI T l y2 y3 bi K J W (j + 1) S wq := by
            refine ⟨.slice ao (m + q') co, ?_, HB2Q.out, HB3Q.out, HJQ.out, HKQ.out, ?_, ?_, HGE.out, by omega⟩
            · rw [HSTEP.out, hl9, ← hv9]; exact HOQ.out
            · intro z hz
              obtain ⟨a1, a2, a3, a4, _⟩ := HOO.out z hz
              exact ⟨a1, a2, a3, a4⟩
            · exact ⟨hn2, hn3, hnb⟩
          have HFIN := Lib.hid hfin
          clear hl9 hv9 hfin
          gi_wp2_with fail
          exact ⟨HKCQ.out, HFIN.out⟩
  case done =>
    intro D S A hi hSD hwD hKD
    obtain ⟨o, _, _, _, hJA, _⟩ := hi
    have hJ2 := HJ.out N _ A (A.putObj D (.deferred none)) (SnS S y2 y3 bi o) hJA (Chg.putObj _ _ _ (.inl hSD)) (fun x h => .inl h)
    have HJ2 := Lib.hid hJ2
    clear hJA hJ2
    gi_wp2_with fail
    exact postM1n hKD rfl (results_none rfl _ _ _) ⟨⟨_, rfl⟩, _, .inl HJ2.out⟩
  case stop =>
    intro D c j S A hj hx hSD hwD hKD
    obtain ⟨rfl, hxj⟩ := hx
    have hJ2 := HJX.out j S A (A.putObj D (.deferred none)) S hxj (Chg.putObj _ _ _ hSD) (fun x h => .inl h)
    have HJ2 := Lib.hid hJ2
    clear hxj hJ2
    gi_wp2_with fail
    exact postM1 hKD rfl (results_none rfl _ _ _) ⟨⟨_, rfl⟩, _, .inr ⟨j, hj, HJ2.out⟩⟩

end Go.Proofs.YtjhgpifccleknaaDoor
