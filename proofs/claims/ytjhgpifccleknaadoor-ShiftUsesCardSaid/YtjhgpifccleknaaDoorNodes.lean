/- What shift.nodes' iterator gives: the nodes of a term from the root on, each with its place and how many binders it is under; where the table of shapes lies as it is laid. -/
import Derived.Test.YtjhgpifccleknaaDoorBack
import Derived.Test.YtjhgpifccleknaaDoorArgs
import Derived.Test.YtjhgpifccleknaaDoorStack
import Derived.Test.YtjhgpifccleknaaDoorBindsO
import Derived.Test.YtjhgpifccleknaaDoorRefDp
namespace Go.Proofs.YtjhgpifccleknaaDoor
set_option linter.unusedSimpArgs false
set_option linter.unusedVariables false
open Go.RowKit
attribute [local go_sem] Oper.semAt_some

theorem ownsRow_kept {w w' : World} {base size n : Nat} {e : TypeId} {v : Value} {xs : List Value} {K : Bset} (h : w.ownsRow base e size v n xs) (hb : Kept K w w') (hB : ∀ g, v.ownBlock = some g → K g) : w'.ownsRow base e size v n xs := by
  refine ⟨h.1, ?_⟩
  rcases h.2 with hn | ⟨g, cap, cur, rfl, hbg, hg, rest⟩
  · exact .inl hn
  · exact .inr ⟨g, cap, cur, rfl, hbg, (hb.block g (Array.getElem?_eq_some_iff.1 hg).1 (hB g rfl)).trans hg, rest⟩

/-- an append to an own row, inside a fence -/
theorem wpListIn_append_row {F : Fence} {N : Nat} {P : Program} {w : World} {ops : Array Oper} {rest : List Oper} {o : Oper} {a : Act} {Q : Exit → Act → World → Prop} (hgd : o.guard = none) (s x : Operand) (t : TypeId)
    (ho : o.op = .call { callee := .builtin .append, args := #[s, x], argTypes := #[t, t] })
    (base : Nat) (e : TypeId) (i : TypeInfo) (z : Value) (size bytes : Nat) (ht : P.underlying t = some (.slice e)) (hi : P.info? e = some i) (hz : i.zero = some z)
    (hsize : i.size = size) (hby : i.bytes = bytes) (hzs : z.cells.size = size) (hsz : 0 < size)
    (v : Value) (n : Nat) (xs : List Value) (hs : a.eval s = v) (hown : w.ownsRow base e size v n xs)
    (y : Value) (m : Nat) (news : List Value) (hx : a.eval x = y) (hr : RowAt w size y m news) (h1 : ∀ u ∈ news, u.oneCell' = true)
    (hbytes : (n + m) * bytes ≤ 140737488355328) (h63 : n + m ≤ maxLen) (hbase : base ≤ w.heap.size)
    (h : ∀ v' w', w'.ownsRow base e size v' (n + m) (xs ++ news) → w.grownBy w' v.ownBlock → (v'.ownBlock = v.ownBlock ∨ v'.ownBlock = some w.heap.size) → wpListIn F N P ops Q rest (a.put o.dst v') w') : wpListIn F N P ops Q (o :: rest) a w := by
  refine wpListIn_plain hgd fun K hK => ?_
  obtain ⟨v', w', hrun, h2, h3, h4⟩ := run_append_row (P := P) base t o.type e i z size bytes ht hi hz hsize hby hzs hsz v n xs hown y m news hr h1 hbytes h63 hbase
  unfold Oper.wpIn
  refine ⟨?_, ?_⟩
  · simp [Oper.about, ho, resolve, Target.leads, Sem.run_pure]
  · rw [Oper.semAt_plain F _ _ (by rw [ho]; intro c hc'; cases hc')]
    simp [execOp, ho, resolve, invoke, builtin, hs, hx, hrun, Result.andThen]
    exact hK _ _ (h v' w' h2 h3 h4)

/-- numbers as the stack holds them, the top one last -/
def stV (l : List Nat) : List Value := l.reverse.map fun x : Nat => Value.int .i64 (x : Int)
theorem stV_length (l : List Nat) : (stV l).length = l.length := by simp [stV]
theorem stV_cons (x : Nat) (l : List Nat) : stV (x :: l) = stV l ++ [.int .i64 (x : Int)] := by simp [stV]
theorem stV_tail (x : Nat) (l : List Nat) : (stV (x :: l)).take l.length = stV l := by rw [stV_cons, List.take_left' (stV_length l)]
theorem stV_top (x : Nat) (l : List Nat) : (stV (x :: l))[l.length]? = some (.int .i64 (x : Int)) := by
  rw [stV_cons, List.getElem?_append_right (by rw [stV_length]; omega), stV_length, Nat.sub_self]; rfl
/-- the stack, some of a node's numbers laid on it -/
def onV (x : Nat) (s bs : List Nat) (i : Nat) : List Value := stV s ++ (bs.take i).map fun b : Nat => Value.int .i64 ((x : Int) + (b : Int))
theorem onV_zero (x : Nat) (s bs : List Nat) : onV x s bs 0 = stV s := by simp [onV]
theorem onV_step {x : Nat} {s bs : List Nat} {i : Nat} (h : i < bs.length) : onV x s bs (i + 1) = onV x s bs i ++ [.int .i64 ((x : Int) + (bs[i] : Int))] := by
  unfold onV
  rw [List.take_add_one, List.getElem?_eq_getElem h, List.append_assoc]
  show stV s ++ ((bs.take i ++ [bs[i]]).map _) = _
  rw [List.map_append]
  rfl
theorem onV_all {x : Nat} {s bs : List Nat} {n : Nd} (hb : bs = bnds n) : onV x s bs bs.length = stV (vstep (x :: s) n) := by
  subst hb
  unfold onV stV vstep
  rw [List.take_length]
  simp
theorem onV_length (x : Nat) (s bs : List Nat) {i : Nat} (h : i ≤ bs.length) : (onV x s bs i).length = s.length + i := by simp [onV, stV_length]; omega

/-- what the iterator hands on in round j -/
def encU (T : Tm) (j : Nat) : Array Value := #[.int .i64 ((T.flat.length - 1 - j : Nat) : Int), .int .i64 (((stk T j).headD 0 : Nat) : Int)]

set_option maxRecDepth 20000 in
set_option maxHeartbeats 4000000 in
theorem nodes_iter (n : Nat) (T : Tm) (hwf : T.wf = true) (hlen : T.flat.length ≤ 4000) (hsm : SmallN T.flat) (b off cap bt : Nat) (K : Bset) (we w0 : World)
    (hSe : ShapesAt we) (hke : Kept (fun x => x < we.heap.size) we w0) (hct : w0.cell? ⟨bt, 0, none⟩ = some (.slice (some ⟨b, off, none⟩) T.flat.length cap))
    (hv : ReadN w0 (.slice (some ⟨b, off, none⟩) T.flat.length cap) T.flat) (k1 : K bt) (k2 : K b) (k3 : ∀ x, x < we.heap.size → K x) (k4 : ∀ x, K x → x < w0.heap.size) :
    Iter Fence.wide n Tryd.prog 89 #[.pointer (some ⟨bt, 0, none⟩)] (encU T) T.flat.length K w0 := by
  intro l J Jx W hW hJ hJx hY h0
  obtain ⟨N, hN⟩ : ∃ N, T.flat.length = N := ⟨_, rfl⟩
  have hNp : 0 < N := by rw [← hN]; exact flat_pos T
  have hke2 : Kept (fun x => x < we.heap.size) we W := hke.trans (hW.mono fun x h1 h2 => h1)
  have HSA : Hid (∀ A, Kept K W A → ShapesAt A) := fun A hA => hSe.kept (hke2.trans (hA.mono fun x _ h => k3 x h))
  have hvW := RowAt.kept hv hW (fun g hg => by
    simp [Value.ownBlock] at hg
    subst hg
    obtain ⟨_, _, _, he, _, _, hlt, _⟩ := RowAt.pos hv (by omega)
    simp at he
    obtain ⟨⟨rfl, rfl⟩, _⟩ := he
    exact hlt)
  have hctW := hW.cell (World.block_lt_of_cell? w0 _ hct) hct
  have hbtW : bt < W.heap.size := World.block_lt_of_cell? W _ hctW
  have HVA : Hid (∀ A, Kept K W A → ReadN A (.slice (some ⟨b, off, none⟩) N cap) T.flat) := by
    show ∀ A, _
    intro A hA
    rw [← hN]
    exact RowAt.kept hvW hA (fun g hg => by simp [Value.ownBlock] at hg; subst hg; exact k2)
  have HCT : Hid (∀ A, Kept K W A → A.cell? ⟨bt, 0, none⟩ = some (.slice (some ⟨b, off, none⟩) N cap)) := by
    show ∀ A, _
    intro A hA
    rw [← hN]
    exact hA.cell k1 hctW
  have hcap : N ≤ cap ∧ cap ≤ maxLen := by
    obtain ⟨_, _, _, he, h1, h2, _⟩ := RowAt.pos hvW (by omega)
    simp at he
    obtain ⟨_, rfl⟩ := he
    rw [← hN]
    exact ⟨h1, h2⟩
  obtain ⟨hcap1, hcap2⟩ := hcap
  have hcap3 : cap ≤ 9223372036854775807 := by unfold maxLen at hcap2; omega
  rw [hN] at hctW hlen
  rw [hN] at hY ⊢
  have HY := Lib.hid hY; clear hY
  have HJ := Lib.hid hJ; clear hJ
  have HWF := Lib.hid hwf; clear hwf
  have HSM := Lib.hid hsm; clear hsm
  have HNN := Lib.hid hN; clear hN
  have H0 := Lib.hid h0; clear h0
  have HK3W := Lib.hid k3; clear k3
  have HK4W : Hid (∀ x, K x → x < W.heap.size) := fun x h => by have := k4 x h; have := hW.size; omega
  clear k4
  clear hv hct hW hke hke2 hSe hvW hcap2
  refine callsIn_of_wp Tryd.func89 rfl trivial ?_ rfl
  simp only [Tryd.ntmps89, List.size_toArray, List.length_cons, List.length_nil, Nat.reduceAdd, Nat.reduceSub, Array.replicate_succ, Array.replicate_zero, List.push_toArray, List.append_toArray, List.nil_append, List.cons_append]
  gi_wp2_with fail
  gi_loopw [3, 4] (fun o i wr => ∃ j, j ≤ N ∧ i = .int .i64 ((N : Int) - 1 - j) ∧ wr.ownsRow W.heap.size 3 1 o (stk T j).length (stV (stk T j)) ∧ J j (fun x => o.ownBlock = some x) wr ∧ Kept K W wr) (fun _ i _ => (intOf i + 1).toNat)
  case atStart =>
    refine ⟨0, Nat.zero_le _, by simp, ?_, HJ.out _ _ _ _ _ H0.out (Chg.alloc _ _) (fun x h => .inr (by simp [Value.ownBlock] at h; omega)), ⟨by simp, fun x hx _ => Below.heap_alloc _ _ _ hx⟩⟩
    exact World.ownsRow_lit W #[.int .i64 0] 1 (Nat.le_refl _) (by unfold maxLen; omega) rfl
  case round =>
    rename World => wr
    obtain ⟨j, hj, rfl, hown, hJw, hkw⟩ := hrel
    have HJW := Lib.hid hJw; clear hJw
    have HKW := Lib.hid hkw; clear hkw
    by_cases hlt : j < N
    · obtain ⟨x, s, hs⟩ : ∃ x s, stk T j = x :: s := by
        cases h : stk T j with
        | nil => exact absurd h (stk_ne HWF.out j (by rw [HNN.out]; exact hlt))
        | cons x s => exact ⟨x, s, rfl⟩
      obtain ⟨m, hm⟩ : ∃ m, s.length = m := ⟨_, rfl⟩
      have hx2 : x ≤ 2 * j := stk_bound HWF.out j (by rw [HNN.out]; omega) x (by rw [hs]; simp)
      have hml : m + 1 ≤ N - j := by have := stk_len HWF.out j (by rw [HNN.out]; omega); rw [hs, HNN.out] at this; simp at this; omega
      rw [hs, List.length_cons, hm] at hown
      obtain ⟨g, capo, rfl, hg1, hg2, hg3, hg4, _, hgc, _⟩ := ownsRow_open hown (by omega)
      have ctop : wr.cell? ⟨g, m, none⟩ = some (.int .i64 (x : Int)) := (hgc m (by omega)).trans (by rw [← hm]; exact stV_top x s)
      obtain ⟨a', cap', he, hce, hcut⟩ := ownsRow_cut hown (k := m) (by omega)
      obtain ⟨rfl, rfl⟩ : some ⟨g, 0, none⟩ = a' ∧ capo = cap' := by simpa using he
      rw [Nat.mul_one] at hcut
      have est : (stV (x :: s)).take m = stV s := by rw [← hm]; exact stV_tail x s
      rw [est] at hcut
      have HCU := Lib.hid hcut; clear hcut hgc est hown he
      obtain ⟨k, hk⟩ : ∃ k, N = k + 1 + j := ⟨N - 1 - j, by omega⟩
      have e1 : (N : Int) - 1 - j = (k : Int) := by omega
      have hkN : k < N := by omega
      rw [e1]
      have hkl : k < T.flat.length := by rw [HNN.out]; omega
      obtain ⟨nd, hnd⟩ : ∃ nd, T.flat[k] = nd := ⟨_, rfl⟩
      have hmem : nd ∈ T.flat := by rw [← hnd]; exact List.getElem_mem hkl
      have hnr := flat_right T HWF.out nd hmem
      have hsz := HSM.out nd hmem
      have hstep : stk T (j + 1) = vstep (x :: s) nd := by
        have h := stk_step (T := T) (j := j) (by rw [HNN.out]; exact hlt)
        rw [hs] at h
        rw [h, ← hnd]
        congr 1
        congr 1
        rw [HNN.out]
        omega
      have hen : encU T j = #[.int .i64 (k : Int), .int .i64 (x : Int)] := by
        unfold encU
        rw [hs, HNN.out, show N - 1 - j = k from by omega]
        rfl
      have cbox := HCT.out wr HKW.out
      obtain ⟨fn, tmps, assign, body, hy, hR⟩ := HY.out j _ wr hlt HJW.out (fun y h => by simp [Value.ownBlock] at h; omega)
      rw [hen] at hy
      have HR := Lib.hid hR
      have HSTEP := Lib.hid hstep
      have HKK := Lib.hid hk
      have HNR := Lib.hid hnr
      have hm9 : capo ≤ 9223372036854775807 := by unfold maxLen at hg4; omega
      clear hR hen hstep e1 hs hmem hk hnr hg4
      gi_wp2_with fail
      refine ⟨(fun h => by cases h), HR.out.mono ?_⟩
      rintro e w3 (⟨rfl, hj3, hk3⟩ | ⟨rfl, hj3⟩)
      · have HJ3 := Lib.hid hj3; clear hj3
        have HK3 : Hid (Kept K W w3) := HKW.out.trans (hk3.mono fun y _ h => .inr h)
        have HO3 : Hid (w3.ownsRow W.heap.size 3 1 (.slice (some ⟨g, 0, none⟩) m capo) m (stV s)) := ownsRow_kept HCU.out hk3 (fun y h => .inl h)
        have hg3' : g < w3.heap.size := by have := hk3.size; omega
        have cbox3 := HCT.out w3 HK3.out
        obtain ⟨r0, r1, r2, r3⟩ : w3.cell? ⟨b, off + k * 4, none⟩ = some (.int .i64 nd.K) ∧ w3.cell? ⟨b, off + k * 4 + 1, none⟩ = some (.int .i64 nd.N) ∧ w3.cell? ⟨b, off + k * 4 + 2, none⟩ = some (.int .i64 nd.M) ∧ w3.cell? ⟨b, off + k * 4 + 3, none⟩ = some (.string nd.S) := by
          have h := HVA.out w3 HK3.out
          rw [← HNN.out] at h
          obtain ⟨_, ⟨h0, _⟩ | ⟨b', off', cap', he, _, _, _, hc⟩⟩ := ReadN.cases h
          · rw [h0] at hkl; simp at hkl
          · obtain ⟨⟨rfl, rfl⟩, rfl⟩ : (b = b' ∧ off = off') ∧ cap = cap' := by simpa using he
            have := hc k hkl
            rw [hnd] at this
            exact this
        clear hk3 hy cbox ctop
        gi_wp2_with fail
        refine enterW (binds_own nd _ (HSA.out _ HK3.out) hsz) ?_
        rintro e w4 ⟨vb, rfl, hrb, hvo, hb4⟩
        rw [if_pos HNR.out] at hrb
        rw [HNR.out]
        obtain ⟨bs, hbs⟩ : ∃ bs, bnds nd = bs := ⟨_, rfl⟩
        have hb2 : ∀ y, y ∈ bs → y ≤ 2 := by rw [← hbs]; exact bnds_two HNR.out
        rw [hbs] at hrb
        obtain ⟨q, hq⟩ : ∃ q, bs.length = q := ⟨_, rfl⟩
        obtain ⟨ab, cb, rfl⟩ := ReadI.len_slice hrb
        rw [List.length_map, hq] at hvo ⊢
        have hrb' : RowAt w4 1 (.slice ab q cb) q (bs.map fun y : Nat => Value.int .i64 (y : Int)) := by
          unfold ReadI at hrb
          rw [List.length_map, hq, List.map_map] at hrb
          exact hrb
        have hqs : q ≤ 9223372036854775807 := by have := hrb'.small; unfold maxLen at this; omega
        have hq6 : q ≤ 100000 := by have := arity_small HNR.out; unfold arity at this; rw [hbs] at this; omega
        have HJ4 : Hid (J (j + 1) (fun y => (Value.slice (some ⟨g, 0, none⟩) m capo).ownBlock = some y) w4) := HJ.out _ _ _ _ _ HJ3.out (Chg.fresh hb4) (fun y h => .inl h)
        have HK4 : Hid (Kept K W w4) := HK3.out.trans ⟨hb4.size, fun y hy _ => hb4.block y hy⟩
        have HO4 : Hid (w4.ownsRow W.heap.size 3 1 (.slice (some ⟨g, 0, none⟩) m capo) m (stV s)) := ownsRow_below HO3.out hb4 (fun y h => by simp [Value.ownBlock] at h; omega)
        have HRB := Lib.hid hrb'
        have HVO := Lib.hid hvo
        have hs3 := hb4.size
        have HBS := Lib.hid hbs
        clear hrb hrb' hvo hb4 hbs cbox3 r0 r1 r2 r3
        gi_wp2_with fail
        gi_loopw [3, 44] (fun o i wq => ∃ q', q' ≤ q ∧ i = .int .i64 (q' : Int) ∧ wq.ownsRow W.heap.size 3 1 o (m + q') (onV x s bs q') ∧ J (j + 1) (fun y => o.ownBlock = some y) wq ∧ Kept K W wq ∧ RowAt wq 1 (.slice ab q cb) q (bs.map fun y : Nat => Value.int .i64 (y : Int)) ∧ (∀ y, (Value.slice ab q cb).ownBlock = some y → o.ownBlock ≠ some y)) (fun _ i _ => q - (intOf i).toNat)
        case atStart =>
          refine ⟨0, Nat.zero_le _, rfl, by rw [onV_zero]; exact HO4.out, HJ4.out, HK4.out, HRB.out, fun y h h2 => ?_⟩
          have := HVO.out y h
          simp [Value.ownBlock] at h2
          omega
        case round =>
          rename World => wq
          obtain ⟨q', hqq, rfl, hoq, hjq, hkq, hrq, hnq⟩ := hrel
          have HJQ := Lib.hid hjq; clear hjq
          have HKQ := Lib.hid hkq; clear hkq
          have HOQ := Lib.hid hoq; clear hoq
          have HRQ := Lib.hid hrq; clear hrq
          have HNQ := Lib.hid hnq; clear hnq
          by_cases hql : q' < q
          · have hbl : q' < bs.length := by omega
            obtain ⟨y, hy⟩ : ∃ y, bs[q'] = y := ⟨_, rfl⟩
            have hy2 : y ≤ 2 := hb2 y (by rw [← hy]; exact List.getElem_mem hbl)
            obtain ⟨gb, ob, cb', he, _, _, hgb, hbc⟩ := RowAt.pos HRQ.out (by omega)
            obtain ⟨rfl, rfl⟩ : ab = some ⟨gb, ob, none⟩ ∧ cb = cb' := by simpa using he
            have cb0 : wq.cell? ⟨gb, ob + q', none⟩ = some (.int .i64 (y : Int)) := hbc q' _ (by simp [hbl, hy])
            have hst := onV_step (x := x) (s := s) hbl
            rw [hy] at hst
            have HST := Lib.hid hst; clear hst
            have hnq' := HNQ.out gb rfl
            obtain ⟨ao, co, rfl, _⟩ := (RowAt.of_own HOQ.out).form
            obtain ⟨i0, hi, hz0, hz1, hz2⟩ := info_parts Tryd.infoInt
            have hwq : W.heap.size ≤ wq.heap.size := HKQ.out.size
            clear hbc he hy
            gi_wp2_with (gi_at_builtin; refine wpListIn_append_row rfl (.tmp 48) (.tmp 52) 25 rfl W.heap.size 3 i0 (.int .i64 0) 1 8 Tryd.underlying25 hi hz0 hz1 hz2 rfl (by decide) (.slice ao (m + q') co) (m + q') (onV x s bs q') rfl (HOQ.out.alloc _) (.slice (some ⟨wq.heap.size, 0, none⟩) 1 1) 1 [.int .i64 ((x : Int) + (y : Int))] rfl (RowAt.lit (size := 1) wq 3 #[.int .i64 ((x : Int) + (y : Int))] 1 rfl (by unfold maxLen; omega)) (by simp [Value.oneCell']) (by omega) (by unfold maxLen; omega) (by simp; omega) ?_; intro v5 w5 hown5 hg5 hat5)
            have hcA : Chg (fun z => (Value.slice ao (m + q') co).ownBlock = some z) wq w5 := (Chg.alloc _ _).trans (Chg.grown hg5 (fun g hg => hg))
            have hk5 : Kept K wq w5 := hcA.kept (fun z hz h => by have h1 := (HOQ.out.lt z h).1; have h2 := HK4W.out z hz; omega)
            have hrq5 : RowAt w5 1 (.slice (some ⟨gb, ob, none⟩) q cb) q (bs.map fun y : Nat => Value.int .i64 (y : Int)) := RowAt.kept HRQ.out (hcA.kept (K := fun z => (Value.slice ao (m + q') co).ownBlock ≠ some z) (fun z hz h => hz h)) (fun z hz => HNQ.out z hz)
            have hj5 : J (j + 1) (fun z => v5.ownBlock = some z) w5 := HJ.out _ _ _ _ _ HJQ.out hcA (fun z h => by
              rcases hat5 with e | e
              · exact .inl (e.symm.trans h)
              · rw [e] at h; simp at h; exact .inr (by omega))
            have hn5 : ∀ z, (Value.slice (some ⟨gb, ob, none⟩) q cb).ownBlock = some z → v5.ownBlock ≠ some z := fun z hz h => by
              rcases hat5 with e | e
              · exact HNQ.out z hz (e.symm.trans h)
              · rw [e] at h; simp [Value.ownBlock] at h hz; omega
            have HO5 : Hid (w5.ownsRow W.heap.size 3 1 v5 (m + (q' + 1)) (onV x s bs (q' + 1))) := by show World.ownsRow _ _ _ _ _ _ _; rw [HST.out]; exact hown5
            have HK5 : Hid (Kept K W w5) := HKQ.out.trans hk5
            have HRQ5 := Lib.hid hrq5
            have HJ5 := Lib.hid hj5
            have HN5 := Lib.hid hn5
            clear hown5 hg5 hat5 hcA hk5 hrq5 hj5 hn5
            gi_wp2_with fail
            exact ⟨⟨q' + 1, by omega, by go_num, HO5.out, HJ5.out, HK5.out, HRQ5.out, HN5.out⟩, by simp [intOf]; omega⟩
          · obtain rfl : q' = q := by omega
            have hl9 : (vstep (x :: s) nd).length = m + q' := by unfold vstep; simp [HBS.out]; omega
            have hv9 : onV x s bs q' = stV (vstep (x :: s) nd) := by rw [← hq]; exact onV_all HBS.out.symm
            have HL9 := Lib.hid hl9
            have HV9 := Lib.hid hv9
            clear hl9 hv9
            gi_wp2_with fail
            refine ⟨⟨j + 1, by omega, congrArg (Value.int .i64) (by have := HKK.out; omega), ?_, HJQ.out, HKQ.out⟩, by simp [intOf]⟩
            rw [HSTEP.out, HL9.out, ← HV9.out]
            exact HOQ.out
      · have HJ3 := Lib.hid hj3; clear hj3
        clear hy cbox ctop
        gi_wp2_with fail
        exact bodyPost_ret (results_none rfl _ _ _) rfl ⟨⟨_, rfl⟩, _, .inr ⟨j + 1, by omega, HJ3.out⟩⟩
    · obtain rfl : j = N := by omega
      have e1 : (j : Int) - 1 - (j : Int) = -1 := by omega
      rw [e1]
      gi_wp2_with fail
      go_end0
      exact ⟨⟨_, rfl⟩, _, .inl HJW.out⟩

end Go.Proofs.YtjhgpifccleknaaDoor
