/- What term.Part comes to, for every row of nodes and path, where the table of shapes lies as it is laid; conditions: the strings' sizes, and a path of at most a million steps. The stack of numbers by which a term is walked from the root on: it never runs empty, never grows above the nodes that are left, and its top is the node's number of binders. Plain lists; no function of the program is named here. What shift.nodes' iterator gives: the nodes of a term from the root on, each with its place and how many binders it is under; where the table of shapes lies as it is laid. -/
import Derived.Test.YteldkcpkamgfpaaDoorRg
import Derived.Test.YteldkcpkamgfpaaDoorPa
import Derived.Test.YteldkcpkamgfpaaDoorTr
import Derived.Test.YteldkcpkamgfpaaDoorRi
namespace Go.Proofs.YteldkcpkamgfpaaDoor
set_option linter.unusedSimpArgs false
set_option linter.unusedVariables false
open Go.RowKit
attribute [local go_sem] Oper.semAt_some

/-- the part at a path -/
def walkP : Tm → List Int → Option Tm
  | t, [] => some t
  | t, k :: r => if 0 ≤ k ∧ k < t.kids.length then (t.kids[k.toNat]?).bind fun c => walkP c r else none

theorem walkP_append (t : Tm) (a b : List Int) : walkP t (a ++ b) = (walkP t a).bind fun u => walkP u b := by
  induction a generalizing t with
  | nil => rfl
  | cons k r ih =>
    simp only [List.cons_append, walkP]
    split
    · cases t.kids[k.toNat]? with
      | none => rfl
      | some c => simp [ih]
    · rfl
theorem walkP_wf {t u : Tm} {p : List Int} (hw : t.wf = true) (h : walkP t p = some u) : u.wf = true ∧ u.flat.length ≤ t.flat.length ∧ u.dep + p.length ≤ t.dep ∧ ∀ n, n ∈ u.flat → n ∈ t.flat := by
  induction p generalizing t with
  | nil => cases h; exact ⟨hw, Nat.le_refl _, by simp, fun n hn => hn⟩
  | cons k r ih =>
    simp only [walkP] at h
    split at h
    · obtain ⟨nd, cs⟩ := t
      simp only [Tm.kids] at h
      cases hc : cs[k.toNat]? with
      | none => rw [hc] at h; cases h
      | some c =>
        rw [hc] at h
        obtain ⟨hlt, hcc⟩ := List.getElem?_eq_some_iff.1 hc
        have hm : c ∈ cs := by rw [← hcc]; exact List.getElem_mem hlt
        obtain ⟨h1, h2, h3, h4⟩ := ih ((wf_iff.1 hw).2.2 c hm) h
        have hl := part_len (nd := nd) hlt
        rw [hcc] at hl
        have hd : c.dep ≤ depL cs := dep_le_depL hm
        refine ⟨h1, by omega, by rw [dep_mk, List.length_cons]; omega, fun n hn => ?_⟩
        have := h4 n hn
        rw [flat_mk, cs_split cs hlt, hcc]
        simp [this]
    · cases h

def partE (l : List Nd) (p : List Int) : Int := if chk l = 0 then (match (whole l).bind fun t => walkP t p with | some _ => 0 | none => 3) else chk l
def partL (l : List Nd) (p : List Int) : List Nd := if chk l = 0 then (match (whole l).bind fun t => walkP t p with | some u => u.flat | none => []) else []

def PartPost (l : List Nd) (p : List Int) (w : World) (e : Ending) (w' : World) : Prop := ∃ v, e = .returned (.tuple #[v, .int .i64 (partE l p)]) ∧ ReadN w' v (partL l p) ∧ Below w.heap.size w w'

theorem partE_ok {l : List Nd} {T u : Tm} {p : List Int} (hk : chk l = 0) (hw : whole l = some T) (h : walkP T p = some u) : partE l p = 0 ∧ partL l p = u.flat := by
  unfold partE partL
  rw [if_pos hk, if_pos hk, hw]
  simp [h]
theorem partE_none {l : List Nd} {T : Tm} {p : List Int} (hk : chk l = 0) (hw : whole l = some T) (h : walkP T p = none) : partE l p = 3 ∧ partL l p = [] := by
  unfold partE partL
  rw [if_pos hk, if_pos hk, hw]
  simp [h]
theorem walk_step {T : Tm} {nd : Nd} {cs : List Tm} {p : List Int} {k : Nat} (hk : k < p.length) (h : walkP T (p.take k) = some (Tm.mk nd cs)) : walkP T (p.take (k + 1)) = walkP (Tm.mk nd cs) [p[k]] := by
  rw [List.take_add_one, List.getElem?_eq_getElem hk]
  show walkP T (p.take k ++ [p[k]]) = _
  rw [walkP_append, h]
  rfl
theorem walk_ok {T : Tm} {nd : Nd} {cs : List Tm} {p : List Int} {k i : Nat} (hk : k < p.length) (h : walkP T (p.take k) = some (Tm.mk nd cs)) (hi : p[k] = (i : Int)) (hlt : i < cs.length) : walkP T (p.take (k + 1)) = some cs[i] := by
  rw [walk_step hk h, hi]
  show (if 0 ≤ (i : Int) ∧ (i : Int) < (cs.length : Int) then (cs[(i : Int).toNat]?).bind (fun c => walkP c []) else none) = _
  rw [if_pos (by omega), Int.toNat_natCast, List.getElem?_eq_getElem hlt]
  rfl
theorem walk_none {T : Tm} {nd : Nd} {cs : List Tm} {p : List Int} {k : Nat} (hk : k < p.length) (h : walkP T (p.take k) = some (Tm.mk nd cs)) (hi : ¬ (0 ≤ p[k] ∧ p[k] < cs.length)) : walkP T p = none := by
  have h1 : walkP T (p.take (k + 1)) = none := by
    rw [walk_step hk h]
    show (if 0 ≤ p[k] ∧ p[k] < (cs.length : Int) then (cs[p[k].toNat]?).bind (fun c => walkP c []) else none) = _
    rw [if_neg hi]
  rw [← List.take_append_drop (k + 1) p, walkP_append, h1]
  rfl

/-- what the box of the next term holds behind j rounds -/
def nxtV (b off cap : Nat) (cs : List Tm) (pk : Int) (j : Nat) : Value := if (cs.length : Int) - j ≤ pk ∧ pk < cs.length then partV b off cap cs pk.toNat else .slice none 0 0
theorem nxtV_zero (b off cap : Nat) (cs : List Tm) (pk : Int) : nxtV b off cap cs pk 0 = .slice none 0 0 := by unfold nxtV; rw [if_neg (by omega)]
theorem nxtV_hit {b off cap : Nat} {cs : List Tm} {pk : Int} {j k : Nat} (hk : cs.length = k + 1 + j) (h : (k : Int) = pk) : nxtV b off cap cs pk (j + 1) = partV b off cap cs k := by
  subst h; unfold nxtV; rw [if_pos (by omega)]; simp
theorem nxtV_miss {b off cap : Nat} {cs : List Tm} {pk : Int} {j k : Nat} (hk : cs.length = k + 1 + j) (h : (k : Int) ≠ pk) : nxtV b off cap cs pk (j + 1) = nxtV b off cap cs pk j := by
  unfold nxtV
  by_cases h1 : (cs.length : Int) - j ≤ pk ∧ pk < cs.length
  · rw [if_pos h1, if_pos (by omega)]
  · rw [if_neg h1, if_neg (by omega)]
theorem nxtV_in {b off cap : Nat} {cs : List Tm} {i : Nat} (h : i < cs.length) : nxtV b off cap cs (i : Int) cs.length = partV b off cap cs i := by
  unfold nxtV; rw [if_pos (by omega)]; simp
theorem nxtV_out {b off cap : Nat} {cs : List Tm} {pk : Int} (h : ¬ (0 ≤ pk ∧ pk < cs.length)) : nxtV b off cap cs pk cs.length = .slice none 0 0 := by
  unfold nxtV; rw [if_neg (by omega)]

theorem three_blocks (w : World) (x0 x1 x2 : Array Value) (t0 t1 t2 : TypeId) : ∃ W, (((w.alloc (Obj.cells x0 t0)).alloc (Obj.cells x1 t1)).alloc (Obj.cells x2 t2)) = W ∧ W.heap.size = w.heap.size + 3 ∧ Below w.heap.size w W ∧
    Blk W w.heap.size t0 x0 ∧ Blk W (w.heap.size + 1) t1 x1 ∧ Blk W (w.heap.size + 1 + 1) t2 x2 := by
  refine ⟨_, rfl, by simp, ?_, ?_, ?_, ?_⟩
  · exact (((Below.refl _ w).alloc (Nat.le_refl _) _).alloc (by simp) _).alloc (by simp; omega) _
  · exact ((Blk.new w _ _).alloc _).alloc _
  · have := Blk.new (w.alloc (Obj.cells x0 t0)) t1 x1; rw [World.size_alloc] at this; exact this.alloc _
  · have := Blk.new ((w.alloc (Obj.cells x0 t0)).alloc (Obj.cells x1 t1)) t2 x2; rw [World.size_alloc, World.size_alloc] at this; exact this

/-- a mark that a loop over an iterator leaves among the deferred calls -/
def mark (D : Nat) : Deferred := { target := .collected D, args := #[] }

theorem postMs {F : Fence} {n : Nat} {P : Program} {fn : Func} {R : Ending → World → Prop} {tmps : Array Value} {v : Value} (Ds : List Nat) : ∀ (w : World), Ds.Nodup → (∀ D, D ∈ Ds → w.heap[D]? = some (.deferred (some []))) →
    (∀ w', (results fn tmps).run P w' = .ok v w') → (∀ w', Chg (fun b => b ∈ Ds) w w' → R (.returned v) w') → LeavesInM F n P fn tmps R (Ds.map mark) .returning w := by
  induction Ds with
  | nil => exact fun w _ _ hr hR => ⟨v, hr w, hR w (Chg.refl _ _)⟩
  | cons D Ds ih =>
    intro w hn hk hr hR
    have hnd := List.nodup_cons.1 hn
    refine ⟨by simp, .inl ⟨D, _, rfl, run_takeDeferred (hk D (by simp)), ih _ hnd.2 (fun D' hD' => ?_) hr fun w' hc => hR w' ?_⟩⟩
    · refine (World.putObj_heap_other ?_).trans (hk D' (by simp [hD']))
      rintro rfl
      exact hnd.1 hD'
    · exact (Chg.putObj w D _ (S := fun b => b ∈ D :: Ds) (by simp)).trans (hc.mono fun b _ h => by simp [h])

def PartRel (w : World) (T : Tm) (p : List Int) (t i : Value) (ds : List Deferred) (wr : World) : Prop :=
  ∃ (k : Nat) (u : Tm) (Ds : List Nat), k ≤ p.length ∧ i = .int .i64 (k : Int) ∧ walkP T (p.take k) = some u ∧ ReadN wr t u.flat ∧ ds = Ds.map mark ∧ Ds.Nodup ∧ (∀ D, D ∈ Ds → w.heap.size ≤ D ∧ wr.heap[D]? = some (.deferred (some []))) ∧ Below w.heap.size w wr

/-- what the loop over the parts holds -/
def NextI (bn : Nat) (W : World) (b off cap : Nat) (cs : List Tm) (pk : Int) (j : Nat) (S : Bset) (A : World) : Prop :=
  Chg (fun b => b = bn ∨ W.heap.size ≤ b) W A ∧ (∀ b, S b → W.heap.size ≤ b) ∧ bn < W.heap.size ∧ Blk A bn 22 #[nxtV b off cap cs pk j]
theorem NextI.stab (bn : Nat) (W : World) (b off cap : Nat) (cs : List Tm) (pk : Int) : Stab (NextI bn W b off cap cs pk) := by
  intro j S A B S' ⟨h1, h2, h3, h4⟩ hc hs
  refine ⟨h1.trans (hc.mono fun b _ h => .inr (h2 b h)), fun b h => ?_, h3, h4.stab (fun h => by have := h2 _ h; omega) hc⟩
  rcases hs b h with h | h
  · exact h2 b h
  · have := h1.size; omega

end Go.Proofs.YteldkcpkamgfpaaDoor

namespace Go.Proofs.YteldkcpkamgfpaaDoor
set_option linter.unusedSimpArgs false
set_option linter.unusedVariables false

theorem vrun_get (l : List Nd) : ∀ (o : List Nat) (j : Nat), j < l.length → (vrun o l)[j]? = some ((vend o (l.take j)).headD 0) := by
  induction l with
  | nil => intro o j h; simp at h
  | cons n r ih =>
    intro o j h
    cases j with
    | zero => simp [vrun, vend]
    | succ j =>
      simp only [vrun, List.getElem?_cons_succ, List.take_succ_cons, vend]
      exact ih _ j (by simpa using h)
theorem vend_under (l : List Nd) : ∀ (s o : List Nat), (∀ i, i < l.length → vend s (l.take i) ≠ []) → vend (s ++ o) l = vend s l ++ o ∧ vrun (s ++ o) l = vrun s l := by
  induction l with
  | nil => intro s o _; simp [vend, vrun]
  | cons n r ih =>
    intro s o h
    have h0 := h 0 (by simp)
    cases s with
    | nil => simp [vend] at h0
    | cons x s =>
      have e : vstep (x :: s ++ o) n = vstep (x :: s) n ++ o := by simp [vstep]
      have := ih (vstep (x :: s) n) o (fun i hi => by have := h (i + 1) (by simpa using hi); simpa [vend] using this)
      simp only [vend, vrun, e, this.1, this.2]
      simp
theorem vend_len (l : List Nd) : ∀ (o : List Nat), o.length ≤ (vend o l).length + l.length := by
  induction l with
  | nil => intro o; simp [vend]
  | cons n r ih =>
    intro o
    have := ih (vstep o n)
    have h2 : o.length ≤ (vstep o n).length + 1 := by simp [vstep]; omega
    simp only [vend, List.length_cons]
    omega

/-- the stack behind j nodes, the last node first -/
def stk (T : Tm) (j : Nat) : List Nat := vend [0] (T.flat.reverse.take j)

theorem stk_ne {T : Tm} (hw : T.wf = true) : ∀ j, j < T.flat.length → stk T j ≠ [] := by
  intro j
  induction j using Nat.strongRecOn with
  | _ j ih =>
    intro hj he
    have hu := vend_under (T.flat.reverse.take j) [0] [1] (fun i hi => by
      have hij : i < j := by simp at hi; omega
      have := ih i hij (by omega)
      unfold stk at this
      rwa [List.take_take, Nat.min_eq_left (by omega)])
    unfold stk at he
    rw [he] at hu
    have e : T.flat.reverse = T.flat.reverse.take j ++ T.flat.reverse.drop j := (List.take_append_drop _ _).symm
    have h1 := (vrun_flat T hw 0 []).1
    have h2 := (vrun_flat T hw 0 [1]).1
    rw [← h1, e, vrun_append, vrun_append, he] at h2
    have e3 : (0 : Nat) :: [1] = [0] ++ [1] := rfl
    rw [e3, hu.2, hu.1] at h2
    have h3 := List.append_cancel_left h2
    cases hd : T.flat.reverse.drop j with
    | nil =>
      have := congrArg List.length hd
      simp at this
      omega
    | cons n r =>
      rw [hd] at h3
      simp [vrun] at h3
theorem stk_len {T : Tm} (hw : T.wf = true) (j : Nat) (hj : j ≤ T.flat.length) : (stk T j).length ≤ T.flat.length - j := by
  have e : T.flat.reverse = T.flat.reverse.take j ++ T.flat.reverse.drop j := (List.take_append_drop _ _).symm
  have h1 := (vrun_flat T hw 0 []).2
  rw [e, vend_append] at h1
  have := vend_len (T.flat.reverse.drop j) (vend [0] (T.flat.reverse.take j))
  rw [h1] at this
  simp at this
  exact this
theorem stk_zero (T : Tm) : stk T 0 = [0] := rfl
theorem rev_at {T : Tm} {j : Nat} (hj : j < T.flat.length) : T.flat.reverse[j]'(by simpa using hj) = T.flat[T.flat.length - 1 - j] := by simp
theorem stk_step {T : Tm} {j : Nat} (hj : j < T.flat.length) : stk T (j + 1) = vstep (stk T j) T.flat[T.flat.length - 1 - j] := by
  unfold stk
  rw [List.take_add_one, List.getElem?_eq_getElem (by simpa using hj), rev_at hj, vend_append]
  rfl
theorem und_get {T : Tm} (hw : T.wf = true) {j : Nat} (hj : j < T.flat.length) : (T.und 0)[T.flat.length - 1 - j]? = some ((stk T j).headD 0) := by
  have h1 := (vrun_flat T hw 0 []).1
  have h2 := vrun_get T.flat.reverse [0] j (by simpa using hj)
  rw [h1, List.getElem?_reverse (by rw [und_length]; exact hj), und_length] at h2
  exact h2

theorem bnds_two {n : Nd} (hr : rightB n = true) : ∀ x, x ∈ bnds n → x ≤ 2 := by
  obtain ⟨k, hK, hk⟩ := right_kind hr
  intro x hx
  unfold bnds at hx
  split at hx
  · obtain ⟨_, rfl⟩ := List.mem_replicate.1 hx; omega
  · split at hx
    · rcases List.mem_cons.1 hx with rfl | hx
      · omega
      · obtain ⟨_, rfl⟩ := List.mem_replicate.1 hx; omega
    · rw [hK] at hx
      simp only [Int.toNat_natCast] at hx
      have h : ∀ k, k < 30 → ∀ x, x ∈ (shp k).1 → x ≤ 2 := by decide
      exact h k hk x hx
theorem flat_right : ∀ (t : Tm), t.wf = true → ∀ n, n ∈ t.flat → rightB n = true := by
  refine Tm.ind ?_
  intro n l ih hw x hx
  obtain ⟨h1, h2, h3⟩ := wf_iff.1 hw
  rw [flat_mk] at hx
  rcases List.mem_append.1 hx with hx | hx
  · have hl : ∀ l : List Tm, (∀ t, t ∈ l → ∀ n, n ∈ t.flat → rightB n = true) → ∀ n, n ∈ flatL l → rightB n = true := by
      intro l
      induction l with
      | nil => intro _ n hn; rw [flatL_nil] at hn; cases hn
      | cons t r ihr =>
        intro h n hn
        rw [flatL_cons] at hn
        rcases List.mem_append.1 hn with hn | hn
        · exact h t (by simp) n hn
        · exact ihr (fun t ht => h t (by simp [ht])) n hn
    exact hl l (fun t ht => ih t ht (h3 t ht)) x hx
  · simp at hx
    subst hx
    exact h1
theorem stk_bound {T : Tm} (hw : T.wf = true) : ∀ j, j ≤ T.flat.length → ∀ x, x ∈ stk T j → x ≤ 2 * j := by
  intro j
  induction j with
  | zero => intro _ x hx; rw [stk_zero] at hx; simp at hx; omega
  | succ j ih =>
    intro hj x hx
    rw [stk_step (by omega)] at hx
    unfold vstep at hx
    rcases List.mem_append.1 hx with hx | hx
    · rw [List.mem_reverse] at hx
      obtain ⟨b, hb, rfl⟩ := List.mem_map.1 hx
      have h1 := bnds_two (flat_right T hw _ (List.getElem_mem (by omega))) b hb
      have h2 : (stk T j).headD 0 ≤ 2 * j := by
        cases hs : stk T j with
        | nil => simp
        | cons y r => simp only [List.headD_cons]; exact ih (by omega) y (by rw [hs]; simp)
      omega
    · have := ih (by omega) x (List.mem_of_mem_tail hx)
      omega

end Go.Proofs.YteldkcpkamgfpaaDoor

namespace Go.Proofs.YteldkcpkamgfpaaDoor
set_option linter.unusedSimpArgs false
set_option linter.unusedVariables false
open Go.RowKit
attribute [local go_sem] Oper.semAt_some

/-- an append to an own row, inside a fence -/
theorem wpListIn_append_row {F : Fence} {N : Nat} {P : Program} {w : World} {ops : Array Oper} {rest : List Oper} {o : Oper} {a : Act} {Q : Exit → Act → World → Prop} (hgd : o.guard = none) (s x : Operand) (t : TypeId)
    (ho : o.op = .call { callee := .builtin .append, args := #[s, x], argTypes := #[t, t] })
    (base : Nat) (e : TypeId) (i : TypeInfo) (z : Value) (size bytes : Nat) (ht : P.underlying t = some (.slice e)) (hi : P.info? e = some i) (hz : i.zero = some z)
    (hsize : i.size = size) (hby : i.bytes = bytes) (hzs : z.cells.size = size) (hsz : 0 < size)
    (v : Value) (n : Nat) (xs : List Value) (hs : a.eval s = v) (hown : w.ownsRow base e size v n xs)
    (y : Value) (m : Nat) (news : List Value) (hx : a.eval x = y) (hr : RowAt w size y m news) (h1 : ∀ u ∈ news, u.oneCell' = true)
    (hbytes : (n + m) * bytes ≤ 140737488355328) (h63 : n + m ≤ maxLen) (hbase : base ≤ w.heap.size)
    (h : ∀ v' w', w'.ownsRow base e size v' (n + m) (xs ++ news) → w.grownBy w' v.ownBlock → (v'.ownBlock = v.ownBlock ∨ v'.ownBlock = some w.heap.size) → wpListIn F N P ops Q rest (a.put o.dst v') w') : wpListIn F N P ops Q (o :: rest) a w := by
  refine wpListIn_plain hgd fun K hK => ?_
  obtain ⟨v', w', hrun, h2, h3, h4⟩ := run_append_row (P := P) base t o.type e i z size bytes ht hi hz hsize hby hzs hsz v n xs hown y m news hr h1 hbytes h63 hbase
  unfold Oper.wpIn
  refine ⟨?_, ?_⟩
  · simp [Oper.about, ho, resolve, Target.leads, Sem.run_pure]
  · rw [Oper.semAt_plain F _ _ (by rw [ho]; intro c hc'; cases hc')]
    simp [execOp, ho, resolve, invoke, builtin, hs, hx, hrun, Result.andThen]
    exact hK _ _ (h v' w' h2 h3 h4)

/-- numbers as the stack holds them, the top one last -/
def stV (l : List Nat) : List Value := l.reverse.map fun x : Nat => Value.int .i64 (x : Int)
theorem stV_length (l : List Nat) : (stV l).length = l.length := by simp [stV]
theorem stV_cons (x : Nat) (l : List Nat) : stV (x :: l) = stV l ++ [.int .i64 (x : Int)] := by simp [stV]
theorem stV_tail (x : Nat) (l : List Nat) : (stV (x :: l)).take l.length = stV l := by rw [stV_cons, List.take_left' (stV_length l)]
theorem stV_top (x : Nat) (l : List Nat) : (stV (x :: l))[l.length]? = some (.int .i64 (x : Int)) := by
  rw [stV_cons, List.getElem?_append_right (by rw [stV_length]; omega), stV_length, Nat.sub_self]; rfl
/-- the stack, some of a node's numbers laid on it -/
def onV (x : Nat) (s bs : List Nat) (i : Nat) : List Value := stV s ++ (bs.take i).map fun b : Nat => Value.int .i64 ((x : Int) + (b : Int))
theorem onV_zero (x : Nat) (s bs : List Nat) : onV x s bs 0 = stV s := by simp [onV]
theorem onV_step {x : Nat} {s bs : List Nat} {i : Nat} (h : i < bs.length) : onV x s bs (i + 1) = onV x s bs i ++ [.int .i64 ((x : Int) + (bs[i] : Int))] := by
  unfold onV
  rw [List.take_add_one, List.getElem?_eq_getElem h, List.append_assoc]
  show stV s ++ ((bs.take i ++ [bs[i]]).map _) = _
  rw [List.map_append]
  rfl
theorem onV_all {x : Nat} {s bs : List Nat} {n : Nd} (hb : bs = bnds n) : onV x s bs bs.length = stV (vstep (x :: s) n) := by
  subst hb
  unfold onV stV vstep
  rw [List.take_length]
  simp
theorem onV_length (x : Nat) (s bs : List Nat) {i : Nat} (h : i ≤ bs.length) : (onV x s bs i).length = s.length + i := by simp [onV, stV_length]; omega

/-- what the iterator hands on in round j -/
def encU (T : Tm) (j : Nat) : Array Value := #[.int .i64 ((T.flat.length - 1 - j : Nat) : Int), .int .i64 (((stk T j).headD 0 : Nat) : Int)]

set_option maxRecDepth 20000 in
set_option maxHeartbeats 4000000 in
theorem nodes_iter (n : Nat) (T : Tm) (hwf : T.wf = true) (hlen : T.flat.length ≤ 4000) (hsm : SmallN T.flat) (b off cap bt : Nat) (K : Bset) (we w0 : World)
    (hSe : ShapesAt we) (hke : Kept (fun x => x < we.heap.size) we w0) (hct : w0.cell? ⟨bt, 0, none⟩ = some (.slice (some ⟨b, off, none⟩) T.flat.length cap))
    (hv : ReadN w0 (.slice (some ⟨b, off, none⟩) T.flat.length cap) T.flat) (k1 : K bt) (k2 : K b) (k3 : ∀ x, x < we.heap.size → K x) (k4 : ∀ x, K x → x < w0.heap.size) :
    Iter Fence.wide n Tryd.prog 96 #[.pointer (some ⟨bt, 0, none⟩)] (encU T) T.flat.length K w0 := by
  intro l J Jx W hW hJ hJx hY h0
  obtain ⟨N, hN⟩ : ∃ N, T.flat.length = N := ⟨_, rfl⟩
  have hNp : 0 < N := by rw [← hN]; exact flat_pos T
  have hke2 : Kept (fun x => x < we.heap.size) we W := hke.trans (hW.mono fun x h1 h2 => h1)
  have HSA : Hid (∀ A, Kept K W A → ShapesAt A) := fun A hA => hSe.kept (hke2.trans (hA.mono fun x _ h => k3 x h))
  have hvW := RowAt.kept hv hW (fun g hg => by
    simp [Value.ownBlock] at hg
    subst hg
    obtain ⟨_, _, _, he, _, _, hlt, _⟩ := RowAt.pos hv (by omega)
    simp at he
    obtain ⟨⟨rfl, rfl⟩, _⟩ := he
    exact hlt)
  have hctW := hW.cell (World.block_lt_of_cell? w0 _ hct) hct
  have hbtW : bt < W.heap.size := World.block_lt_of_cell? W _ hctW
  have HVA : Hid (∀ A, Kept K W A → ReadN A (.slice (some ⟨b, off, none⟩) N cap) T.flat) := by
    show ∀ A, _
    intro A hA
    rw [← hN]
    exact RowAt.kept hvW hA (fun g hg => by simp [Value.ownBlock] at hg; subst hg; exact k2)
  have HCT : Hid (∀ A, Kept K W A → A.cell? ⟨bt, 0, none⟩ = some (.slice (some ⟨b, off, none⟩) N cap)) := by
    show ∀ A, _
    intro A hA
    rw [← hN]
    exact hA.cell k1 hctW
  have hcap : N ≤ cap ∧ cap ≤ maxLen := by
    obtain ⟨_, _, _, he, h1, h2, _⟩ := RowAt.pos hvW (by omega)
    simp at he
    obtain ⟨_, rfl⟩ := he
    rw [← hN]
    exact ⟨h1, h2⟩
  obtain ⟨hcap1, hcap2⟩ := hcap
  have hcap3 : cap ≤ 9223372036854775807 := by unfold maxLen at hcap2; omega
  rw [hN] at hctW hlen
  rw [hN] at hY ⊢
  have HY := Lib.hid hY; clear hY
  have HJ := Lib.hid hJ; clear hJ
  have HWF := Lib.hid hwf; clear hwf
  have HSM := Lib.hid hsm; clear hsm
  have HNN := Lib.hid hN; clear hN
  have H0 := Lib.hid h0; clear h0
  have HK3W := Lib.hid k3; clear k3
  have HK4W : Hid (∀ x, K x → x < W.heap.size) := fun x h => by have := k4 x h; have := hW.size; omega
  clear k4
  clear hv hct hW hke hke2 hSe hvW hcap2
  refine callsIn_of_wp Tryd.func96 rfl trivial ?_ rfl
  simp only [Tryd.ntmps96, List.size_toArray, List.length_cons, List.length_nil, Nat.reduceAdd, Nat.reduceSub, Array.replicate_succ, Array.replicate_zero, List.push_toArray, List.append_toArray, List.nil_append, List.cons_append]
  gi_wp2_with fail
  gi_loopw [3, 4] (fun o i wr => ∃ j, j ≤ N ∧ i = .int .i64 ((N : Int) - 1 - j) ∧ wr.ownsRow W.heap.size 3 1 o (stk T j).length (stV (stk T j)) ∧ J j (fun x => o.ownBlock = some x) wr ∧ Kept K W wr) (fun _ i _ => (intOf i + 1).toNat)
  case atStart =>
    refine ⟨0, Nat.zero_le _, by simp, ?_, HJ.out _ _ _ _ _ H0.out (Chg.alloc _ _) (fun x h => .inr (by simp [Value.ownBlock] at h; omega)), ⟨by simp, fun x hx _ => Below.heap_alloc _ _ _ hx⟩⟩
    exact World.ownsRow_lit W #[.int .i64 0] 1 (Nat.le_refl _) (by unfold maxLen; omega) rfl
  case round =>
    rename World => wr
    obtain ⟨j, hj, rfl, hown, hJw, hkw⟩ := hrel
    have HJW := Lib.hid hJw; clear hJw
    have HKW := Lib.hid hkw; clear hkw
    by_cases hlt : j < N
    · obtain ⟨x, s, hs⟩ : ∃ x s, stk T j = x :: s := by
        cases h : stk T j with
        | nil => exact absurd h (stk_ne HWF.out j (by rw [HNN.out]; exact hlt))
        | cons x s => exact ⟨x, s, rfl⟩
      obtain ⟨m, hm⟩ : ∃ m, s.length = m := ⟨_, rfl⟩
      have hx2 : x ≤ 2 * j := stk_bound HWF.out j (by rw [HNN.out]; omega) x (by rw [hs]; simp)
      have hml : m + 1 ≤ N - j := by have := stk_len HWF.out j (by rw [HNN.out]; omega); rw [hs, HNN.out] at this; simp at this; omega
      rw [hs, List.length_cons, hm] at hown
      obtain ⟨g, capo, rfl, hg1, hg2, hg3, hg4, _, hgc, _⟩ := ownsRow_open hown (by omega)
      have ctop : wr.cell? ⟨g, m, none⟩ = some (.int .i64 (x : Int)) := (hgc m (by omega)).trans (by rw [← hm]; exact stV_top x s)
      obtain ⟨a', cap', he, hce, hcut⟩ := ownsRow_cut hown (k := m) (by omega)
      obtain ⟨rfl, rfl⟩ : some ⟨g, 0, none⟩ = a' ∧ capo = cap' := by simpa using he
      rw [Nat.mul_one] at hcut
      have est : (stV (x :: s)).take m = stV s := by rw [← hm]; exact stV_tail x s
      rw [est] at hcut
      have HCU := Lib.hid hcut; clear hcut hgc est hown he
      obtain ⟨k, hk⟩ : ∃ k, N = k + 1 + j := ⟨N - 1 - j, by omega⟩
      have e1 : (N : Int) - 1 - j = (k : Int) := by omega
      have hkN : k < N := by omega
      rw [e1]
      have hkl : k < T.flat.length := by rw [HNN.out]; omega
      obtain ⟨nd, hnd⟩ : ∃ nd, T.flat[k] = nd := ⟨_, rfl⟩
      have hmem : nd ∈ T.flat := by rw [← hnd]; exact List.getElem_mem hkl
      have hnr := flat_right T HWF.out nd hmem
      have hsz := HSM.out nd hmem
      have hstep : stk T (j + 1) = vstep (x :: s) nd := by
        have h := stk_step (T := T) (j := j) (by rw [HNN.out]; exact hlt)
        rw [hs] at h
        rw [h, ← hnd]
        congr 1
        congr 1
        rw [HNN.out]
        omega
      have hen : encU T j = #[.int .i64 (k : Int), .int .i64 (x : Int)] := by
        unfold encU
        rw [hs, HNN.out, show N - 1 - j = k from by omega]
        rfl
      have cbox := HCT.out wr HKW.out
      obtain ⟨fn, tmps, assign, body, hy, hR⟩ := HY.out j _ wr hlt HJW.out (fun y h => by simp [Value.ownBlock] at h; omega)
      rw [hen] at hy
      have HR := Lib.hid hR
      have HSTEP := Lib.hid hstep
      have HKK := Lib.hid hk
      have HNR := Lib.hid hnr
      have hm9 : capo ≤ 9223372036854775807 := by unfold maxLen at hg4; omega
      clear hR hen hstep e1 hs hmem hk hnr hg4
      gi_wp2_with fail
      refine ⟨(fun h => by cases h), HR.out.mono ?_⟩
      rintro e w3 (⟨rfl, hj3, hk3⟩ | ⟨rfl, hj3, _⟩)
      · have HJ3 := Lib.hid hj3; clear hj3
        have HK3 : Hid (Kept K W w3) := HKW.out.trans (hk3.mono fun y _ h => .inr h)
        have HO3 : Hid (w3.ownsRow W.heap.size 3 1 (.slice (some ⟨g, 0, none⟩) m capo) m (stV s)) := ownsRow_kept HCU.out hk3 (fun y h => .inl h)
        have hg3' : g < w3.heap.size := by have := hk3.size; omega
        have cbox3 := HCT.out w3 HK3.out
        obtain ⟨r0, r1, r2, r3⟩ : w3.cell? ⟨b, off + k * 4, none⟩ = some (.int .i64 nd.K) ∧ w3.cell? ⟨b, off + k * 4 + 1, none⟩ = some (.int .i64 nd.N) ∧ w3.cell? ⟨b, off + k * 4 + 2, none⟩ = some (.int .i64 nd.M) ∧ w3.cell? ⟨b, off + k * 4 + 3, none⟩ = some (.string nd.S) := by
          have h := HVA.out w3 HK3.out
          rw [← HNN.out] at h
          obtain ⟨_, ⟨h0, _⟩ | ⟨b', off', cap', he, _, _, _, hc⟩⟩ := ReadN.cases h
          · rw [h0] at hkl; simp at hkl
          · obtain ⟨⟨rfl, rfl⟩, rfl⟩ : (b = b' ∧ off = off') ∧ cap = cap' := by simpa using he
            have := hc k hkl
            rw [hnd] at this
            exact this
        clear hk3 hy cbox ctop
        gi_wp2_with fail
        refine enterW (binds_own nd _ (HSA.out _ HK3.out) hsz) ?_
        rintro e w4 ⟨vb, rfl, hrb, hvo, hb4⟩
        rw [if_pos HNR.out] at hrb
        rw [HNR.out]
        obtain ⟨bs, hbs⟩ : ∃ bs, bnds nd = bs := ⟨_, rfl⟩
        have hb2 : ∀ y, y ∈ bs → y ≤ 2 := by rw [← hbs]; exact bnds_two HNR.out
        rw [hbs] at hrb
        obtain ⟨q, hq⟩ : ∃ q, bs.length = q := ⟨_, rfl⟩
        obtain ⟨ab, cb, rfl⟩ := ReadI.len_slice hrb
        rw [List.length_map, hq] at hvo ⊢
        have hrb' : RowAt w4 1 (.slice ab q cb) q (bs.map fun y : Nat => Value.int .i64 (y : Int)) := by
          unfold ReadI at hrb
          rw [List.length_map, hq, List.map_map] at hrb
          exact hrb
        have hqs : q ≤ 9223372036854775807 := by have := hrb'.small; unfold maxLen at this; omega
        have hq6 : q ≤ 100000 := by have := arity_small HNR.out; unfold arity at this; rw [hbs] at this; omega
        have HJ4 : Hid (J (j + 1) (fun y => (Value.slice (some ⟨g, 0, none⟩) m capo).ownBlock = some y) w4) := HJ.out _ _ _ _ _ HJ3.out (Chg.fresh hb4) (fun y h => .inl h)
        have HK4 : Hid (Kept K W w4) := HK3.out.trans ⟨hb4.size, fun y hy _ => hb4.block y hy⟩
        have HO4 : Hid (w4.ownsRow W.heap.size 3 1 (.slice (some ⟨g, 0, none⟩) m capo) m (stV s)) := ownsRow_below HO3.out hb4 (fun y h => by simp [Value.ownBlock] at h; omega)
        have HRB := Lib.hid hrb'
        have HVO := Lib.hid hvo
        have hs3 := hb4.size
        have HBS := Lib.hid hbs
        clear hrb hrb' hvo hb4 hbs cbox3 r0 r1 r2 r3
        gi_wp2_with fail
        gi_loopw [3, 44] (fun o i wq => ∃ q', q' ≤ q ∧ i = .int .i64 (q' : Int) ∧ wq.ownsRow W.heap.size 3 1 o (m + q') (onV x s bs q') ∧ J (j + 1) (fun y => o.ownBlock = some y) wq ∧ Kept K W wq ∧ RowAt wq 1 (.slice ab q cb) q (bs.map fun y : Nat => Value.int .i64 (y : Int)) ∧ (∀ y, (Value.slice ab q cb).ownBlock = some y → o.ownBlock ≠ some y)) (fun _ i _ => q - (intOf i).toNat)
        case atStart =>
          refine ⟨0, Nat.zero_le _, rfl, by rw [onV_zero]; exact HO4.out, HJ4.out, HK4.out, HRB.out, fun y h h2 => ?_⟩
          have := HVO.out y h
          simp [Value.ownBlock] at h2
          omega
        case round =>
          rename World => wq
          obtain ⟨q', hqq, rfl, hoq, hjq, hkq, hrq, hnq⟩ := hrel
          have HJQ := Lib.hid hjq; clear hjq
          have HKQ := Lib.hid hkq; clear hkq
          have HOQ := Lib.hid hoq; clear hoq
          have HRQ := Lib.hid hrq; clear hrq
          have HNQ := Lib.hid hnq; clear hnq
          by_cases hql : q' < q
          · have hbl : q' < bs.length := by omega
            obtain ⟨y, hy⟩ : ∃ y, bs[q'] = y := ⟨_, rfl⟩
            have hy2 : y ≤ 2 := hb2 y (by rw [← hy]; exact List.getElem_mem hbl)
            obtain ⟨gb, ob, cb', he, _, _, hgb, hbc⟩ := RowAt.pos HRQ.out (by omega)
            obtain ⟨rfl, rfl⟩ : ab = some ⟨gb, ob, none⟩ ∧ cb = cb' := by simpa using he
            have cb0 : wq.cell? ⟨gb, ob + q', none⟩ = some (.int .i64 (y : Int)) := hbc q' _ (by simp [hbl, hy])
            have hst := onV_step (x := x) (s := s) hbl
            rw [hy] at hst
            have HST := Lib.hid hst; clear hst
            have hnq' := HNQ.out gb rfl
            obtain ⟨ao, co, rfl, _⟩ := (RowAt.of_own HOQ.out).form
            obtain ⟨i0, hi, hz0, hz1, hz2⟩ := info_parts Tryd.infoInt
            have hwq : W.heap.size ≤ wq.heap.size := HKQ.out.size
            clear hbc he hy
            gi_wp2_with (gi_at_builtin; refine wpListIn_append_row rfl (.tmp 48) (.tmp 52) 45 rfl W.heap.size 3 i0 (.int .i64 0) 1 8 Tryd.underlying45 hi hz0 hz1 hz2 rfl (by decide) (.slice ao (m + q') co) (m + q') (onV x s bs q') rfl (HOQ.out.alloc _) (.slice (some ⟨wq.heap.size, 0, none⟩) 1 1) 1 [.int .i64 ((x : Int) + (y : Int))] rfl (RowAt.lit (size := 1) wq 3 #[.int .i64 ((x : Int) + (y : Int))] 1 rfl (by unfold maxLen; omega)) (by simp [Value.oneCell']) (by omega) (by unfold maxLen; omega) (by simp; omega) ?_; intro v5 w5 hown5 hg5 hat5)
            have hcA : Chg (fun z => (Value.slice ao (m + q') co).ownBlock = some z) wq w5 := (Chg.alloc _ _).trans (Chg.grown hg5 (fun g hg => hg))
            have hk5 : Kept K wq w5 := hcA.kept (fun z hz h => by have h1 := (HOQ.out.lt z h).1; have h2 := HK4W.out z hz; omega)
            have hrq5 : RowAt w5 1 (.slice (some ⟨gb, ob, none⟩) q cb) q (bs.map fun y : Nat => Value.int .i64 (y : Int)) := RowAt.kept HRQ.out (hcA.kept (K := fun z => (Value.slice ao (m + q') co).ownBlock ≠ some z) (fun z hz h => hz h)) (fun z hz => HNQ.out z hz)
            have hj5 : J (j + 1) (fun z => v5.ownBlock = some z) w5 := HJ.out _ _ _ _ _ HJQ.out hcA (fun z h => by
              rcases hat5 with e | e
              · exact .inl (e.symm.trans h)
              · rw [e] at h; simp at h; exact .inr (by omega))
            have hn5 : ∀ z, (Value.slice (some ⟨gb, ob, none⟩) q cb).ownBlock = some z → v5.ownBlock ≠ some z := fun z hz h => by
              rcases hat5 with e | e
              · exact HNQ.out z hz (e.symm.trans h)
              · rw [e] at h; simp [Value.ownBlock] at h hz; omega
            have HO5 : Hid (w5.ownsRow W.heap.size 3 1 v5 (m + (q' + 1)) (onV x s bs (q' + 1))) := by show World.ownsRow _ _ _ _ _ _ _; rw [HST.out]; exact hown5
            have HK5 : Hid (Kept K W w5) := HKQ.out.trans hk5
            have HRQ5 := Lib.hid hrq5
            have HJ5 := Lib.hid hj5
            have HN5 := Lib.hid hn5
            clear hown5 hg5 hat5 hcA hk5 hrq5 hj5 hn5
            gi_wp2_with fail
            exact ⟨⟨q' + 1, by omega, by go_num, HO5.out, HJ5.out, HK5.out, HRQ5.out, HN5.out⟩, by simp [intOf]; omega⟩
          · obtain rfl : q' = q := by omega
            have hl9 : (vstep (x :: s) nd).length = m + q' := by unfold vstep; simp [HBS.out]; omega
            have hv9 : onV x s bs q' = stV (vstep (x :: s) nd) := by rw [← hq]; exact onV_all HBS.out.symm
            have HL9 := Lib.hid hl9
            have HV9 := Lib.hid hv9
            clear hl9 hv9
            gi_wp2_with fail
            refine ⟨⟨j + 1, by omega, congrArg (Value.int .i64) (by have := HKK.out; omega), ?_, HJQ.out, HKQ.out⟩, by simp [intOf]⟩
            rw [HSTEP.out, HL9.out, ← HV9.out]
            exact HOQ.out
      · have HJ3 := Lib.hid hj3; clear hj3
        clear hy cbox ctop
        gi_wp2_with fail
        exact bodyPost_ret (results_none rfl _ _ _) rfl ⟨⟨_, rfl⟩, _, .inr ⟨j + 1, by omega, HJ3.out⟩⟩
    · obtain rfl : j = N := by omega
      have e1 : (j : Int) - 1 - (j : Int) = -1 := by omega
      rw [e1]
      gi_wp2_with fail
      go_end0
      exact ⟨⟨_, rfl⟩, _, .inl HJW.out⟩

end Go.Proofs.YteldkcpkamgfpaaDoor

