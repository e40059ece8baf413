/- subst.put: what it comes to, for every term that is one and any closure that tells of each variable which term goes into its place; where the table of shapes lies as it is laid. -/
import Derived.Test.YtjhgpifccleknaaDoorPutLaw
import Derived.Test.YtjhgpifccleknaaDoorSnodes
import Derived.Test.YtjhgpifccleknaaDoorRev
namespace Go.Proofs.YtjhgpifccleknaaDoor
set_option linter.unusedSimpArgs false
set_option linter.unusedVariables false
open Go.RowKit Go.BigFrame
attribute [local go_sem] Oper.semAt_some

def PutPost (pU : Int → Option (List Nd)) (pB : Int → Nat → Int) (T : Tm) (w : World) (e : Ending) (w' : World) : Prop :=
  ∃ v, e = .returned (.tuple #[v, .int .i64 (putE pU pB T)]) ∧ OwnN w.heap.size w' v (putL pU pB T) ∧ Below w.heap.size w w'

/-- what is gathered behind j rounds: all of it, or as much that it is too great -/
def OutOK (pU : Int → Option (List Nd)) (pB : Int → Nat → Int) (T : Tm) (j : Nat) (lo : List Nd) : Prop :=
  noE pU pB T j ∧ lo.length ≤ 16000 + j ∧ (lo = outR pU pB T j ∨ (4000 < (outR pU pB T j).length ∧ 4000 < lo.length))
/-- what the loop of subst.put holds: the boxes of the results and of what is gathered, and that -/
def PutI (pU : Int → Option (List Nd)) (pB : Int → Nat → Int) (y4 y5 y6 : Nat) (W : World) (T : Tm) (j : Nat) (S : Bset) (A : World) : Prop :=
  ∃ lo ao co, OutOK pU pB T j lo ∧ A.ownsRow W.heap.size 23 4 (.slice ao lo.length co) lo.length (lo.flatMap nodeV) ∧ Blk A y6 30 #[.slice ao lo.length co] ∧ Blk A y4 30 #[.slice none 0 0] ∧ Blk A y5 32 #[.int .i64 0] ∧
    Chg (fun x => x = y6 ∨ W.heap.size ≤ x) W A ∧ (∀ x, (Value.slice ao lo.length co).ownBlock = some x → ¬ S x) ∧ (∀ x, S x → W.heap.size ≤ x)
theorem PutI.stab {pU : Int → Option (List Nd)} {pB : Int → Nat → Int} {y4 y5 y6 : Nat} {W : World} {T : Tm} (h4 : y4 < W.heap.size) (h5 : y5 < W.heap.size) (h6 : y6 < W.heap.size) : Stab (PutI pU pB y4 y5 y6 W T) := by
  intro j S A B S' ⟨lo, ao, co, h1, h2, h3, q4, q5, hc0, hd, hge⟩ hc hs
  refine ⟨lo, ao, co, h1, ownsRow_kept h2 (hc.kept (K := fun x => ¬ S x) (fun x h => h)) hd, h3.stab (fun h => by have := hge _ h; omega) hc, q4.stab (fun h => by have := hge _ h; omega) hc, q5.stab (fun h => by have := hge _ h; omega) hc, hc0.trans (hc.mono fun x _ h => .inr (hge x h)), ?_, ?_⟩
  · intro x hx hS
    rcases hs x hS with h | h
    · exact hd x hx h
    · have := (h2.lt x hx).2; omega
  · intro x hx
    rcases hs x hx with h | h
    · exact hge x h
    · have := hc0.size; omega
/-- what it leaves behind where a shift fails -/
def PutX (y4 y5 y6 : Nat) (E : Int) (W : World) (c : Code) (j : Nat) (S : Bset) (A : World) : Prop :=
  c = .ret ∧ E ≠ 0 ∧ Blk A y4 30 #[.slice none 0 0] ∧ Blk A y5 32 #[.int .i64 E] ∧ Chg (fun x => (x = y6 ∨ x = y5 ∨ x = y4) ∨ W.heap.size ≤ x) W A ∧ (∀ x, S x → W.heap.size ≤ x)
theorem PutX.stab {y4 y5 y6 : Nat} {E : Int} {W : World} {c : Code} (h4 : y4 < W.heap.size) (h5 : y5 < W.heap.size) : Stab (PutX y4 y5 y6 E W c) := by
  intro j S A B S' ⟨h1, h2, q4, q5, hc0, hge⟩ hc hs
  refine ⟨h1, h2, q4.stab (fun h => by have := hge _ h; omega) hc, q5.stab (fun h => by have := hge _ h; omega) hc, hc0.trans (hc.mono fun x _ h => .inr (hge x h)), ?_⟩
  intro x hx
  rcases hs x hx with h | h
  · exact hge x h
  · have := hc0.size; omega

/-- one round further -/
theorem put_next {pU : Int → Option (List Nd)} {pB : Int → Nat → Int} {y4 y5 y6 bt ws p n co c5 j : Nat} {W C w7 : World} {T : Tm} {S : Bset} {ao a5 : Option Addr} {lo' : List Nd}
    (hC0 : Chg (fun x => x = y6 ∨ W.heap.size ≤ x) W C) (hge : ∀ x, S x → W.heap.size ≤ x) (hSC : ∀ x, S x → x < C.heap.size) (hdj : ∀ x, (Value.slice ao n co).ownBlock = some x → ¬ S x) (hoge : ∀ x, (Value.slice ao n co).ownBlock = some x → W.heap.size ≤ x)
    (q4 : Blk C y4 30 #[.slice none 0 0]) (q5 : Blk C y5 32 #[.int .i64 0]) (hc7 : Chg (fun z => z = p ∨ z = y6 ∨ (Value.slice ao n co).ownBlock = some z) C w7) (hp : W.heap.size ≤ p) (hpS : ¬ S p)
    (hy : ws ≤ y4 ∧ y4 < y5 ∧ y5 < y6 ∧ y6 < bt ∧ bt < W.heap.size) (hok : OutOK pU pB T (j + 1) lo') (hown7 : w7.ownsRow W.heap.size 23 4 (.slice a5 lo'.length c5) lo'.length (lo'.flatMap nodeV))
    (hb6 : Blk w7 y6 30 #[.slice a5 lo'.length c5]) (hblk : ∀ z, (Value.slice a5 lo'.length c5).ownBlock = some z → (Value.slice ao n co).ownBlock = some z ∨ C.heap.size ≤ z) :
    Kept (fun y => S y ∨ (y < ws ∨ y = bt)) C w7 ∧ PutI pU pB y4 y5 y6 W T (j + 1) S w7 := by
  obtain ⟨e1, e2, e3, e4, e5⟩ := hy
  refine ⟨hc7.kept fun z hz h => ?_, lo', a5, c5, hok, hown7, hb6, ?_, ?_, hC0.trans (hc7.mono fun z _ h => ?_), ?_, hge⟩
  · rcases h with h | h | h
    · rcases hz with hz | hz
      · rw [h] at hz; exact hpS hz
      · omega
    · rcases hz with hz | hz
      · have := hge z hz; omega
      · omega
    · rcases hz with hz | hz
      · exact hdj z h hz
      · have := hoge z h; omega
  · refine q4.stab (S := fun z => z = p ∨ z = y6 ∨ (Value.slice ao n co).ownBlock = some z) ?_ hc7
    rintro (h | h | h)
    · omega
    · omega
    · have := hoge _ h; omega
  · refine q5.stab (S := fun z => z = p ∨ z = y6 ∨ (Value.slice ao n co).ownBlock = some z) ?_ hc7
    rintro (h | h | h)
    · omega
    · omega
    · have := hoge _ h; omega
  · rcases h with h | h | h
    · exact .inr (by omega)
    · exact .inl h
    · exact .inr (hoge z h)
  · intro z hz hS
    rcases hblk z hz with h | h
    · exact hdj z h hS
    · have := hSC z hS; omega
theorem below_chg {A B : World} {m : Nat} (h : Below A.heap.size A B) (e : A.heap.size = m) : Chg (fun z => m ≤ z) A B := ⟨h.os, h.tape, h.output, h.size, fun b hb hn => h.block b (by omega)⟩
theorem chg_new_only {S : Bset} {A B : World} (h : Chg (fun z => A.heap.size ≤ z) A B) : Chg S A B := ⟨h.os, h.tape, h.output, h.size, fun b hb _ => h.block b hb (by omega)⟩

/-- behind an append that is stored -/
theorem put_stored {y6 p n co n5 c5 : Nat} {W C B w5 : World} {ao a5 : Option Addr} {cells : List Value} (hcB : Chg (fun z => z = p) C B) (hq6 : Blk C y6 30 #[.slice ao n co]) (hp6 : y6 ≠ p) (hy6 : y6 < W.heap.size)
    (hoge : ∀ z, (Value.slice ao n co).ownBlock = some z → W.heap.size ≤ z) (hown5 : w5.ownsRow W.heap.size 23 4 (.slice a5 n5 c5) n5 cells) (hg5 : B.grownBy w5 (Value.slice ao n co).ownBlock)
    (hat5 : (Value.slice a5 n5 c5).ownBlock = (Value.slice ao n co).ownBlock ∨ (Value.slice a5 n5 c5).ownBlock = some B.heap.size) :
    Blk w5 y6 30 #[.slice ao n co] ∧ Chg (fun z => z = p ∨ z = y6 ∨ (Value.slice ao n co).ownBlock = some z) C (w5.setCell ⟨y6, 0, none⟩ (.slice a5 n5 c5)) ∧
    (w5.setCell ⟨y6, 0, none⟩ (.slice a5 n5 c5)).ownsRow W.heap.size 23 4 (.slice a5 n5 c5) n5 cells ∧ Blk (w5.setCell ⟨y6, 0, none⟩ (.slice a5 n5 c5)) y6 30 #[.slice a5 n5 c5] ∧
    ∀ z, (Value.slice a5 n5 c5).ownBlock = some z → (Value.slice ao n co).ownBlock = some z ∨ C.heap.size ≤ z := by
  have h1 : Blk w5 y6 30 #[.slice ao n co] := (hq6.stab (S := fun z => z = p) hp6 hcB).grown hg5 (fun h => by have := hoge y6 h.symm; omega)
  refine ⟨h1, ?_, ?_, h1.set_ 0 _, ?_⟩
  · exact ((hcB.mono fun z _ h => .inl h).trans (Chg.grown hg5 (fun g hg => .inr (.inr hg)))).trans (Chg.setCell (S := fun z => z = p ∨ z = y6 ∨ (Value.slice ao n co).ownBlock = some z) w5 ⟨y6, 0, none⟩ _ (.inr (.inl rfl)))
  · exact ownsRow_kept hown5 ((Chg.setCell (S := fun z => z = y6) w5 ⟨y6, 0, none⟩ _ rfl).kept (K := fun z => z ≠ y6) (fun z h => h)) (fun z hz => by have := (hown5.lt z hz).1; omega)
  · intro z hz
    rcases hat5 with e | e
    · exact .inl (e.symm.trans hz)
    · rw [hz] at e
      simp at e
      have := hcB.size
      exact .inr (by omega)
theorem flat_take4 (l : List Nd) (k : Nat) : (l.flatMap nodeV).take (k * 4) = (l.take k).flatMap nodeV := by
  induction l generalizing k with
  | nil => simp
  | cons x r ih =>
    cases k with
    | zero => simp
    | succ k =>
      have e : (k + 1) * 4 = k * 4 + 4 := by omega
      rw [List.take_succ_cons, List.flatMap_cons, List.flatMap_cons, ← ih k, e]
      simp [nodeV]
theorem put_small {pU : Int → Option (List Nd)} {pB : Int → Nat → Int} {T : Tm} (h : SmallN T.flat) (hU : ∀ v U, pU v = some U → SmallN U) : SmallN (T.zw (outN pU pB) 0).flatten := by
  intro n hn
  obtain ⟨L, hL, hnL⟩ := List.mem_flatten.1 hn
  rw [zw_prs] at hL
  obtain ⟨q, hq, rfl⟩ := List.mem_map.1 hL
  have hqn : q.1 ∈ T.flat := (List.of_mem_zip hq).1
  unfold outN at hnL
  split at hnL
  · cases hu : pU (q.1.N - q.2) with
    | none =>
      rw [hu] at hnL
      simp at hnL
      subst hnL
      exact h q.1 hqn
    | some U =>
      rw [hu] at hnL
      exact shiftL_small (hU _ _ hu) n hnL
  · simp at hnL
    subst hnL
    exact h q.1 hqn
theorem one_nodes (lo : List Nd) (nd : Nd) : lo.flatMap nodeV ++ nodeV nd = (lo ++ [nd]).flatMap nodeV := by simp

/-- the results stored at the end -/
theorem put_left {y4 y5 D ws : Nat} {w A : World} {v v0 : Value} {e e0 : Int} (q4 : Blk A y4 30 #[v0]) (q5 : Blk A y5 32 #[.int .i64 e0]) (hb : Below ws w A) (h4 : ws ≤ y4) (h45 : y4 < y5) (h5 : y5 < D) (hD : ws ≤ D) (hK : A.heap[D]? = some (.deferred (some []))) :
    ((A.setCell ⟨y4, 0, none⟩ v).setCell ⟨y5, 0, none⟩ (.int .i64 e)).heap[D]? = some (.deferred (some [])) ∧
    (((A.setCell ⟨y4, 0, none⟩ v).setCell ⟨y5, 0, none⟩ (.int .i64 e)).putObj D (.deferred none)).cell? ⟨y4, 0, none⟩ = some v ∧
    (((A.setCell ⟨y4, 0, none⟩ v).setCell ⟨y5, 0, none⟩ (.int .i64 e)).putObj D (.deferred none)).cell? ⟨y5, 0, none⟩ = some (.int .i64 e) ∧
    Below ws w (((A.setCell ⟨y4, 0, none⟩ v).setCell ⟨y5, 0, none⟩ (.int .i64 e)).putObj D (.deferred none)) ∧
    Chg (fun z => z = y4 ∨ z = y5 ∨ z = D) A (((A.setCell ⟨y4, 0, none⟩ v).setCell ⟨y5, 0, none⟩ (.int .i64 e)).putObj D (.deferred none)) := by
  have c1 : Chg (fun z => z = y4 ∨ z = y5) A ((A.setCell ⟨y4, 0, none⟩ v).setCell ⟨y5, 0, none⟩ (.int .i64 e)) :=
    (Chg.setCell (S := fun z => z = y4 ∨ z = y5) A ⟨y4, 0, none⟩ v (.inl rfl)).trans (Chg.setCell (S := fun z => z = y4 ∨ z = y5) _ ⟨y5, 0, none⟩ _ (.inr rfl))
  have p4 : Blk ((A.setCell ⟨y4, 0, none⟩ v).setCell ⟨y5, 0, none⟩ (.int .i64 e)) y4 30 #[v] := (q4.set_ 0 v).far (by show y4 ≠ y5; omega) _
  have p5 : Blk ((A.setCell ⟨y4, 0, none⟩ v).setCell ⟨y5, 0, none⟩ (.int .i64 e)) y5 32 #[.int .i64 e] := (q5.far (by show y5 ≠ y4; omega) _).set_ 0 (.int .i64 e)
  generalize hB : (A.setCell ⟨y4, 0, none⟩ v).setCell ⟨y5, 0, none⟩ (.int .i64 e) = B at *
  have c2 : Chg (fun z => z = D) B (B.putObj D (.deferred none)) := Chg.putObj _ _ _ rfl
  have call : Chg (fun z => z = y4 ∨ z = y5 ∨ z = D) A (B.putObj D (.deferred none)) := (c1.mono fun z _ h => by rcases h with h | h; exact .inl h; exact .inr (.inl h)).trans (c2.mono fun z _ h => .inr (.inr h))
  refine ⟨(c1.block D (Array.getElem?_eq_some_iff.1 hK).1 (by rintro (h | h) <;> omega)).trans hK, c2.cell (p := ⟨y4, 0, none⟩) (by show ¬ (y4 = D); omega) (p4.cell 0), c2.cell (p := ⟨y5, 0, none⟩) (by show ¬ (y5 = D); omega) (p5.cell 0), hb.trans (call.to_below (fun z h => by omega) (by have := (Array.getElem?_eq_some_iff.1 hK).1; omega)), call⟩

theorem out_add {pU : Int → Option (List Nd)} {pB : Int → Nat → Int} {T : Tm} (hw : T.wf = true) {j : Nat} (hj : j < T.flat.length) {lo ad : List Nd} (h : OutOK pU pB T j lo)
    (h0 : errN pU pB (T.flat[T.flat.length - 1 - j]) ((stk T j).headD 0) = 0) (ha : (outN pU pB (T.flat[T.flat.length - 1 - j]) ((stk T j).headD 0)).reverse = ad) :
    noE pU pB T (j + 1) ∧ (lo ++ ad = outR pU pB T (j + 1) ∨ (4000 < (outR pU pB T (j + 1)).length ∧ 4000 < (lo ++ ad).length)) := by
  obtain ⟨h1, h2, h3⟩ := h
  refine ⟨noE_step _ _ hw hj h1 h0, ?_⟩
  rw [outR_step _ _ hw hj, ha]
  rcases h3 with h3 | ⟨h3, h4⟩
  · exact .inl (by rw [h3])
  · exact .inr ⟨by rw [List.length_append]; omega, by rw [List.length_append]; omega⟩

set_option maxRecDepth 20000 in
set_option maxHeartbeats 4000000 in
theorem put_any (fp : Nat) (caps : Array Value) (eg : ∀ args w, (callFunc fp args).run Tryd.prog w = .ok (.enter fp args) w)
    (pU : Int → Option (List Nd)) (pB : Int → Nat → Int) (pv : Int → Value) (hU : ∀ v U, pU v = some U → chk U = 0) (hUs : ∀ v U, pU v = some U → SmallN U) (hB : ∀ v x, 0 ≤ pB v x)
    (hB9 : ∀ (v : Int) (x : Nat), 0 ≤ v → v ≤ 99 → x ≤ 118 → pB v x ≤ 1000) (hN : ∀ v, pU v = none → pv v = .slice none 0 0)
    (T : Tm) (hwf : T.wf = true) (hle : T.flat.length ≤ 4000) (hd : T.dep ≤ 60) (hsm : SmallN T.flat) (at_ : Option Addr) (ct : Nat) (w : World) (hS : ShapesAt w) (hv : ReadN w (.slice at_ T.flat.length ct) T.flat)
    (hR : ∀ v U, pU v = some U → ∃ a c, pv v = .slice (some a) U.length c ∧ ReadN w (pv v) U)
    (HPL : ∀ (C : World) (v : Int) (x : Nat), Below w.heap.size w C → 0 ≤ v → v ≤ 99 → x ≤ 118 → Calls Tryd.prog fp (#[.int .i64 v, .int .i64 (x : Int)] ++ caps) C fun e C' => e = .returned (.tuple #[pv v, .int .i64 (pB v x)]) ∧ ∃ n, C' = C.drewN n) :
    Calls Tryd.prog 80 #[.slice at_ T.flat.length ct, .func (.func fp) #[] caps] w (PutPost pU pB T w) := by
  obtain ⟨i0, hi, hz0, hz1, hz2⟩ := info_parts Tryd.infoNode
  obtain ⟨N, hNN⟩ : ∃ N, T.flat.length = N := ⟨_, rfl⟩
  have hNp : 0 < N := by rw [← hNN]; exact flat_pos T
  obtain ⟨b, off, cap, he, _, _, hbw, _⟩ := RowAt.pos hv (flat_pos T)
  obtain ⟨rfl, rfl⟩ : at_ = some ⟨b, off, none⟩ ∧ ct = cap := by simpa using he
  have HNN := Lib.hid hNN
  have HEG := Lib.hid eg
  have HU := Lib.hid hU
  have HUS := Lib.hid hUs
  have HB' := Lib.hid hB
  have HB9 := Lib.hid hB9
  have HNO := Lib.hid hN
  have HWF := Lib.hid hwf
  have HD := Lib.hid hd
  have HSM := Lib.hid hsm
  have HS := Lib.hid hS
  have HV := Lib.hid hv
  have HRD := Lib.hid hR
  have HPLC := Lib.hid HPL
  rw [hNN] at hle ⊢
  clear eg hU hUs hB hB9 hN hwf hd hsm hS hv hR he hNN HPL
  obtain ⟨w1, hw1⟩ : ∃ w1, (((w.alloc (.cells #[.func (.func fp) #[] caps] 100)).alloc (.cells #[.slice none 0 0] 30)).alloc (.cells #[.int .i64 0] 32)).alloc (.cells #[.slice none 0 0] 30) = w1 := ⟨_, rfl⟩
  have h1s : w1.heap.size = w.heap.size + 4 := by rw [← hw1]; simp
  have q3 : Blk w1 w.heap.size 100 #[.func (.func fp) #[] caps] := by rw [← hw1]; exact (((Blk.new _ _ _).alloc _).alloc _).alloc _
  have q4 : Blk w1 (w.heap.size + 1) 30 #[.slice none 0 0] := by
    rw [← hw1]
    have := Blk.new (w.alloc (.cells #[.func (.func fp) #[] caps] 100)) 30 #[.slice none 0 0]
    rw [World.size_alloc] at this
    exact (this.alloc _).alloc _
  have q5 : Blk w1 (w.heap.size + 1 + 1) 32 #[.int .i64 0] := by
    rw [← hw1]
    have := Blk.new ((w.alloc (.cells #[.func (.func fp) #[] caps] 100)).alloc (.cells #[.slice none 0 0] 30)) 32 #[.int .i64 0]
    rw [World.size_alloc, World.size_alloc] at this
    exact this.alloc _
  have q6 : Blk w1 (w.heap.size + 1 + 1 + 1) 30 #[.slice none 0 0] := by
    rw [← hw1]
    have := Blk.new (((w.alloc (.cells #[.func (.func fp) #[] caps] 100)).alloc (.cells #[.slice none 0 0] 30)).alloc (.cells #[.int .i64 0] 32)) 30 #[.slice none 0 0]
    rw [World.size_alloc, World.size_alloc, World.size_alloc] at this
    exact this
  have hb1 : Below w.heap.size w w1 := by rw [← hw1]; exact ((((Below.refl _ w).alloc (Nat.le_refl _) _).alloc (by simp) _).alloc (by simp; omega) _).alloc (by simp; omega) _
  have Q3 := Lib.hid q3
  have Q4 := Lib.hid q4
  have Q5 := Lib.hid q5
  have Q6 := Lib.hid q6
  have HB1 := Lib.hid hb1
  have H1S := Lib.hid h1s
  clear q3 q4 q5 q6 hb1 h1s
  refine callsIn_wide.1 (callsIn_of_wp_marks (n := 3) Tryd.func80 rfl trivial ?_)
  simp only [Tryd.ntmps80, List.size_toArray, List.length_cons, List.length_nil, Nat.reduceAdd, Nat.reduceSub, Array.replicate_succ, Array.replicate_zero, List.push_toArray, List.append_toArray, List.nil_append, List.cons_append]
  gi_wp2_with fail
  refine enterW2 (snodesf_any _ _ _ _) ?_
  rintro e W6 ⟨rfl, rfl⟩
  gi_wp2_with fail
  obtain ⟨y3, hy3⟩ : ∃ y, w.heap.size = y := ⟨_, rfl⟩
  obtain ⟨y4, hy4⟩ : ∃ y, w.heap.size + 1 = y := ⟨_, rfl⟩
  obtain ⟨y5, hy5⟩ : ∃ y, w.heap.size + 1 + 1 = y := ⟨_, rfl⟩
  obtain ⟨y6, hy6⟩ : ∃ y, w.heap.size + 1 + 1 + 1 = y := ⟨_, rfl⟩
  obtain ⟨bt, hbt⟩ : ∃ y, w1.heap.size = y := ⟨_, rfl⟩
  obtain ⟨W0, hW0⟩ : ∃ W0, w1.alloc (.cells #[.slice (some ⟨b, off, none⟩) N ct] 30) = W0 := ⟨_, rfl⟩
  have h1s := H1S.out
  have hs0 : W0.heap.size = bt + 1 := by rw [← hW0, ← hbt]; simp
  have hb10 : Below w1.heap.size w1 W0 := by rw [← hW0]; exact (Below.refl _ _).alloc (Nat.le_refl _) _
  have q3 : Blk W0 y3 100 #[.func (.func fp) #[] caps] := by rw [← hy3]; exact Q3.out.below hb10 (by omega)
  have q4 : Blk W0 y4 30 #[.slice none 0 0] := by rw [← hy4]; exact Q4.out.below hb10 (by omega)
  have q5 : Blk W0 y5 32 #[.int .i64 0] := by rw [← hy5]; exact Q5.out.below hb10 (by omega)
  have q6 : Blk W0 y6 30 #[.slice none 0 0] := by rw [← hy6]; exact Q6.out.below hb10 (by omega)
  have qt : Blk W0 bt 30 #[.slice (some ⟨b, off, none⟩) N ct] := by rw [← hW0, ← hbt]; exact Blk.new _ _ _
  have HB0 : Hid (Below w.heap.size w W0) := HB1.out.trans (hb10.mono (by omega))
  have hyy : y3 + 1 = y4 ∧ y4 + 1 = y5 ∧ y5 + 1 = y6 ∧ y6 + 1 = bt ∧ bt + 1 = W0.heap.size ∧ w.heap.size = y3 := by omega
  have hit := snodes_iter T HWF.out (by rw [HNN.out]; exact hle) HSM.out b off ct bt (fun x => x < w.heap.size ∨ x = bt) w W0 HS.out ⟨HB0.out.size, fun x h1 _ => HB0.out.block x h1⟩ (by rw [HNN.out]; exact qt.cell 0) (HV.out.below HB0.out) (.inr rfl) (.inl hbw) (fun x h => .inl h) (fun x h => by omega)
  rw [HNN.out] at hit
  have h0 : PutI pU pB y4 y5 y6 W0 T 0 (fun _ => False) W0 := ⟨[], none, 0, ⟨noE_zero _ _ _, by simp, .inl (outR_zero _ _ _).symm⟩, World.ownsRow_nil _ _ _ _, q6, q4, q5, Chg.refl _ _, (fun x h => by cases h), (fun x h => h.elim)⟩
  have HIT := Lib.hid hit
  have H0 := Lib.hid h0
  have Q3' := Lib.hid q3
  rw [hW0, hy6, hy5, hy4, hbt]
  have HY := Lib.hid hyy
  clear hit h0 q3 q4 q5 q6 qt hW0 hb10 Q3 Q4 Q5 Q6 hy6 hy5 hy4 hbt h1s
  refine wpIn_rangeFunc_round (F := Fence.wide) (n := 3) (K := fun x => x < w.heap.size ∨ x = bt) (w0 := W0) (N := N) (enc := encS T)
    (lb := #[.pointer (some ⟨bt, 0, none⟩)]) (gf := 94) rfl (by omega) rfl trivial (enters_of Tryd.func94 (by kernel_rfl) rfl) HIT.out
    (Kept.refl _ _) (Nat.le_refl _) (fun x h => by omega) (fun j => rfl) (PutI pU pB y4 y5 y6 W0 T) (PutX y4 y5 y6 (fstE (T.zw (errN pU pB) 0)) W0) (PutI.stab (by omega) (by omega) (by omega))
    (fun c => PutX.stab (by omega) (by omega)) H0.out ?round ?done ?stop
  case round =>
    intro l' j S A hj hi hS
    have HI := Lib.hid hi; clear hi
    have HSS := Lib.hid hS; clear hS
    obtain ⟨k, hk⟩ : ∃ k, N = k + 1 + j := ⟨N - 1 - j, by omega⟩
    have hkN : k < N := by omega
    have hkl : k < T.flat.length := by rw [HNN.out]; omega
    have hjl : j < T.flat.length := by rw [HNN.out]; exact hj
    obtain ⟨nd, hnd⟩ : ∃ nd, T.flat[k] = nd := ⟨_, rfl⟩
    obtain ⟨x, hx⟩ : ∃ x, (stk T j).headD 0 = x := ⟨_, rfl⟩
    have hmem : nd ∈ T.flat := by rw [← hnd]; exact List.getElem_mem hkl
    have hnr := flat_right T HWF.out nd hmem
    have hgk : T.flat[k]? = some nd := by rw [← hnd]; exact List.getElem?_eq_getElem hkl
    have hx118 : x ≤ 118 := by rw [← hx]; exact stk_small HWF.out HD.out hjl
    have eix : T.flat.length - 1 - j = k := by rw [HNN.out]; omega
    have hen := encS_at (T := T) (j := j) (k := k) (x := x) (nd := nd) (by rw [HNN.out]; exact hk) hgk hx
    have HADD : Hid (∀ lo ad, OutOK pU pB T j lo → errN pU pB nd x = 0 → (outN pU pB nd x).reverse = ad → noE pU pB T (j + 1) ∧ (lo ++ ad = outR pU pB T (j + 1) ∨ (4000 < (outR pU pB T (j + 1)).length ∧ 4000 < (lo ++ ad).length))) := by
      show ∀ lo ad, _
      intro lo ad h1 h2 h3
      have h := out_add (lo := lo) (ad := ad) HWF.out hjl h1
      simp only [eix, hx, hnd] at h
      exact h h2 h3
    have HEM : Hid (errN pU pB nd x ≠ 0 → fstE (T.zw (errN pU pB) 0) = errN pU pB nd x) := by
      show _ → _
      intro hne
      have h := errN_mem pU pB HWF.out hjl
      simp only [eix, hx, hnd] at h
      exact fstE_hit (errN_two HU.out HB'.out) h hne
    rw [hen]
    have HNR := Lib.hid hnr
    have HK' := Lib.hid hk
    clear hen hk hx eix hgk hnd hmem hnr
    gi_wp2_with fail
    refine ⟨⟨by simp, fun y hy _ => Below.heap_alloc _ _ _ hy⟩, fun C hC => ?_⟩
    obtain ⟨p, hp⟩ : ∃ p, A.heap.size = p := ⟨_, rfl⟩
    have hpS : ¬ S p := fun h => by have := HSS.out _ h; omega
    have hbp : Blk (A.alloc (.cells #[.int .i64 nd.K, .int .i64 nd.N, .int .i64 nd.M, .string nd.S] 23)) A.heap.size 23 #[.int .i64 nd.K, .int .i64 nd.N, .int .i64 nd.M, .string nd.S] := Blk.new _ _ _
    have hbpC : Blk C p 23 #[.int .i64 nd.K, .int .i64 nd.N, .int .i64 nd.M, .string nd.S] := by rw [← hp]; rw [← hp] at hpS; exact hbp.stab hpS hC
    obtain ⟨lo, ao, co, hok, hownA, q6, q4, q5, hcW, hdj, hge⟩ := HI.out
    have hpo : (Value.slice ao lo.length co).ownBlock ≠ some p := fun h => by have := (hownA.lt p h).2; omega
    have HPO := Lib.hid hpo
    have hAC : Chg S A C := (Chg.alloc A _).trans hC
    have hown := ownsRow_kept hownA (hAC.kept (K := fun x => ¬ S x) (fun x h => h)) hdj
    have q6 := q6.stab (fun h => by have := hge _ h; omega) hAC
    have q4 := q4.stab (fun h => by have := hge _ h; omega) hAC
    have q5 := q5.stab (fun h => by have := hge _ h; omega) hAC
    have hcW := hcW.trans (hAC.mono fun x _ h => .inr (hge x h))
    have hpW : W0.heap.size ≤ p := by
      obtain ⟨_, _, _, _, _, _, _, _, hcA, _⟩ := HI.out
      have := hcA.size
      omega
    have hBC : Below w.heap.size w C := HB0.out.trans (hcW.to_below (fun y h => by omega) HB0.out.size)
    have hSC : ∀ z, S z → z < C.heap.size := fun z hz => by have h1 := HSS.out z hz; have h2 := hC.size; simp at h2; omega
    have hoge : ∀ z, (Value.slice ao lo.length co).ownBlock = some z → W0.heap.size ≤ z := fun z hz => (hown.lt z hz).1
    have c3 : C.cell? ⟨y3, 0, none⟩ = some (.func (.func fp) #[] caps) := hcW.cell (by show ¬ (y3 = y6 ∨ W0.heap.size ≤ y3); omega) (Q3'.out.cell 0)
    have c6 : C.cell? ⟨y6, 0, none⟩ = some (.slice ao lo.length co) := q6.cell 0
    have d6 : C.frozen? ⟨y6, 0, none⟩ = false := q6.frozen 0
    have r0 : C.cell? ⟨p, 0, none⟩ = some (.int .i64 nd.K) := hbpC.cell 0
    have r1 : C.cell? ⟨p, 1, none⟩ = some (.int .i64 nd.N) := hbpC.cell 1
    have r2 : C.cell? ⟨p, 2, none⟩ = some (.int .i64 nd.M) := hbpC.cell 2
    have r3 : C.cell? ⟨p, 3, none⟩ = some (.string nd.S) := hbpC.cell 3
    have f1 : C.frozen? ⟨p, 1, none⟩ = false := hbpC.frozen 1
    have hll : lo.length ≤ 16000 + j := hok.2.1
    have h6C : y6 < C.heap.size := q6.lt
    have hpC : p < C.heap.size := hbpC.lt
    have HOK := Lib.hid hok
    have HOWN := Lib.hid hown
    have HQ6 := Lib.hid q6
    have HQ4 := Lib.hid q4
    have HQ5 := Lib.hid q5
    have HCW := Lib.hid hcW
    have HDJ := Lib.hid hdj
    have HGE := Lib.hid hge
    have HBC := Lib.hid hBC
    have HSC := Lib.hid hSC
    have HOGE := Lib.hid hoge
    have HBP := Lib.hid hbpC
    clear hok hownA hpo hAC hown q6 q4 q5 hcW hdj hge hBC hSC hoge hbpC hbp hC
    rw [hp]
    have hm64 : lo.length ≤ 20000 := by omega
    by_cases hv : nd.K = 0 ∧ (x : Int) ≤ nd.N
    rotate_left
    · have hen0 := errN_non pU pB hv
      have hon := outN_non pU pB hv
      obtain ⟨hn1, hn2⟩ := HADD.out lo [nd] HOK.out hen0 (by rw [hon]; rfl)
      have hnx : OutOK pU pB T (j + 1) (lo ++ [nd]) := ⟨hn1, by simp; omega, hn2⟩
      have HNX := Lib.hid hnx
      have HA1 : Hid ((C.alloc (.cells #[.int .i64 nd.K, .int .i64 nd.N, .int .i64 nd.M, .string nd.S] 23)).ownsRow W0.heap.size 23 4 (.slice ao lo.length co) lo.length (lo.flatMap nodeV)) := ownsRow_below HOWN.out ((Below.refl _ _).alloc (Nat.le_refl _) _) (fun g hg => (HOWN.out.lt g hg).2)
      have HA2 : Hid (RowAt (C.alloc (.cells #[.int .i64 nd.K, .int .i64 nd.N, .int .i64 nd.M, .string nd.S] 23)) 4 (.slice (some ⟨C.heap.size, 0, none⟩) 1 1) 1 (nodeV nd)) := RowAt.lit (size := 4) C _ #[.int .i64 nd.K, .int .i64 nd.N, .int .i64 nd.M, .string nd.S] 1 rfl (by unfold maxLen; omega)
      have HA3 : Hid (∀ u, u ∈ nodeV nd → u.oneCell' = true) := nodeV_one nd
      have hA4 : (lo.length + 1) * 40 ≤ 140737488355328 := by omega
      have hA5 : lo.length + 1 ≤ maxLen := by unfold maxLen; omega
      have hA6 : W0.heap.size ≤ (C.alloc (.cells #[.int .i64 nd.K, .int .i64 nd.N, .int .i64 nd.M, .string nd.S] 23)).heap.size := by have := HCW.out.size; simp; omega
      have HCB : Hid (Chg (fun z => z = p) C (C.alloc (.cells #[.int .i64 nd.K, .int .i64 nd.N, .int .i64 nd.M, .string nd.S] 23))) := Chg.alloc _ _
      have hcase : (nd.K == 0) = false ∨ ((nd.K == 0) = true ∧ decide (nd.N < (x : Int)) = true) := by
        by_cases h : nd.K = 0
        · exact .inr ⟨by simpa using h, by simp; omega⟩
        · exact .inl (by simpa using h)
      have h6p : y6 ≠ p := by omega
      clear hen0 hon hn1 hn2 hnx hv
      rcases hcase with hkb | ⟨hkb, hlt⟩
      all_goals
        have hkb2 : (nd.K != 0) = !(nd.K == 0) := rfl
        rw [hkb] at hkb2
        simp only [Bool.not_false, Bool.not_true] at hkb2
        gi_wp2_with (gi_at_builtin; refine wpListIn_append_row rfl (.tmp 27) (.tmp 29) 30 rfl W0.heap.size 23 i0 (.agg #[.int .i64 0, .int .i64 0, .int .i64 0, .string ByteArray.empty]) 4 40 Tryd.underlying30 hi hz0 hz1 hz2 rfl (by decide) (.slice ao lo.length co) lo.length (lo.flatMap nodeV) rfl HA1.out (.slice (some ⟨C.heap.size, 0, none⟩) 1 1) 1 (nodeV nd) rfl HA2.out HA3.out hA4 hA5 hA6 ?_; intro v5 w5 hown5 hg5 hat5; obtain ⟨a5, c5, rfl, _⟩ := (RowAt.of_own hown5).form; have hst := put_stored HCB.out HQ6.out h6p (by omega) HOGE.out hown5 hg5 hat5; have c56 := hst.1.cell 0; have d56 := hst.1.frozen 0; have HST := Lib.hid hst; clear hown5 hg5 hat5 hst)
        obtain ⟨_, s2, s3, s4, s5⟩ := HST.out
        rw [one_nodes] at s3
        have hfin := put_next (ws := w.heap.size) (bt := bt) (lo' := lo ++ [nd]) HCW.out HGE.out HSC.out HDJ.out HOGE.out HQ4.out HQ5.out s2 hpW hpS (by omega) HNX.out (by rw [List.length_append]; exact s3) (by rw [List.length_append]; exact s4) (by rw [List.length_append]; exact s5)
        exact hfin
    · obtain ⟨hK, hge⟩ := hv
      rw [hK] at r0
      have hlt : decide (nd.N < (x : Int)) = false := by simp; omega
      obtain ⟨hN0, hN9⟩ := right_var HNR.out hK
      have hB0 := HB'.out (nd.N - x) x
      have hB1 := HB9.out (nd.N - x) x (by omega) (by omega) hx118
      obtain ⟨by_, hby⟩ : ∃ y, pB (nd.N - x) x = y := ⟨_, rfl⟩
      have HPC := HPLC.out C (nd.N - x) x HBC.out (by omega) (by omega) hx118
      rw [hby] at hB0 hB1 HPC
      obtain ⟨n, hn⟩ : ∃ n, nd.N = n := ⟨_, rfl⟩
      rw [hn] at HPC r1 hN0 hN9 hlt hge
      have HPC := Lib.hid HPC
      have HBY := Lib.hid hby
      have HNN' := Lib.hid hn
      have hxn : (x : Int) ≤ n := hge
      cases hu : pU (n - x) with
      | none =>
        have hpv := HNO.out _ hu
        rw [hpv] at HPC
        have eg := HEG.out
        obtain ⟨nd', hnd'⟩ : ∃ nd' : Nd, (⟨nd.K, n - by_, nd.M, nd.S⟩ : Nd) = nd' := ⟨_, rfl⟩
        have hon : outN pU pB nd x = [nd'] := by
          rw [outN_none pU pB ⟨hK, by rw [HNN'.out]; exact hxn⟩ (by rw [HNN'.out]; exact hu), HBY.out, HNN'.out, ← hnd']
        have hen0 : errN pU pB nd x = 0 := errN_none pU pB ⟨hK, by rw [HNN'.out]; exact hxn⟩ (by rw [HNN'.out]; exact hu)
        obtain ⟨hn1, hn2⟩ := HADD.out lo [nd'] HOK.out hen0 (by rw [hon]; rfl)
        have hnx : OutOK pU pB T (j + 1) (lo ++ [nd']) := ⟨hn1, by simp; omega, hn2⟩
        have HNX := Lib.hid hnx
        have hnv : nodeV nd' = [.int .i64 0, .int .i64 (n - by_), .int .i64 nd.M, .string nd.S] := by rw [← hnd', ← hK]; rfl
        have HNV := Lib.hid hnv
        have h6p : y6 ≠ p := by omega
        clear hon hen0 hn1 hn2 hnx hnv hnd' hu hpv hn hby
        gi_wp2_with fail
        refine enterR2 HPC.out ?_
        rintro e C1 ⟨rfl, n1, hC1⟩
        have hch1 : Chg (fun _ => False) C C1 := by rw [hC1]; exact Chg.drewN _ _
        have hbp1 := HBP.out.stab (fun h => h) hch1
        obtain ⟨C2, hC2⟩ : ∃ C2, C1.setCell ⟨p, 1, none⟩ (.int .i64 (n - by_)) = C2 := ⟨_, rfl⟩
        have hch2 : Chg (fun z => z = p) C C2 := by rw [← hC2]; exact (hch1.mono fun _ _ h => h.elim).trans (Chg.setCell (S := fun z => z = p) C1 ⟨p, 1, none⟩ _ rfl)
        have hbp2 : Blk C2 p 23 #[.int .i64 0, .int .i64 (n - by_), .int .i64 nd.M, .string nd.S] := by
          rw [← hC2]
          have := hbp1.set_ 1 (.int .i64 (n - by_))
          rw [hK] at this
          simpa using this
        have hown2 := ownsRow_kept HOWN.out (hch2.kept (K := fun z => z ≠ p) (fun z h => h)) (fun z hz h => by
          subst h
          have h1 := HOGE.out z hz
          have h2 := HDJ.out z hz
          exact HPO.out hz)
        have c62 : C2.cell? ⟨y6, 0, none⟩ = some (.slice ao lo.length co) := (HQ6.out.stab (S := fun z => z = p) h6p hch2).cell 0
        have u1 : C1.cell? ⟨p, 1, none⟩ = some (.int .i64 n) := by rw [← HNN'.out]; exact hbp1.cell 1
        have u2 : C1.frozen? ⟨p, 1, none⟩ = false := hbp1.frozen 1
        have v0 : C2.cell? ⟨p, 0, none⟩ = some (.int .i64 0) := hbp2.cell 0
        have v1 : C2.cell? ⟨p, 1, none⟩ = some (.int .i64 (n - by_)) := hbp2.cell 1
        have v2 : C2.cell? ⟨p, 2, none⟩ = some (.int .i64 nd.M) := hbp2.cell 2
        have v3 : C2.cell? ⟨p, 3, none⟩ = some (.string nd.S) := hbp2.cell 3
        have HA1 : Hid ((C2.alloc (.cells #[.int .i64 0, .int .i64 (n - by_), .int .i64 nd.M, .string nd.S] 23)).ownsRow W0.heap.size 23 4 (.slice ao lo.length co) lo.length (lo.flatMap nodeV)) := ownsRow_below hown2 ((Below.refl _ _).alloc (Nat.le_refl _) _) (fun g hg => (hown2.lt g hg).2)
        have HA2 : Hid (RowAt (C2.alloc (.cells #[.int .i64 0, .int .i64 (n - by_), .int .i64 nd.M, .string nd.S] 23)) 4 (.slice (some ⟨C2.heap.size, 0, none⟩) 1 1) 1 (nodeV nd')) := by
          show RowAt _ _ _ _ _
          rw [HNV.out]
          exact RowAt.lit (size := 4) C2 _ #[.int .i64 0, .int .i64 (n - by_), .int .i64 nd.M, .string nd.S] 1 rfl (by unfold maxLen; omega)
        have HA3 : Hid (∀ u, u ∈ nodeV nd' → u.oneCell' = true) := nodeV_one nd'
        have hA4 : (lo.length + 1) * 40 ≤ 140737488355328 := by omega
        have hA5 : lo.length + 1 ≤ maxLen := by unfold maxLen; omega
        have hA6 : W0.heap.size ≤ (C2.alloc (.cells #[.int .i64 0, .int .i64 (n - by_), .int .i64 nd.M, .string nd.S] 23)).heap.size := by have := HCW.out.size; have := hch2.size; simp; omega
        have HCB : Hid (Chg (fun z => z = p) C (C2.alloc (.cells #[.int .i64 0, .int .i64 (n - by_), .int .i64 nd.M, .string nd.S] 23))) := hch2.trans (Chg.alloc _ _)
        have hq := fun w => Lib.run_eql_slice_nil (P := Tryd.prog) w 30 23 none 0 0 0 0 Tryd.underlying30
        clear hch1 hbp1 hch2 hbp2 hown2 hC1 c3 c6 d6 r0 r1 r2 r3 f1 eg
        gi_wp2_with (gi_at_builtin; (refine wpListIn_append_row rfl (.tmp 48) (.tmp 50) 30 rfl W0.heap.size 23 i0 (.agg #[.int .i64 0, .int .i64 0, .int .i64 0, .string ByteArray.empty]) 4 40 Tryd.underlying30 hi hz0 hz1 hz2 rfl (by decide) (.slice ao lo.length co) lo.length (lo.flatMap nodeV) rfl HA1.out (.slice (some ⟨C2.heap.size, 0, none⟩) 1 1) 1 (nodeV nd') rfl HA2.out HA3.out hA4 hA5 hA6 ?_); intro v5 w5 hown5 hg5 hat5; obtain ⟨a5, c5, rfl, _⟩ := (RowAt.of_own hown5).form; have hst := put_stored HCB.out HQ6.out h6p (by omega) HOGE.out hown5 hg5 hat5; have c56 := hst.1.cell 0; have d56 := hst.1.frozen 0; have HST := Lib.hid hst; clear hown5 hg5 hat5 hst)
        obtain ⟨_, s2, s3, s4, s5⟩ := HST.out
        rw [one_nodes] at s3
        have hfin := put_next (ws := w.heap.size) (bt := bt) (lo' := lo ++ [nd']) HCW.out HGE.out HSC.out HDJ.out HOGE.out HQ4.out HQ5.out s2 hpW hpS (by omega) HNX.out (by rw [List.length_append]; exact s3) (by rw [List.length_append]; exact s4) (by rw [List.length_append]; exact s5)
        exact hfin
      | some U =>
        obtain ⟨au, cu, hpv, hru⟩ := HRD.out _ U hu
        rw [hpv] at HPC hru
        have hcU := HU.out _ _ hu
        have hsU := HUS.out _ _ hu
        have hlU := (chk_ok hcU).1
        have hcl : clampI by_ = by_ := clampI_id (by omega) (by omega)
        have hcz : max 0 (clampI 0) = 0 := by rw [clampI_id (by omega) (by omega)]; omega
        obtain ⟨E2, hE2⟩ : ∃ E, shiftE by_ 0 U = E := ⟨_, rfl⟩
        obtain ⟨L2, hL2⟩ : ∃ L, shiftL by_ 0 U = L := ⟨_, rfl⟩
        have herr : errN pU pB nd x = E2 := by
          rw [errN_some pU pB ⟨hK, by rw [HNN'.out]; exact hxn⟩ (by rw [HNN'.out]; exact hu), HBY.out, hE2]
        have hout : outN pU pB nd x = L2 := by
          rw [outN_some pU pB ⟨hK, by rw [HNN'.out]; exact hxn⟩ (by rw [HNN'.out]; exact hu), HBY.out, hL2]
        have hL4 : L2.length ≤ 4000 := by rw [← hL2]; have := shiftL_len (b := by_) (k := 0) (by omega) (l := U); omega
        have HSC1 : Hid (∀ C1, Below w.heap.size w C1 → Calls Tryd.prog 44 #[.slice (some au) U.length cu, .int .i64 by_, .int .i64 0] C1 fun e C2 => ∃ a c, e = .returned (.tuple #[.slice a L2.length c, .int .i64 E2]) ∧ OwnN C1.heap.size C2 (.slice a L2.length c) L2 ∧ Below C1.heap.size C1 C2) := by
          show ∀ C1, _
          intro C1 hbc
          refine (shift_any U (.slice (some au) U.length cu) by_ 0 C1 (HS.out.below hbc) (hru.below hbc) hsU).mono fun e C2 h => ?_
          obtain ⟨v, h1, h2, h3⟩ := h
          rw [hcl, hcz, hE2] at h1
          rw [hcl, hcz, hL2] at h2
          obtain ⟨a, c, rfl, _⟩ := (RowAt.of_own h2).form
          exact ⟨a, c, h1, h2, h3⟩
        have hq := fun w => Lib.run_eql_slice_nil (P := Tryd.prog) w 30 23 (some au) U.length cu 0 0 Tryd.underlying30
        have HERR := Lib.hid herr
        have HOUT := Lib.hid hout
        have h6p : y6 ≠ p := by omega
        have eg := HEG.out
        obtain ⟨lu, hlu⟩ : ∃ lu, U.length = lu := ⟨_, rfl⟩
        rw [hlu] at HPC HSC1 hq
        clear hpv hru hcU hsU hlU hcl hcz hE2 hL2 herr hout hn hby hu hlu
        gi_wp2_with fail
        refine enterR2 HPC.out ?_
        rintro e C1 ⟨rfl, n1, hC1⟩
        have hch1 : Chg (fun _ => False) C C1 := by rw [hC1]; exact Chg.drewN _ _
        have hs1 : C1.heap.size = C.heap.size := by rw [hC1]; rfl
        have hbc1 : Below w.heap.size w C1 := by rw [hC1]; exact below_drewN HBC.out n1
        have HCH1 := Lib.hid hch1
        have HS1 := Lib.hid hs1
        have HBC1 := Lib.hid hbc1
        clear hC1 hch1 hs1 hbc1 c3 c6 d6 r0 r1 r2 r3 f1 eg
        gi_wp2_with fail
        refine enterR2 (HSC1.out _ HBC1.out) ?_
        rintro e C2 ⟨a2, c2, rfl, ho2, hb2⟩
        have hch2 : Chg (fun z => C.heap.size ≤ z) C C2 := (HCH1.out.mono fun _ _ h => h.elim).trans (below_chg hb2 HS1.out)
        have q42 : Blk C2 y4 30 #[.slice none 0 0] := HQ4.out.stab (S := fun z => C.heap.size ≤ z) (by have := HQ4.out.lt; omega) hch2
        have q52 : Blk C2 y5 32 #[.int .i64 0] := HQ5.out.stab (S := fun z => C.heap.size ≤ z) (by have := HQ5.out.lt; omega) hch2
        have q62 : Blk C2 y6 30 #[.slice ao lo.length co] := HQ6.out.stab (S := fun z => C.heap.size ≤ z) (by omega) hch2
        have HCH2 := Lib.hid hch2
        have HO2 := Lib.hid ho2
        by_cases hE : E2 = 0
        rotate_left
        · have hEb : (E2 != 0) = true := by simpa using hE
          have hEE : fstE (T.zw (errN pU pB) 0) = E2 := by rw [← HERR.out]; exact HEM.out (by rw [HERR.out]; exact hE)
          have c42 : C2.cell? ⟨y4, 0, none⟩ = some (.slice none 0 0) := q42.cell 0
          have d42 : C2.frozen? ⟨y4, 0, none⟩ = false := q42.frozen 0
          have c52 : C2.cell? ⟨y5, 0, none⟩ = some (.int .i64 0) := q52.cell 0
          have d52 : C2.frozen? ⟨y5, 0, none⟩ = false := q52.frozen 0
          obtain ⟨C3, hC3⟩ : ∃ C3, (C2.setCell ⟨y4, 0, none⟩ (.slice none 0 0)).setCell ⟨y5, 0, none⟩ (.int .i64 E2) = C3 := ⟨_, rfl⟩
          have hc3 : Chg (fun z => z = y5 ∨ z = y4) C2 C3 := by
            rw [← hC3]
            exact (Chg.setCell (S := fun z => z = y5 ∨ z = y4) C2 ⟨y4, 0, none⟩ _ (.inr rfl)).trans (Chg.setCell (S := fun z => z = y5 ∨ z = y4) _ ⟨y5, 0, none⟩ _ (.inl rfl))
          have q43 : Blk C3 y4 30 #[.slice none 0 0] := by rw [← hC3]; exact (q42.set_ 0 (.slice none 0 0)).far (by show y4 ≠ y5; omega) _
          have q53 : Blk C3 y5 32 #[.int .i64 E2] := by rw [← hC3]; exact (q52.far (by show y5 ≠ y4; omega) _).set_ 0 (.int .i64 E2)
          have hall : Chg (fun z => (z = y5 ∨ z = y4) ∨ C.heap.size ≤ z) C C3 := (hch2.mono fun z _ h => .inr h).trans (hc3.mono fun z _ h => .inl h)
          have hfin : Kept (fun y => S y ∨ (y < w.heap.size ∨ y = bt)) C C3 ∧ PutX y4 y5 y6 (fstE (T.zw (errN pU pB) 0)) W0 .ret (j + 1) S C3 := by
            refine ⟨hall.kept fun z hz h => ?_, rfl, by rw [hEE]; exact hE, q43, by rw [hEE]; exact q53, ?_, HGE.out⟩
            · rcases hz with hz | hz
              · have h1 := HGE.out z hz; have h2 := HSC.out z hz
                rcases h with h | h
                · omega
                · omega
              · have := HBC.out.size
                rcases h with h | h
                · omega
                · omega
            · refine (HCW.out.mono fun z _ h => ?_).trans (hall.mono fun z _ h => ?_)
              · rcases h with h | h
                · exact .inl (.inl h)
                · exact .inr h
              · rcases h with (h | h) | h
                · exact .inl (.inr (.inl h))
                · exact .inl (.inr (.inr h))
                · exact .inr (by have := HCW.out.size; omega)
          have HFIN := Lib.hid hfin
          have HC3 := Lib.hid hC3
          clear hfin hall q43 q53 hc3 hC3 hch2 ho2 hb2 q42 q52 q62
          gi_wp2_with fail
          rw [HC3.out]
          exact HFIN.out
        · subst hE
          have HREV := Lib.hid (reverse_any C1.heap.size L2 (.slice a2 L2.length c2) C2 ho2 (by omega))
          have hown2 := ownsRow_kept HOWN.out (hch2.kept (K := fun z => z < C.heap.size) (fun z h h2 => by omega)) (fun z hz => (HOWN.out.lt z hz).2)
          have HOW2 := Lib.hid hown2
          have HQ62 := Lib.hid q62
          have hadd := HADD.out lo L2.reverse HOK.out HERR.out (by rw [HOUT.out])
          have HAD := Lib.hid hadd
          have hrl : L2.reverse.length = L2.length := List.length_reverse
          have HRL := Lib.hid hrl
          obtain ⟨lr, hlr⟩ : ∃ lr, L2.reverse = lr := ⟨_, rfl⟩
          have HLR := Lib.hid hlr
          clear hch2 ho2 hb2 q42 q52 q62 hown2 hadd hrl hlr
          gi_wp2_with fail
          refine enterR2 HREV.out ?_
          rintro e C3 ⟨rfl, ho3, hc3⟩
          have hge2 : ∀ z, (Value.slice a2 L2.length c2).ownBlock = some z → C.heap.size ≤ z := fun z hz => by have := (HO2.out.lt z hz).1; have := HS1.out; omega
          have hch3 : Chg (fun z => C.heap.size ≤ z) C C3 := HCH2.out.trans (hc3.mono fun z _ h => hge2 z h)
          have hown3 := ownsRow_kept HOW2.out (hc3.kept (K := fun z => z < C.heap.size) (fun z h h2 => by have := hge2 z h2; omega)) (fun z hz => (HOWN.out.lt z hz).2)
          have q63 : Blk C3 y6 30 #[.slice ao lo.length co] := HQ62.out.stab (S := fun z => (Value.slice a2 L2.length c2).ownBlock = some z) (fun h => by have := hge2 y6 h; omega) hc3
          have hrow3 : RowAt C3 4 (.slice a2 L2.length c2) L2.length (lr.flatMap nodeV) := by
            have h := ho3.read
            unfold ReadN at h
            rw [HRL.out, HLR.out] at h
            exact h
          have hlr2 : lr.length = L2.length := by rw [← HLR.out]; exact HRL.out
          have HHL := Lib.hid hlr2
          obtain ⟨l2, hl2⟩ : ∃ l2, L2.length = l2 := ⟨_, rfl⟩
          rw [hl2] at hrow3 hL4
          have HL2 := Lib.hid hl2
          have HA1 := Lib.hid hown3
          have HA2 := Lib.hid hrow3
          have HA3 : Hid (∀ u, u ∈ lr.flatMap nodeV → u.oneCell' = true) := nodes_one lr
          have hA4 : (lo.length + l2) * 40 ≤ 140737488355328 := by omega
          have hA5 : lo.length + l2 ≤ maxLen := by unfold maxLen; omega
          have hA6 : W0.heap.size ≤ C3.heap.size := by have := HCW.out.size; have := hch3.size; omega
          have HCB : Hid (Chg (fun z => z = p) C C3) := chg_new_only hch3
          have c63 : C3.cell? ⟨y6, 0, none⟩ = some (.slice ao lo.length co) := q63.cell 0
          rw [hl2]
          clear ho3 hc3 hge2 hch3 hown3 q63 hrow3 hlr2 hl2 HREV HPC HSC1 hq
          obtain ⟨hn1, hn2⟩ := HAD.out
          rw [HLR.out] at hn2
          have HN1 := Lib.hid hn1
          have HN2 := Lib.hid hn2
          clear hn1 hn2
          by_cases hbig : lo.length + l2 > 16000
          rotate_left
          · have hnx : OutOK pU pB T (j + 1) (lo ++ lr) := ⟨HN1.out, by rw [List.length_append, HHL.out, HL2.out]; omega, HN2.out⟩
            have HNX := Lib.hid hnx
            have hdec : decide (((lo.length + l2 : Nat) : Int) > 16000) = false := by simp; omega
            have hdec2 : ¬ ((lo.length : Int) + (l2 : Int) > 16000) := by omega
            clear hnx
            gi_wp2_with (gi_at_builtin; refine wpListIn_append_row rfl (.tmp 63) (.tmp 64) 30 rfl W0.heap.size 23 i0 (.agg #[.int .i64 0, .int .i64 0, .int .i64 0, .string ByteArray.empty]) 4 40 Tryd.underlying30 hi hz0 hz1 hz2 rfl (by decide) (.slice ao lo.length co) lo.length (lo.flatMap nodeV) rfl HA1.out (.slice a2 l2 c2) l2 (lr.flatMap nodeV) rfl HA2.out HA3.out hA4 hA5 hA6 ?_; intro v5 w5 hown5 hg5 hat5; obtain ⟨a5, c5, rfl, _⟩ := (RowAt.of_own hown5).form; have hst := put_stored HCB.out HQ6.out h6p (by omega) HOGE.out hown5 hg5 hat5; have c56 := hst.1.cell 0; have d56 := hst.1.frozen 0; have HST := Lib.hid hst; clear hown5 hg5 hat5 hst)
            obtain ⟨_, s2, s3, s4, s5⟩ := HST.out
            have hlen : (lo ++ lr).length = lo.length + l2 := by rw [List.length_append, HHL.out, HL2.out]
            have hfin := put_next (ws := w.heap.size) (bt := bt) (lo' := lo ++ lr) HCW.out HGE.out HSC.out HDJ.out HOGE.out HQ4.out HQ5.out s2 hpW hpS (by omega) HNX.out (by rw [hlen, List.flatMap_append]; exact s3) (by rw [hlen]; exact s4) (by rw [hlen]; exact s5)
            exact hfin
          · have hnx : OutOK pU pB T (j + 1) ((lo ++ lr).take 8000) := by
              refine ⟨HN1.out, by rw [List.length_take, List.length_append, HHL.out, HL2.out]; omega, .inr ⟨?_, by rw [List.length_take, List.length_append, HHL.out, HL2.out]; omega⟩⟩
              rcases HN2.out with h | h
              · rw [← h, List.length_append, HHL.out, HL2.out]; omega
              · exact h.1
            have HNX := Lib.hid hnx
            have hdec : decide (((lo.length + l2 : Nat) : Int) > 16000) = true := by simp; omega
            have hdec2 : (lo.length : Int) + (l2 : Int) > 16000 := by omega
            clear hnx
            gi_wp2_with (gi_at_builtin; refine wpListIn_append_row rfl (.tmp 63) (.tmp 64) 30 rfl W0.heap.size 23 i0 (.agg #[.int .i64 0, .int .i64 0, .int .i64 0, .string ByteArray.empty]) 4 40 Tryd.underlying30 hi hz0 hz1 hz2 rfl (by decide) (.slice ao lo.length co) lo.length (lo.flatMap nodeV) rfl HA1.out (.slice a2 l2 c2) l2 (lr.flatMap nodeV) rfl HA2.out HA3.out hA4 hA5 hA6 ?_; intro v5 w5 hown5 hg5 hat5; obtain ⟨a5, c5, rfl, hc51, hc52, _⟩ := (RowAt.of_own hown5).form; have hc53 : 8000 ≤ c5 := (by omega); have hc54 : c5 ≤ 9223372036854775807 := (by unfold maxLen at hc52; omega); have hc55 := Lib.hid hc51; clear hc52 hc51; have hst := put_stored HCB.out HQ6.out h6p (by omega) HOGE.out hown5 hg5 hat5; have c56 := hst.1.cell 0; have d56 := hst.1.frozen 0; have HST := Lib.hid hst; clear hown5 hg5 hat5 hst)
            obtain ⟨_, s2, s3, s4, s5⟩ := HST.out
            obtain ⟨a', cap', he, hce, hcut⟩ := ownsRow_cut s3 (k := 8000) (by omega)
            obtain ⟨rfl, rfl⟩ : a5 = a' ∧ c5 = cap' := by simpa using he
            rw [← List.flatMap_append, flat_take4] at hcut
            have hlen : ((lo ++ lr).take 8000).length = 8000 := by rw [List.length_take, List.length_append, HHL.out, HL2.out]; omega
            obtain ⟨w7, hw7⟩ : ∃ w7, w5.setCell ⟨y6, 0, none⟩ (.slice a5 (lo.length + l2) c5) = w7 := ⟨_, rfl⟩
            rw [hw7] at s2 s3 s4 hcut ⊢
            have hfin := put_next (ws := w.heap.size) (bt := bt) (a5 := a5) (c5 := c5) (lo' := (lo ++ lr).take 8000) (w7 := w7.setCell ⟨y6, 0, none⟩ (.slice a5 8000 c5)) HCW.out HGE.out HSC.out HDJ.out HOGE.out HQ4.out HQ5.out
              (s2.trans (Chg.setCell (S := fun z => z = p ∨ z = y6 ∨ (Value.slice ao lo.length co).ownBlock = some z) w7 ⟨y6, 0, none⟩ _ (.inr (.inl rfl)))) hpW hpS (by omega) HNX.out
              (by rw [hlen]; exact ownsRow_kept hcut ((Chg.setCell (S := fun z => z = y6) w7 ⟨y6, 0, none⟩ _ rfl).kept (K := fun z => z ≠ y6) (fun z h => h)) (fun z hz => by have := (hcut.lt z hz).1; omega))
              (by rw [hlen]; exact s4.set_ 0 _) (by rw [hlen]; exact fun z hz => s5 z (by revert hz; cases a5 <;> exact id))
            exact hfin
  case done =>
    intro D S A hi hSD hwD hKD
    obtain ⟨lo, ao, co, hok, hown, q6, q4, q5, hcW, hdj, hge⟩ := hi
    obtain ⟨hn, hl2, hcase⟩ := hok
    have hfe := noE_all pU pB (T := T) (by rw [HNN.out]; exact hn)
    have hall := outR_all pU pB T
    rw [HNN.out] at hall
    obtain ⟨res, hres⟩ : ∃ r, (T.zw (outN pU pB) 0).flatten = r := ⟨_, rfl⟩
    have hpe : putE pU pB T = chk res := by unfold putE; rw [if_pos hfe, hres]
    have hpl : putL pU pB T = if chk res = 0 then res else [] := by unfold putL; rw [hpe, hres]
    rw [hres] at hall
    have hBA : Below w.heap.size w A := HB0.out.trans (hcW.to_below (fun y h => by omega) HB0.out.size)
    have hDW := hge D hSD
    have hoD : (Value.slice ao lo.length co).ownBlock ≠ some D := fun h => hdj D h hSD
    have HPE := Lib.hid hpe
    have HPL := Lib.hid hpl
    have HBA := Lib.hid hBA
    have c6 : A.cell? ⟨y6, 0, none⟩ = some (.slice ao lo.length co) := q6.cell 0
    by_cases hbig : lo.length > 4000
    · have hc21 : chk res = 21 := by
        refine chk_big ?_
        rcases hcase with h | h
        · have := congrArg List.length h
          rw [hall, List.length_reverse] at this
          omega
        · have := h.1
          rw [hall, List.length_reverse] at this
          exact this
      have hdec : (lo.length : Int) > 4000 := by omega
      have c4 : A.cell? ⟨y4, 0, none⟩ = some (.slice none 0 0) := q4.cell 0
      have d4 : A.frozen? ⟨y4, 0, none⟩ = false := q4.frozen 0
      have c5 : A.cell? ⟨y5, 0, none⟩ = some (.int .i64 0) := q5.cell 0
      have d5 : A.frozen? ⟨y5, 0, none⟩ = false := q5.frozen 0
      have hl9 : lo.length ≤ 9223372036854775807 := by omega
      have hE21 : putE pU pB T = 21 := by rw [HPE.out, hc21]
      have hL21 : putL pU pB T = [] := by rw [HPL.out, hc21]; rfl
      obtain ⟨B, hB⟩ : ∃ B, (A.setCell ⟨y4, 0, none⟩ (.slice none 0 0)).setCell ⟨y5, 0, none⟩ (.int .i64 21) = B := ⟨_, rfl⟩
      have hfin := put_left (y4 := y4) (y5 := y5) (D := D) (ws := w.heap.size) (v := .slice none 0 0) (e := 21) q4 q5 hBA (by omega) (by omega) (by omega) (by omega) hKD
      rw [hB] at hfin
      have HFIN := Lib.hid hfin
      have HE21 := Lib.hid hE21
      have HL21 := Lib.hid hL21
      have HBB := Lib.hid hB
      clear hB hfin hE21 hL21 hc21 hpe hpl hres hfe hall hcase hown q4 q5 q6 hcW hdj hn
      gi_wp2_with fail
      rw [HBB.out]
      obtain ⟨f1, f2, f3, f4, f5⟩ := HFIN.out
      refine postM1 f1 rfl (v := .tuple #[.slice none 0 0, .int .i64 21]) (by simp [results, Tryd.results80, go_sem, f2, f3]) ⟨_, by rw [HE21.out], by rw [HL21.out]; exact World.ownsRow_nil _ _ _ _, f4⟩
    · have hlo : lo = res.reverse := by
        rcases hcase with h | h
        · rw [h, hall]
        · exact absurd h.2 (by omega)
      have hlr : lo.reverse = res := by rw [hlo, List.reverse_reverse]
      have hsr : SmallN res := by
        rw [← hres]
        exact put_small HSM.out HUS.out
      have hdec : ¬ (lo.length : Int) > 4000 := by omega
      have hl9 : lo.length ≤ 9223372036854775807 := by omega
      have HREV := Lib.hid (reverse_any W0.heap.size lo (.slice ao lo.length co) A hown (by omega))
      have HLR := Lib.hid hlr
      have HSR := Lib.hid hsr
      have hll : res.length = lo.length := by rw [← hlr, List.length_reverse]
      have HLL := Lib.hid hll
      have HQ4 := Lib.hid q4
      have HQ5 := Lib.hid q5
      have HQ6 := Lib.hid q6
      have HKD := Lib.hid hKD
      have hoge : ∀ z, (Value.slice ao lo.length co).ownBlock = some z → W0.heap.size ≤ z := fun z hz => (hown.lt z hz).1
      have HOGE := Lib.hid hoge
      obtain ⟨c, hc⟩ : ∃ c, chk res = c := ⟨_, rfl⟩
      have HC := Lib.hid hc
      clear hlo hlr hsr hll hc hpe hpl hres hfe hall hcase hown q4 q5 q6 hcW hdj hn hoge hKD
      gi_wp2_with fail
      refine enterW2 HREV.out ?_
      rintro e A1 ⟨rfl, ho1, hc1⟩
      rw [HLR.out] at ho1
      have q41 := HQ4.out.stab (S := fun y => (Value.slice ao lo.length co).ownBlock = some y) (fun h => by have := HOGE.out _ h; omega) hc1
      have q51 := HQ5.out.stab (S := fun y => (Value.slice ao lo.length co).ownBlock = some y) (fun h => by have := HOGE.out _ h; omega) hc1
      have q61 := HQ6.out.stab (S := fun y => (Value.slice ao lo.length co).ownBlock = some y) (fun h => by have := HOGE.out _ h; omega) hc1
      have hKD1 : A1.heap[D]? = some (.deferred (some [])) := (hc1.block D (Array.getElem?_eq_some_iff.1 HKD.out).1 hoD).trans HKD.out
      have hB1 : Below w.heap.size w A1 := HBA.out.trans (hc1.to_below (fun z h => by have := HOGE.out z h; omega) HBA.out.size)
      have hr1 : ReadN A1 (.slice ao lo.length co) res := ho1.read
      have c61 : A1.cell? ⟨y6, 0, none⟩ = some (.slice ao lo.length co) := q61.cell 0
      have HO1 := Lib.hid ho1
      have HR1 := Lib.hid hr1
      have HQ4 := Lib.hid q41
      have HQ5 := Lib.hid q51
      have HKD := Lib.hid hKD1
      have HB1 := Lib.hid hB1
      have hlt6 := q61.lt
      clear ho1 hc1 q41 q51 q61 hKD1 hB1 hr1 c6
      gi_wp2_with fail
      refine enterW2 (tcheck_any res _ A1 (HS.out.below HB1.out) HR1.out HSR.out) ?_
      rintro e A2 ⟨rfl, hb2⟩
      rw [HC.out]
      have q42 := HQ4.out.below hb2 HQ4.out.lt
      have q52 := HQ5.out.below hb2 HQ5.out.lt
      have hKD2 : A2.heap[D]? = some (.deferred (some [])) := (hb2.block D (Array.getElem?_eq_some_iff.1 HKD.out).1).trans HKD.out
      have hB2 : Below w.heap.size w A2 := HB1.out.trans (hb2.mono HB1.out.size)
      have c62 : A2.cell? ⟨y6, 0, none⟩ = some (.slice ao lo.length co) := (hb2.cell (p := ⟨y6, 0, none⟩) hlt6).trans c61
      have c4 : A2.cell? ⟨y4, 0, none⟩ = some (.slice none 0 0) := q42.cell 0
      have d4 : A2.frozen? ⟨y4, 0, none⟩ = false := q42.frozen 0
      have c5 : A2.cell? ⟨y5, 0, none⟩ = some (.int .i64 0) := q52.cell 0
      have d5 : A2.frozen? ⟨y5, 0, none⟩ = false := q52.frozen 0
      have ho2 : OwnN W0.heap.size A2 (.slice ao lo.length co) res := ownsRow_below HO1.out hb2 (fun g hg => (HO1.out.lt g hg).2)
      have HO2 := Lib.hid ho2
      by_cases h0 : c = 0
      · subst h0
        have hL : putL pU pB T = res := by rw [HPL.out, if_pos HC.out]
        obtain ⟨B, hB⟩ : ∃ B, (A2.setCell ⟨y4, 0, none⟩ (.slice ao lo.length co)).setCell ⟨y5, 0, none⟩ (.int .i64 0) = B := ⟨_, rfl⟩
        have hfin := put_left (y4 := y4) (y5 := y5) (D := D) (ws := w.heap.size) (v := .slice ao lo.length co) (e := 0) q42 q52 hB2 (by omega) (by omega) (by omega) (by omega) hKD2
        rw [hB] at hfin
        have HFIN := Lib.hid hfin
        have HL := Lib.hid hL
        have HBB := Lib.hid hB
        clear hB hfin hL ho2 hB2 hKD2 q42 q52 hb2 c61
        gi_wp2_with fail
        rw [HBB.out]
        obtain ⟨f1, f2, f3, f4, f5⟩ := HFIN.out
        refine postM1 f1 rfl (v := .tuple #[.slice ao lo.length co, .int .i64 0]) (by simp [results, Tryd.results80, go_sem, f2, f3]) ⟨_, by rw [HPE.out, HC.out], ?_, f4⟩
        rw [HL.out]
        refine ownsRow_base (b := W0.heap.size) ?_ HB0.out.size
        exact ownsRow_kept HO2.out (f5.kept (K := fun z => z ≠ y4 ∧ z ≠ y5 ∧ z ≠ D) (fun z h h2 => by omega)) (fun z hz => ⟨by have := HOGE.out z hz; omega, by have := HOGE.out z hz; omega, fun h => by subst h; exact hoD hz⟩)
      · have hcb : (c != 0) = true := by simpa using h0
        have hL : putL pU pB T = [] := by rw [HPL.out, if_neg (by rw [HC.out]; exact h0)]
        obtain ⟨B, hB⟩ : ∃ B, (A2.setCell ⟨y4, 0, none⟩ (.slice none 0 0)).setCell ⟨y5, 0, none⟩ (.int .i64 c) = B := ⟨_, rfl⟩
        have hfin := put_left (y4 := y4) (y5 := y5) (D := D) (ws := w.heap.size) (v := .slice none 0 0) (e := c) q42 q52 hB2 (by omega) (by omega) (by omega) (by omega) hKD2
        rw [hB] at hfin
        have HFIN := Lib.hid hfin
        have HL := Lib.hid hL
        have HBB := Lib.hid hB
        clear hB hfin hL ho2 hB2 hKD2 q42 q52 hb2 c61 c62
        gi_wp2_with fail
        rw [HBB.out]
        obtain ⟨f1, f2, f3, f4, f5⟩ := HFIN.out
        refine postM1 f1 rfl (v := .tuple #[.slice none 0 0, .int .i64 c]) (by simp [results, Tryd.results80, go_sem, f2, f3]) ⟨_, by rw [HPE.out, HC.out], by rw [HL.out]; exact World.ownsRow_nil _ _ _ _, f4⟩
  case stop =>
    intro D c j S A hj hx hSD hwD hKD
    obtain ⟨rfl, hne, q4, q5, hcW, hge⟩ := hx
    have hBA : Below w.heap.size w A := HB0.out.trans (hcW.to_below (fun y h => by omega) HB0.out.size)
    have hDW := hge D hSD
    have f1 : (A.putObj D (.deferred none)).cell? ⟨y4, 0, none⟩ = some (.slice none 0 0) := ((Chg.putObj (S := fun z => z = D) A D (.deferred none) rfl).cell (p := ⟨y4, 0, none⟩) (by show ¬ (y4 = D); omega) (q4.cell 0))
    have f2 : (A.putObj D (.deferred none)).cell? ⟨y5, 0, none⟩ = some (.int .i64 (fstE (T.zw (errN pU pB) 0))) := ((Chg.putObj (S := fun z => z = D) A D (.deferred none) rfl).cell (p := ⟨y5, 0, none⟩) (by show ¬ (y5 = D); omega) (q5.cell 0))
    have f4 : Below w.heap.size w (A.putObj D (.deferred none)) := hBA.trans ((Chg.putObj (S := fun z => z = D) A D (.deferred none) rfl).to_below (fun z h => by omega) hBA.size)
    have hpe : putE pU pB T = fstE (T.zw (errN pU pB) 0) := by unfold putE; rw [if_neg hne]
    have hpl : putL pU pB T = [] := by unfold putL; rw [hpe, if_neg hne]
    have F1 := Lib.hid f1
    have F2 := Lib.hid f2
    have F4 := Lib.hid f4
    have HPE := Lib.hid hpe
    have HPL := Lib.hid hpl
    clear q4 q5 hcW hBA f1 f2 f4 hpe hpl
    gi_wp2_with fail
    have f1 := F1.out
    have f2 := F2.out
    refine postM1 hKD rfl (v := .tuple #[.slice none 0 0, .int .i64 (fstE (T.zw (errN pU pB) 0))]) (by simp [results, Tryd.results80, go_sem, f1, f2]) ⟨_, by rw [HPE.out], by rw [HPL.out]; exact World.ownsRow_nil _ _ _ _, F4.out⟩

end Go.Proofs.YtjhgpifccleknaaDoor
