/- A loop over an iterator, where iterator and body each keep blocks of their own: the iterator's contract counts its rounds ('Iter'), each side names the blocks that it leaves alone. No function of the program is named here. -/
import Derived.Test.YtjhgpifccleknaaDoorRowLaws
import Derived.RangeFuncNested
import Derived.RangeFuncBound
import Derived.RangeFuncCalls
import Derived.RangeFuncLeaves
import Derived.Shelf.Abstract
import Derived.OwnWalkIn
import Derived.TacticsInMore
import Derived.LoopNIn
import Derived.LoopIn
namespace Go.Proofs.YtjhgpifccleknaaDoor
set_option linter.unusedSimpArgs false
set_option linter.unusedVariables false
open Go.RowKit Go.Shelf

abbrev Bset := Nat → Prop

/-- B is A, but for new blocks and those of S -/
structure Chg (S : Bset) (A B : World) : Prop where
  os : B.os = A.os
  tape : B.tape = A.tape
  output : B.output = A.output
  size : A.heap.size ≤ B.heap.size
  block : ∀ b, b < A.heap.size → ¬ S b → B.heap[b]? = A.heap[b]?

/-- the blocks of K lie as they lay -/
structure Kept (K : Bset) (A B : World) : Prop where
  size : A.heap.size ≤ B.heap.size
  block : ∀ b, b < A.heap.size → K b → B.heap[b]? = A.heap[b]?

section
variable {S T K : Bset} {A B C : World}
theorem Chg.refl (S : Bset) (A : World) : Chg S A A := ⟨rfl, rfl, rfl, Nat.le_refl _, fun _ _ _ => rfl⟩
theorem Chg.trans (h : Chg S A B) (k : Chg S B C) : Chg S A C :=
  ⟨k.os.trans h.os, k.tape.trans h.tape, k.output.trans h.output, Nat.le_trans h.size k.size, fun b hb hn => (k.block b (Nat.lt_of_lt_of_le hb h.size) hn).trans (h.block b hb hn)⟩
theorem Chg.mono (h : Chg S A B) (hs : ∀ b, b < A.heap.size → S b → T b) : Chg T A B :=
  ⟨h.os, h.tape, h.output, h.size, fun b hb hn => h.block b hb (fun hs' => hn (hs b hb hs'))⟩
theorem Chg.below {n : Nat} (h : Below n A B) : Chg (fun b => n ≤ b) A B := ⟨h.os, h.tape, h.output, h.size, fun b _ hn => h.block b (by omega)⟩
theorem Chg.fresh (h : Below A.heap.size A B) : Chg S A B := ⟨h.os, h.tape, h.output, h.size, fun b hb _ => h.block b hb⟩
theorem Chg.grown {r : Option Nat} (h : A.grownBy B r) (hr : ∀ g, r = some g → S g) : Chg S A B :=
  ⟨h.os, h.tape, h.output, h.size, fun b hb hn => h.block b hb (fun e => hn (hr b e.symm))⟩
theorem Chg.setCell (A : World) (p : Addr) (v : Value) (h : S p.block) : Chg S A (A.setCell p v) :=
  ⟨rfl, rfl, rfl, by simp [World.setCell], fun b _ hn => Below.heap_setCell A p v b (by rintro rfl; exact hn h)⟩
theorem Chg.putObj (A : World) (r : Nat) (o : Obj) (h : S r) : Chg S A (A.putObj r o) :=
  ⟨rfl, rfl, rfl, by simp, fun b _ hn => World.putObj_heap_other (by rintro rfl; exact hn h)⟩
theorem Chg.alloc (A : World) (o : Obj) : Chg S A (A.alloc o) := .fresh ((Below.refl _ A).alloc (Nat.le_refl _) o)
theorem Chg.drewN (A : World) (n : Nat) : Chg S A (A.drewN n) := ⟨rfl, rfl, rfl, Nat.le_refl _, fun _ _ _ => rfl⟩
theorem Chg.drew (A : World) : Chg S A A.drew := ⟨rfl, rfl, rfl, Nat.le_refl _, fun _ _ _ => rfl⟩
theorem Chg.to_below {n : Nat} (h : Chg S A B) (hn : ∀ b, S b → n ≤ b) (hs : n ≤ A.heap.size) : Below n A B :=
  ⟨h.os, h.tape, h.output, h.size, fun b hb => h.block b (by omega) (fun hs' => by have := hn b hs'; omega)⟩
theorem Chg.kept (h : Chg S A B) (hk : ∀ b, K b → ¬ S b) : Kept K A B := ⟨h.size, fun b hb hKb => h.block b hb (hk b hKb)⟩
theorem Kept.refl (K : Bset) (A : World) : Kept K A A := ⟨Nat.le_refl _, fun _ _ _ => rfl⟩
theorem Kept.trans (h : Kept K A B) (k : Kept K B C) : Kept K A C :=
  ⟨Nat.le_trans h.size k.size, fun b hb hk => (k.block b (Nat.lt_of_lt_of_le hb h.size) hk).trans (h.block b hb hk)⟩
theorem Kept.mono {K' : Bset} (h : Kept K A B) (hk : ∀ b, b < A.heap.size → K' b → K b) : Kept K' A B := ⟨h.size, fun b hb hk' => h.block b hb (hk b hb hk')⟩
theorem Kept.cell (h : Kept K A B) {p : Addr} {v : Value} (hp : K p.block) (hc : A.cell? p = some v) : B.cell? p = some v := by
  have hlt := World.block_lt_of_cell? A p hc
  unfold World.cell? at hc ⊢
  rw [h.block _ hlt hp]
  exact hc
theorem Kept.frozen (h : Kept K A B) {p : Addr} (hp : K p.block) (hlt : p.block < A.heap.size) (hc : A.frozen? p = false) : B.frozen? p = false := by
  unfold World.frozen? at hc ⊢
  rw [h.block _ hlt hp]
  exact hc
theorem Chg.cell (h : Chg S A B) {p : Addr} {v : Value} (hp : ¬ S p.block) (hc : A.cell? p = some v) : B.cell? p = some v :=
  (h.kept (K := fun b => ¬ S b) (fun _ hb => hb)).cell hp hc
end

/-- an invariant that the other side's steps leave alone: new blocks, and the blocks of S -/
def Stab (J : Nat → Bset → World → Prop) : Prop := ∀ j S A B S', J j S A → Chg S A B → (∀ b, S' b → S b ∨ A.heap.size ≤ b) → J j S' B

/-- THE ITERATOR's CONTRACT: N rounds, round j with the values enc j; the body keeps the blocks of K (that the iterator reads) and those of the iterator's own -/
def Iter (F : Fence) (n : Nat) (P : Program) (gf : Nat) (lb : Array Value) (enc : Nat → Array Value) (N : Nat) (K : Bset) (w0 : World) : Prop :=
  ∀ (l : Nat) (J Jx : Nat → Bset → World → Prop) (W : World), Kept (fun b => b < w0.heap.size) w0 W → Stab J → Stab Jx →
    (∀ j S A, j < N → J j S A → (∀ b, S b → b < A.heap.size) → YieldAt F (n - 1) P l (enc j) A fun e B =>
      (e = .returned (.bool true) ∧ J (j + 1) S B ∧ Kept (fun b => S b ∨ K b) A B) ∨ (e = .returned (.bool false) ∧ Jx (j + 1) S B)) →
    J 0 (fun _ => False) W →
    CallsIn F n P gf (#[.func (.yield l) #[] #[]] ++ lb) W fun e B => (∃ v, e = .returned v) ∧ ∃ S, J N S B ∨ ∃ j, j ≤ N ∧ Jx j S B

/-- how a round's body may be left -/
def bodyPostR (K : Bset) (I : Nat → Bset → World → Prop) (Ix : Code → Nat → Bset → World → Prop) (j : Nat) (S : Bset) (A : World) : Exit → Act → World → Prop
  | .normal, _, B => Kept (fun b => S b ∨ K b) A B ∧ I (j + 1) S B
  | .ret, _, B => Kept (fun b => S b ∨ K b) A B ∧ Ix .ret (j + 1) S B
  | .exit id, _, B => Kept (fun b => S b ∨ K b) A B ∧ Ix (.exit id) (j + 1) S B
  | .goto t, _, B => Kept (fun b => S b ∨ K b) A B ∧ Ix (.goto t) (j + 1) S B
  | .panic _, _, _ => False
  | .outgrown, _, _ => False

section
variable {F : Fence} {n : Nat} {P : Program}

/-- the two blocks that the statement lays: D for deferred calls, L for the loop's record -/
def Book (D L : Nat) (o : Obj) (S : Bset) (A : World) : Prop := ¬ S D ∧ ¬ S L ∧ A.heap[L]? = some o ∧ A.heap[D]? = some (.deferred (some []))

theorem Book.stab {D L : Nat} {o : Obj} {S S' : Bset} {A B : World} (h : Book D L o S A) (hc : Chg S A B) (hs : ∀ b, S' b → S b ∨ A.heap.size ≤ b) : Book D L o S' B := by
  obtain ⟨h1, h2, h3, h4⟩ := h
  have l3 := (Array.getElem?_eq_some_iff.1 h3).1
  have l4 := (Array.getElem?_eq_some_iff.1 h4).1
  exact ⟨fun h => by rcases hs _ h with h | h; exact h1 h; omega, fun h => by rcases hs _ h with h | h; exact h2 h; omega, (hc.block _ l3 h2).trans h3, (hc.block _ l4 h1).trans h4⟩

theorem wpIn_rangeFunc_mine {g : Operand} {ps : Array Tmp} {assign body : Code} {Q : Exit → Act → World → Prop} {a : Act} {w : World}
    (hro : F.round = none) (h1 : 1 ≤ n) {gf : Nat} {lb : Array Value} (hg : a.eval g = .func (.func gf) #[] lb) (hFg : F.fn gf) (eg : ∀ args w, (callFunc gf args).run P w = .ok (.enter gf args) w)
    {enc : Nat → Array Value} {N : Nat} {K : Bset} {w0 : World} (hit : Iter F (n - 1) P gf lb enc N K w0) (hb0 : Kept (fun b => b < w0.heap.size) w0 w) (hsz0 : w0.heap.size ≤ w.heap.size)
    (hK : ∀ b, K b → b < w.heap.size) (hps : ∀ j, (enc j).size = ps.size)
    (I : Nat → Bset → World → Prop) (I1 : Nat → Nat → Act → Bset → World → Prop) (Ix : Code → Nat → Bset → World → Prop)
    (hI : Stab I) (hI1 : ∀ l j a1 S A B, I1 l j a1 S A → Chg S A B → I1 l j a1 S B) (hIx : ∀ c, Stab (Ix c)) (h0 : I 0 (fun _ => False) w)
    (hassign : ∀ (l j : Nat) (S : Bset) (A : World) (Kc : Act → World → Prop), j < N → I j S A → (∀ b, S b → b < A.heap.size) → (∀ a1 B, I1 l j a1 S B → Kept (fun b => S b ∨ K b) A B → Kc a1 B) →
      assign.wpIn (F.inRound l) (n - 1 - 1) P (Exit.then Kc (fun _ _ _ => False)) { tmps := (ps.zip (enc j)).foldl (fun t (p, v) => t.setIfInBounds p v) a.tmps, defers := [] } A)
    (hbody : ∀ (l j : Nat) (S : Bset) (a1 : Act) (A : World), j < N → I1 l j a1 S A → (∀ b, S b → b < A.heap.size) → body.wpIn (F.inRound l) (n - 1 - 1) P (bodyPostR K I Ix j S A) a1 A)
    (hdone : ∀ (D : Nat) (S : Bset) (A : World), I N S A → S D → w.heap.size ≤ D → A.heap[D]? = some (.deferred (some [])) → Q .normal { a with defers := { target := .collected D, args := #[] } :: a.defers } A)
    (hstop : ∀ (D : Nat) (c : Code) (j : Nat) (S : Bset) (A : World), j ≤ N → Ix c j S A → S D → w.heap.size ≤ D → A.heap[D]? = some (.deferred (some [])) → c.wpIn F n P Q { a with defers := { target := .collected D, args := #[] } :: a.defers } A) :
    (Code.rangeFunc g ps assign body).wpIn F n P Q a w := by
  refine wpIn_rangeFunc ?_
  intro fn hfn
  rw [hro]
  obtain ⟨D, hD⟩ : ∃ D, w.heap.size = D := ⟨_, rfl⟩
  obtain ⟨rec, hrec⟩ : ∃ rec : LoopState → Option Code → Loop, rec = fun st pe => { state := st, pending := pe, fn, tmps := a.tmps, params := ps, assign, body, defers := D } := ⟨_, rfl⟩
  obtain ⟨W1, hW1⟩ : ∃ W1, (w.alloc (.deferred (some []))).alloc (.loop (rec .ready none)) = W1 := ⟨_, rfl⟩
  have hL1 : W1.heap[D + 1]? = some (.loop (rec .ready none)) := by
    rw [← hW1, ← hD]; have := World.alloc_heap_new (w.alloc (.deferred (some []))) (.loop (rec .ready none)); rwa [World.size_alloc] at this
  have hK1 : W1.heap[D]? = some (.deferred (some [])) := by
    rw [← hW1, ← hD]; exact (Below.heap_alloc _ _ _ (by simp)).trans (World.alloc_heap_new w _)
  have hbw : Below w.heap.size w W1 := by rw [← hW1]; exact ((Below.refl _ w).alloc (Nat.le_refl _) _).alloc (by simp) _
  -- the consumer's set: the iterator's, and the two blocks
  let U : Bset → Bset := fun S b => S b ∨ b = D ∨ b = D + 1
  have hU : ∀ {S : Bset} {A : World} {o : Obj}, Book D (D + 1) o S A → (∀ b, S b → b < A.heap.size) → ∀ b, U S b → b < A.heap.size := by
    intro S A o hb hs b hu
    have l3 := (Array.getElem?_eq_some_iff.1 hb.2.2.1).1
    rcases hu with h | rfl | rfl
    · exact hs _ h
    · omega
    · exact l3
  have hstU : ∀ (J : Nat → Bset → World → Prop), Stab J → ∀ (o : Obj), Stab (fun j S A => J j (U S) A ∧ Book D (D + 1) o S A) := by
    intro J hJ o j S A B S' hj hc hs
    have l3 := (Array.getElem?_eq_some_iff.1 hj.2.2.2.1).1
    refine ⟨hJ j (U S) A B (U S') hj.1 (hc.mono fun b _ h => .inl h) ?_, hj.2.stab hc hs⟩
    rintro b (h | h | h)
    · rcases hs b h with h | h
      · exact .inl (.inl h)
      · exact .inr h
    · exact .inl (.inr (.inl h))
    · exact .inl (.inr (.inr h))
  refine ⟨D + 1, [{ target := .collected D, args := #[] }], W1, { target := .fn (.func gf) lb, args := #[.func (.yield (D + 1)) #[] #[]] }, W1, gf,
    #[.func (.yield (D + 1)) #[] #[]] ++ lb, W1, ?_, ?_, ?_, ?_, fun _ => h1, ?_⟩
  · rw [← hW1, hrec, ← hD]; exact run_enterLoop_outer _ _ _ _ _
  · simp only [resolve, hg]
    simp [go_sem]
  · intro f' hf'; simp [Target.leads] at hf'; subst hf'; exact hFg
  · simp [invoke, go_sem, eg]
  refine (hit (D + 1) (fun j S A => I j (U S) A ∧ Book D (D + 1) (.loop (rec .ready none)) S A)
    (fun j S A => ∃ c, Ix c j (U S) A ∧ Book D (D + 1) (.loop (rec .done (some c))) S A) W1 ?_ (hstU I hI _) ?_ ?_ ?_).mono ?_
  · exact hb0.trans ⟨hbw.size, fun b hb hk => hbw.block b hb⟩
  · intro j S A B S' hj hc hs
    obtain ⟨c, hc1⟩ := hj
    exact ⟨c, hstU (Ix c) (hIx c) _ j S A B S' hc1 hc hs⟩
  · -- one round
    rintro j S A hjN ⟨hi, hbk⟩ hS
    have hSU := hU hbk hS
    obtain ⟨hnD, hnL, hl, hk⟩ := hbk
    have hlt := (Array.getElem?_eq_some_iff.1 hl).1
    have hy := run_yield (P := P) (args := enc j) hl (by rw [hrec]; exact hps j)
    rw [hrec] at hy
    refine ⟨fn, _, assign, body, hy, roundIn_of_wpIn hfn (hassign (D + 1) j (U S) A _ hjN hi hSU ?_)⟩
    intro a1 B hi1 hkB
    have hlB : B.heap[D + 1]? = some (.loop (rec .ready none)) := (hkB.block _ hlt (.inl (.inr (.inr rfl)))).trans hl
    have hdB : B.heap[D]? = some (.deferred (some [])) := (hkB.block _ (by omega) (.inl (.inr (.inl rfl)))).trans hk
    have hltB := (Array.getElem?_eq_some_iff.1 hlB).1
    refine ⟨_, run_beginRound hlB (by rw [hrec]), ?_⟩
    have hcC : Chg (U S) B (B.putObj (D + 1) (.loop { rec .ready none with state := .busy })) := Chg.putObj _ _ _ (.inr (.inr rfl))
    have hl2 : (B.putObj (D + 1) (.loop { rec .ready none with state := .busy })).heap[D + 1]? = some (.loop { rec .ready none with state := .busy }) := World.putObj_heap_same hltB
    have hk2 : (B.putObj (D + 1) (.loop { rec .ready none with state := .busy })).heap[D]? = some (.deferred (some [])) := (World.putObj_heap_other (by omega)).trans hdB
    have hi2 := hI1 (D + 1) j a1 (U S) B _ hi1 hcC
    have hS2 : ∀ b, U S b → b < (B.putObj (D + 1) (.loop { rec .ready none with state := .busy })).heap.size := fun b hb => by rw [World.putObj_size]; have := hSU b hb; have := hkB.size; omega
    generalize hC : B.putObj (D + 1) (.loop { rec .ready none with state := .busy }) = C at *
    have hkC : Kept (fun b => S b ∨ K b) A C := by
      refine (hkB.mono fun b _ h => ?_).trans ⟨hcC.size, fun b hb h => ?_⟩
      · rcases h with h | h
        · exact .inl (.inl h)
        · exact .inr h
      · rw [← hC]
        refine World.putObj_heap_other ?_
        rintro rfl
        rcases h with h | h
        · exact hnL h
        · have := hK _ h; omega
    refine wpIn_mono (hbody (D + 1) j (U S) a1 C hjN hi2 hS2) ?_
    have fin : ∀ (jump : Option Code) (E : World), Kept (fun b => U S b ∨ K b) C E →
        (Instr.endRound (D + 1) jump).run P E = .ok (.bool jump.isNone) (E.putObj (D + 1) (.loop (rec (if jump.isNone then .ready else .done) jump))) ∧
        Chg (U S) E (E.putObj (D + 1) (.loop (rec (if jump.isNone then .ready else .done) jump))) ∧
        Book D (D + 1) (.loop (rec (if jump.isNone then .ready else .done) jump)) S (E.putObj (D + 1) (.loop (rec (if jump.isNone then .ready else .done) jump))) ∧
        Kept (fun b => S b ∨ K b) A (E.putObj (D + 1) (.loop (rec (if jump.isNone then .ready else .done) jump))) := fun jump E hkE => by
      have l2 := (Array.getElem?_eq_some_iff.1 hl2).1
      have hl3 := (hkE.block _ l2 (.inl (.inr (.inr rfl)))).trans hl2
      have hk3 := (hkE.block _ (by omega) (.inl (.inr (.inl rfl)))).trans hk2
      have l3 := (Array.getElem?_eq_some_iff.1 hl3).1
      have := run_endRound (P := P) jump hl3
      rw [hrec] at this ⊢
      refine ⟨this, Chg.putObj _ _ _ (.inr (.inr rfl)), ⟨hnD, hnL, World.putObj_heap_same l3, (World.putObj_heap_other (by omega)).trans hk3⟩, ?_⟩
      refine (hkC.trans (hkE.mono fun b _ h => ?_)).trans ⟨by simp, fun b hb h => ?_⟩
      · rcases h with h | h
        · exact .inl (.inl h)
        · exact .inr h
      · refine World.putObj_heap_other ?_
        rintro rfl
        rcases h with h | h
        · exact hnL h
        · have := hK _ h; omega
    rintro e a3 E hp
    cases e with
    | normal =>
      obtain ⟨hkE, hiE⟩ := hp
      obtain ⟨hr, hcE, hbE, hkF⟩ := fin none E hkE
      exact ⟨_, _, hr, .inl ⟨rfl, ⟨hI _ _ _ _ _ hiE hcE (fun b h => .inl h), hbE⟩, hkF⟩⟩
    | ret =>
      obtain ⟨hkE, hiE⟩ := hp
      obtain ⟨hr, hcE, hbE, hkF⟩ := fin (some .ret) E hkE
      exact ⟨_, _, hr, .inr ⟨rfl, .ret, hIx _ _ _ _ _ _ hiE hcE (fun b h => .inl h), hbE⟩⟩
    | exit id =>
      obtain ⟨hkE, hiE⟩ := hp
      obtain ⟨hr, hcE, hbE, hkF⟩ := fin (some (.exit id)) E hkE
      exact ⟨_, _, hr, .inr ⟨rfl, .exit id, hIx _ _ _ _ _ _ hiE hcE (fun b h => .inl h), hbE⟩⟩
    | goto t =>
      obtain ⟨hkE, hiE⟩ := hp
      obtain ⟨hr, hcE, hbE, hkF⟩ := fin (some (.goto t)) E hkE
      exact ⟨_, _, hr, .inr ⟨rfl, .goto t, hIx _ _ _ _ _ _ hiE hcE (fun b h => .inl h), hbE⟩⟩
    | panic ch => exact hp.elim
    | outgrown => exact hp.elim
  · refine ⟨?_, fun h => h, fun h => h, hL1, hK1⟩
    refine hI 0 (fun _ => False) w W1 _ h0 (Chg.fresh hbw) ?_
    rintro b (h | rfl | rfl)
    · exact h.elim
    · exact .inr (by omega)
    · exact .inr (by omega)
  · -- behind the iterator
    rintro e B ⟨⟨v, rfl⟩, S, (⟨hi, hbk⟩ | ⟨j, hj, c, hi, hbk⟩)⟩
    · obtain ⟨hnD, hnL, hl, hk⟩ := hbk
      have hend := run_endLoop (P := P) hl (by rw [hrec]; simp)
      rw [hrec] at hend
      exact ⟨none, _, hend, hdone D (U S) _ (hI _ _ _ _ _ hi (Chg.putObj _ _ _ (.inr (.inr rfl))) (fun b h => .inl h)) (.inr (.inl rfl)) (by omega) ((World.putObj_heap_other (by omega)).trans hk)⟩
    · obtain ⟨hnD, hnL, hl, hk⟩ := hbk
      have hend := run_endLoop (P := P) hl (by rw [hrec]; simp)
      rw [hrec] at hend
      exact ⟨some c, _, hend, hstop D c j (U S) _ hj (hIx _ _ _ _ _ _ hi (Chg.putObj _ _ _ (.inr (.inr rfl))) (fun b h => .inl h)) (.inr (.inl rfl)) (by omega) ((World.putObj_heap_other (by omega)).trans hk)⟩

/-- the same, assignment and body in one walk -/
theorem wpIn_rangeFunc_round {g : Operand} {ps : Array Tmp} {assign body : Code} {Q : Exit → Act → World → Prop} {a : Act} {w : World}
    (hro : F.round = none) (h1 : 1 ≤ n) {gf : Nat} {lb : Array Value} (hg : a.eval g = .func (.func gf) #[] lb) (hFg : F.fn gf) (eg : ∀ args w, (callFunc gf args).run P w = .ok (.enter gf args) w)
    {enc : Nat → Array Value} {N : Nat} {K : Bset} {w0 : World} (hit : Iter F (n - 1) P gf lb enc N K w0) (hb0 : Kept (fun b => b < w0.heap.size) w0 w) (hsz0 : w0.heap.size ≤ w.heap.size)
    (hK : ∀ b, K b → b < w.heap.size) (hps : ∀ j, (enc j).size = ps.size)
    (I : Nat → Bset → World → Prop) (Ix : Code → Nat → Bset → World → Prop)
    (hI : Stab I) (hIx : ∀ c, Stab (Ix c)) (h0 : I 0 (fun _ => False) w)
    (hround : ∀ (l j : Nat) (S : Bset) (A : World), j < N → I j S A → (∀ b, S b → b < A.heap.size) →
      assign.wpIn (F.inRound l) (n - 1 - 1) P (Exit.then (fun a1 B => Kept (fun b => S b ∨ K b) A B ∧ ∀ C, Chg S B C → body.wpIn (F.inRound l) (n - 1 - 1) P (bodyPostR K I Ix j S C) a1 C) (fun _ _ _ => False))
        { tmps := (ps.zip (enc j)).foldl (fun t (p, v) => t.setIfInBounds p v) a.tmps, defers := [] } A)
    (hdone : ∀ (D : Nat) (S : Bset) (A : World), I N S A → S D → w.heap.size ≤ D → A.heap[D]? = some (.deferred (some [])) → Q .normal { a with defers := { target := .collected D, args := #[] } :: a.defers } A)
    (hstop : ∀ (D : Nat) (c : Code) (j : Nat) (S : Bset) (A : World), j ≤ N → Ix c j S A → S D → w.heap.size ≤ D → A.heap[D]? = some (.deferred (some [])) → c.wpIn F n P Q { a with defers := { target := .collected D, args := #[] } :: a.defers } A) :
    (Code.rangeFunc g ps assign body).wpIn F n P Q a w :=
  wpIn_rangeFunc_mine hro h1 hg hFg eg hit hb0 hsz0 hK hps I (fun l j a1 S B => ∀ C, Chg S B C → body.wpIn (F.inRound l) (n - 1 - 1) P (bodyPostR K I Ix j S C) a1 C) Ix hI
    (fun l j a1 S A B h hc C hC => h C (hc.trans hC)) hIx h0
    (fun l j S A Kc hj hi hS hKc => wpIn_mono (hround l j S A hj hi hS) (fun e a w h => by cases e <;> first | exact hKc _ _ h.2 h.1 | exact h))
    (fun l j S a1 A hj h hS => h A (Chg.refl _ _)) hdone hstop

/-- a return of a function that holds such a loop: before it, and behind it -/
theorem postM0 {fn : Func} {R : Ending → World → Prop} {a : Act} {w : World} {v : Value} (hr : (results fn a.tmps).run P w = .ok v w) (hd : a.defers = []) (hR : R (.returned v) w) : bodyPostM F n P fn R .ret a w := by
  show LeavesInM F n P fn a.tmps R a.defers .returning w
  rw [hd]
  exact ⟨v, hr, hR⟩
theorem postM1 {fn : Func} {R : Ending → World → Prop} {a : Act} {w : World} {v : Value} {D : Nat} (hK : w.heap[D]? = some (.deferred (some []))) (hd : a.defers = [{ target := .collected D, args := #[] }])
    (hr : (results fn a.tmps).run P (w.putObj D (.deferred none)) = .ok v (w.putObj D (.deferred none))) (hR : R (.returned v) (w.putObj D (.deferred none))) : bodyPostM F n P fn R .ret a w := by
  show LeavesInM F n P fn a.tmps R a.defers .returning w
  rw [hd]
  exact ⟨by simp, .inl ⟨_, _, rfl, run_takeDeferred hK, v, hr, hR⟩⟩
theorem postM0n {fn : Func} {R : Ending → World → Prop} {a : Act} {w : World} {v : Value} (hr : (results fn a.tmps).run P w = .ok v w) (hd : a.defers = []) (hR : R (.returned v) w) : bodyPostM F n P fn R .normal a w :=
  postM0 (F := F) (n := n) hr hd hR
theorem postM1n {fn : Func} {R : Ending → World → Prop} {a : Act} {w : World} {v : Value} {D : Nat} (hK : w.heap[D]? = some (.deferred (some []))) (hd : a.defers = [{ target := .collected D, args := #[] }])
    (hr : (results fn a.tmps).run P (w.putObj D (.deferred none)) = .ok v (w.putObj D (.deferred none))) (hR : R (.returned v) (w.putObj D (.deferred none))) : bodyPostM F n P fn R .normal a w :=
  postM1 (F := F) (n := n) hK hd hr hR

/-- a plain contract at a call within the widest fence, and within a round there -/
theorem enterW {f : FuncId} {args : Array Value} {w : World} {R R' : Ending → World → Prop} (h : Calls P f args w R') (hm : ∀ e w', R' e w' → R e w') :
    Fence.wide.fn f ∧ (Fence.wide.depth.isSome = true → 1 ≤ n) ∧ CallsIn Fence.wide (n - 1) P f args w R :=
  ⟨trivial, (fun h => by cases h), (callsIn_wide.2 h).mono hm⟩
theorem enterW2 {m : Nat} {f : FuncId} {args : Array Value} {w : World} {R R' : Ending → World → Prop} (h : Calls P f args w R') (hm : ∀ e w', R' e w' → R e w') :
    Fence.wide.fn f ∧ CallsIn Fence.wide m P f args w R :=
  ⟨trivial, (callsIn_wide.2 h).mono hm⟩
theorem enterR2 {m l : Nat} {f : FuncId} {args : Array Value} {w : World} {R R' : Ending → World → Prop} (h : Calls P f args w R') (hm : ∀ e w', R' e w' → R e w') :
    (Fence.wide.inRound l).fn f ∧ CallsIn (Fence.wide.inRound l) m P f args w R :=
  ⟨trivial, CallsIn.inRound l ((callsIn_wide.2 h).mono hm)⟩
theorem enterR {l : Nat} {f : FuncId} {args : Array Value} {w : World} {R R' : Ending → World → Prop} (h : Calls P f args w R') (hm : ∀ e w', R' e w' → R e w') :
    (Fence.wide.inRound l).fn f ∧ ((Fence.wide.inRound l).depth.isSome = true → 1 ≤ n) ∧ CallsIn (Fence.wide.inRound l) (n - 1) P f args w R :=
  ⟨trivial, (fun h => by cases h), CallsIn.inRound l ((callsIn_wide.2 h).mono hm)⟩

end
end Go.Proofs.YtjhgpifccleknaaDoor
