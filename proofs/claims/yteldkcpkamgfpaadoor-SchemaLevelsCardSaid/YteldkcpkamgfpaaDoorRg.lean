/- A loop over an iterator, where iterator and body each keep blocks of their own: the iterator's contract counts its rounds ('Iter'), each side names the blocks that it leaves alone. No function of the program is named here. What term.backward's iterator gives: the parts of a root, from the last on, each with its number; for every term that is one, where the table of shapes lies as it is laid. What slices.Clone of nodes makes is a block of its own; what term.backward hands back. What term.Args comes to, for every row of nodes, where the table of shapes lies as it is laid. -/
import Derived.Test.YteldkcpkamgfpaaDoorBa
import Derived.Test.YteldkcpkamgfpaaDoorCg
import Derived.RangeFuncNested
import Derived.RangeFuncBound
import Derived.RangeFuncCalls
import Derived.RangeFuncLeaves
import Derived.Shelf.Abstract
import Derived.OwnWalkIn
import Derived.TacticsInMore
import Derived.LoopNIn
import Derived.LoopIn
import Derived.Test.YteldkcpkamgfpaaDoorRi
import Derived.Test.YteldkcpkamgfpaaDoorNa
import Derived.Shelf.RegionOpen
namespace Go.Proofs.YteldkcpkamgfpaaDoor
set_option linter.unusedSimpArgs false
set_option linter.unusedVariables false
open Go.RowKit Go.Shelf

/-- an invariant that the other side's steps leave alone: new blocks, and the blocks of S -/
def Stab (J : Nat → Bset → World → Prop) : Prop := ∀ j S A B S', J j S A → Chg S A B → (∀ b, S' b → S b ∨ A.heap.size ≤ b) → J j S' B

/-- THE ITERATOR's CONTRACT: N rounds, round j with the values enc j; the body keeps the blocks of K (that the iterator reads) and those of the iterator's own -/
def Iter (F : Fence) (n : Nat) (P : Program) (gf : Nat) (lb : Array Value) (enc : Nat → Array Value) (N : Nat) (K : Bset) (w0 : World) : Prop :=
  ∀ (l : Nat) (J Jx : Nat → Bset → World → Prop) (W : World), Kept (fun b => b < w0.heap.size) w0 W → Stab J → Stab Jx →
    (∀ j S A, j < N → J j S A → (∀ b, S b → b < A.heap.size) → YieldAt F (n - 1) P l (enc j) A fun e B =>
      (e = .returned (.bool true) ∧ J (j + 1) S B ∧ Kept (fun b => S b ∨ K b) A B) ∨ (e = .returned (.bool false) ∧ Jx (j + 1) S B ∧ Kept (fun b => S b ∨ K b) A B)) →
    J 0 (fun _ => False) W →
    CallsIn F n P gf (#[.func (.yield l) #[] #[]] ++ lb) W fun e B => (∃ v, e = .returned v) ∧ ∃ S, J N S B ∨ ∃ j, j ≤ N ∧ Jx j S B

/-- how a round's body may be left -/
def bodyPostR (K : Bset) (I : Nat → Bset → World → Prop) (Ix : Code → Nat → Bset → World → Prop) (j : Nat) (S : Bset) (A : World) : Exit → Act → World → Prop
  | .normal, _, B => Kept (fun b => S b ∨ K b) A B ∧ I (j + 1) S B
  | .ret, _, B => Kept (fun b => S b ∨ K b) A B ∧ Ix .ret (j + 1) S B
  | .exit id, _, B => Kept (fun b => S b ∨ K b) A B ∧ Ix (.exit id) (j + 1) S B
  | .goto t, _, B => Kept (fun b => S b ∨ K b) A B ∧ Ix (.goto t) (j + 1) S B
  | .panic _, _, _ => False
  | .outgrown, _, _ => False

section
variable {F : Fence} {n : Nat} {P : Program}

/-- the two blocks that the statement lays: D for deferred calls, L for the loop's record -/
def Book (D L : Nat) (o : Obj) (S : Bset) (A : World) : Prop := ¬ S D ∧ ¬ S L ∧ A.heap[L]? = some o ∧ A.heap[D]? = some (.deferred (some []))

theorem Book.stab {D L : Nat} {o : Obj} {S S' : Bset} {A B : World} (h : Book D L o S A) (hc : Chg S A B) (hs : ∀ b, S' b → S b ∨ A.heap.size ≤ b) : Book D L o S' B := by
  obtain ⟨h1, h2, h3, h4⟩ := h
  have l3 := (Array.getElem?_eq_some_iff.1 h3).1
  have l4 := (Array.getElem?_eq_some_iff.1 h4).1
  exact ⟨fun h => by rcases hs _ h with h | h; exact h1 h; omega, fun h => by rcases hs _ h with h | h; exact h2 h; omega, (hc.block _ l3 h2).trans h3, (hc.block _ l4 h1).trans h4⟩

theorem wpIn_rangeFunc_mine {g : Operand} {ps : Array Tmp} {assign body : Code} {Q : Exit → Act → World → Prop} {a : Act} {w : World}
    (hro : F.round = none) (h1 : 1 ≤ n) {gf : Nat} {lb : Array Value} (hg : a.eval g = .func (.func gf) #[] lb) (hFg : F.fn gf) (eg : ∀ args w, (callFunc gf args).run P w = .ok (.enter gf args) w)
    {enc : Nat → Array Value} {N : Nat} {K : Bset} {w0 : World} (hit : Iter F (n - 1) P gf lb enc N K w0) (hb0 : Kept (fun b => b < w0.heap.size) w0 w) (hsz0 : w0.heap.size ≤ w.heap.size)
    (hK : ∀ b, K b → b < w.heap.size) (hps : ∀ j, (enc j).size = ps.size)
    (I : Nat → Bset → World → Prop) (I1 : Nat → Nat → Act → Bset → World → Prop) (Ix : Code → Nat → Bset → World → Prop)
    (hI : Stab I) (hI1 : ∀ l j a1 S A B, I1 l j a1 S A → Chg S A B → I1 l j a1 S B) (hIx : ∀ c, Stab (Ix c)) (h0 : I 0 (fun _ => False) w)
    (hassign : ∀ (l j : Nat) (S : Bset) (A : World) (Kc : Act → World → Prop), j < N → I j S A → (∀ b, S b → b < A.heap.size) → (∀ a1 B, I1 l j a1 S B → Kept (fun b => S b ∨ K b) A B → Kc a1 B) →
      assign.wpIn (F.inRound l) (n - 1 - 1) P (Exit.then Kc (fun _ _ _ => False)) { tmps := (ps.zip (enc j)).foldl (fun t (p, v) => t.setIfInBounds p v) a.tmps, defers := [] } A)
    (hbody : ∀ (l j : Nat) (S : Bset) (a1 : Act) (A : World), j < N → I1 l j a1 S A → (∀ b, S b → b < A.heap.size) → body.wpIn (F.inRound l) (n - 1 - 1) P (bodyPostR K I Ix j S A) a1 A)
    (hdone : ∀ (D : Nat) (S : Bset) (A : World), I N S A → S D → w.heap.size ≤ D → A.heap[D]? = some (.deferred (some [])) → Q .normal { a with defers := { target := .collected D, args := #[] } :: a.defers } A)
    (hstop : ∀ (D : Nat) (c : Code) (j : Nat) (S : Bset) (A : World), j ≤ N → Ix c j S A → S D → w.heap.size ≤ D → A.heap[D]? = some (.deferred (some [])) → c.wpIn F n P Q { a with defers := { target := .collected D, args := #[] } :: a.defers } A) :
    (Code.rangeFunc g ps assign body).wpIn F n P Q a w := by
  refine wpIn_rangeFunc ?_
  intro fn hfn
  rw [hro]
  obtain ⟨D, hD⟩ : ∃ D, w.heap.size = D := ⟨_, rfl⟩
  obtain ⟨rec, hrec⟩ : ∃ rec : LoopState → Option Code → Loop, rec = fun st pe => { state := st, pending := pe, fn, tmps := a.tmps, params := ps, assign, body, defers := D } := ⟨_, rfl⟩
  obtain ⟨W1, hW1⟩ : ∃ W1, (w.alloc (.deferred (some []))).alloc (.loop (rec .ready none)) = W1 := ⟨_, rfl⟩
  have hL1 : W1.heap[D + 1]? = some (.loop (rec .ready none)) := by
    rw [← hW1, ← hD]; have := World.alloc_heap_new (w.alloc (.deferred (some []))) (.loop (rec .ready none)); rwa [World.size_alloc] at this
  have hK1 : W1.heap[D]? = some (.deferred (some [])) := by
    rw [← hW1, ← hD]; exact (Below.heap_alloc _ _ _ (by simp)).trans (World.alloc_heap_new w _)
  have hbw : Below w.heap.size w W1 := by rw [← hW1]; exact ((Below.refl _ w).alloc (Nat.le_refl _) _).alloc (by simp) _
  -- the consumer's set: the iterator's, and the two blocks
  let U : Bset → Bset := fun S b => S b ∨ b = D ∨ b = D + 1
  have hU : ∀ {S : Bset} {A : World} {o : Obj}, Book D (D + 1) o S A → (∀ b, S b → b < A.heap.size) → ∀ b, U S b → b < A.heap.size := by
    intro S A o hb hs b hu
    have l3 := (Array.getElem?_eq_some_iff.1 hb.2.2.1).1
    rcases hu with h | rfl | rfl
    · exact hs _ h
    · omega
    · exact l3
  have hstU : ∀ (J : Nat → Bset → World → Prop), Stab J → ∀ (o : Obj), Stab (fun j S A => J j (U S) A ∧ Book D (D + 1) o S A) := by
    intro J hJ o j S A B S' hj hc hs
    have l3 := (Array.getElem?_eq_some_iff.1 hj.2.2.2.1).1
    refine ⟨hJ j (U S) A B (U S') hj.1 (hc.mono fun b _ h => .inl h) ?_, hj.2.stab hc hs⟩
    rintro b (h | h | h)
    · rcases hs b h with h | h
      · exact .inl (.inl h)
      · exact .inr h
    · exact .inl (.inr (.inl h))
    · exact .inl (.inr (.inr h))
  refine ⟨D + 1, [{ target := .collected D, args := #[] }], W1, { target := .fn (.func gf) lb, args := #[.func (.yield (D + 1)) #[] #[]] }, W1, gf,
    #[.func (.yield (D + 1)) #[] #[]] ++ lb, W1, ?_, ?_, ?_, ?_, fun _ => h1, ?_⟩
  · rw [← hW1, hrec, ← hD]; exact run_enterLoop_outer _ _ _ _ _
  · simp only [resolve, hg]
    simp [go_sem]
  · intro f' hf'; simp [Target.leads] at hf'; subst hf'; exact hFg
  · simp [invoke, go_sem, eg]
  refine (hit (D + 1) (fun j S A => I j (U S) A ∧ Book D (D + 1) (.loop (rec .ready none)) S A)
    (fun j S A => ∃ c, Ix c j (U S) A ∧ Book D (D + 1) (.loop (rec .done (some c))) S A) W1 ?_ (hstU I hI _) ?_ ?_ ?_).mono ?_
  · exact hb0.trans ⟨hbw.size, fun b hb hk => hbw.block b hb⟩
  · intro j S A B S' hj hc hs
    obtain ⟨c, hc1⟩ := hj
    exact ⟨c, hstU (Ix c) (hIx c) _ j S A B S' hc1 hc hs⟩
  · -- one round
    rintro j S A hjN ⟨hi, hbk⟩ hS
    have hSU := hU hbk hS
    obtain ⟨hnD, hnL, hl, hk⟩ := hbk
    have hlt := (Array.getElem?_eq_some_iff.1 hl).1
    have hy := run_yield (P := P) (args := enc j) hl (by rw [hrec]; exact hps j)
    rw [hrec] at hy
    refine ⟨fn, _, assign, body, hy, roundIn_of_wpIn hfn (hassign (D + 1) j (U S) A _ hjN hi hSU ?_)⟩
    intro a1 B hi1 hkB
    have hlB : B.heap[D + 1]? = some (.loop (rec .ready none)) := (hkB.block _ hlt (.inl (.inr (.inr rfl)))).trans hl
    have hdB : B.heap[D]? = some (.deferred (some [])) := (hkB.block _ (by omega) (.inl (.inr (.inl rfl)))).trans hk
    have hltB := (Array.getElem?_eq_some_iff.1 hlB).1
    refine ⟨_, run_beginRound hlB (by rw [hrec]), ?_⟩
    have hcC : Chg (U S) B (B.putObj (D + 1) (.loop { rec .ready none with state := .busy })) := Chg.putObj _ _ _ (.inr (.inr rfl))
    have hl2 : (B.putObj (D + 1) (.loop { rec .ready none with state := .busy })).heap[D + 1]? = some (.loop { rec .ready none with state := .busy }) := World.putObj_heap_same hltB
    have hk2 : (B.putObj (D + 1) (.loop { rec .ready none with state := .busy })).heap[D]? = some (.deferred (some [])) := (World.putObj_heap_other (by omega)).trans hdB
    have hi2 := hI1 (D + 1) j a1 (U S) B _ hi1 hcC
    have hS2 : ∀ b, U S b → b < (B.putObj (D + 1) (.loop { rec .ready none with state := .busy })).heap.size := fun b hb => by rw [World.putObj_size]; have := hSU b hb; have := hkB.size; omega
    generalize hC : B.putObj (D + 1) (.loop { rec .ready none with state := .busy }) = C at *
    have hkC : Kept (fun b => S b ∨ K b) A C := by
      refine (hkB.mono fun b _ h => ?_).trans ⟨hcC.size, fun b hb h => ?_⟩
      · rcases h with h | h
        · exact .inl (.inl h)
        · exact .inr h
      · rw [← hC]
        refine World.putObj_heap_other ?_
        rintro rfl
        rcases h with h | h
        · exact hnL h
        · have := hK _ h; omega
    refine wpIn_mono (hbody (D + 1) j (U S) a1 C hjN hi2 hS2) ?_
    have fin : ∀ (jump : Option Code) (E : World), Kept (fun b => U S b ∨ K b) C E →
        (Instr.endRound (D + 1) jump).run P E = .ok (.bool jump.isNone) (E.putObj (D + 1) (.loop (rec (if jump.isNone then .ready else .done) jump))) ∧
        Chg (U S) E (E.putObj (D + 1) (.loop (rec (if jump.isNone then .ready else .done) jump))) ∧
        Book D (D + 1) (.loop (rec (if jump.isNone then .ready else .done) jump)) S (E.putObj (D + 1) (.loop (rec (if jump.isNone then .ready else .done) jump))) ∧
        Kept (fun b => S b ∨ K b) A (E.putObj (D + 1) (.loop (rec (if jump.isNone then .ready else .done) jump))) := fun jump E hkE => by
      have l2 := (Array.getElem?_eq_some_iff.1 hl2).1
      have hl3 := (hkE.block _ l2 (.inl (.inr (.inr rfl)))).trans hl2
      have hk3 := (hkE.block _ (by omega) (.inl (.inr (.inl rfl)))).trans hk2
      have l3 := (Array.getElem?_eq_some_iff.1 hl3).1
      have := run_endRound (P := P) jump hl3
      rw [hrec] at this ⊢
      refine ⟨this, Chg.putObj _ _ _ (.inr (.inr rfl)), ⟨hnD, hnL, World.putObj_heap_same l3, (World.putObj_heap_other (by omega)).trans hk3⟩, ?_⟩
      refine (hkC.trans (hkE.mono fun b _ h => ?_)).trans ⟨by simp, fun b hb h => ?_⟩
      · rcases h with h | h
        · exact .inl (.inl h)
        · exact .inr h
      · refine World.putObj_heap_other ?_
        rintro rfl
        rcases h with h | h
        · exact hnL h
        · have := hK _ h; omega
    rintro e a3 E hp
    cases e with
    | normal =>
      obtain ⟨hkE, hiE⟩ := hp
      obtain ⟨hr, hcE, hbE, hkF⟩ := fin none E hkE
      exact ⟨_, _, hr, .inl ⟨rfl, ⟨hI _ _ _ _ _ hiE hcE (fun b h => .inl h), hbE⟩, hkF⟩⟩
    | ret =>
      obtain ⟨hkE, hiE⟩ := hp
      obtain ⟨hr, hcE, hbE, hkF⟩ := fin (some .ret) E hkE
      exact ⟨_, _, hr, .inr ⟨rfl, ⟨.ret, hIx _ _ _ _ _ _ hiE hcE (fun b h => .inl h), hbE⟩, hkF⟩⟩
    | exit id =>
      obtain ⟨hkE, hiE⟩ := hp
      obtain ⟨hr, hcE, hbE, hkF⟩ := fin (some (.exit id)) E hkE
      exact ⟨_, _, hr, .inr ⟨rfl, ⟨.exit id, hIx _ _ _ _ _ _ hiE hcE (fun b h => .inl h), hbE⟩, hkF⟩⟩
    | goto t =>
      obtain ⟨hkE, hiE⟩ := hp
      obtain ⟨hr, hcE, hbE, hkF⟩ := fin (some (.goto t)) E hkE
      exact ⟨_, _, hr, .inr ⟨rfl, ⟨.goto t, hIx _ _ _ _ _ _ hiE hcE (fun b h => .inl h), hbE⟩, hkF⟩⟩
    | panic ch => exact hp.elim
    | outgrown => exact hp.elim
  · refine ⟨?_, fun h => h, fun h => h, hL1, hK1⟩
    refine hI 0 (fun _ => False) w W1 _ h0 (Chg.fresh hbw) ?_
    rintro b (h | rfl | rfl)
    · exact h.elim
    · exact .inr (by omega)
    · exact .inr (by omega)
  · -- behind the iterator
    rintro e B ⟨⟨v, rfl⟩, S, (⟨hi, hbk⟩ | ⟨j, hj, c, hi, hbk⟩)⟩
    · obtain ⟨hnD, hnL, hl, hk⟩ := hbk
      have hend := run_endLoop (P := P) hl (by rw [hrec]; simp)
      rw [hrec] at hend
      exact ⟨none, _, hend, hdone D (U S) _ (hI _ _ _ _ _ hi (Chg.putObj _ _ _ (.inr (.inr rfl))) (fun b h => .inl h)) (.inr (.inl rfl)) (by omega) ((World.putObj_heap_other (by omega)).trans hk)⟩
    · obtain ⟨hnD, hnL, hl, hk⟩ := hbk
      have hend := run_endLoop (P := P) hl (by rw [hrec]; simp)
      rw [hrec] at hend
      exact ⟨some c, _, hend, hstop D c j (U S) _ hj (hIx _ _ _ _ _ _ hi (Chg.putObj _ _ _ (.inr (.inr rfl))) (fun b h => .inl h)) (.inr (.inl rfl)) (by omega) ((World.putObj_heap_other (by omega)).trans hk)⟩

/-- the same, assignment and body in one walk -/
theorem wpIn_rangeFunc_round {g : Operand} {ps : Array Tmp} {assign body : Code} {Q : Exit → Act → World → Prop} {a : Act} {w : World}
    (hro : F.round = none) (h1 : 1 ≤ n) {gf : Nat} {lb : Array Value} (hg : a.eval g = .func (.func gf) #[] lb) (hFg : F.fn gf) (eg : ∀ args w, (callFunc gf args).run P w = .ok (.enter gf args) w)
    {enc : Nat → Array Value} {N : Nat} {K : Bset} {w0 : World} (hit : Iter F (n - 1) P gf lb enc N K w0) (hb0 : Kept (fun b => b < w0.heap.size) w0 w) (hsz0 : w0.heap.size ≤ w.heap.size)
    (hK : ∀ b, K b → b < w.heap.size) (hps : ∀ j, (enc j).size = ps.size)
    (I : Nat → Bset → World → Prop) (Ix : Code → Nat → Bset → World → Prop)
    (hI : Stab I) (hIx : ∀ c, Stab (Ix c)) (h0 : I 0 (fun _ => False) w)
    (hround : ∀ (l j : Nat) (S : Bset) (A : World), j < N → I j S A → (∀ b, S b → b < A.heap.size) →
      assign.wpIn (F.inRound l) (n - 1 - 1) P (Exit.then (fun a1 B => Kept (fun b => S b ∨ K b) A B ∧ ∀ C, Chg S B C → body.wpIn (F.inRound l) (n - 1 - 1) P (bodyPostR K I Ix j S C) a1 C) (fun _ _ _ => False))
        { tmps := (ps.zip (enc j)).foldl (fun t (p, v) => t.setIfInBounds p v) a.tmps, defers := [] } A)
    (hdone : ∀ (D : Nat) (S : Bset) (A : World), I N S A → S D → w.heap.size ≤ D → A.heap[D]? = some (.deferred (some [])) → Q .normal { a with defers := { target := .collected D, args := #[] } :: a.defers } A)
    (hstop : ∀ (D : Nat) (c : Code) (j : Nat) (S : Bset) (A : World), j ≤ N → Ix c j S A → S D → w.heap.size ≤ D → A.heap[D]? = some (.deferred (some [])) → c.wpIn F n P Q { a with defers := { target := .collected D, args := #[] } :: a.defers } A) :
    (Code.rangeFunc g ps assign body).wpIn F n P Q a w :=
  wpIn_rangeFunc_mine hro h1 hg hFg eg hit hb0 hsz0 hK hps I (fun l j a1 S B => ∀ C, Chg S B C → body.wpIn (F.inRound l) (n - 1 - 1) P (bodyPostR K I Ix j S C) a1 C) Ix hI
    (fun l j a1 S A B h hc C hC => h C (hc.trans hC)) hIx h0
    (fun l j S A Kc hj hi hS hKc => wpIn_mono (hround l j S A hj hi hS) (fun e a w h => by cases e <;> first | exact hKc _ _ h.2 h.1 | exact h))
    (fun l j S a1 A hj h hS => h A (Chg.refl _ _)) hdone hstop

/-- a return of a function that holds such a loop: before it, and behind it -/
theorem postM0 {fn : Func} {R : Ending → World → Prop} {a : Act} {w : World} {v : Value} (hr : (results fn a.tmps).run P w = .ok v w) (hd : a.defers = []) (hR : R (.returned v) w) : bodyPostM F n P fn R .ret a w := by
  show LeavesInM F n P fn a.tmps R a.defers .returning w
  rw [hd]
  exact ⟨v, hr, hR⟩
theorem postM1 {fn : Func} {R : Ending → World → Prop} {a : Act} {w : World} {v : Value} {D : Nat} (hK : w.heap[D]? = some (.deferred (some []))) (hd : a.defers = [{ target := .collected D, args := #[] }])
    (hr : (results fn a.tmps).run P (w.putObj D (.deferred none)) = .ok v (w.putObj D (.deferred none))) (hR : R (.returned v) (w.putObj D (.deferred none))) : bodyPostM F n P fn R .ret a w := by
  show LeavesInM F n P fn a.tmps R a.defers .returning w
  rw [hd]
  exact ⟨by simp, .inl ⟨_, _, rfl, run_takeDeferred hK, v, hr, hR⟩⟩
theorem postM0n {fn : Func} {R : Ending → World → Prop} {a : Act} {w : World} {v : Value} (hr : (results fn a.tmps).run P w = .ok v w) (hd : a.defers = []) (hR : R (.returned v) w) : bodyPostM F n P fn R .normal a w :=
  postM0 (F := F) (n := n) hr hd hR
theorem postM1n {fn : Func} {R : Ending → World → Prop} {a : Act} {w : World} {v : Value} {D : Nat} (hK : w.heap[D]? = some (.deferred (some []))) (hd : a.defers = [{ target := .collected D, args := #[] }])
    (hr : (results fn a.tmps).run P (w.putObj D (.deferred none)) = .ok v (w.putObj D (.deferred none))) (hR : R (.returned v) (w.putObj D (.deferred none))) : bodyPostM F n P fn R .normal a w :=
  postM1 (F := F) (n := n) hK hd hr hR

/-- a plain contract at a call within the widest fence, and within a round there -/
theorem enterW {f : FuncId} {args : Array Value} {w : World} {R R' : Ending → World → Prop} (h : Calls P f args w R') (hm : ∀ e w', R' e w' → R e w') :
    Fence.wide.fn f ∧ (Fence.wide.depth.isSome = true → 1 ≤ n) ∧ CallsIn Fence.wide (n - 1) P f args w R :=
  ⟨trivial, (fun h => by cases h), (callsIn_wide.2 h).mono hm⟩
theorem enterW2 {m : Nat} {f : FuncId} {args : Array Value} {w : World} {R R' : Ending → World → Prop} (h : Calls P f args w R') (hm : ∀ e w', R' e w' → R e w') :
    Fence.wide.fn f ∧ CallsIn Fence.wide m P f args w R :=
  ⟨trivial, (callsIn_wide.2 h).mono hm⟩
theorem enterR2 {m l : Nat} {f : FuncId} {args : Array Value} {w : World} {R R' : Ending → World → Prop} (h : Calls P f args w R') (hm : ∀ e w', R' e w' → R e w') :
    (Fence.wide.inRound l).fn f ∧ CallsIn (Fence.wide.inRound l) m P f args w R :=
  ⟨trivial, CallsIn.inRound l ((callsIn_wide.2 h).mono hm)⟩
theorem enterR {l : Nat} {f : FuncId} {args : Array Value} {w : World} {R R' : Ending → World → Prop} (h : Calls P f args w R') (hm : ∀ e w', R' e w' → R e w') :
    (Fence.wide.inRound l).fn f ∧ ((Fence.wide.inRound l).depth.isSome = true → 1 ≤ n) ∧ CallsIn (Fence.wide.inRound l) (n - 1) P f args w R :=
  ⟨trivial, (fun h => by cases h), CallsIn.inRound l ((callsIn_wide.2 h).mono hm)⟩

end
end Go.Proofs.YteldkcpkamgfpaaDoor

namespace Go.Proofs.YteldkcpkamgfpaaDoor
set_option linter.unusedSimpArgs false
set_option linter.unusedVariables false
open Go.RowKit
attribute [local go_sem] Oper.semAt_some

theorem RowAt.kept {w w' : World} {size n : Nat} {v : Value} {cs : List Value} {K : Bset} (h : RowAt w size v n cs) (hk : Kept K w w') (hv : ∀ g, v.ownBlock = some g → K g) : RowAt w' size v n cs := by
  obtain ⟨a, cap, rfl, h1, h2, h3⟩ := h.form
  refine ⟨h.len, a, cap, rfl, h1, h2, fun hn => ?_⟩
  obtain ⟨b, off, rfl, hb, hc⟩ := h3 hn
  exact ⟨b, off, rfl, by have := hk.size; omega, fun j u hu => hk.cell (hv b rfl) (hc j u hu)⟩

theorem ShapesAt.kept {w w' : World} (h : ShapesAt w) (hk : Kept (fun b => b < w.heap.size) w w') : ShapesAt w' := by
  have hlt := h.lt
  obtain ⟨sv, hs⟩ := h
  refine ⟨sv, fun k hkk => ?_⟩
  obtain ⟨h1, h2, h3, h4, h5⟩ := hs k hkk
  refine ⟨hk.cell hlt h1, hk.cell hlt h2, hk.cell hlt h3, hk.cell hlt h4, ?_⟩
  obtain ⟨a, cap, e, g1, g2, g3⟩ := RowAt.form h5
  refine ⟨h5.len, a, cap, e, g1, g2, fun hn => ?_⟩
  obtain ⟨b, off, e2, hb, hc⟩ := g3 hn
  exact ⟨b, off, e2, by have := hk.size; omega, fun j u hu => hk.cell (p := ⟨b, off + j, none⟩) hb (hc j u hu)⟩

/-- where part i of a root begins, among its nodes -/
def startP (cs : List Tm) (i : Nat) : Nat := (flatL (cs.take i)).length
/-- part i as the program hands it on: a slice of the term's -/
def partV (b off cap : Nat) (cs : List Tm) (i : Nat) : Value := .slice (some ⟨b, off + startP cs i * 4, none⟩) (startP cs (i + 1) - startP cs i) (cap - startP cs i)
def encB (b off cap : Nat) (cs : List Tm) (j : Nat) : Array Value := #[.int .i64 ((cs.length - 1 - j : Nat) : Int), partV b off cap cs (cs.length - 1 - j)]

theorem startP_succ (cs : List Tm) {i : Nat} (h : i < cs.length) : startP cs (i + 1) = startP cs i + cs[i].flat.length := by
  unfold startP
  rw [List.take_add_one, List.getElem?_eq_getElem h]
  show (flatL (cs.take i ++ [cs[i]])).length = _
  rw [flatL_append, flatL_one, List.length_append]
theorem startP_all (cs : List Tm) : startP cs cs.length = (flatL cs).length := by unfold startP; rw [List.take_length]
theorem startP_le (cs : List Tm) (i : Nat) : startP cs i ≤ (flatL cs).length := by
  unfold startP
  have h : flatL cs = flatL (cs.take i) ++ flatL (cs.drop i) := by rw [← flatL_append, List.take_append_drop]
  rw [h, List.length_append]
  omega

set_option maxRecDepth 20000 in
set_option maxHeartbeats 2000000 in
theorem back_iter (n : Nat) (nd : Nd) (cs : List Tm) (hwf : (Tm.mk nd cs).wf = true) (hlen : (Tm.mk nd cs).flat.length ≤ 4000) (b off cap bt bm : Nat) (mv : Value) (K : Bset) (w0 : World)
    (hS : ShapesAt w0) (hct : w0.cell? ⟨bt, 0, none⟩ = some (.slice (some ⟨b, off, none⟩) (Tm.mk nd cs).flat.length cap)) (hcm : w0.cell? ⟨bm, 0, none⟩ = some mv)
    (hv : ReadN w0 (.slice (some ⟨b, off, none⟩) (Tm.mk nd cs).flat.length cap) (Tm.mk nd cs).flat) (hm : RowAt w0 2 mv (Tm.mk nd cs).flat.length (measL (tops (Tm.mk nd cs).flat (Tm.mk nd cs).flat.length)))
    (k1 : K bt) (k2 : K bm) (k3 : K b) (k4 : ∀ g, mv.ownBlock = some g → K g) :
    Iter Fence.wide n Tryd.prog 72 #[.pointer (some ⟨bt, 0, none⟩), .pointer (some ⟨bm, 0, none⟩)] (encB b off cap cs) cs.length K w0 := by
  intro l J Jx W hW hJ hJx hY h0
  have hr := (wf_iff.1 hwf).1
  have har := (wf_iff.1 hwf).2.1
  obtain ⟨c, hc⟩ : ∃ c, (flatL cs).length = c := ⟨_, rfl⟩
  have hl : (Tm.mk nd cs).flat.length = c + 1 := by rw [flat_mk, List.length_append, hc]; rfl
  have hvW := RowAt.kept hv hW (fun g hg => by
    simp [Value.ownBlock] at hg
    subst hg
    obtain ⟨_, _, _, he, _, _, hlt, _⟩ := RowAt.pos hv (by omega)
    simp at he
    obtain ⟨⟨rfl, rfl⟩, _⟩ := he
    exact hlt)
  have hlast : (Tm.mk nd cs).flat[c]? = some nd := by rw [flat_mk, List.getElem?_append_right (by omega), hc]; simp
  obtain ⟨hclt, hcn⟩ := List.getElem?_eq_some_iff.1 hlast
  have hctW := hW.cell (World.block_lt_of_cell? w0 _ hct) hct
  have hcmW := hW.cell (World.block_lt_of_cell? w0 _ hcm) hcm
  obtain ⟨_, ⟨he, _⟩ | ⟨b', off', cap', he, hcap1, hcap2, hblt, hcell⟩⟩ := ReadN.cases hvW
  · rw [he] at hl; simp at hl
  obtain ⟨⟨rfl, rfl⟩, rfl⟩ : (b = b' ∧ off = off') ∧ cap = cap' := by simpa using he
  have hcell0 := hcell c hclt
  rw [hcn] at hcell0
  obtain ⟨r0, r1, r2, r3⟩ := hcell0
  have HCELL := Lib.hid hcell; clear hcell he
  rw [hl] at hctW hcap1 hlen
  have hSW := hS.kept hW
  have HS := Lib.hid hSW; clear hSW hS
  have HHL := Lib.hid hl
  have HAR := Lib.hid har
  have HY := Lib.hid hY; clear hY
  have HJ := Lib.hid hJ; clear hJ
  have HJX := Lib.hid hJx; clear hJx
  have HM := Lib.hid hm; clear hm
  have HWF := Lib.hid hwf
  have HV := Lib.hid hv; clear hv
  have HW := Lib.hid hW; clear hW
  have HC := Lib.hid hc; clear hc
  have H0 := Lib.hid h0; clear h0
  have HK4 := Lib.hid k4; clear k4
  have HLAST := Lib.hid hlast; clear hlast
  have hcap3 : cap ≤ 9223372036854775807 := by unfold maxLen at hcap2; omega
  clear hl hcn har hcm hct hclt hcap2 hvW hwf
  refine callsIn_of_wp Tryd.func72 rfl trivial ?_ rfl
  simp only [Tryd.ntmps72, List.size_toArray, List.length_cons, List.length_nil, Nat.reduceAdd, Nat.reduceSub, Array.replicate_succ, Array.replicate_zero, List.push_toArray, List.append_toArray, List.nil_append, List.cons_append]
  gi_wp2_with fail
  refine enterW (many_any nd _ HS.out hr) ?_
  rintro e w1 ⟨rfl, hb1⟩
  rw [← HAR.out]
  have hJ0 : J 0 (fun _ => False) w1 := HJ.out _ _ _ _ _ H0.out (Chg.fresh hb1) (fun b h => .inl h)
  have hk0 : Kept (fun b => b < W.heap.size) W w1 := ⟨hb1.size, fun b hb _ => hb1.block b hb⟩
  have HJ0 := Lib.hid hJ0; clear hJ0
  have HK0 := Lib.hid hk0; clear hk0 hb1
  have hc0 := HK0.out.cell (World.block_lt_of_cell? W _ hctW) hctW
  have hc1 := HK0.out.cell (World.block_lt_of_cell? W _ hcmW) hcmW
  have hm4 : cs.length ≤ 4000 := by have := flatL_ge cs; have := HC.out; omega
  clear r0 r1 r2 r3 hctW hcmW
  gi_wp2_with fail
  gi_loopw [4, 5] (fun e i wr => ∃ j, j ≤ cs.length ∧ i = .int .i64 ((cs.length : Int) - 1 - j) ∧ e = .int .i64 (startP cs (cs.length - j) : Int) ∧ J j (fun _ => False) wr ∧ Kept K w1 wr) (fun _ i _ => (intOf i + 1).toNat)
  case atStart => exact ⟨0, Nat.zero_le _, by simp, by rw [Nat.sub_zero, startP_all, HC.out], HJ0.out, Kept.refl _ _⟩
  case round =>
    rename World => wr
    obtain ⟨j, hj, rfl, rfl, hJw, hkw⟩ := hrel
    have HJW := Lib.hid hJw; clear hJw
    have HKW := Lib.hid hkw; clear hkw
    by_cases hlt : j < cs.length
    · obtain ⟨k, hk⟩ : ∃ k, cs.length = k + 1 + j := ⟨cs.length - 1 - j, by omega⟩
      have hkl : k < cs.length := by omega
      have e1 : (cs.length : Int) - 1 - j = (k : Int) := by omega
      have e2 : cs.length - j = k + 1 := by omega
      have e3 : cs.length - 1 - j = k := by omega
      rw [e1, e2]
      have hpart := topm_part HWF.out hkl
      have hs1 := startP_succ cs hkl
      have hpos := flat_pos cs[k]
      have hle := startP_le cs (k + 1)
      rw [HC.out] at hle
      have htop : (tops (Tm.mk nd cs).flat (c + 1))[startP cs (k + 1) - 1]'(by rw [tops_length]; omega) = (startP cs k, cs[k].dep) := by
        simp only [tops, List.getElem_map, List.getElem_range]
        exact hpart
      have hget := measL_get (tops (Tm.mk nd cs).flat (c + 1)) (startP cs (k + 1) - 1) (by rw [tops_length]; omega) 0 (by omega)
      rw [htop] at hget
      have hm0 := HM.out
      rw [HHL.out] at hm0
      obtain ⟨bg, og, capm, hmv, hcm1, hcm2, _, hmc⟩ := RowAt.pos hm0 (by omega)
      have hmcell := hmc _ _ hget
      have hk4 := HK4.out bg (by rw [hmv]; rfl)
      have g1 := HKW.out.cell (p := ⟨bg, og + ((startP cs (k + 1) - 1) * 2 + 0), none⟩) hk4 (HK0.out.cell (World.block_lt_of_cell? W _ (HW.out.cell (World.block_lt_of_cell? w0 _ hmcell) hmcell)) (HW.out.cell (World.block_lt_of_cell? w0 _ hmcell) hmcell))
      have g2 := HKW.out.cell k1 hc0
      have g3 := HKW.out.cell k2 hc1
      rw [hmv] at g3
      have hen : encB b off cap cs j = #[.int .i64 (k : Int), .slice (some ⟨b, off + startP cs k * 4, none⟩) (startP cs (k + 1) - startP cs k) (cap - startP cs k)] := by unfold encB partV; rw [e3]
      obtain ⟨fn, tmps, assign, body, hy, hR⟩ := HY.out j _ wr (by omega) HJW.out (fun b h => h.elim)
      rw [hen] at hy
      have HR := Lib.hid hR; clear hR
      obtain ⟨s0, hs0⟩ : ∃ s0, startP cs k = s0 := ⟨_, rfl⟩
      obtain ⟨d, hd⟩ : ∃ d, startP cs (k + 1) = s0 + (d + 1) := ⟨startP cs (k + 1) - s0 - 1, by omega⟩
      rw [hd, hs0, Nat.add_sub_cancel_left] at hy
      rw [hd] at g1 hle ⊢
      simp only [nodeV, meaV, List.getElem?_cons_zero, Nat.add_zero] at g1
      rw [hs0, show s0 + (d + 1) - 1 = s0 + d from rfl] at g1
      have HD := Lib.hid hd; have HS0 := Lib.hid hs0; have HKK := Lib.hid hk
      clear hd hs0 hget hmc hmcell htop hpart hs1 hpos hm0 hen e1 e2 e3 hk hmv
      gi_wp2_with fail
      refine ⟨(fun h => by cases h), HR.out.mono ?_⟩
      rintro e w3 (⟨rfl, hj3, hk3⟩ | ⟨rfl, hj3, _⟩)
      · have HJ3 := Lib.hid hj3; clear hj3
        have HK3 : Hid (Kept K w1 w3) := HKW.out.trans (hk3.mono fun b _ h => .inr h)
        clear hk3 g1 g2 g3 hy
        gi_wp2_with fail
        have hk := HKK.out
        refine ⟨⟨j + 1, by omega, congrArg (Value.int .i64) (by omega), ?_, HJ3.out, HK3.out⟩, by simp [intOf]⟩
        rw [show cs.length - (j + 1) = k from by omega, HS0.out]
      · have HJ3 := Lib.hid hj3; clear hj3
        clear g1 g2 g3 hy
        gi_wp2_with fail
        exact bodyPost_ret (results_none rfl _ _ _) rfl ⟨⟨_, rfl⟩, _, .inr ⟨j + 1, by omega, HJ3.out⟩⟩
    · obtain rfl : j = cs.length := by omega
      have e1 : (cs.length : Int) - 1 - (cs.length : Int) = -1 := by omega
      rw [e1]
      gi_wp2_with fail
      go_end0
      exact ⟨⟨_, rfl⟩, _, .inl HJW.out⟩

end Go.Proofs.YteldkcpkamgfpaaDoor

namespace Go.Proofs.YteldkcpkamgfpaaDoor
set_option linter.unusedSimpArgs false
set_option linter.unusedVariables false
open Go.RowKit

def ClonedN (w : World) (n : Nat) (cs : List Value) (e : Ending) (w' : World) : Prop := ∃ a cap, e = .returned (.slice a n cap) ∧ RowAt w' 4 (.slice a n cap) n cs ∧ (∀ g, (Value.slice a n cap).ownBlock = some g → w.heap.size ≤ g) ∧ Below w.heap.size w w'

set_option maxHeartbeats 1000000 in
theorem cloneN_own (v : Value) (n : Nat) (cs : List Value) (w : World) (hv : RowAt w 4 v n cs) (hone : Hid (∀ u, u ∈ cs → u.oneCell' = true)) (hn : Hid (n ≤ 1000000000)) :
    Calls Tryd.prog 50 #[v] w (ClonedN w n cs) := by
  obtain ⟨i0, hi, hz0, hz1, hz2⟩ := info_parts Tryd.infoNode
  have hv0 := hv
  obtain ⟨a, cap, rfl, hc1, hc2, hc3⟩ := hv0.form
  have HV := Lib.hid hv; clear hv
  have H3 := Lib.hid hc3; clear hc3 hv0
  cases a with
  | none =>
    have h0 : n = 0 := by
      rcases Nat.eq_zero_or_pos n with h | h
      · exact h
      · obtain ⟨b, off, hb, _⟩ := H3.out h; cases hb
    subst h0
    have hcs : cs = [] := List.eq_nil_of_length_eq_zero (by simpa using HV.out.len)
    have HC := Lib.hid hcs; clear hcs
    have hq := fun w n c => Lib.run_eql_slice_nil (P := Tryd.prog) w 22 30 none n c 0 0 Tryd.underlying22
    go_enter Tryd.func50, Tryd.ntmps50
    go_wp2
    go_ret
    exact ⟨none, 0, rfl, by rw [HC.out]; exact RowAt.nil w 4, (fun g h => by cases h), Below.refl _ _⟩
  | some ad =>
    have hq := fun w n c => Lib.run_eql_slice_nil (P := Tryd.prog) w 22 30 (some ad) n c 0 0 Tryd.underlying22
    go_enter Tryd.func50, Tryd.ntmps50
    go_wp2_with (at_builtin; go_must (refine wpList_append_row rfl (.tmp 5) (.tmp 6) 22 rfl w.heap.size 30 i0 (.agg #[.int .i64 0, .int .i64 0, .int .i64 0, .string ByteArray.empty]) 4 40 Tryd.underlying22 hi hz0 hz1 hz2 rfl (by decide) (.slice (some ⟨w.heap.size, 0, none⟩) 0 0) 0 [] rfl (World.ownsRow_lit (size := 4) w #[] 0 (Nat.le_refl _) (by unfold maxLen; omega) rfl) _ n cs rfl (RowAt.alloc HV.out _) hone.out (by have := hn.out; omega) (by have := hn.out; unfold maxLen; omega) (by simp) ?_); intro v' w1 hown hg hat)
    have hr : RowAt w1 4 v' n cs := by have hr := RowAt.of_own hown; simpa using hr
    have hb1 : Below w.heap.size w w1 := ((Below.refl _ w).alloc (Nat.le_refl _) _).grown hg (by simp) (fun k hk => by simp [Value.ownBlock] at hk; omega)
    have hlt := fun g h => (hown.lt g h).1
    obtain ⟨a', cap', rfl, _⟩ := hr.form
    have HR := Lib.hid hr
    have HL := Lib.hid hlt
    clear hown hg hat hr hlt
    go_wp2
    go_ret
    exact ⟨a', cap', rfl, HR.out, HL.out, hb1⟩

theorem backward_any (a : Option Addr) (n c : Nat) (a' : Option Addr) (n' c' : Nat) (w : World) :
    Calls Tryd.prog 49 #[.slice a n c, .slice a' n' c'] w fun e w' =>
      e = .returned (.func (.func 72) #[] #[.pointer (some ⟨w.heap.size, 0, none⟩), .pointer (some ⟨w.heap.size + 1, 0, none⟩)]) ∧ w' = (w.alloc (.cells #[.slice a n c] 22)).alloc (.cells #[.slice a' n' c'] 76) := by
  go_enter Tryd.func49, Tryd.ntmps49
  go_wp2
  go_ret
  exact ⟨rfl, rfl⟩

end Go.Proofs.YteldkcpkamgfpaaDoor

namespace Go.Proofs.YteldkcpkamgfpaaDoor
set_option linter.unusedSimpArgs false
set_option linter.unusedVariables false
open Go.RowKit
attribute [local go_sem] Oper.semAt_some

theorem Tryd.infoNodes : (Tryd.prog.info? 22).map (fun i => (i.zero, i.size, i.bytes)) = some (some (.slice none 0 0), 1, 24) := by kernel_rfl

theorem run_make_nils {P : Program} (t e : TypeId) (i : TypeInfo) (ht : P.underlying t = some (.slice e)) (hi : P.info? e = some i) (hz : i.zero = some (.slice none 0 0)) (hsz : i.size = 1) (hby : i.bytes = 24) (n : Nat) (hn : n ≤ 100000) (w : World) :
    (Instr.makeSlice t (.int .i64 (n : Int)) (.int .i64 (n : Int))).run P w = .ok (.slice (some ⟨w.heap.size, 0, none⟩) n n) (w.alloc (.cells (List.replicate n (Value.slice none 0 0)).toArray e)) := by
  have hb : (i.bytes : Int) * (n : Int) ≤ 281474976710656 := by rw [hby]; omega
  have hr := run_make (P := P) w t e i _ ht hi hz .i64 .i64 n n (by omega) (by omega) hb (by omega)
  simp only [Int.toNat_natCast] at hr
  rw [hr]
  congr 3
  rw [hsz, Nat.mul_one]
  apply Array.ext'
  rw [show (Value.slice none 0 0).cells = #[Value.slice none 0 0] from rfl, toList_madeCells_one]

/-- a part of a root, as it reads -/
theorem part_read {w : World} {b off cap : Nat} {nd : Nd} {cs : List Tm} (h : ReadN w (.slice (some ⟨b, off, none⟩) (Tm.mk nd cs).flat.length cap) (Tm.mk nd cs).flat) {i : Nat} (hi : i < cs.length) :
    ReadN w (partV b off cap cs i) cs[i].flat := by
  obtain ⟨b', off', cap', he, h1, h2, h3, h4⟩ := RowAt.pos h (by simp [flat_mk])
  obtain ⟨⟨rfl, rfl⟩, rfl⟩ : (b = b' ∧ off = off') ∧ cap = cap' := by simpa using he
  have hs := startP_succ cs hi
  have hle := startP_le cs (i + 1)
  have hl : (Tm.mk nd cs).flat.length = (flatL cs).length + 1 := by rw [flat_mk, List.length_append]; rfl
  have hsp : (Tm.mk nd cs).flat = flatL (cs.take i) ++ cs[i].flat ++ (flatL (cs.drop (i + 1)) ++ [nd]) := by
    have e : cs = cs.take i ++ [cs[i]] ++ cs.drop (i + 1) := by simp
    rw [flat_mk]
    conv => lhs; rw [e]
    rw [flatL_append, flatL_append, flatL_one]
    simp
  unfold ReadN partV
  have hlen : startP cs (i + 1) - startP cs i = cs[i].flat.length := by omega
  rw [hlen]
  refine ⟨nodes_length _, _, _, rfl, by omega, by omega, fun hn => ⟨b, _, rfl, h3, fun j u hu => ?_⟩⟩
  rw [Nat.add_assoc]
  refine h4 _ _ ?_
  have hj : j < cs[i].flat.length * 4 := by rw [← nodes_length]; exact (List.getElem?_eq_some_iff.1 hu).1
  rw [hsp, List.flatMap_append, List.flatMap_append, List.append_assoc, List.getElem?_append_right (by rw [nodes_length]; unfold startP; omega), nodes_length]
  have e : startP cs i * 4 + j - (flatL (cs.take i)).length * 4 = j := by unfold startP; omega
  rw [e, List.getElem?_append_left (by rw [nodes_length]; exact hj)]
  exact hu

/-- four blocks laid one behind the other -/
theorem four_blocks (w : World) (x0 x1 x2 x3 : Array Value) (t0 t1 t2 t3 : TypeId) : ∃ W, ((((w.alloc (Obj.cells x0 t0)).alloc (Obj.cells x1 t1)).alloc (Obj.cells x2 t2)).alloc (Obj.cells x3 t3)) = W ∧ W.heap.size = w.heap.size + 4 ∧ Below w.heap.size w W ∧
    Blk W w.heap.size t0 x0 ∧ Blk W (w.heap.size + 1) t1 x1 ∧ Blk W (w.heap.size + 1 + 1) t2 x2 ∧ Blk W (w.heap.size + 1 + 1 + 1) t3 x3 := by
  refine ⟨_, rfl, by simp, ?_, ?_, ?_, ?_, ?_⟩
  · exact ((((Below.refl _ w).alloc (Nat.le_refl _) _).alloc (by simp) _).alloc (by simp; omega) _).alloc (by simp; omega) _
  · exact (((Blk.new w _ _).alloc _).alloc _).alloc _
  · have := Blk.new (w.alloc (Obj.cells x0 t0)) t1 x1; rw [World.size_alloc] at this; exact (this.alloc _).alloc _
  · have := Blk.new ((w.alloc (Obj.cells x0 t0)).alloc (Obj.cells x1 t1)) t2 x2; rw [World.size_alloc, World.size_alloc] at this; exact this.alloc _
  · have := Blk.new (((w.alloc (Obj.cells x0 t0)).alloc (Obj.cells x1 t1)).alloc (Obj.cells x2 t2)) t3 x3; rw [World.size_alloc, World.size_alloc, World.size_alloc] at this; exact this

/-- a slice that reads as nodes, in a block that is none of S -/
def ReadS (S : Bset) (A : World) (u : Value) (l : List Nd) : Prop := ReadN A u l ∧ ∀ g, u.ownBlock = some g → ¬ S g ∧ g < A.heap.size
theorem ReadS.stab {S S' : Bset} {A B : World} {u : Value} {l : List Nd} (h : ReadS S A u l) (hc : Chg S A B) (hs : ∀ b, S' b → S b ∨ A.heap.size ≤ b) : ReadS S' B u l :=
  ⟨RowAt.kept h.1 (hc.kept (K := fun b => ¬ S b) (fun _ h => h)) (fun g hg => (h.2 g hg).1), fun g hg => ⟨fun h' => by rcases hs g h' with h' | h'; exact (h.2 g hg).1 h'; have := (h.2 g hg).2; omega, by have := (h.2 g hg).2; have := hc.size; omega⟩⟩

/-- what Args' loop holds: of the parts that have come, each is a slice of its own -/
def ArgsI (w w2 : World) (cs : List Tm) (j : Nat) (S : Bset) (A : World) : Prop :=
  (Below w.heap.size w A ∧ w2.heap.size + 4 ≤ A.heap.size) ∧ (∀ b, S b → w2.heap.size + 4 ≤ b) ∧ Blk A (w2.heap.size + 1) 42 #[.slice (some ⟨w2.heap.size, 0, none⟩) cs.length cs.length] ∧
  ∃ arr : Array Value, Blk A w2.heap.size 22 arr ∧ arr.size = cs.length ∧ ∀ i (h : i < cs.length), cs.length - j ≤ i → ∃ u, arr[i]? = some u ∧ ReadS (fun b => S b ∨ b < w2.heap.size + 4) A u (cs[i]).flat
theorem ArgsI.stab {w w2 : World} {cs : List Tm} (hw : w.heap.size ≤ w2.heap.size) : Stab (ArgsI w w2 cs) := by
  rintro j S A B S' ⟨⟨h1, h0⟩, h2, h3, arr, h4, h5, h6⟩ hc hs
  refine ⟨⟨h1.trans (hc.to_below (fun b h => by have := h2 b h; omega) h1.size), by have := hc.size; omega⟩, fun b h => ?_, h3.stab (fun h => by have := h2 _ h; omega) hc, arr, h4.stab (fun h => by have := h2 _ h; omega) hc, h5, fun i hi hj => ?_⟩
  · rcases hs b h with h | h
    · exact h2 b h
    · omega
  · obtain ⟨u, hu, hr⟩ := h6 i hi hj
    refine ⟨u, hu, hr.stab (hc.mono fun b _ h => .inl h) fun b h => ?_⟩
    rcases h with h | h
    · rcases hs b h with h | h
      · exact .inl (.inl h)
      · exact .inr h
    · exact .inl (.inr h)

theorem below_of_drew {C w : World} (h : Below C.drew.heap.size C.drew w) : Below C.heap.size C w := ⟨h.os, h.tape, h.output, h.size, h.block⟩
theorem RowAt.of_blk {w : World} {g : Nat} {t : TypeId} {cs : Array Value} {n size : Nat} (h : Blk w g t cs) (hs : cs.size = n * size) (hn : n ≤ maxLen) : RowAt w size (.slice (some ⟨g, 0, none⟩) n n) n cs.toList :=
  ⟨by simpa using hs, _, n, rfl, Nat.le_refl _, hn, fun _ => ⟨g, 0, rfl, h.lt, fun j u hu => by rw [Nat.zero_add, h.cell]; simpa using hu⟩⟩
theorem args_read {w w2 : World} {cs : List Tm} {S : Bset} {A : World} (h : ArgsI w w2 cs cs.length S A) (hm : cs.length ≤ 4000) : ReadNN A (.slice (some ⟨w2.heap.size, 0, none⟩) cs.length cs.length) (cs.map Tm.flat) := by
  obtain ⟨_, _, _, arr, h4, h5, h6⟩ := h
  have hl : (cs.map Tm.flat).length = cs.length := by simp
  refine ⟨arr.toList, by simp [h5], ?_, fun i hi u hu => ?_⟩
  · rw [hl]
    exact RowAt.of_blk h4 (by omega) (by unfold maxLen; omega)
  · rw [hl] at hi
    obtain ⟨u', hu', hr⟩ := h6 i hi (by omega)
    have e : u' = u := by
      have h7 : arr[i]? = some u := by simpa using hu
      exact Option.some.inj (hu'.symm.trans h7)
    subst e
    simpa using hr.1
theorem args_step {w w2 : World} {cs : List Tm} {j k : Nat} {S : Bset} {C w9 : World} {arr : Array Value} {a9 : Option Addr} {d c9 : Nat} (hw : w.heap.size ≤ w2.heap.size) (hk : cs.length = k + 1 + j) (hkl : k < cs.length) (hbC : Below w.heap.size w C) (hsC : w2.heap.size + 4 ≤ C.heap.size) (hSC : ∀ b, S b → w2.heap.size + 4 ≤ b) (hS : ∀ b, S b → b < C.heap.size)
    (hbl : Blk C (w2.heap.size + 1) 42 #[.slice (some ⟨w2.heap.size, 0, none⟩) cs.length cs.length]) (harr : Blk C w2.heap.size 22 arr) (hasz : arr.size = cs.length) (hall : ∀ i (h : i < cs.length), cs.length - j ≤ i → ∃ u, arr[i]? = some u ∧ ReadS (fun b => S b ∨ b < w2.heap.size + 4) C u (cs[i]).flat)
    (hr9 : ReadN w9 (.slice a9 d c9) (cs[k]).flat) (hl9 : ∀ g, (Value.slice a9 d c9).ownBlock = some g → C.heap.size ≤ g) (hb9 : Below C.heap.size C w9) :
    Kept (fun b => S b ∨ (b < w2.heap.size ∨ b = w2.heap.size + 1 + 1 ∨ b = w2.heap.size + 1 + 1 + 1)) C (w9.setCell ⟨w2.heap.size, k, none⟩ (.slice a9 d c9)) ∧ ArgsI w w2 cs (j + 1) S (w9.setCell ⟨w2.heap.size, k, none⟩ (.slice a9 d c9)) := by
  have hbl9 := hbl.below hb9 (by omega)
  have harr9 := harr.below hb9 (by omega)
  have hcs : Chg (fun b => b = w2.heap.size) w9 (w9.setCell ⟨w2.heap.size, k, none⟩ (.slice a9 d c9)) := Chg.setCell _ _ _ rfl
  have hcc : Chg (fun b => b = w2.heap.size) C (w9.setCell ⟨w2.heap.size, k, none⟩ (.slice a9 d c9)) := (Chg.fresh hb9).trans hcs
  refine ⟨hcc.kept (fun b h => ?_), ⟨hbC.trans (hcc.to_below (fun b h => by omega) hbC.size), by have := hcc.size; omega⟩, hSC, hbl9.far (by simp) _, arr.setIfInBounds k (.slice a9 d c9), harr9.set_ k _, by simp [hasz], fun i hi hj => ?_⟩
  · rcases h with h | h
    · have := hSC b h; omega
    · omega
  · by_cases e : i = k
    · subst e
      refine ⟨.slice a9 d c9, by simp [hasz, hi], ?_, fun g hg => ⟨fun h => by have := hl9 g hg; rcases h with h | h; have := hS g h; omega; omega, ?_⟩⟩
      · exact RowAt.kept hr9 (hcs.kept (K := fun b => b ≠ w2.heap.size) (fun b h => h)) (fun g hg => by have := hl9 g hg; omega)
      · have h1 : 0 < (cs[i]).flat.length := flat_pos _
        obtain ⟨b, off, cap, he, _, _, hlt, _⟩ := RowAt.pos hr9 h1
        rw [he] at hg
        simp [Value.ownBlock] at hg
        subst hg
        have := hcs.size
        omega
    · obtain ⟨u, hu, hr⟩ := hall i hi (by omega)
      refine ⟨u, by rw [Array.getElem?_setIfInBounds_ne (by omega)]; exact hu, ?_⟩
      exact hr.stab (hcc.mono fun b _ h => .inr (by omega)) (fun b h => .inl h)

def ArgsPost (l : List Nd) (w : World) (e : Ending) (w' : World) : Prop :=
  ∃ v, e = .returned (.tuple #[v, .int .i64 (chk l)]) ∧ (chk l = 0 → ∃ nd cs, whole l = some (Tm.mk nd cs) ∧ ReadNN w' v (cs.map Tm.flat)) ∧ (chk l ≠ 0 → v = .slice none 0 0) ∧ Below w.heap.size w w'

set_option maxRecDepth 20000 in
set_option maxHeartbeats 2000000 in
theorem targs_bad (l : List Nd) (v : Value) (w : World) (hS : ShapesAt w) (hv : ReadN w v l) (hs : SmallN l) (hk : chk l ≠ 0) :
    Calls Tryd.prog 30 #[v] w (ArgsPost l w) := by
  have HV := Lib.hid hv; clear hv
  have HS := Lib.hid hS; clear hS
  have HSM := Lib.hid hs; clear hs
  obtain ⟨c, hc⟩ : ∃ c, chk l = c := ⟨_, rfl⟩
  rw [hc] at hk
  have HC := Lib.hid hc; clear hc
  have hkb : (c != 0) = true := by simpa using hk
  refine callsIn_wide.1 (callsIn_of_wp_marks (n := 3) Tryd.func30 rfl trivial ?_)
  simp only [Tryd.ntmps30, List.size_toArray, List.length_cons, List.length_nil, Nat.reduceAdd, Nat.reduceSub, Array.replicate_succ, Array.replicate_zero, List.push_toArray, List.append_toArray, List.nil_append, List.cons_append]
  gi_wp2_with fail
  refine enterW2 (look_any l _ w HS.out HV.out HSM.out) ?_
  rintro e w1 ⟨u, rfl, _, hb⟩
  rw [HC.out]
  have HB := Lib.hid hb; clear hb
  gi_wp2_with fail
  exact postM0 (results_tmp2 rfl _ _ _) rfl ⟨_, by rw [HC.out]; rfl, (fun h => absurd (HC.out.symm.trans h) hk), fun _ => rfl, HB.out⟩

set_option maxRecDepth 20000 in
set_option maxHeartbeats 4000000 in
theorem targs_good (l : List Nd) (v : Value) (w : World) (hS : ShapesAt w) (hv : ReadN w v l) (hs : SmallN l) (hk : chk l = 0) :
    Calls Tryd.prog 30 #[v] w (ArgsPost l w) := by
  obtain ⟨hle, t, hw, hd⟩ := chk_ok hk
  obtain ⟨hwf, hfl⟩ := whole_some hw
  obtain ⟨nd, cs⟩ := t
  subst hfl
  obtain ⟨hr, har, hks⟩ := wf_iff.1 hwf
  obtain ⟨c, hc⟩ : ∃ c, (flatL cs).length = c := ⟨_, rfl⟩
  have hl : (Tm.mk nd cs).flat.length = c + 1 := by rw [flat_mk, List.length_append, hc]; rfl
  have hlast : (Tm.mk nd cs).flat[c]? = some nd := by rw [flat_mk, List.getElem?_append_right (by omega), hc]; simp
  obtain ⟨hclt, hcn⟩ := List.getElem?_eq_some_iff.1 hlast
  obtain ⟨_, ⟨he, _⟩ | ⟨b, off, cap, he, hcap1, hcap2, hblt, hcell⟩⟩ := ReadN.cases hv
  · rw [he] at hl; simp at hl
  subst he
  have hcell0 := hcell c hclt
  rw [hcn] at hcell0
  obtain ⟨r0, r1, r2, r3⟩ := hcell0
  clear hcell hcn hlast hclt
  obtain ⟨i0, hi, hz0, hz1, hz2⟩ := info_parts Tryd.infoNodes
  have HV := Lib.hid hv; clear hv
  have HS := Lib.hid hS; clear hS
  have HSM := Lib.hid hs; clear hs
  have HK := Lib.hid hk; clear hk
  have HWH := Lib.hid hw; clear hw
  have HWF := Lib.hid hwf; clear hwf
  have HAR := Lib.hid har
  have HHL := Lib.hid hl
  have HC := Lib.hid hc
  have hm4 : cs.length ≤ 4000 := by have := flatL_ge cs; omega
  have hcap3 : cap ≤ 9223372036854775807 := by unfold maxLen at hcap2; omega
  rw [hl] at hcap1 hle ⊢
  clear har hl hc hcap2 hd
  have hmk := fun w => run_make_nils (P := Tryd.prog) 42 22 i0 Tryd.underlying42 hi hz0 hz1 hz2 cs.length (by omega) w
  refine callsIn_wide.1 (callsIn_of_wp_marks (n := 3) Tryd.func30 rfl trivial ?_)
  simp only [Tryd.ntmps30, List.size_toArray, List.length_cons, List.length_nil, Nat.reduceAdd, Nat.reduceSub, Array.replicate_succ, Array.replicate_zero, List.push_toArray, List.append_toArray, List.nil_append, List.cons_append]
  gi_wp2_with fail
  refine enterW2 (look_any (Tm.mk nd cs).flat _ w HS.out (by rw [← HHL.out]; exact HV.out) HSM.out) ?_
  rintro e w1 ⟨u, rfl, hown0, hb⟩
  have hown := hown0 HK.out
  rw [HK.out]
  clear hown0
  rw [HHL.out] at hown
  obtain ⟨gm, capm, rfl, hgm1, hgm2, _, _, _, _, _⟩ := ownsRow_open hown (by omega)
  have HO := Lib.hid (RowAt.of_own hown); clear hown
  have s0 := (hb.cell (p := ⟨b, off + c * 4, none⟩) hblt).trans r0
  have s1 := (hb.cell (p := ⟨b, off + c * 4 + 1, none⟩) hblt).trans r1
  have s2 := (hb.cell (p := ⟨b, off + c * 4 + 2, none⟩) hblt).trans r2
  have s3 := (hb.cell (p := ⟨b, off + c * 4 + 3, none⟩) hblt).trans r3
  have hS1 := HS.out.below hb
  have HS1 := Lib.hid hS1; clear hS1
  have HB := Lib.hid hb; clear hb r0 r1 r2 r3
  gi_wp2_with fail
  refine enterW2 (many_any nd _ HS1.out hr) ?_
  rintro e w2 ⟨rfl, hb2⟩
  rw [← HAR.out]
  have HO2 := Lib.hid (HO.out.below hb2)
  have HS2 := Lib.hid (HS1.out.below hb2)
  have hb3 := HB.out.trans (hb2.mono HB.out.size)
  have hgm3 : gm < w2.heap.size := by have := hb2.size; omega
  have HB3 := Lib.hid hb3; clear hb3 hb2 s0 s1 s2 s3
  gi_wp2_with fail
  refine enterW2 (backward_any _ _ _ _ _ _ _) ?_
  rintro e W6 ⟨rfl, rfl⟩
  gi_wp2_with fail
  obtain ⟨W0, hW0, hsz, hbw, b0, b1, bt, bm⟩ := four_blocks w2 (Array.replicate cs.length (Value.slice none 0 0)) #[.slice (some ⟨w2.heap.size, 0, none⟩) cs.length cs.length] #[.slice (some ⟨b, off, none⟩) (c + 1) cap] #[.slice (some ⟨gm, 0, none⟩) (c + 1) capm] 22 42 22 76
  rw [hW0]
  have hle2 : w.heap.size ≤ w2.heap.size := HB3.out.size
  have hit := back_iter 2 nd cs HWF.out (by rw [HHL.out]; exact hle) b off cap (w2.heap.size + 1 + 1) (w2.heap.size + 1 + 1 + 1) (.slice (some ⟨gm, 0, none⟩) (c + 1) capm) (fun b => b < w2.heap.size ∨ b = w2.heap.size + 1 + 1 ∨ b = w2.heap.size + 1 + 1 + 1) W0
    (HS2.out.below hbw) (by rw [bt.cell 0, HHL.out]; rfl) (by rw [bm.cell 0]; rfl) (HV.out.below (HB3.out.trans (hbw.mono hle2))) (by rw [HHL.out]; exact HO2.out.below hbw) (.inr (.inl rfl)) (.inr (.inr rfl)) (.inl (by omega)) (fun g hg => .inl (by simp [Value.ownBlock] at hg; omega))
  have HIT := Lib.hid hit; clear hit
  have h0 : ArgsI w w2 cs 0 (fun _ => False) W0 := ⟨⟨HB3.out.trans (hbw.mono hle2), by omega⟩, (fun b h => h.elim), b1, _, b0, by simp, fun i hi hj => by omega⟩
  have H0 := Lib.hid h0; clear h0
  have HSZ := Lib.hid hsz; clear hsz
  have HBW := Lib.hid hbw; clear hbw b0 b1 bt bm hW0
  refine wpIn_rangeFunc_round (F := Fence.wide) (n := 3) (K := fun b => b < w2.heap.size ∨ b = w2.heap.size + 1 + 1 ∨ b = w2.heap.size + 1 + 1 + 1) (w0 := W0) (N := cs.length) (enc := encB b off cap cs)
    (lb := #[.pointer (some ⟨w2.heap.size + 1 + 1, 0, none⟩), .pointer (some ⟨w2.heap.size + 1 + 1 + 1, 0, none⟩)]) (gf := 72) rfl (by omega) rfl trivial (enters_of Tryd.func72 (by kernel_rfl) rfl) HIT.out
    (Kept.refl _ _) (Nat.le_refl _) (fun b h => by have := HSZ.out; omega) (fun j => rfl) (ArgsI w w2 cs) (fun _ _ _ _ => False) (ArgsI.stab hle2)
    (fun _ _ _ _ _ _ h _ _ => h) H0.out ?round ?done (fun D cd j S A _ h => h.elim)
  case round =>
    intro l j S A hj hi hS
    obtain ⟨k, hk⟩ : ∃ k, cs.length = k + 1 + j := ⟨cs.length - 1 - j, by omega⟩
    have hkl : k < cs.length := by omega
    have e3 : cs.length - 1 - j = k := by omega
    obtain ⟨d, hd⟩ : ∃ d, startP cs (k + 1) - startP cs k = d := ⟨_, rfl⟩
    obtain ⟨s0, hs0⟩ : ∃ s0, startP cs k = s0 := ⟨_, rfl⟩
    have hdl : d = (cs[k]).flat.length := by have := startP_succ cs hkl; omega
    have hen : encB b off cap cs j = #[.int .i64 (k : Int), .slice (some ⟨b, off + s0 * 4, none⟩) d (cap - s0)] := by unfold encB partV; rw [e3, hs0, ← hd, hs0]
    have hpr := part_read HV.out hkl
    unfold partV at hpr
    rw [hd, hs0] at hpr
    rw [hen]
    have HPR := Lib.hid hpr; clear hpr
    have HI := Lib.hid hi; clear hi
    have HSS := Lib.hid hS; clear hS
    have HDL := Lib.hid hdl
    have HKK := Lib.hid hk
    clear hen hd hs0 e3 hk hdl
    gi_wp2_with fail
    refine ⟨Kept.refl _ _, fun C hC => ?_⟩
    obtain ⟨⟨hbC, hsC⟩, hSC, hbl, arr, harr, hasz, hall⟩ := ArgsI.stab hle2 j S A C S HI.out hC (fun b h => .inl h)
    have hprC := RowAt.drew (HPR.out.below hbC)
    have HPC := Lib.hid hprC; clear hprC
    have k1 : k < arr.size := by omega
    have hold : arr[k]? = some arr[k] := Array.getElem?_eq_getElem k1
    obtain ⟨old, hol⟩ : ∃ u, arr[k] = u := ⟨_, rfl⟩
    rw [hol] at hold
    have c0 : C.cell? ⟨w2.heap.size + 1, 0, none⟩ = some (.slice (some ⟨w2.heap.size, 0, none⟩) cs.length cs.length) := hbl.cell 0
    have c1 : C.cell? ⟨w2.heap.size, k, none⟩ = some old := (harr.cell k).trans hold
    have c2 : C.frozen? ⟨w2.heap.size, k, none⟩ = false := harr.frozen k
    have HALL := Lib.hid hall; clear hall
    have HSC := Lib.hid hSC; clear hSC
    have HBC := Lib.hid hbC; clear hbC
    have HCC := Lib.hid hC; clear hC
    have HARR := Lib.hid harr; clear harr
    have HBL := Lib.hid hbl; clear hbl
    have HASZ := Lib.hid hasz; clear hasz
    clear hol hold
    have hone : Hid (∀ u, u ∈ (cs[k]).flat.flatMap nodeV → u.oneCell' = true) := nodes_one _
    have hnn : Hid ((cs[k]).flat.length ≤ 1000000000) := by
      show _ ≤ _
      have h1 := startP_succ cs hkl
      have h2 := startP_le cs (k + 1)
      have := HC.out
      omega
    have hmix : Tryd.prog.follows .mixedOrders = true := by kernel_rfl
    gi_wp2_with fail
    gi_region_with_o (first
      | (refine enterR2 (cloneN_own _ _ _ _ HPC.out hone hnn) ?_
         rintro e w9 ⟨a9, c9, rfl, hr9, hl9, hb9⟩
         have d0 : w9.cell? ⟨w2.heap.size + 1, 0, none⟩ = some (.slice (some ⟨w2.heap.size, 0, none⟩) cs.length cs.length) := (hb9.cell (p := ⟨w2.heap.size + 1, 0, none⟩) (by simp; omega)).trans c0
         have d1 : w9.cell? ⟨w2.heap.size, k, none⟩ = some old := (hb9.cell (p := ⟨w2.heap.size, k, none⟩) (by simp; omega)).trans c1
         have d2 : w9.frozen? ⟨w2.heap.size, k, none⟩ = false := (hb9.frozen (p := ⟨w2.heap.size, k, none⟩) (by simp; omega)).trans c2
         have HR9 := Lib.hid hr9; clear hr9
         have HL9 := Lib.hid hl9; clear hl9
         have HB9 := Lib.hid hb9; clear hb9))
    all_goals
      gi_wp2_with fail
      exact args_step hle2 HKK.out hkl HBC.out hsC HSC.out (fun b h => by have := HSS.out b h; have := HCC.out.size; omega) HBL.out HARR.out HASZ.out HALL.out HR9.out HL9.out (below_of_drew HB9.out)
  case done =>
    intro D S A hi hSD hwD hK
    have c0 : A.cell? ⟨w2.heap.size + 1, 0, none⟩ = some (.slice (some ⟨w2.heap.size, 0, none⟩) cs.length cs.length) := hi.2.2.1.cell 0
    have hst := ArgsI.stab hle2 _ S A (A.putObj D (.deferred none)) S hi (Chg.putObj _ _ _ hSD) (fun b h => .inl h)
    have HST := Lib.hid hst; clear hst
    clear hi
    gi_wp2_with fail
    exact postM1 hK rfl (results_tmp2 rfl _ _ _) ⟨_, by rw [HK.out]; rfl, fun _ => ⟨nd, cs, HWH.out, args_read HST.out hm4⟩, (fun h => absurd HK.out h), HST.out.1.1⟩

theorem targs_any (l : List Nd) (v : Value) (w : World) (hS : ShapesAt w) (hv : ReadN w v l) (hs : SmallN l) :
    Calls Tryd.prog 30 #[v] w (ArgsPost l w) := by
  by_cases hk : chk l = 0
  · exact targs_good l v w hS hv hs hk
  · exact targs_bad l v w hS hv hs hk

end Go.Proofs.YteldkcpkamgfpaaDoor

