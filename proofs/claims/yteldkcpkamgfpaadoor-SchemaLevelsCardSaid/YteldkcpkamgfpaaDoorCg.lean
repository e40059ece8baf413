/- Worlds of which only some blocks have turned ('Chg'), or some stand as they stood ('Kept'). No function of the program is named here. -/
import Derived.Test.YteldkcpkamgfpaaDoorBa
import Derived.RangeFuncCalls
namespace Go.Proofs.YteldkcpkamgfpaaDoor
set_option linter.unusedSimpArgs false
set_option linter.unusedVariables false
open Go.RowKit

abbrev Bset := Nat → Prop

/-- B is A, but for new blocks and those of S -/
structure Chg (S : Bset) (A B : World) : Prop where
  os : B.os = A.os
  tape : B.tape = A.tape
  output : B.output = A.output
  size : A.heap.size ≤ B.heap.size
  block : ∀ b, b < A.heap.size → ¬ S b → B.heap[b]? = A.heap[b]?

/-- the blocks of K lie as they lay -/
structure Kept (K : Bset) (A B : World) : Prop where
  size : A.heap.size ≤ B.heap.size
  block : ∀ b, b < A.heap.size → K b → B.heap[b]? = A.heap[b]?

section
variable {S T K : Bset} {A B C : World}
theorem Chg.refl (S : Bset) (A : World) : Chg S A A := ⟨rfl, rfl, rfl, Nat.le_refl _, fun _ _ _ => rfl⟩
theorem Chg.trans (h : Chg S A B) (k : Chg S B C) : Chg S A C :=
  ⟨k.os.trans h.os, k.tape.trans h.tape, k.output.trans h.output, Nat.le_trans h.size k.size, fun b hb hn => (k.block b (Nat.lt_of_lt_of_le hb h.size) hn).trans (h.block b hb hn)⟩
theorem Chg.mono (h : Chg S A B) (hs : ∀ b, b < A.heap.size → S b → T b) : Chg T A B :=
  ⟨h.os, h.tape, h.output, h.size, fun b hb hn => h.block b hb (fun hs' => hn (hs b hb hs'))⟩
theorem Chg.below {n : Nat} (h : Below n A B) : Chg (fun b => n ≤ b) A B := ⟨h.os, h.tape, h.output, h.size, fun b _ hn => h.block b (by omega)⟩
theorem Chg.fresh (h : Below A.heap.size A B) : Chg S A B := ⟨h.os, h.tape, h.output, h.size, fun b hb _ => h.block b hb⟩
theorem Chg.grown {r : Option Nat} (h : A.grownBy B r) (hr : ∀ g, r = some g → S g) : Chg S A B :=
  ⟨h.os, h.tape, h.output, h.size, fun b hb hn => h.block b hb (fun e => hn (hr b e.symm))⟩
theorem Chg.setCell (A : World) (p : Addr) (v : Value) (h : S p.block) : Chg S A (A.setCell p v) :=
  ⟨rfl, rfl, rfl, by simp [World.setCell], fun b _ hn => Below.heap_setCell A p v b (by rintro rfl; exact hn h)⟩
theorem Chg.putObj (A : World) (r : Nat) (o : Obj) (h : S r) : Chg S A (A.putObj r o) :=
  ⟨rfl, rfl, rfl, by simp, fun b _ hn => World.putObj_heap_other (by rintro rfl; exact hn h)⟩
theorem Chg.alloc (A : World) (o : Obj) : Chg S A (A.alloc o) := .fresh ((Below.refl _ A).alloc (Nat.le_refl _) o)
theorem Chg.drewN (A : World) (n : Nat) : Chg S A (A.drewN n) := ⟨rfl, rfl, rfl, Nat.le_refl _, fun _ _ _ => rfl⟩
theorem Chg.drew (A : World) : Chg S A A.drew := ⟨rfl, rfl, rfl, Nat.le_refl _, fun _ _ _ => rfl⟩
theorem Chg.to_below {n : Nat} (h : Chg S A B) (hn : ∀ b, S b → n ≤ b) (hs : n ≤ A.heap.size) : Below n A B :=
  ⟨h.os, h.tape, h.output, h.size, fun b hb => h.block b (by omega) (fun hs' => by have := hn b hs'; omega)⟩
theorem Chg.kept (h : Chg S A B) (hk : ∀ b, K b → ¬ S b) : Kept K A B := ⟨h.size, fun b hb hKb => h.block b hb (hk b hKb)⟩
theorem Kept.refl (K : Bset) (A : World) : Kept K A A := ⟨Nat.le_refl _, fun _ _ _ => rfl⟩
theorem Kept.trans (h : Kept K A B) (k : Kept K B C) : Kept K A C :=
  ⟨Nat.le_trans h.size k.size, fun b hb hk => (k.block b (Nat.lt_of_lt_of_le hb h.size) hk).trans (h.block b hb hk)⟩
theorem Kept.mono {K' : Bset} (h : Kept K A B) (hk : ∀ b, b < A.heap.size → K' b → K b) : Kept K' A B := ⟨h.size, fun b hb hk' => h.block b hb (hk b hb hk')⟩
theorem Kept.cell (h : Kept K A B) {p : Addr} {v : Value} (hp : K p.block) (hc : A.cell? p = some v) : B.cell? p = some v := by
  have hlt := World.block_lt_of_cell? A p hc
  unfold World.cell? at hc ⊢
  rw [h.block _ hlt hp]
  exact hc
theorem Kept.frozen (h : Kept K A B) {p : Addr} (hp : K p.block) (hlt : p.block < A.heap.size) (hc : A.frozen? p = false) : B.frozen? p = false := by
  unfold World.frozen? at hc ⊢
  rw [h.block _ hlt hp]
  exact hc
theorem Chg.cell (h : Chg S A B) {p : Addr} {v : Value} (hp : ¬ S p.block) (hc : A.cell? p = some v) : B.cell? p = some v :=
  (h.kept (K := fun b => ¬ S b) (fun _ hb => hb)).cell hp hc
end

theorem Blk.stab {S : Bset} {A B : World} {g : Nat} {t : TypeId} {cs : Array Value} (h : Blk A g t cs) (hn : ¬ S g) (hc : Chg S A B) : Blk B g t cs := (hc.block g h.lt hn).trans h
theorem ownsRow_kept {w w' : World} {base size n : Nat} {e : TypeId} {v : Value} {xs : List Value} {K : Bset} (h : w.ownsRow base e size v n xs) (hb : Kept K w w') (hB : ∀ g, v.ownBlock = some g → K g) : w'.ownsRow base e size v n xs := by
  refine ⟨h.1, ?_⟩
  rcases h.2 with hn | ⟨g, cap, cur, rfl, hbg, hg, rest⟩
  · exact .inl hn
  · exact .inr ⟨g, cap, cur, rfl, hbg, (hb.block g (Array.getElem?_eq_some_iff.1 hg).1 (hB g rfl)).trans hg, rest⟩

theorem below_chg {A B : World} {m : Nat} (h : Below A.heap.size A B) (e : A.heap.size = m) : Chg (fun z => m ≤ z) A B := ⟨h.os, h.tape, h.output, h.size, fun b hb hn => h.block b (by omega)⟩

end Go.Proofs.YteldkcpkamgfpaaDoor

