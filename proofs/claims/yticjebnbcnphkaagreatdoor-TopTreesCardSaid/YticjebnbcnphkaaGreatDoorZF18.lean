/- A part of the proof that the abstract interpreter is sound, and of the two goroutines of the lexer. -/
import Derived.Test.YticjebnbcnphkaaGreatDoorZF12

set_option linter.unusedSimpArgs false
set_option linter.unusedVariables false
set_option linter.unusedSectionVars false

namespace Go.Ai
open Go
variable {P : Program}

/-- a block that waits is put where an unknown block lies -/
theorem Rel.place_at {σ : Ai.Sub} {A : AH} {w : World} (hA : Rel σ A w) {b : Pa} {o : AO} {sz k tp : Nat} (hb : σ b = .pend) (hl : b.length = 5) (hg : A.get b = some o) (hk : k < w.heap.size) (hfree : ∀ z base s, σ z ≠ .at k base s) (htop : σ.top k = Option.none)
    (ho : ORel (σ.upd b k 0 sz tp) w k 0 sz o) : Rel (σ.upd b k 0 sz tp) A w where
  fresh z hzl hz := by
    obtain ⟨h1, h2⟩ := hA.fresh z hzl hz
    have : z ≠ b := fun e => by subst e; rw [hg] at h2; cases h2
    exact ⟨by rw [Sub.upd_ne this]; exact h1, h2⟩
  obj z o' hz := by
    by_cases h : z = b
    · subst h
      rw [hg] at hz; cases hz
      exact .inr (.inr ⟨_, _, _, Sub.upd_self .., ho⟩)
    · rw [Sub.upd_ne h]
      rcases hA.obj z o' hz with h1 | h1 | ⟨cb, base, s, h1, h2⟩
      · exact .inl h1
      · exact .inr (.inl h1)
      · exact .inr (.inr ⟨cb, base, s, h1, h2.keep (Sub.le_upd hb (.inl htop)) rfl (Nat.le_refl _)⟩)
  inj z z' cb base s base' s' h h' := by
    by_cases h1 : z = b <;> by_cases h2 : z' = b
    · exact .inl (by rw [h1, h2])
    · subst h1; rw [Sub.upd_self] at h; rw [Sub.upd_ne h2] at h'; cases h; exact absurd h' (hfree _ _ _)
    · subst h2; rw [Sub.upd_self] at h'; rw [Sub.upd_ne h1] at h; cases h'; exact absurd h (hfree _ _ _)
    · rw [Sub.upd_ne h1] at h; rw [Sub.upd_ne h2] at h'; exact hA.inj z z' cb base s base' s' h h'
  glob g hg' := by
    rcases hA.glob g hg' with hs | ⟨s, hs⟩
    · left
      rw [Sub.upd_ne (fun e => by rw [e, hb] at hs; cases hs)]; exact hs
    · refine .inr ⟨s, ?_⟩
      rw [Sub.upd_ne (fun e => by rw [e, hb] at hs; cases hs)]; exact hs
  low z cb base s h := by
    by_cases h1 : z = b
    · subst h1; rw [Sub.upd_self] at h; cases h; exact hk
    · rw [Sub.upd_ne h1] at h; exact hA.low z cb base s h
  four z hz := by
    have : z ≠ b := fun e => hz (by rw [e]; exact hl)
    rw [Sub.upd_ne this]; exact hA.four z hz
  tops j hj := by
    rw [Sub.upd_top_ne (by omega)]; exact hA.tops j hj
  len := hA.len
  high := hA.high
  roms z hl' hz := by
    have : z ≠ b := fun e => by subst e; rw [hA.nrom_pend hl hb] at hz; cases hz
    rw [Sub.upd_ne this]; exact hA.roms z hl' hz

/-- a new abstract block, put where a block has come that was not there -/
theorem place_ext {σ : Ai.Sub} {A : AH} {w w2 : World} (hA : Rel σ A w) (hkeep : ∀ k, k < w.heap.size → w2.heap[k]? = w.heap[k]?) (hs : w.heap.size ≤ w2.heap.size) (hos : w2.os = w.os) (hou : w2.output = w.output) (hn : allZ (inc A.next) = false) {k sz tp : Nat} {o : AO}
    (h1 : w.heap.size ≤ k) (h2 : k < w2.heap.size) (ho : ORel (σ.upd A.next k 0 sz tp) w2 k 0 sz o) : Rel (σ.upd A.next k 0 sz tp) (A.new o) w2 ∧ Ext σ A w (σ.upd A.next k 0 sz tp) (A.new o) w2 := by
  obtain ⟨hA2, hX⟩ := hA.same hkeep hs hos hou
  have hfree : ∀ z base s, σ z ≠ .at k base s := fun z base s e => by have := hA.low z k base s e; omega
  refine ⟨(hA2.new_pend hn o).place_at hA.next_pend hA.len AH.get_new_self h2 hfree (hA.tops k h1) ho, ?_⟩
  refine ⟨Sub.le_upd hA.next_pend (.inl (hA.tops k h1)), hs, fun j hj hno => ?_, fun z hl hv hz => ?_, by rw [AH.new_next, inc_val hn]; omega, fun z hz hg => ?_, hos, hou⟩
  · refine ⟨hkeep j hj, fun z base s h => ?_⟩
    by_cases hz : z = A.next
    · subst hz; rw [Sub.upd_self] at h; injection h with h; omega
    · rw [Sub.upd_ne hz] at h
      have hzl : z.length = 5 := by
        rcases Nat.decEq z.length 5 with hl | hl
        · have := hA.four z hl; rw [this] at h; cases h
        · exact hl
      exact ⟨h, by rw [AH.get_new_ne (by rw [hA.len, hzl]) hz]; exact hno z base s h⟩
  · have : z ≠ A.next := fun e => by rw [e] at hv; omega
    exact ⟨by rw [Sub.upd_ne this]; exact hz, AH.get_new_ne (by rw [hA.len, hl]) this⟩
  · have hzn : z ≠ A.next := fun e => hz (by rw [e]; exact hA.next_pend)
    have hzl : z.length = 5 := by
      rcases Nat.decEq z.length 5 with hl | hl
      · exact absurd (hA.four z hl) hz
      · exact hl
    exact ⟨Sub.upd_ne hzn, by rw [AH.get_new_ne (by rw [hA.len, hzl]) hzn]; exact hg⟩

theorem Rel.lexed {σ : Ai.Sub} {A : AH} {w : World} (hA : Rel σ A w) : Rel σ A.lexed w := by
  cases A
  exact ⟨hA.fresh, hA.obj, hA.inj, hA.glob, hA.low, hA.four, hA.tops, hA.len, hA.high, hA.roms⟩
theorem Ext.lexed {σ σ' : Ai.Sub} {A A' : AH} {w w' : World} (h : Ext σ A.lexed w σ' A' w') : Ext σ A w σ' A' w' := by
  cases A
  exact ⟨h.le, h.size, h.keep, h.pend, h.next, h.same, h.os, h.out⟩
end Go.Ai
