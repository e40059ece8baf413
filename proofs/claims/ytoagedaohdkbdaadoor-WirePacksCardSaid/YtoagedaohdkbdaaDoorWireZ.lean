/- A row of texts, out of its reading as data. -/
import Derived.Test.YtoagedaohdkbdaaDoorWireE
import Derived.Test.YtoagedaohdkbdaaDoorNa
namespace Go.Proofs.YtoagedaohdkbdaaDoor
set_option linter.unusedSimpArgs false
set_option linter.unusedVariables false
open Go.RowKit Go.ChangeShapes Go.WideShapes Go.Deep Go.Joins

theorem choose_tx {m : Nat} {p : Nat → ByteArray → Prop} (h : ∀ i, i < m → ∃ x, p i x) : ∃ f : Nat → ByteArray, ∀ i, i < m → p i (f i) := by
  have : ∀ i, ∃ x : ByteArray, i < m → p i x := by
    intro i
    by_cases hi : i < m
    · obtain ⟨x, hx⟩ := h i hi; exact ⟨x, fun _ => hx⟩
    · exact ⟨ByteArray.empty, fun h => absurd h hi⟩
  exact ⟨fun i => (this i).choose, fun i hi => (this i).choose_spec hi⟩
section
variable {H : Type} {enc : TypeId × Value → H} {W : World} {base : Nat} {spare : Nat → Bool} {held : Bool}
theorem strs_of_trod {fuel : Nat} {cs : List Value} {x : DataW H × List MemPlace} (h : DataW.trod enc Tryd.prog W base spare held fuel 37 cs = some x) :
    ∃ v l, cs = [v] ∧ ReadS W v l ∧ SmallS l := by
  rcases open_slice Tryd.underlying37 h with ⟨rfl, _⟩ | ⟨a, len, cap, m, n, D, Pl, rfl, _, hl, hm, hmm, _, hi⟩
  · exact ⟨_, [], rfl, RowAt.nil W 1, fun n hn => by cases hn⟩
  have hlm : len ≤ m := by rw [hmm]; split <;> omega
  have each : ∀ i, i < len → ∃ s : ByteArray, s.size ≤ maxLen ∧ W.cell? (a.add i) = some (.string s) := by
    intro i hil
    obtain ⟨cs', hc, ht⟩ := hi i (by omega)
    rw [cString] at hc
    obtain ⟨_, hcl, hat⟩ := World.cells?_some hc
    match cs', hcl with
    | [c0], _ =>
      obtain ⟨S, k4, _, hs⟩ := DataW.trod_string Tryd.underlying9 ht
      simp at k4
      subst k4
      refine ⟨S, hs, ?_⟩
      have := hat 0 (by omega); rw [add_add] at this; simpa using this
  obtain ⟨f, hf⟩ := choose_tx each
  refine ⟨_, (List.range len).map f, rfl, ?_, ?_⟩
  · unfold ReadS
    have hlen : ((List.range len).map f).length = len := by simp
    rw [hlen]
    refine ⟨by simp, _, cap, rfl, hl, hm, fun hn => ?_⟩
    obtain ⟨b, off, path⟩ := a
    have h0 := (hf 0 hn).2
    have hp : path = none := by
      have := World.cell?_spot h0
      simpa [Addr.add] using this
    subst hp
    refine ⟨b, off, rfl, ?_, ?_⟩
    · simp only [addr_row] at h0
      exact World.block_lt_of_cell? W _ h0
    · intro j u hu
      have hj : j < len := by
        have := (List.getElem?_eq_some_iff.1 hu).1
        simpa using this
      have h1 := (hf j hj).2
      simp only [addr_row] at h1
      rw [h1]
      simp [List.getElem?_map, List.getElem?_range hj] at hu
      rw [hu]
  · intro n hn
    obtain ⟨i, hi, rfl⟩ := List.mem_map.1 hn
    exact (hf i (by simpa using hi)).1
set_option maxRecDepth 100000 in
theorem read_strs {v : Value} {d : DataW H} {p : List MemPlace} (hval : Value.okWide Tryd.prog W .any base 37 v) (h : DataW.Trod enc Tryd.prog W 0 spare held 37 v d p) :
    ∃ l : List ByteArray, ReadS W v l ∧ SmallS l := by
  obtain ⟨a0, len0, cap0, rfl⟩ := okWide_slice Tryd.underlying37 hval
  obtain ⟨fuel, hf⟩ := h
  obtain ⟨v, l, hv, h1, h2⟩ := strs_of_trod hf
  simp [Value.cells] at hv
  subst hv
  exact ⟨l, h1, h2⟩
end

end Go.Proofs.YtoagedaohdkbdaaDoor
