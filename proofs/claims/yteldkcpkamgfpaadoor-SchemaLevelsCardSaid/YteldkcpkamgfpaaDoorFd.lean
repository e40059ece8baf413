/- Arguments as they read: a declaration, levels. -/
import Derived.Test.YteldkcpkamgfpaaDoorFc
namespace Go.Proofs.YteldkcpkamgfpaaDoor
set_option linter.unusedSimpArgs false
set_option linter.unusedVariables false
open Go.RowKit Go.ChangeShapes Go.WideShapes Go.Deep Go.Joins

section
variable {H : Type} {enc : TypeId × Value → H} {W : World} {base : Nat} {spare : Nat → Bool} {held : Bool} {P : Program}

theorem choose_any {α : Type} (a0 : α) {m : Nat} {p : Nat → α → Prop} (h : ∀ i, i < m → ∃ x, p i x) : ∃ f : Nat → α, ∀ i, i < m → p i (f i) := by
  have : ∀ i, ∃ x : α, i < m → p i x := by
    intro i
    by_cases hi : i < m
    · obtain ⟨x, hx⟩ := h i hi; exact ⟨x, fun _ => hx⟩
    · exact ⟨a0, fun h => absurd h hi⟩
  exact ⟨fun i => (this i).choose, fun i hi => (this i).choose_spec hi⟩

/-- a row of values, each of which reads -/
theorem row_read {α : Type} (a0 : α) (R : Value → α → Prop) {t e : TypeId} (ht : P.underlying t = some (.slice e)) (hc : P.cellsOf e = 1)
    (hR : ∀ n v y, DataW.trod enc P W base spare held n e [v] = some y → ∃ x, R v x) {fuel : Nat} {v : Value} {y : DataW H × List MemPlace} (h : DataW.trod enc P W base spare held fuel t [v] = some y) :
    ∃ L : List α, ∃ vs : List Value, vs.length = L.length ∧ RowAt W 1 v L.length vs ∧ (∀ i (h : i < L.length) u, vs[i]? = some u → R u (L[i])) ∧ ∀ x, x ∈ L → ∃ u, R u x := by
  rcases open_slice1 ht hc h with ⟨hcs, _⟩ | ⟨a, len0, cap0, m, n, V, D, Pl, hcs, _, hl, hm, hmm, _, hi⟩
  · simp at hcs
    subst hcs
    exact ⟨[], [], rfl, RowAt.nil W 1, fun i h => absurd h (by simp), fun x hx => by cases hx⟩
  · simp at hcs
    subst hcs
    have hlm : len0 ≤ m := by rw [hmm]; split <;> omega
    have each : ∀ i, i < len0 → ∃ l, R (V i) l := fun i hil => hR n _ _ (hi i (by omega)).2
    obtain ⟨f, hfl⟩ := choose_any a0 each
    refine ⟨(List.range len0).map f, (List.range len0).map V, by simp, ?_, ?_, ?_⟩
    · have hlen : ((List.range len0).map f).length = len0 := by simp
      rw [hlen]
      refine ⟨by simp, some a, cap0, rfl, hl, hm, fun hn => ?_⟩
      obtain ⟨b, off, path⟩ := a
      have h0 := (hi 0 (by omega)).1
      have hp : path = none := by
        have := World.cell?_spot h0
        simpa [Addr.add] using this
      subst hp
      refine ⟨b, off, rfl, ?_, ?_⟩
      · simp only [addr_row] at h0
        exact World.block_lt_of_cell? W _ h0
      · intro j u hu
        rw [List.getElem?_map] at hu
        obtain ⟨i, hi1, rfl⟩ := Option.map_eq_some_iff.1 hu
        obtain ⟨hj, rfl⟩ := List.getElem?_eq_some_iff.1 hi1
        have hj' : j < len0 := by simpa using hj
        have := (hi j (by omega)).1
        simp only [addr_row] at this
        simpa using this
    · intro i hi' u hu
      have hi2 : i < len0 := by simpa using hi'
      rw [List.getElem?_map, List.getElem?_eq_getElem (by simpa using hi2)] at hu
      simp at hu
      subst hu
      simpa using hfl i hi2
    · intro x hx
      obtain ⟨i, hi1, rfl⟩ := List.mem_map.1 hx
      exact ⟨V i, hfl i (by simpa using hi1)⟩

theorem array6 {α : Type} {cs : Array α} (h : cs.size = 6) : ∃ c0 c1 c2 c3 c4 c5, cs = #[c0, c1, c2, c3, c4, c5] := by
  obtain ⟨l⟩ := cs
  match l, h with
  | [c0, c1, c2, c3, c4, c5], _ => exact ⟨c0, c1, c2, c3, c4, c5, rfl⟩
theorem trod_struct6 {t : TypeId} {f0 f1 f2 f3 f4 f5 : Field} {fuel : Nat} {cs : List Value} {x : DataW H × List MemPlace} (ht : P.underlying t = some (.struct #[f0, f1, f2, f3, f4, f5])) (h : DataW.trod enc P W base spare held fuel t cs = some x) :
    ∃ y0 y1 y2 y3 y4 y5 n, cs.length = P.cellsOf t ∧ DataW.trod enc P W base spare held n f0.type ((cs.drop f0.offset).take (P.cellsOf f0.type)) = some y0 ∧
      DataW.trod enc P W base spare held n f1.type ((cs.drop f1.offset).take (P.cellsOf f1.type)) = some y1 ∧ DataW.trod enc P W base spare held n f2.type ((cs.drop f2.offset).take (P.cellsOf f2.type)) = some y2 ∧
      DataW.trod enc P W base spare held n f3.type ((cs.drop f3.offset).take (P.cellsOf f3.type)) = some y3 ∧ DataW.trod enc P W base spare held n f4.type ((cs.drop f4.offset).take (P.cellsOf f4.type)) = some y4 ∧
      DataW.trod enc P W base spare held n f5.type ((cs.drop f5.offset).take (P.cellsOf f5.type)) = some y5 := by
  obtain ⟨xs, n, _, rfl, hl, hlen, hf⟩ := DataW.trod_struct ht h
  match xs, hlen with
  | [y0, y1, y2, y3, y4, y5], _ => exact ⟨y0, y1, y2, y3, y4, y5, n, hl, by simpa using hf 0 f0 rfl, by simpa using hf 1 f1 rfl, by simpa using hf 2 f2 rfl, by simpa using hf 3 f3 rfl, by simpa using hf 4 f4 rfl, by simpa using hf 5 f5 rfl⟩
theorem open_agg6 {r : Reach} {b0 : Nat} {t : TypeId} {f0 f1 f2 f3 f4 f5 : Field} {v : Value} {d : DataW H} {p : List MemPlace} (hs : P.underlying t = some (.struct #[f0, f1, f2, f3, f4, f5])) (hone : oneCellFields P #[f0, f1, f2, f3, f4, f5] = true) (hC : P.cellsOf t = 6)
    (hv : Value.okWide P W r b0 t v) (h : DataW.Trod enc P W base spare held t v d p) :
    ∃ (v0 v1 v2 v3 v4 v5 : Value) (y0 y1 y2 y3 y4 y5 : DataW H × List MemPlace) (n : Nat), v = .agg #[v0, v1, v2, v3, v4, v5] ∧
      DataW.trod enc P W base spare held n f0.type [v0] = some y0 ∧ DataW.trod enc P W base spare held n f1.type [v1] = some y1 ∧ DataW.trod enc P W base spare held n f2.type [v2] = some y2 ∧
      DataW.trod enc P W base spare held n f3.type [v3] = some y3 ∧ DataW.trod enc P W base spare held n f4.type [v4] = some y4 ∧ DataW.trod enc P W base spare held n f5.type [v5] = some y5 := by
  obtain ⟨cs, rfl, hsz⟩ := okWide_struct hs hv
  obtain ⟨c0, c1, c2, c3, c4, c5, rfl⟩ := array6 (hsz.trans hC)
  obtain ⟨fuel, hf⟩ := h
  obtain ⟨y0, y1, y2, y3, y4, y5, n, _, h0, h1, h2, h3, h4, h5⟩ := trod_struct6 hs hf
  obtain ⟨o0, k0⟩ := hone_of hone 0 f0 rfl
  obtain ⟨o1, k1⟩ := hone_of hone 1 f1 rfl
  obtain ⟨o2, k2⟩ := hone_of hone 2 f2 rfl
  obtain ⟨o3, k3⟩ := hone_of hone 3 f3 rfl
  obtain ⟨o4, k4⟩ := hone_of hone 4 f4 rfl
  obtain ⟨o5, k5⟩ := hone_of hone 5 f5 rfl
  exact ⟨c0, c1, c2, c3, c4, c5, y0, y1, y2, y3, y4, y5, n, rfl, by simpa [Value.cells, o0, k0] using h0, by simpa [Value.cells, o1, k1] using h1, by simpa [Value.cells, o2, k2] using h2, by simpa [Value.cells, o3, k3] using h3, by simpa [Value.cells, o4, k4] using h4, by simpa [Value.cells, o5, k5] using h5⟩
end

section
variable {H : Type} {enc : TypeId × Value → H} {W : World} {base : Nat} {spare : Nat → Bool} {held : Bool}

theorem nodes1_read {n : Nat} {v : Value} {y : DataW H × List MemPlace} (h : DataW.trod enc Tryd.prog W base spare held n 22 [v] = some y) : ∃ l, ReadN W v l ∧ SmallN l := by
  obtain ⟨v', l, hv, h1, h2⟩ := nodes_of_trod h
  simp at hv
  subst hv
  exact ⟨l, h1, h2⟩
theorem cNodess : Tryd.prog.cellsOf 42 = 1 := by kernel_rfl
theorem cIntsl : Tryd.prog.cellsOf 45 = 1 := by kernel_rfl
theorem cDecl : Tryd.prog.cellsOf 36 = 6 := by kernel_rfl
theorem nodes2_read {n : Nat} {v : Value} {y : DataW H × List MemPlace} (h : DataW.trod enc Tryd.prog W base spare held n 42 [v] = some y) : ∃ L, ReadNN W v L ∧ SmallNN L := by
  obtain ⟨L, vs, h1, h2, h3, h4⟩ := row_read [] (fun v l => ReadN W v l ∧ SmallN l) Tryd.underlying42 cNodes (fun n v y h => nodes1_read h) h
  exact ⟨L, ⟨vs, h1, h2, fun i hi u hu => (h3 i hi u hu).1⟩, fun l hl => by obtain ⟨u, hu⟩ := h4 l hl; exact hu.2⟩
theorem nodes3_read {n : Nat} {v : Value} {y : DataW H × List MemPlace} (h : DataW.trod enc Tryd.prog W base spare held n 34 [v] = some y) : ∃ T, ReadNNN W v T ∧ ∀ c, c ∈ T → SmallNN c := by
  obtain ⟨L, vs, h1, h2, h3, h4⟩ := row_read [] (fun v l => ReadNN W v l ∧ SmallNN l) Tryd.underlying34 cNodess (fun n v y h => nodes2_read h) h
  exact ⟨L, ⟨vs, h1, h2, fun i hi u hu => (h3 i hi u hu).1⟩, fun l hl => by obtain ⟨u, hu⟩ := h4 l hl; exact hu.2⟩

set_option maxRecDepth 100000 in
theorem read_intss {v : Value} {d : DataW H} {p : List MemPlace} (hval : Value.okWide Tryd.prog W .any base 44 v) (h : DataW.Trod enc Tryd.prog W 0 spare held 44 v d p) : ∃ L : List (List Int), ReadII W v L := by
  obtain ⟨a0, len0, cap0, rfl⟩ := okWide_slice Tryd.underlying44 hval
  obtain ⟨fuel, hf⟩ := h
  obtain ⟨L, vs, h1, h2, h3, h4⟩ := row_read [] (fun v l => ReadI W v l) Tryd.underlying44 cIntsl (fun n v y h => by
    obtain ⟨l, hl, _⟩ := ints_read Tryd.underlying45 Tryd.underlying3 cInt h
    exact ⟨l, hl⟩) (v := .slice a0 len0 cap0) hf
  exact ⟨L, vs, h1, h2, h3⟩

set_option maxRecDepth 100000 in
theorem read_decl {v : Value} {dt : DataW H} {p : List MemPlace} (hval : Value.okWide Tryd.prog W .any base 36 v) (h : DataW.Trod enc Tryd.prog W 0 spare held 36 v dt p) :
    ∃ (d : Dc) (vt vb vc : Value), v = declV d vt vb vc ∧ DeclV W d vt vb vc ∧ SmallD d := by
  obtain ⟨v0, v1, v2, v3, v4, v5, y0, y1, y2, y3, y4, y5, n, rfl, t0, t1, t2, t3, t4, t5⟩ := open_agg6 Tryd.underlying36 (by kernel_rfl) cDecl hval h
  obtain ⟨K, k0, _⟩ := DataW.trod_int Tryd.underlying3 t0
  obtain ⟨E, k1, _⟩ := DataW.trod_int Tryd.underlying3 t1
  obtain ⟨S, k2, _, hs⟩ := DataW.trod_string Tryd.underlying9 t2
  obtain ⟨ty, r3, s3⟩ := nodes1_read t3
  obtain ⟨bd, r4, s4⟩ := nodes1_read t4
  obtain ⟨T, r5, s5⟩ := nodes3_read t5
  simp at k0 k1 k2
  subst k0; subst k1; subst k2
  exact ⟨⟨K, E, S, ty, bd, T⟩, v3, v4, v5, rfl, ⟨r3, r4, r5⟩, ⟨s3, s4, hs, s5⟩⟩
end
end Go.Proofs.YteldkcpkamgfpaaDoor
