/- Arguments as the walks read them: a node, a slice of nodes, a slice of such slices, a slice of ints, a string. -/
import Derived.Test.YtjhgpifccleknaaDoorLaid
import Derived.Lib.SmallJoins
namespace Go.Proofs.YtjhgpifccleknaaDoor
set_option linter.unusedSimpArgs false
set_option linter.unusedVariables false
open Go.RowKit Go.ChangeShapes Go.WideShapes Go.Deep Go.Joins

/-- a slice of slices of nodes, as it reads -/
def ReadNN (w : World) (v : Value) (L : List (List Nd)) : Prop :=
  ∃ vs : List Value, vs.length = L.length ∧ RowAt w 1 v L.length vs ∧ ∀ i (h : i < L.length) u, vs[i]? = some u → ReadN w u (L[i])

def SmallNN (L : List (List Nd)) : Prop := ∀ l, l ∈ L → ∀ n, n ∈ l → n.S.size ≤ maxLen

section
variable {H : Type} {enc : TypeId × Value → H} {W : World} {base : Nat} {spare : Nat → Bool} {held : Bool}

theorem addr_row (b off : Nat) (j : Nat) : (⟨b, off, none⟩ : Addr).add j = ⟨b, off + j, none⟩ := by unfold Addr.add; split <;> simp_all

theorem choose_nd {m : Nat} {p : Nat → Nd → Prop} (h : ∀ i, i < m → ∃ x, p i x) : ∃ f : Nat → Nd, ∀ i, i < m → p i (f i) := by
  have : ∀ i, ∃ x : Nd, i < m → p i x := by
    intro i
    by_cases hi : i < m
    · obtain ⟨x, hx⟩ := h i hi; exact ⟨x, fun _ => hx⟩
    · exact ⟨⟨0, 0, 0, ByteArray.empty⟩, fun h => absurd h hi⟩
  exact ⟨fun i => (this i).choose, fun i hi => (this i).choose_spec hi⟩

set_option maxRecDepth 100000 in
/-- the cells of nodes, out of their readings -/
theorem nodes_of_trod {fuel : Nat} {cs : List Value} {x : DataW H × List MemPlace} (h : DataW.trod enc Tryd.prog W base spare held fuel 30 cs = some x) :
    ∃ v l, cs = [v] ∧ ReadN W v l ∧ (∀ n, n ∈ l → n.S.size ≤ maxLen) := by
  rcases open_slice Tryd.underlying30 h with ⟨rfl, _⟩ | ⟨a, len, cap, m, n, D, Pl, rfl, _, hl, hm, hmm, _, hi⟩
  · exact ⟨_, [], rfl, ReadN.nil W, fun n hn => by cases hn⟩
  have hlm : len ≤ m := by rw [hmm]; split <;> omega
  have each : ∀ i, i < len → ∃ nd : Nd, nd.S.size ≤ maxLen ∧ W.cell? (a.add (i * 4)) = some (.int .i64 nd.K) ∧ W.cell? (a.add (i * 4 + 1)) = some (.int .i64 nd.N) ∧
      W.cell? (a.add (i * 4 + 2)) = some (.int .i64 nd.M) ∧ W.cell? (a.add (i * 4 + 3)) = some (.string nd.S) := by
    intro i hil
    obtain ⟨cs', hc, ht⟩ := hi i (by omega)
    rw [cNode] at hc
    obtain ⟨y0, y1, y2, y3, n', _, _, t0, t1, t2, t3⟩ := trod_struct4 Tryd.underlying23 ht
    obtain ⟨_, hcl, hat⟩ := World.cells?_some hc
    match cs', hcl with
    | [c0, c1, c2, c3], _ =>
      simp only [cInt, cString] at t0 t1 t2 t3
      obtain ⟨K, k1, _⟩ := DataW.trod_int Tryd.underlying3 t0
      obtain ⟨N, k2, _⟩ := DataW.trod_int Tryd.underlying3 t1
      obtain ⟨M, k3, _⟩ := DataW.trod_int Tryd.underlying3 t2
      obtain ⟨S, k4, _, hs⟩ := DataW.trod_string Tryd.underlying9 t3
      simp at k1 k2 k3 k4
      subst k1; subst k2; subst k3; subst k4
      refine ⟨⟨K, N, M, S⟩, hs, ?_, ?_, ?_, ?_⟩
      · have := hat 0 (by omega); rw [add_add] at this; simpa using this
      · have := hat 1 (by omega); rw [add_add] at this; simpa using this
      · have := hat 2 (by omega); rw [add_add] at this; simpa using this
      · have := hat 3 (by omega); rw [add_add] at this; simpa using this
  obtain ⟨f, hf⟩ := choose_nd each
  refine ⟨_, (List.range len).map f, rfl, ?_, ?_⟩
  · unfold ReadN
    have hlen : ((List.range len).map f).length = len := by simp
    rw [hlen]
    refine ⟨by rw [nodes_length, hlen], _, cap, rfl, hl, hm, fun hn => ?_⟩
    obtain ⟨b, off, path⟩ := a
    have h0 := (hf 0 hn).2.1
    have hp : path = none := by
      have := World.cell?_spot h0
      simpa [Addr.add] using this
    subst hp
    refine ⟨b, off, rfl, ?_, ?_⟩
    · simp only [addr_row] at h0
      exact World.block_lt_of_cell? W _ h0
    · intro j u hu
      have hj : j < len * 4 := by
        have := (List.getElem?_eq_some_iff.1 hu).1
        rw [nodes_length, hlen] at this
        exact this
      have e : j = (j / 4) * 4 + j % 4 := by omega
      have hq : j / 4 < len := by omega
      have hg := nodes_get ((List.range len).map f) (j / 4) (by rw [hlen]; exact hq) (j % 4) (by omega)
      rw [← e, hu] at hg
      simp only [List.getElem_map, List.getElem_range] at hg
      obtain ⟨_, g0, g1, g2, g3⟩ := hf (j / 4) hq
      simp only [addr_row] at g0 g1 g2 g3
      have h4 : j % 4 < 4 := by omega
      generalize hr : j % 4 = r at *
      match r, h4 with
      | 0, _ => simp [nodeV] at hg; subst hg; rw [show off + j = off + j / 4 * 4 from by omega]; exact g0
      | 1, _ => simp [nodeV] at hg; subst hg; rw [show off + j = off + (j / 4 * 4 + 1) from by omega]; exact g1
      | 2, _ => simp [nodeV] at hg; subst hg; rw [show off + j = off + (j / 4 * 4 + 2) from by omega]; exact g2
      | 3, _ => simp [nodeV] at hg; subst hg; rw [show off + j = off + (j / 4 * 4 + 3) from by omega]; exact g3
  · intro n hn
    obtain ⟨i, hi, rfl⟩ := List.mem_map.1 hn
    exact (hf i (by simpa using hi)).1

set_option maxRecDepth 100000 in
theorem read_nodes {v : Value} {d : DataW H} {p : List MemPlace} (hval : Value.okWide Tryd.prog W .any base 30 v) (h : DataW.Trod enc Tryd.prog W 0 spare held 30 v d p) :
    ∃ l : List Nd, ReadN W v l ∧ (∀ n, n ∈ l → n.S.size ≤ maxLen) := by
  obtain ⟨a0, len0, cap0, rfl⟩ := okWide_slice Tryd.underlying30 hval
  obtain ⟨fuel, hf⟩ := h
  obtain ⟨v, l, hv, h1, h2⟩ := nodes_of_trod hf
  simp [Value.cells] at hv
  subst hv
  exact ⟨l, h1, h2⟩

theorem choose_nds {m : Nat} {p : Nat → List Nd → Prop} (h : ∀ i, i < m → ∃ x, p i x) : ∃ f : Nat → List Nd, ∀ i, i < m → p i (f i) := by
  have : ∀ i, ∃ x : List Nd, i < m → p i x := by
    intro i
    by_cases hi : i < m
    · obtain ⟨x, hx⟩ := h i hi; exact ⟨x, fun _ => hx⟩
    · exact ⟨[], fun h => absurd h hi⟩
  exact ⟨fun i => (this i).choose, fun i hi => (this i).choose_spec hi⟩

set_option maxRecDepth 100000 in
theorem read_nodess {v : Value} {d : DataW H} {p : List MemPlace} (hval : Value.okWide Tryd.prog W .any base 41 v) (h : DataW.Trod enc Tryd.prog W 0 spare held 41 v d p) :
    ∃ L : List (List Nd), ReadNN W v L ∧ SmallNN L := by
  obtain ⟨a0, len0, cap0, rfl⟩ := okWide_slice Tryd.underlying41 hval
  obtain ⟨fuel, hf⟩ := h
  rcases open_slice1 Tryd.underlying41 cNodes hf with ⟨hcs, _⟩ | ⟨a, len, cap, m, n, V, D, Pl, hcs, _, hl, hm, hmm, _, hi⟩
  · simp [Value.cells] at hcs
    obtain ⟨rfl, rfl, rfl⟩ := hcs
    exact ⟨[], ⟨[], rfl, RowAt.nil W 1, fun i h => absurd h (by simp)⟩, fun l hl => by cases hl⟩
  · simp [Value.cells] at hcs
    obtain ⟨rfl, rfl, rfl⟩ := hcs
    have hlm : len0 ≤ m := by rw [hmm]; split <;> omega
    have each : ∀ i, i < len0 → ∃ l, ReadN W (V i) l ∧ (∀ n, n ∈ l → n.S.size ≤ maxLen) := by
      intro i hil
      obtain ⟨v', l, hv, h1, h2⟩ := nodes_of_trod (hi i (by omega)).2
      simp at hv
      subst hv
      exact ⟨l, h1, h2⟩
    obtain ⟨f, hfl⟩ := choose_nds each
    refine ⟨(List.range len0).map f, ⟨(List.range len0).map V, by simp, ?_, ?_⟩, ?_⟩
    · have hlen : ((List.range len0).map f).length = len0 := by simp
      rw [hlen]
      refine ⟨by simp, some a, cap0, rfl, hl, hm, fun hn => ?_⟩
      obtain ⟨b, off, path⟩ := a
      have h0 := (hi 0 (by omega)).1
      have hp : path = none := by
        have := World.cell?_spot h0
        simpa [Addr.add] using this
      subst hp
      refine ⟨b, off, rfl, ?_, ?_⟩
      · simp only [addr_row] at h0
        exact World.block_lt_of_cell? W _ h0
      · intro j u hu
        rw [List.getElem?_map] at hu
        obtain ⟨i, hi1, rfl⟩ := Option.map_eq_some_iff.1 hu
        obtain ⟨hj, rfl⟩ := List.getElem?_eq_some_iff.1 hi1
        have hj' : j < len0 := by simpa using hj
        have := (hi j (by omega)).1
        simp only [addr_row] at this
        simpa using this
    · intro i hi' u hu
      have hi2 : i < len0 := by simpa using hi'
      rw [List.getElem?_map, List.getElem?_eq_getElem (by simpa using hi2)] at hu
      simp at hu
      subst hu
      simpa using (hfl i hi2).1
    · intro l hl'
      obtain ⟨i, hi1, rfl⟩ := List.mem_map.1 hl'
      exact (hfl i (by simpa using hi1)).2

set_option maxRecDepth 100000 in
theorem read_node {v : Value} {d : DataW H} {p : List MemPlace} (hval : Value.okWide Tryd.prog W .any base 23 v) (h : DataW.Trod enc Tryd.prog W 0 spare held 23 v d p) :
    ∃ n : Nd, v = .agg #[.int .i64 n.K, .int .i64 n.N, .int .i64 n.M, .string n.S] ∧ n.S.size ≤ maxLen := by
  obtain ⟨v0, v1, v2, v3, y0, y1, y2, y3, n', rfl, _, _, t0, t1, t2, t3⟩ := open_agg4 Tryd.underlying23 (by kernel_rfl) cNode hval h
  obtain ⟨K, k1, _⟩ := DataW.trod_int Tryd.underlying3 t0
  obtain ⟨N, k2, _⟩ := DataW.trod_int Tryd.underlying3 t1
  obtain ⟨M, k3, _⟩ := DataW.trod_int Tryd.underlying3 t2
  obtain ⟨S, k4, _, hs⟩ := DataW.trod_string Tryd.underlying9 t3
  simp at k1 k2 k3 k4
  subst k1; subst k2; subst k3; subst k4
  exact ⟨⟨K, N, M, S⟩, rfl, hs⟩

set_option maxRecDepth 100000 in
theorem read_ints {v : Value} {d : DataW H} {p : List MemPlace} (hval : Value.okWide Tryd.prog W .any base 25 v) (h : DataW.Trod enc Tryd.prog W 0 spare held 25 v d p) : ∃ l : List Int, ReadI W v l := by
  obtain ⟨a0, len0, cap0, rfl⟩ := okWide_slice Tryd.underlying25 hval
  obtain ⟨fuel, hf⟩ := h
  obtain ⟨l, hl, _⟩ := ints_read Tryd.underlying25 Tryd.underlying3 cInt hf
  exact ⟨l, hl⟩

end
end Go.Proofs.YtjhgpifccleknaaDoor
