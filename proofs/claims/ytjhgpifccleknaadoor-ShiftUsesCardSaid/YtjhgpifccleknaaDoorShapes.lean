/- What the walks are told of the package's table of shapes ('ShapesAt'), that whatever a call makes leaves it so, and a slice of nodes as it reads ('ReadN'). No function is named here. -/
import Derived.Test.YtjhgpifccleknaaDoorBase
import Derived.Test.YtjhgpifccleknaaDoorTreeE
namespace Go.Proofs.YtjhgpifccleknaaDoor
set_option linter.unusedSimpArgs false
set_option linter.unusedVariables false
open Go.RowKit

/-- the table's cells: of each kind its binders (a slice), and which fields it has -/
def ShapesAt (w : World) : Prop := ∃ sv : Nat → Value, ∀ k, k < 30 →
  w.cell? ⟨0, k * 4, none⟩ = some (sv k) ∧ w.cell? ⟨0, k * 4 + 1, none⟩ = some (.bool (shp k).2.1) ∧ w.cell? ⟨0, k * 4 + 2, none⟩ = some (.bool (shp k).2.2.1) ∧
  w.cell? ⟨0, k * 4 + 3, none⟩ = some (.bool (shp k).2.2.2) ∧ ReadI w (sv k) ((shp k).1.map Int.ofNat)

theorem ShapesAt.lt {w : World} (h : ShapesAt w) : 0 < w.heap.size := by
  obtain ⟨sv, hs⟩ := h
  exact World.block_lt_of_cell? w _ (hs 0 (by omega)).1

theorem ShapesAt.below {w w' : World} (h : ShapesAt w) (hb : Below w.heap.size w w') : ShapesAt w' := by
  have hlt := h.lt
  obtain ⟨sv, hs⟩ := h
  refine ⟨sv, fun k hk => ?_⟩
  obtain ⟨h1, h2, h3, h4, h5⟩ := hs k hk
  exact ⟨(hb.cell hlt).trans h1, (hb.cell hlt).trans h2, (hb.cell hlt).trans h3, (hb.cell hlt).trans h4, h5.below hb⟩

theorem ShapesAt.alloc {w : World} (h : ShapesAt w) (o : Obj) : ShapesAt (w.alloc o) := h.below ((Below.refl _ _).alloc (Nat.le_refl _) o)

/-- a node's cells -/
def nodeV (n : Nd) : List Value := [.int .i64 n.K, .int .i64 n.N, .int .i64 n.M, .string n.S]
/-- a slice of nodes, as it reads -/
def ReadN (w : World) (v : Value) (l : List Nd) : Prop := RowAt w 4 v l.length (l.flatMap nodeV)

theorem nodes_length (l : List Nd) : (l.flatMap nodeV).length = l.length * 4 := by
  induction l with
  | nil => rfl
  | cons n r ih => simp [List.flatMap_cons, nodeV, ih]; omega

theorem nodes_get (l : List Nd) (i : Nat) (hi : i < l.length) (j : Nat) (hj : j < 4) : (l.flatMap nodeV)[i * 4 + j]? = (nodeV l[i])[j]? := by
  induction l generalizing i with
  | nil => simp at hi
  | cons n r ih =>
    rw [List.flatMap_cons]
    cases i with
    | zero =>
      rw [List.getElem?_append_left (by simp [nodeV]; omega)]
      simp
    | succ i =>
      rw [List.getElem?_append_right (by simp [nodeV]; omega)]
      have e : (i + 1) * 4 + j - (nodeV n).length = i * 4 + j := by simp [nodeV]; omega
      rw [e, ih i (by simpa using hi)]
      rfl

theorem nodes_one (l : List Nd) : ∀ u, u ∈ l.flatMap nodeV → u.oneCell' = true := by
  intro u hu
  obtain ⟨n, _, hn⟩ := List.mem_flatMap.1 hu
  simp [nodeV] at hn
  rcases hn with rfl | rfl | rfl | rfl <;> rfl

section
variable {w w' : World} {v : Value} {l : List Nd}
theorem ReadN.below (h : ReadN w v l) (hb : Below w.heap.size w w') : ReadN w' v l := RowAt.below h hb
theorem ReadN.alloc (h : ReadN w v l) (o : Obj) : ReadN (w.alloc o) v l := RowAt.alloc h o
theorem ReadN.nil (w : World) : ReadN w (.slice none 0 0) [] := RowAt.nil w 4
/-- opened: where there is an element, the four cells of each -/
theorem ReadN.cases (h : ReadN w v l) : l.length ≤ maxLen ∧ ((l = [] ∧ ∃ a cap, v = .slice a 0 cap) ∨
    ∃ b off cap, v = .slice (some ⟨b, off, none⟩) l.length cap ∧ l.length ≤ cap ∧ cap ≤ maxLen ∧ b < w.heap.size ∧ ∀ i (hi : i < l.length), w.cell? ⟨b, off + i * 4, none⟩ = some (.int .i64 l[i].K) ∧ w.cell? ⟨b, off + i * 4 + 1, none⟩ = some (.int .i64 l[i].N) ∧
      w.cell? ⟨b, off + i * 4 + 2, none⟩ = some (.int .i64 l[i].M) ∧ w.cell? ⟨b, off + i * 4 + 3, none⟩ = some (.string l[i].S)) := by
  refine ⟨h.small, ?_⟩
  by_cases h0 : l = []
  · subst h0
    obtain ⟨a, cap, rfl, _⟩ := h.form
    exact .inl ⟨rfl, a, cap, rfl⟩
  · obtain ⟨b, off, cap, rfl, h1, h2, hb, hc⟩ := RowAt.pos h (List.length_pos_iff.2 h0)
    refine .inr ⟨b, off, cap, rfl, h1, h2, hb, fun i hi => ⟨?_, ?_, ?_, ?_⟩⟩
    · have := hc (i * 4 + 0) _ (nodes_get l i hi 0 (by omega)); simpa using this
    · have := hc (i * 4 + 1) _ (nodes_get l i hi 1 (by omega)); simpa [Nat.add_assoc] using this
    · have := hc (i * 4 + 2) _ (nodes_get l i hi 2 (by omega)); simpa [Nat.add_assoc] using this
    · have := hc (i * 4 + 3) _ (nodes_get l i hi 3 (by omega)); simpa [Nat.add_assoc] using this
theorem ReadN.len_slice (h : ReadN w v l) : ∃ a cap, v = .slice a l.length cap := by
  obtain ⟨a, cap, rfl, _⟩ := h.form
  exact ⟨a, cap, rfl⟩
end

end Go.Proofs.YtjhgpifccleknaaDoor
