/- An argument that is a slice of ints, as the walks read it. -/
import Derived.Test.YtkkjcgjebaeniaaRows
import Derived.Test.YtkkjcgjebaeniaaBase
import Derived.ProofKit
import Derived.OpenShut
namespace Go.Proofs.Ytkkjcgjebaeniaa
open Go.RowKit Go.ChangeShapes Go.WideShapes

theorem read_ints {H : Type} {enc : TypeId × Value → H} {W : World} {base : Nat} {v : Value} {d : DataW H} {p : List MemPlace} (hval : Value.okWide Try.prog W .any base 29 v)
    (h : DataW.Trod enc Try.prog W 0 (fun _ => true) true 29 v d p) : ∃ l : List Int, ReadI W v l := by
  obtain ⟨a0, len0, cap0, rfl⟩ := okWide_slice Try.underlying29 hval
  obtain ⟨fuel, hf⟩ := h
  rcases open_ints Try.underlying29 Try.underlying3 (by kernel_rfl) hf with ⟨hcs, _⟩ | ⟨a, len, cap, zs, hcs, _, hl, hm, hz, _, hcell, _⟩
  · simp [Value.cells] at hcs
    obtain ⟨rfl, rfl, rfl⟩ := hcs
    exact ⟨[], RowAt.nil W 1⟩
  · simp [Value.cells] at hcs
    obtain ⟨rfl, rfl, rfl⟩ := hcs
    have hzl : len0 ≤ zs.length := by rw [hz]; split <;> omega
    have hlen : (zs.take len0).length = len0 := by simp; omega
    refine ⟨zs.take len0, ?_⟩
    unfold ReadI
    rw [hlen]
    refine ⟨by simp; omega, _, cap0, rfl, hl, hm, fun hn => ?_⟩
    obtain ⟨b, off, rfl, hc'⟩ := ints_at hcell (by omega)
    refine ⟨b, off, rfl, World.block_lt_of_cell? W _ (hc' 0 (by omega)), fun j u hu => ?_⟩
    rw [List.getElem?_map] at hu
    obtain ⟨n, hn1, rfl⟩ := Option.map_eq_some_iff.1 hu
    have hj : j < len0 := by
      have := (List.getElem?_eq_some_iff.1 hn1).1
      omega
    rw [hc' j (by omega)]
    rw [List.getElem?_take, if_pos hj] at hn1
    simp [List.getD_eq_getElem?_getD, hn1]

end Go.Proofs.Ytkkjcgjebaeniaa
