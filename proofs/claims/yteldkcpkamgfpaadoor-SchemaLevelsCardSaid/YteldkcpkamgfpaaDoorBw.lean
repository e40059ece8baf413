/- A region that draws its order, whose calls make memory and whose other operations read what lay before. No function of the program is named here. -/
import Derived.Test.YteldkcpkamgfpaaDoorBa
import Derived.BigQuiet
import Derived.Deep.QuietTactic
namespace Go.Proofs.YteldkcpkamgfpaaDoor
set_option linter.unusedSimpArgs false
set_option linter.unusedVariables false
open Go.RowKit

/-- a world that leaves what lay below B in W -/
structure BW (B : Nat) (W : World) where
  w : World
  h : Below B W w
instance (B : Nat) (W : World) : Nonempty (BW B W) := ⟨⟨W, Below.refl _ _⟩⟩

theorem wp_region_bw {P : Program} {id : Nat} {Q : Exit → Act → World → Prop} {a : Act} {w : World} {l : List Oper} {B : Nat} {W : World} (hm : P.follows .mixedOrders = true) (hB : Region.lexB .any l.toArray = true)
    (hb : Below B W w.drew) (h : wpQuiet P l.toArray (fun w => ∃ x : BW B W, w = x.w) (fun a' => ∀ w', Below B W w' → Q .normal a' w') l a) : (Code.region id l.toArray true).wp P Q a w :=
  wp_region_quiet (C := fun w => ∃ x : BW B W, w = x.w) hm hB ⟨⟨_, hb⟩, rfl⟩ (by
    have e : l.toArray.toList = l := by simp
    rw [e]
    have : (fun a' => ∀ w', (∃ x : BW B W, w' = x.w) → Q .normal a' w') = (fun a' => ∀ w', Below B W w' → Q .normal a' w') := by
      funext a'
      refine propext ⟨fun h w' hb' => h w' ⟨⟨w', hb'⟩, rfl⟩, fun h w' hx => ?_⟩
      obtain ⟨x, rfl⟩ := hx
      exact h _ x.h
    rw [this]
    exact h)

end Go.Proofs.YteldkcpkamgfpaaDoor

