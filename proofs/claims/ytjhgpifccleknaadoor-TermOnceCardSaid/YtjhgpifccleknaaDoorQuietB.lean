/- A region that draws its order, whose calls make memory and hand back plain values: walked once, in the class of worlds that leave what lay below as it was. No function of the program is named here. -/
import Derived.Test.YtjhgpifccleknaaDoorRowLaws
import Derived.BigQuiet
import Derived.Deep.QuietTactic
namespace Go.Proofs.YtjhgpifccleknaaDoor
set_option linter.unusedSimpArgs false
set_option linter.unusedVariables false
open Go.RowKit

/-- the class -/
def Bel (B : Nat) (W w : World) : Prop := Below B W w
theorem bel_const {B : Nat} {W : World} (p : Prop) : (∀ w, Bel B W w → p) ↔ p := ⟨fun h => h W (Below.refl _ _), fun h _ _ => h⟩

theorem wp_region_below {P : Program} {id : Nat} {Q : Exit → Act → World → Prop} {a : Act} {w : World} {l : List Oper} {B : Nat} {W : World} (hm : P.follows .mixedOrders = true) (hB : Region.lexB .any l.toArray = true)
    (hb : Below B W w.drew) (h : wpQuiet P l.toArray (Bel B W) (fun a' => ∀ w', Bel B W w' → Q .normal a' w') l a) : (Code.region id l.toArray true).wp P Q a w :=
  wp_region_quiet (C := Bel B W) hm hB hb (by simpa using h)

end Go.Proofs.YtjhgpifccleknaaDoor
