/- From the row's own words to the walks': the listed table as 'ShapesAt', and each argument's reading ('ReadN' and its kin). The heap that the door's own run leaves meets the list. -/
import Derived.Test.YtjhgpifccleknaaDoorRows
import Derived.Test.YtjhgpifccleknaaDoorShapes
import Derived.ProofKit
import Derived.OpenShut
import Derived.LaidMore
import Derived.LaidLaws
import Derived.LaidHandle
import Derived.Deep.Slices
import Derived.ChangeOld
namespace Go.Proofs.YtjhgpifccleknaaDoor
set_option linter.unusedSimpArgs false
set_option linter.unusedVariables false
open Go.RowKit Go.ChangeShapes Go.WideShapes Go.Deep

def doorSteps : Nat := 62
def laidList : List (String × DataW Unit) := [("cornice/term.shapes", Rows.laid_cornice_term_shapes)]

set_option maxRecDepth 100000 in
theorem door_met (os : Os) (args : Array Value) : laidMetH Tryd.prog laidList ((World.doorLaid Tryd.prog doorSteps os).forCall (fun _ _ => 0) ⟨#[], args, []⟩).memory :=
  laidMetH_of_parts3 (fuel := 8) (laidMet_of_run' 8 (by kernel_rfl) (by kernel_rfl)) (by kernel_rfl) (by kernel_rfl)

theorem gShapes : Tryd.prog.globalNamed "cornice/term.shapes" = some 0 := by kernel_rfl
theorem tShapes : (Tryd.prog.globals[0]?).map (·.type) = some 70 := by kernel_rfl
theorem cShape : Tryd.prog.cellsOf 69 = 4 := by kernel_rfl
theorem cInt : Tryd.prog.cellsOf 3 = 1 := by kernel_rfl
theorem cInts : Tryd.prog.cellsOf 25 = 1 := by kernel_rfl
theorem cBool : Tryd.prog.cellsOf 4 = 1 := by kernel_rfl
theorem cString : Tryd.prog.cellsOf 9 = 1 := by kernel_rfl
theorem cNode : Tryd.prog.cellsOf 23 = 4 := by kernel_rfl
theorem cNodes : Tryd.prog.cellsOf 30 = 1 := by kernel_rfl

/-- a row's datum, out of what the walks know of kinds -/
def bindsD (l : List Nat) : DataW Unit := match l with | [] => .nil | l => .slice (l.map fun n => .lit (.int .i64 (Int.ofNat n))) []
def shapeD (k : Nat) : DataW Unit := .agg [bindsD (shp k).1, .lit (.bool (shp k).2.1), .lit (.bool (shp k).2.2.1), .lit (.bool (shp k).2.2.2)]
theorem laid_eq : (Rows.laid_cornice_term_shapes : DataW Unit) = .agg ((List.range 30).map shapeD) := by kernel_rfl

/-- a slice of ints, out of its reading -/
theorem ints_read {H : Type} {enc : TypeId × Value → H} {P : Program} {w : World} {base : Nat} {spare : Nat → Bool} {held : Bool} {t e : TypeId} {fuel : Nat} {v : Value} {x : DataW H × List MemPlace}
    (ht : P.underlying t = some (.slice e)) (he : P.underlying e = some (.int .i64)) (hc : P.cellsOf e = 1) (h : DataW.trod enc P w base spare held fuel t [v] = some x) :
    ∃ l : List Int, ReadI w v l ∧ (x.1 = .nil ∧ l = [] ∨ ∃ sp, x.1 = .slice (l.map fun n => .lit (.int .i64 n)) sp) := by
  rcases open_ints ht he hc h with ⟨hcs, hx⟩ | ⟨a, len, cap, zs, hcs, _, hl, hm, hz, hx, hcell, hwz⟩
  · simp at hcs
    subst hcs
    exact ⟨[], RowAt.nil w 1, .inl ⟨by rw [hx], rfl⟩⟩
  · simp at hcs
    subst hcs
    have hzl : len ≤ zs.length := by rw [hz]; split <;> omega
    have hlen : (zs.take len).length = len := by simp; omega
    refine ⟨zs.take len, ?_, .inr ⟨_, by rw [hx]; rfl⟩⟩
    unfold ReadI
    rw [hlen]
    refine ⟨by simp; omega, _, cap, rfl, hl, hm, fun hn => ?_⟩
    obtain ⟨b, off, rfl, hc'⟩ := ints_at hcell (by omega)
    refine ⟨b, off, rfl, World.block_lt_of_cell? w _ (hc' 0 (by omega)), fun j u hu => ?_⟩
    rw [List.getElem?_map] at hu
    obtain ⟨n, hn1, rfl⟩ := Option.map_eq_some_iff.1 hu
    have hj : j < len := by
      have := (List.getElem?_eq_some_iff.1 hn1).1
      omega
    rw [hc' j (by omega)]
    rw [List.getElem?_take, if_pos hj] at hn1
    simp [List.getD_eq_getElem?_getD, hn1]

theorem shapesAt_of_laid {w : World} (h : laidMetH Tryd.prog laidList w) : ShapesAt w := by
  unfold laidList at h
  rw [MakeChecks.laidMetH_plain _ _ _ (by kernel_rfl)] at h
  obtain ⟨ps, ⟨g0, t0, cs0, f0, p0, q0, hg0, ht0, hv0, hd0, _, _⟩, _, _⟩ := h
  obtain rfl := Option.some.inj (gShapes.symm.trans hg0)
  obtain rfl := Option.some.inj (tShapes.symm.trans ht0)
  rw [laid_eq] at hd0
  obtain ⟨xs, m, rfl, hx, hlen, hn, hel⟩ := DataW.trod_array Tryd.underlying70 hd0
  have hxs : xs.map (·.1) = (List.range 30).map shapeD := by
    simp only [Prod.mk.injEq, DataW.agg.injEq] at hx
    exact hx.1.symm
  rw [cShape] at hel
  have each : ∀ k, k < 30 → ∃ v, w.cell? ⟨0, k * 4, none⟩ = some v ∧ w.cell? ⟨0, k * 4 + 1, none⟩ = some (.bool (shp k).2.1) ∧ w.cell? ⟨0, k * 4 + 2, none⟩ = some (.bool (shp k).2.2.1) ∧
      w.cell? ⟨0, k * 4 + 3, none⟩ = some (.bool (shp k).2.2.2) ∧ ReadI w v ((shp k).1.map Int.ofNat) := by
    intro k hk
    have hxk : ∃ y, xs[k]? = some y ∧ y.1 = shapeD k := by
      have h1 : (xs.map (·.1))[k]? = some (shapeD k) := by rw [hxs]; simp [hk]
      rw [List.getElem?_map] at h1
      obtain ⟨y, hy, hy2⟩ := Option.map_eq_some_iff.1 h1
      exact ⟨y, hy, hy2⟩
    obtain ⟨y, hy, hy2⟩ := hxk
    have hek := hel k hk
    rw [hy] at hek
    obtain ⟨zs, n, _, hz, hzl, hzn, hf⟩ := DataW.trod_struct Tryd.underlying69 hek
    rw [hz] at hy2
    simp only [shapeD, DataW.agg.injEq] at hy2
    match zs, hzn, hy2, hf with
    | [z0, z1, z2, z3], _, hy2, hf =>
      simp only [List.map_cons, List.map_nil, List.cons.injEq, and_true] at hy2
      obtain ⟨e0, e1, e2, e3⟩ := hy2
      have f0 : DataW.trod (fun _ => ()) Tryd.prog w 0 (fun _ => true) false n 25 (List.take (Tryd.prog.cellsOf 25) (List.drop 0 (List.take 4 (List.drop (k * 4) cs0.toList)))) = some z0 := hf 0 _ rfl
      have f1 : DataW.trod (fun _ => ()) Tryd.prog w 0 (fun _ => true) false n 4 (List.take (Tryd.prog.cellsOf 4) (List.drop 1 (List.take 4 (List.drop (k * 4) cs0.toList)))) = some z1 := hf 1 _ rfl
      have f2 : DataW.trod (fun _ => ()) Tryd.prog w 0 (fun _ => true) false n 4 (List.take (Tryd.prog.cellsOf 4) (List.drop 2 (List.take 4 (List.drop (k * 4) cs0.toList)))) = some z2 := hf 2 _ rfl
      have f3 : DataW.trod (fun _ => ()) Tryd.prog w 0 (fun _ => true) false n 4 (List.take (Tryd.prog.cellsOf 4) (List.drop 3 (List.take 4 (List.drop (k * 4) cs0.toList)))) = some z3 := hf 3 _ rfl
      rw [cInts] at f0
      rw [cBool] at f1 f2 f3
      have cell : ∀ i, i < 4 → w.cell? ⟨0, k * 4 + i, none⟩ = cs0.toList[k * 4 + i]? := by
        intro i _
        have := World.var?_cell hg0 hv0 (k * 4 + i)
        rw [this]
        simp
      have hlen' : cs0.toList.length = 120 := by rw [hlen]; kernel_rfl
      have at1 : ∀ i, i < 4 → ∃ v, (List.take 1 (List.drop i (List.take 4 (List.drop (k * 4) cs0.toList)))) = [v] ∧ cs0.toList[k * 4 + i]? = some v := by
        intro i hi
        have h1 : k * 4 + i < cs0.toList.length := by omega
        refine ⟨cs0.toList[k * 4 + i], ?_, List.getElem?_eq_getElem h1⟩
        apply List.ext_getElem?
        intro j
        cases j with
        | zero =>
          rw [List.getElem?_take, if_pos (by omega), List.getElem?_drop, List.getElem?_take, if_pos (by omega), List.getElem?_drop]
          rw [show k * 4 + (i + 0) = k * 4 + i from by omega, List.getElem?_eq_getElem h1]
          rfl
        | succ j =>
          rw [List.getElem?_take, if_neg (by omega)]
          rfl
      obtain ⟨v0, g0, c0⟩ := at1 0 (by omega)
      obtain ⟨v1, g1, c1⟩ := at1 1 (by omega)
      obtain ⟨v2, g2, c2⟩ := at1 2 (by omega)
      obtain ⟨v3, g3, c3⟩ := at1 3 (by omega)
      rw [g0] at f0
      rw [g1] at f1
      rw [g2] at f2
      rw [g3] at f3
      obtain ⟨b1, q1, q1'⟩ := DataW.trod_bool Tryd.underlying4 f1
      obtain ⟨b2, q2, q2'⟩ := DataW.trod_bool Tryd.underlying4 f2
      obtain ⟨b3, q3, q3'⟩ := DataW.trod_bool Tryd.underlying4 f3
      obtain ⟨l, hl, hl2⟩ := ints_read Tryd.underlying25 Tryd.underlying3 cInt f0
      rw [q1'] at e1
      rw [q2'] at e2
      rw [q3'] at e3
      simp only [DataW.lit.injEq, Lit.bool.injEq] at e1 e2 e3
      simp only [List.cons.injEq, and_true] at q1 q2 q3
      refine ⟨v0, ?_, ?_, ?_, ?_, ?_⟩
      · have := cell 0 (by omega); rw [c0] at this; simpa using this
      · rw [cell 1 (by omega), c1, q1, e1]
      · rw [cell 2 (by omega), c2, q2, e2]
      · rw [cell 3 (by omega), c3, q3, e3]
      · have : l = (shp k).1.map Int.ofNat := by
          rw [e0] at hl2
          unfold bindsD at hl2
          rcases hl2 with ⟨h1, h2⟩ | ⟨sp, h1⟩
          · split at h1
            · rename_i hb; rw [h2, hb]; rfl
            · cases h1
          · split at h1
            · cases h1
            · rename_i hb
              simp only [DataW.slice.injEq] at h1
              have h3 := h1.1
              have h4 : (((shp k).1.map Int.ofNat).map fun n => (DataW.lit (.int .i64 n) : DataW Unit)) = l.map fun n => .lit (.int .i64 n) := by
                rw [← h3, List.map_map]; rfl
              exact (List.map_inj_right (fun a b hab => by simpa using hab)).1 h4.symm
        rw [← this]
        exact hl
  have all : ∀ k, ∃ v, k < 30 → w.cell? ⟨0, k * 4, none⟩ = some v ∧ w.cell? ⟨0, k * 4 + 1, none⟩ = some (.bool (shp k).2.1) ∧ w.cell? ⟨0, k * 4 + 2, none⟩ = some (.bool (shp k).2.2.1) ∧
      w.cell? ⟨0, k * 4 + 3, none⟩ = some (.bool (shp k).2.2.2) ∧ ReadI w v ((shp k).1.map Int.ofNat) := by
    intro k
    by_cases hk : k < 30
    · obtain ⟨v, hv⟩ := each k hk
      exact ⟨v, fun _ => hv⟩
    · exact ⟨.int .i64 0, fun h => absurd h hk⟩
  exact ⟨fun k => (all k).choose, fun k hk => (all k).choose_spec hk⟩

end Go.Proofs.YtjhgpifccleknaaDoor
