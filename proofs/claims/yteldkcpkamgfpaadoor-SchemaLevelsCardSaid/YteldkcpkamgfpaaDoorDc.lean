/- decls.terms, decls.closed; a declaration as it reads; condition: at most a million terms, the strings' sizes. -/
import Derived.Test.YteldkcpkamgfpaaDoorDb
namespace Go.Proofs.YteldkcpkamgfpaaDoor
set_option linter.unusedSimpArgs false
set_option linter.unusedVariables false
open Go.RowKit

/-- a declaration, as it reads -/
structure DeclV (w : World) (d : Dc) (vt vb vc : Value) : Prop where
  ty : ReadN w vt d.Ty
  bd : ReadN w vb d.Bd
  cons : ReadNNN w vc d.Cons
abbrev declV (d : Dc) (vt vb vc : Value) : Value := .agg #[.int .i64 d.Kind, .int .i64 d.Level, .string d.Name, vt, vb, vc]
theorem DeclV.below {w w' : World} {d : Dc} {vt vb vc : Value} (h : DeclV w d vt vb vc) (hb : Below w.heap.size w w') : DeclV w' d vt vb vc := ⟨h.ty.below hb, h.bd.below hb, h.cons.below hb⟩
theorem DeclV.alloc {w : World} {d : Dc} {vt vb vc : Value} (h : DeclV w d vt vb vc) (o : Obj) : DeclV (w.alloc o) d vt vb vc := h.below ((Below.refl _ _).alloc (Nat.le_refl _) o)

set_option maxHeartbeats 1000000 in
theorem dterms_any (d : Dc) (vt vb vc : Value) (w : World) (h : DeclV w d vt vb vc) (hn : d.Cons.flatten.length ≤ 1000000) :
    Calls Tryd.prog 78 #[declV d vt vb vc] w fun e w' => ∃ u, e = .returned u ∧ ReadNN w' u (termsD d) ∧ Below w.heap.size w w' := by
  obtain ⟨a1, c1, rfl⟩ := ReadN.len_slice h.ty
  obtain ⟨a2, c2, rfl⟩ := ReadN.len_slice h.bd
  obtain ⟨kd, hkd⟩ : ∃ k, d.Kind = k := ⟨_, rfl⟩
  have HKD := Lib.hid hkd
  have HD := Lib.hid h
  unfold declV
  rw [hkd]
  clear h hkd
  obtain ⟨lv, hlv⟩ : ∃ k, d.Level = k := ⟨_, rfl⟩
  obtain ⟨nm, hnm⟩ : ∃ k, d.Name = k := ⟨_, rfl⟩
  rw [hlv, hnm]
  clear hlv hnm
  obtain ⟨W, hW⟩ : ∃ m, w.alloc (.cells #[.int .i64 kd, .int .i64 lv, .string nm, .slice a1 d.Ty.length c1, .slice a2 d.Bd.length c2, vc] 36) = m := ⟨_, rfl⟩
  have hb : Below w.heap.size w W := by rw [← hW]; exact (Below.refl _ _).alloc (Nat.le_refl _) _
  have HB := Lib.hid hb
  clear hb
  have hcs := (MapKept.heap_alloc w (.cells #[.int .i64 kd, .int .i64 lv, .string nm, .slice a1 d.Ty.length c1, .slice a2 d.Bd.length c2, vc] 36)).1
  rw [hW] at hcs
  have c0 : W.cell? ⟨w.heap.size, 0, none⟩ = some (.int .i64 kd) := by rw [Lib.cell_of_heap hcs]; rfl
  have c3 : W.cell? ⟨w.heap.size, 3, none⟩ = some (.slice a1 d.Ty.length c1) := by rw [Lib.cell_of_heap hcs]; rfl
  have c4 : W.cell? ⟨w.heap.size, 4, none⟩ = some (.slice a2 d.Bd.length c2) := by rw [Lib.cell_of_heap hcs]; rfl
  have c5 : W.cell? ⟨w.heap.size, 5, none⟩ = some vc := by rw [Lib.cell_of_heap hcs]; rfl
  clear hcs
  have HD2 : Hid (DeclV W d (.slice a1 d.Ty.length c1) (.slice a2 d.Bd.length c2) vc) := Lib.hid (HD.out.below HB.out)
  by_cases h1 : kd = 1
  · subst h1
    go_enter Tryd.func78, Tryd.ntmps78
    go_wp2_with fail
    go_ret
    refine ⟨_, rfl, ?_, ?_⟩
    · rw [show termsD d = [d.Ty, d.Bd] from by unfold termsD; rw [if_pos HKD.out]]
      exact ReadNN.lit2 HD2.out.ty HD2.out.bd
    · exact HB.out.alloc HB.out.size _
  have n1 : (kd == 1) = false := by simpa using h1
  by_cases h2 : kd = 2
  · subst h2
    go_enter Tryd.func78, Tryd.ntmps78
    go_wp2_with fail
    go_ret
    refine ⟨_, rfl, ?_, ?_⟩
    · rw [show termsD d = [d.Ty] from by unfold termsD; rw [if_neg (by rw [HKD.out]; decide), if_pos HKD.out]]
      exact ReadNN.lit1 HD2.out.ty
    · exact HB.out.alloc HB.out.size _
  have n2 : (kd == 2) = false := by simpa using h2
  by_cases h3 : kd = 3
  · subst h3
    go_enter Tryd.func78, Tryd.ntmps78
    go_wp2_with (go_at_call 86; go_must (refine (concat2_any d.Cons vc W HD2.out.cons hn).mono ?_))
    rintro e w1 ⟨u, rfl, hu, hb1⟩
    have HU := Lib.hid hu
    have HB1 := Lib.hid (HB.out.trans (hb1.mono HB.out.size))
    clear hu hb1
    go_wp2_with fail
    go_ret
    refine ⟨_, rfl, ?_, HB1.out⟩
    rw [show termsD d = d.Cons.flatten from by unfold termsD; rw [if_neg (by rw [HKD.out]; decide), if_neg (by rw [HKD.out]; decide), if_pos HKD.out]]
    exact HU.out
  have n3 : (kd == 3) = false := by simpa using h3
  go_enter Tryd.func78, Tryd.ntmps78
  go_wp2_with fail
  go_ret
  refine ⟨_, rfl, ?_, HB.out⟩
  rw [show termsD d = [] from by unfold termsD; rw [if_neg (by rw [HKD.out]; exact h1), if_neg (by rw [HKD.out]; exact h2), if_neg (by rw [HKD.out]; exact h3)]]
  exact ⟨[], rfl, RowAt.nil _ 1, fun i h => absurd h (by simp)⟩

end Go.Proofs.YteldkcpkamgfpaaDoor
