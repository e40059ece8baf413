/- cornicelaw17.shown: it says yes; where the table of shapes lies as it is laid. -/
import Derived.Test.YteldkcpkamgfpaaDoorDz
namespace Go.Proofs.YteldkcpkamgfpaaDoor
set_option linter.unusedSimpArgs false
set_option linter.unusedVariables false
open Go.RowKit

def dN : ByteArray := ⟨#[78]⟩
def d0 : Dc := ⟨3, 1, dN, [], [], [[], [ownD dN]]⟩
def twoT : List Nd := [⟨25, 0, 0, dN⟩, ⟨25, 0, 0, dN⟩, ⟨3, 0, 0, ByteArray.empty⟩]
theorem d0_sch : schE nmB freeN d0 = 0 := by decide +kernel
theorem d0_bas : basedB nmB freeN d0 = true := by decide +kernel
theorem two_pos : posE dN twoT = 170 := by decide +kernel

/-- six blocks laid one behind the other -/
theorem six_blocks (w : World) (x0 x1 x2 x3 x4 x5 : Array Value) (t0 t1 t2 t3 t4 t5 : TypeId) : ∃ W, ((((((w.alloc (Obj.cells x0 t0)).alloc (Obj.cells x1 t1)).alloc (Obj.cells x2 t2)).alloc (Obj.cells x3 t3)).alloc (Obj.cells x4 t4)).alloc (Obj.cells x5 t5)) = W ∧ Below w.heap.size w W ∧
    Blk W w.heap.size t0 x0 ∧ Blk W (w.heap.size + 1) t1 x1 ∧ Blk W (w.heap.size + 1 + 1) t2 x2 ∧ Blk W (w.heap.size + 1 + 1 + 1) t3 x3 ∧ Blk W (w.heap.size + 1 + 1 + 1 + 1) t4 x4 ∧ Blk W (w.heap.size + 1 + 1 + 1 + 1 + 1) t5 x5 := by
  obtain ⟨W4, h4, hs, hb, b0, b1, b2, b3⟩ := four_blocks w x0 x1 x2 x3 t0 t1 t2 t3
  rw [h4]
  refine ⟨_, rfl, (hb.alloc (by omega) _).alloc (by simp; omega) _, (b0.alloc _).alloc _, (b1.alloc _).alloc _, (b2.alloc _).alloc _, (b3.alloc _).alloc _, ?_, ?_⟩
  · have := (Blk.new W4 t4 x4).alloc (Obj.cells x5 t5)
    rw [hs] at this
    exact this
  · have := Blk.new (W4.alloc (Obj.cells x4 t4)) t5 x5
    rw [World.size_alloc, hs] at this
    exact this

set_option maxRecDepth 20000 in
set_option maxHeartbeats 4000000 in
theorem shown17_any (w : World) (hS : ShapesAt w) :
    Calls Tryd.prog 9 #[] w (RetB (.bool true) w) := by
  obtain ⟨W, hW, hb, b0, b1, b2, b3, b4, b5⟩ := six_blocks w #[.int .i64 25, .int .i64 0, .int .i64 0, .string dN] #[] #[.slice (some ⟨w.heap.size, 0, none⟩) 1 1] #[.slice (some ⟨w.heap.size + 1, 0, none⟩) 0 0, .slice (some ⟨w.heap.size + 1 + 1, 0, none⟩) 1 1]
    #[.int .i64 3, .int .i64 1, .string dN, .slice none 0 0, .slice none 0 0, .slice (some ⟨w.heap.size + 1 + 1 + 1, 0, none⟩) 2 2]
    #[.int .i64 25, .int .i64 0, .int .i64 0, .string dN, .int .i64 25, .int .i64 0, .int .i64 0, .string dN, .int .i64 3, .int .i64 0, .int .i64 0, .string ByteArray.empty] 30 22 22 42 36 30
  have hown : ReadN W (.slice (some ⟨w.heap.size, 0, none⟩) 1 1) (ownD dN) := RowAt.of_blk (size := 4) (n := 1) b0 rfl (by unfold maxLen; omega)
  have htwo : ReadN W (.slice (some ⟨w.heap.size + 1 + 1 + 1 + 1 + 1, 0, none⟩) 3 3) twoT := RowAt.of_blk (size := 4) (n := 3) b5 rfl (by unfold maxLen; omega)
  have hnn0 : ReadNN W (.slice (some ⟨w.heap.size + 1, 0, none⟩) 0 0) [] := ReadNN.mk (L := []) (vs := []) (RowAt.of_blk (size := 1) (n := 0) b1 rfl (by unfold maxLen; omega)) ⟨rfl, fun i u l h => by simp at h⟩
  have hnn1 : ReadNN W (.slice (some ⟨w.heap.size + 1 + 1, 0, none⟩) 1 1) [ownD dN] := ReadNN.mk (L := [ownD dN]) (vs := [.slice (some ⟨w.heap.size, 0, none⟩) 1 1]) (RowAt.of_blk (size := 1) (n := 1) b2 rfl (by unfold maxLen; omega)) ⟨rfl, fun i u l h1 h2 => by
    match i, h1, h2 with
    | 0, h1, h2 => cases h1; cases h2; exact hown⟩
  have hnnn : ReadNNN W (.slice (some ⟨w.heap.size + 1 + 1 + 1, 0, none⟩) 2 2) [[], [ownD dN]] :=
    ⟨[.slice (some ⟨w.heap.size + 1, 0, none⟩) 0 0, .slice (some ⟨w.heap.size + 1 + 1, 0, none⟩) 1 1], rfl, RowAt.of_blk (size := 1) (n := 2) b3 rfl (by unfold maxLen; omega), fun i hi u hu => by
      match i, hi, hu with
      | 0, _, hu => cases hu; exact hnn0
      | 1, _, hu => cases hu; exact hnn1⟩
  have hd : DeclV W d0 (.slice none 0 0) (.slice none 0 0) (.slice (some ⟨w.heap.size + 1 + 1 + 1, 0, none⟩) 2 2) := ⟨RowAt.nil _ 4, RowAt.nil _ 4, hnnn⟩
  have hsm : SmallNN (termsD d0) := by
    intro l hl n hn
    have : l = ownD dN := by simpa [termsD, d0] using hl
    subst this
    have : n = ⟨25, 0, 0, dN⟩ := by simpa [ownD] using hn
    subst this
    show dN.size ≤ maxLen
    exact of_decide_eq_true (by kernel_rfl)
  have hsw : SmallN twoT := by
    intro n hn
    simp only [twoT, List.mem_cons, List.not_mem_nil, or_false] at hn
    rcases hn with rfl | rfl | rfl <;> exact of_decide_eq_true (by kernel_rfl)
  have HC : Hid (Calls Tryd.prog 16 #[declV d0 (.slice none 0 0) (.slice none 0 0) (.slice (some ⟨w.heap.size + 1 + 1 + 1, 0, none⟩) 2 2)] W (RetB (.int .i64 0) W)) := Lib.hid (by
    have := scheck_any d0 _ _ _ W hd (hS.below hb) hsm (by decide) (of_decide_eq_true (by kernel_rfl))
    rw [d0_sch] at this
    exact this)
  have HBA : Hid (∀ w', Below W.heap.size W w' → Calls Tryd.prog 19 #[declV d0 (.slice none 0 0) (.slice none 0 0) (.slice (some ⟨w.heap.size + 1 + 1 + 1, 0, none⟩) 2 2)] w' (RetB (.bool true) w')) := Lib.hid (fun w' h => by
    have := based_any d0 _ _ _ w' (hd.below h) ((hS.below hb).below h) hsm (by decide) (of_decide_eq_true (by kernel_rfl)) (by decide)
    rw [d0_bas] at this
    exact this)
  have HP : Hid (∀ w', Below W.heap.size W w' → Calls Tryd.prog 13 #[.string dN, .slice (some ⟨w.heap.size + 1 + 1 + 1 + 1 + 1, 0, none⟩) 3 3] w' (RetB (.int .i64 170) w')) := Lib.hid (fun w' h => by
    have := positive_any dN twoT _ w' ((hS.below hb).below h) (htwo.below h) hsw
    rw [two_pos] at this
    exact this)
  have HB := Lib.hid hb
  have HW := Lib.hid hW
  have B4 := Lib.hid b4
  clear hW hb b0 b1 b2 b3 b4 b5 hown htwo hnn0 hnn1 hnnn hd hsm hsw
  go_enter Tryd.func9, Tryd.ntmps9
  go_wp2_with fail
  have hw := HW.out
  unfold dN at hw
  have he : (⟨#[]⟩ : ByteArray) = ByteArray.empty := rfl
  rw [he, hw]
  refine HC.out.mono ?_
  rintro e w1 ⟨rfl, hb1⟩
  have c0 := (hb1.cell (p := ⟨w.heap.size + 1 + 1 + 1 + 1, 0, none⟩) B4.out.lt).trans (B4.out.cell 0)
  have c1 := (hb1.cell (p := ⟨w.heap.size + 1 + 1 + 1 + 1, 1, none⟩) B4.out.lt).trans (B4.out.cell 1)
  have c2 := (hb1.cell (p := ⟨w.heap.size + 1 + 1 + 1 + 1, 2, none⟩) B4.out.lt).trans (B4.out.cell 2)
  have c3 := (hb1.cell (p := ⟨w.heap.size + 1 + 1 + 1 + 1, 3, none⟩) B4.out.lt).trans (B4.out.cell 3)
  have c4 := (hb1.cell (p := ⟨w.heap.size + 1 + 1 + 1 + 1, 4, none⟩) B4.out.lt).trans (B4.out.cell 4)
  have c5 := (hb1.cell (p := ⟨w.heap.size + 1 + 1 + 1 + 1, 5, none⟩) B4.out.lt).trans (B4.out.cell 5)
  simp only [List.getElem?_toArray, List.getElem?_cons_zero, List.getElem?_cons_succ] at c0 c1 c2 c3 c4 c5
  have HBA1 := Lib.hid (HBA.out w1 hb1)
  have HB1 := Lib.hid hb1
  clear hb1 HBA HC hw he HW B4
  go_wp2_with fail
  refine HBA1.out.mono ?_
  rintro e w2 ⟨rfl, hb2⟩
  have HB2 := Lib.hid (HB1.out.trans (hb2.mono HB1.out.size))
  have HP1 := Lib.hid (HP.out w2 HB2.out)
  clear hb2 HBA1 HP c0 c1 c2 c3 c4 c5
  go_wp2_with fail
  refine HP1.out.mono ?_
  rintro e w3 ⟨rfl, hb3⟩
  have HB3 := Lib.hid (HB2.out.trans (hb3.mono HB2.out.size))
  clear hb3 HP1
  go_wp2_with fail
  go_ret
  exact ⟨rfl, HB.out.trans (HB3.out.mono HB.out.size)⟩

end Go.Proofs.YteldkcpkamgfpaaDoor
