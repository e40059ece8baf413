/- What the reference's Binds comes to, for a right eliminator; condition: a string's size. -/
import Derived.Test.YtjhgpifccleknaaDoorRefE
import Derived.Deep.Cut
namespace Go.Proofs.YtjhgpifccleknaaDoor
set_option linter.unusedSimpArgs false
set_option linter.unusedVariables false
open Go.RowKit

set_option maxRecDepth 20000 in
set_option maxHeartbeats 2000000 in
theorem rb_27 (m : Nat) (S : ByteArray) (hs : S.size ≤ maxLen) (w : World) (h0 : nameB S = true) (hm : m ≤ 6) :
    Calls Tryd.prog 23 #[.agg #[.int .i64 27, .int .i64 0, .int .i64 (m : Int), .string S]] w (RBPost (1 :: List.replicate (m + 1) 0) true w) := by
  obtain ⟨i0, hi, hz0, hz1, hz2⟩ := info_parts Tryd.infoInt
  obtain ⟨w2, hw2, hsz, hown, hb, c0, c1, c2, c3⟩ := rb_start w 27 0 m S
  have HO := Lib.hid hown; clear hown
  have HB := Lib.hid hb; clear hb
  have hlt : w.heap.size < w2.heap.size := by omega
  have hle : w.heap.size + 1 < w2.heap.size := by omega
  have HSZ := Lib.hid hs; clear hs
  clear hsz
  have HN := Lib.hid h0; clear h0
  have hone : ∀ u ∈ [Value.int .i64 1], u.oneCell' = true := by intro u hu; simp at hu; subst hu; rfl
  have HONE := Lib.hid hone; clear hone
  go_enter Tryd.func23, Tryd.ntmps23
  go_upto_region 52 with (go_at_call 25; refine (refname_any S HSZ.out _).mono ?_; rw [HN.out]; rintro e w9 ⟨rfl, rfl⟩)
  clear hw2
  go_wp2_with (first
    | (at_builtin; refine wpList_append_run rfl (.tmp 222) (.tmp 225) 25 3 rfl _ _ rfl rfl HRUN.out ?_)
    | (at_builtin; go_must (refine wpList_append_row rfl (.tmp 219) (.tmp 220) 25 rfl w.heap.size 3 i0 (.int .i64 0) 1 8 Tryd.underlying25 hi hz0 hz1 hz2 rfl (by decide) (.slice (some ⟨w.heap.size + 1, 0, none⟩) 0 0) 0 [] rfl (HO.out.alloc _) (.slice (some ⟨w2.heap.size, 0, none⟩) 1 1) 1 [.int .i64 1] rfl (RowAt.lit w2 _ #[.int .i64 1] 1 rfl (by unfold maxLen; omega)) HONE.out (by omega) (by unfold maxLen; omega) (by simp; omega) ?_); intro v5 w5 hown5 hg5 hat5
       have HO5 := Lib.hid hown5; clear hown5
       have hb5 : Below w.heap.size w w5 := (HB.out.alloc HB.out.size _).grown hg5 (by have := HB.out.size; simp; omega) (fun g hg => by simp [Value.ownBlock] at hg; omega)
       have d2 : w5.cell? ⟨w.heap.size, 2, none⟩ = some (.int .i64 (m : Int)) := hg5.cell ((((Below.refl _ w2).alloc (Nat.le_refl _) _).cell (p := ⟨w.heap.size, 2, none⟩) hlt).trans c2) (by simp [Value.ownBlock])
       clear hg5 hat5
       obtain ⟨v6, w6, hrun, hown6, hg6, _⟩ := run_append_zero_row (P := Tryd.prog) w5 w.heap.size 25 3 25 3 i0 (.int .i64 0) 1 8 Tryd.underlying25 Tryd.underlying3 hi hz0 hz1 hz2 rfl (by decide) v5 (0 + 1) ([] ++ [.int .i64 1]) HO5.out (m + 1) (by omega) (by rw [show (Value.int IntKind.i64 0).cells = #[Value.int .i64 0] from rfl, zeroCells_int]; intro u hu; rw [List.mem_replicate] at hu; rw [hu.2]; rfl) (by unfold maxLen; omega) (by omega) hb5.size
       have e1 : ((m + 1 : Nat) : Int) = (m : Int) + 1 := by omega
       rw [e1] at hrun
       have HRUN := Lib.hid hrun; clear hrun e1
       have HO6 := Lib.hid hown6; clear hown6
       have HG6 := Lib.hid hg6; clear hg6))
  go_ret2
  have hb6 : Below w.heap.size w w6 := hb5.grown HG6.out hb5.size (fun g hg => (HO5.out.lt g hg).1)
  exact ⟨v6, rfl, read_of_own (l := 1 :: List.replicate (m + 1) 0) HO6.out (by simp; omega) (by rw [show (Value.int IntKind.i64 0).cells = #[Value.int .i64 0] from rfl, zeroCells_int]; simp), hb6⟩

end Go.Proofs.YtjhgpifccleknaaDoor
