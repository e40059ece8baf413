/- What the reference's Binds comes to, for a function's type and a pair's type; no condition. -/
import Derived.Test.YtjhgpifccleknaaDoorRefF
import Derived.BigRegion
namespace Go.Proofs.YtjhgpifccleknaaDoor
set_option linter.unusedSimpArgs false
set_option linter.unusedVariables false
open Go.RowKit

theorem pi_read (w2 : World) (t : TypeId) (zs : Array Value) (c : Nat) (h2 : 2 ≤ c) (hc : c ≤ maxLen) :
    ReadI ((w2.alloc (Obj.cells #[Value.int .i64 0, Value.int .i64 1] t)).alloc (Obj.cells (#[Value.int .i64 0, Value.int .i64 1] ++ zs) t)).drew.drew (.slice (some ⟨w2.heap.size + 1, 0, none⟩) 2 c) [0, 1] := by
  refine RowAt.drew (RowAt.drew ⟨rfl, _, c, rfl, h2, hc, fun _ => ⟨_, 0, rfl, by simp, fun j u hu => ?_⟩⟩)
  have e : (w2.alloc (Obj.cells #[Value.int .i64 0, Value.int .i64 1] t)).heap.size = w2.heap.size + 1 := by simp
  have h := World.cell?_alloc_new (w2.alloc (Obj.cells #[Value.int .i64 0, Value.int .i64 1] t)) (#[Value.int .i64 0, Value.int .i64 1] ++ zs) t (0 + j)
  rw [e] at h
  rw [h]
  match j, hu with
  | 0, hu => simp at hu; subst hu; simp [Array.getElem?_append]
  | 1, hu => simp at hu; subst hu; simp [Array.getElem?_append]

theorem pi_below {w w2 : World} (hb : Below w.heap.size w w2) (o1 o2 : Obj) : Below w.heap.size w ((w2.alloc o1).alloc o2).drew.drew :=
  ((hb.alloc hb.size _).alloc (by have := hb.size; simp; omega) _).drew.drew

set_option maxRecDepth 20000 in
set_option maxHeartbeats 4000000 in
theorem rb_3 (N M : Int) (S : ByteArray) (w : World) :
    Calls Tryd.prog 23 #[.agg #[.int .i64 3, .int .i64 N, .int .i64 M, .string S]] w (RBPost [0, 1] (decide (0 ≤ N) && decide (N ≤ 3) && (M == 0) && decide (S.size = 0)) w) := by
  obtain ⟨i0, hi, hz0, hz1, hz2⟩ := info_parts Tryd.infoInt
  obtain ⟨w2, hw2, hsz, hown, hb, c0, c1, c2, c3⟩ := rb_start w 3 N M S
  rw [← size0 S]
  have HO := Lib.hid hown; clear hown
  have HB := Lib.hid hb; clear hb
  have hlt : w.heap.size < w2.heap.size := by omega
  have hle : w.heap.size + 1 < w2.heap.size := by omega
  clear hsz
  have hcap : ¬ (281474976710656 < Builtin.nextslicecap 2 0 * Tryd.t3.bytes) := by decide
  have hd : decide (0 ≤ N) = false ∨ (decide (0 ≤ N) = true ∧ decide (N ≤ 3) = false) ∨ (decide (0 ≤ N) = true ∧ decide (N ≤ 3) = true ∧ (M == 0) = false) ∨ (decide (0 ≤ N) = true ∧ decide (N ≤ 3) = true ∧ (M == 0) = true) := by
    cases decide (0 ≤ N) <;> cases decide (N ≤ 3) <;> cases (M == 0) <;> simp
  rcases hd with h1 | ⟨h1, h2⟩ | ⟨h1, h2, h3⟩ | ⟨h1, h2, h3⟩
  all_goals
    rw [h1]
    try rw [h2]
    try rw [h3]
    go_enter Tryd.func23, Tryd.ntmps23
    go_wp2_with fail
    clear hw2
    go_region
    go_wp2_with fail
    go_ret2
    exact ⟨_, rfl, pi_read w2 _ _ _ (grownCap_ge w2.drew 2 0 3) (grownCap_le_maxLen w2.drew 2 0 3 (by unfold maxLen; omega)), pi_below HB.out _ _⟩

set_option maxRecDepth 20000 in
set_option maxHeartbeats 4000000 in
theorem rb_6 (N M : Int) (S : ByteArray) (w : World) :
    Calls Tryd.prog 23 #[.agg #[.int .i64 6, .int .i64 N, .int .i64 M, .string S]] w (RBPost [0, 1] (decide (0 ≤ N) && decide (N ≤ 3) && (M == 0) && decide (S.size = 0)) w) := by
  obtain ⟨i0, hi, hz0, hz1, hz2⟩ := info_parts Tryd.infoInt
  obtain ⟨w2, hw2, hsz, hown, hb, c0, c1, c2, c3⟩ := rb_start w 6 N M S
  rw [← size0 S]
  have HO := Lib.hid hown; clear hown
  have HB := Lib.hid hb; clear hb
  have hlt : w.heap.size < w2.heap.size := by omega
  have hle : w.heap.size + 1 < w2.heap.size := by omega
  clear hsz
  have hcap : ¬ (281474976710656 < Builtin.nextslicecap 2 0 * Tryd.t3.bytes) := by decide
  have hd : decide (0 ≤ N) = false ∨ (decide (0 ≤ N) = true ∧ decide (N ≤ 3) = false) ∨ (decide (0 ≤ N) = true ∧ decide (N ≤ 3) = true ∧ (M == 0) = false) ∨ (decide (0 ≤ N) = true ∧ decide (N ≤ 3) = true ∧ (M == 0) = true) := by
    cases decide (0 ≤ N) <;> cases decide (N ≤ 3) <;> cases (M == 0) <;> simp
  rcases hd with h1 | ⟨h1, h2⟩ | ⟨h1, h2, h3⟩ | ⟨h1, h2, h3⟩
  all_goals
    rw [h1]
    try rw [h2]
    try rw [h3]
    go_enter Tryd.func23, Tryd.ntmps23
    go_wp2_with fail
    clear hw2
    go_region
    go_wp2_with fail
    go_ret2
    exact ⟨_, rfl, pi_read w2 _ _ _ (grownCap_ge w2.drew 2 0 3) (grownCap_le_maxLen w2.drew 2 0 3 (by unfold maxLen; omega)), pi_below HB.out _ _⟩

end Go.Proofs.YtjhgpifccleknaaDoor
