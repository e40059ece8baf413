/- What the reference's Binds comes to, for constructors and eliminators, and for kinds that are none; condition: a string's size. What the reference's Binds comes to, for a right eliminator; condition: a string's size. What the reference's Binds comes to, for a function's type and a pair's type; no condition. What the reference's Binds comes to, for every node; condition: a string's size. The law packages' shown of chapter 2, and TermNodes: for every node and text, where the table of shapes lies as it is laid. Chapter 2's heavy. -/
import Derived.Test.YteldkcpkamgfpaaDoorRb
import Derived.Test.YteldkcpkamgfpaaDoorBa
import Derived.Deep.Cut
import Derived.BigRegion
import Derived.Test.YteldkcpkamgfpaaDoorRi
namespace Go.Proofs.YteldkcpkamgfpaaDoor
set_option linter.unusedSimpArgs false
set_option linter.unusedVariables false
open Go.RowKit

set_option maxRecDepth 20000 in
set_option maxHeartbeats 2000000 in
theorem rb_26_no (N M : Int) (S : ByteArray) (hs : S.size ≤ maxLen) (w : World) (hno : ¬ (nameB S = true ∧ 0 ≤ N ∧ N < 6 ∧ 0 ≤ M ∧ M ≤ 6)) :
    Calls Tryd.prog 45 #[.agg #[.int .i64 26, .int .i64 N, .int .i64 M, .string S]] w (RBPost [] false w) := by
  obtain ⟨w2, hw2, hsz, hown, hb, c0, c1, c2, c3⟩ := rb_start w 26 N M S
  have HW := Lib.hid hw2
  have HO := Lib.hid hown
  have HB := Lib.hid hb
  have HSZ := Lib.hid hs; clear hs
  clear hw2 hsz hown hb c0 c1 c2 c3
  cases h0 : nameB S
  · have HN := Lib.hid h0; clear h0 hno
    go_enter Tryd.func45, Tryd.ntmps45
    go_wp2_with (go_at_call 10; refine (refname_any S HSZ.out _).mono ?_; rw [HN.out]; rintro e w9 ⟨rfl, rfl⟩)
    go_ret2
    rw [HW.out]
    exact ⟨_, rfl, read_of_own (l := []) HO.out rfl rfl, HB.out⟩
  · have HN := Lib.hid h0; clear h0
    by_cases h1 : N < 0
    · have d1 : decide (N < 0) = true := by simpa using h1
      clear h1 hno
      go_enter Tryd.func45, Tryd.ntmps45
      go_wp2_with (go_at_call 10; refine (refname_any S HSZ.out _).mono ?_; rw [HN.out]; rintro e w9 ⟨rfl, rfl⟩)
      go_ret2
      rw [HW.out]
      exact ⟨_, rfl, read_of_own (l := []) HO.out rfl rfl, HB.out⟩
    · have d1 : decide (N < 0) = false := by simpa using h1
      by_cases h2 : 6 ≤ N
      · have d2 : decide (6 ≤ N) = true := by simpa using h2
        clear h1 h2 hno
        go_enter Tryd.func45, Tryd.ntmps45
        go_wp2_with (go_at_call 10; refine (refname_any S HSZ.out _).mono ?_; rw [HN.out]; rintro e w9 ⟨rfl, rfl⟩)
        go_ret2
        rw [HW.out]
        exact ⟨_, rfl, read_of_own (l := []) HO.out rfl rfl, HB.out⟩
      · have d2 : decide (6 ≤ N) = false := by simpa using h2
        by_cases h3 : M < 0
        · have d3 : decide (M < 0) = true := by simpa using h3
          clear h1 h2 h3 hno
          go_enter Tryd.func45, Tryd.ntmps45
          go_wp2_with (go_at_call 10; refine (refname_any S HSZ.out _).mono ?_; rw [HN.out]; rintro e w9 ⟨rfl, rfl⟩)
          go_ret2
          rw [HW.out]
          exact ⟨_, rfl, read_of_own (l := []) HO.out rfl rfl, HB.out⟩
        · have d3 : decide (M < 0) = false := by simpa using h3
          have d4 : decide (6 < M) = true := by
            rw [decide_eq_true_eq]
            by_cases hc : 6 < M
            · exact hc
            · exact absurd ⟨HN.out, by omega, by omega, by omega, by omega⟩ hno
          clear h1 h2 h3 hno
          go_enter Tryd.func45, Tryd.ntmps45
          go_wp2_with (go_at_call 10; refine (refname_any S HSZ.out _).mono ?_; rw [HN.out]; rintro e w9 ⟨rfl, rfl⟩)
          go_ret2
          rw [HW.out]
          exact ⟨_, rfl, read_of_own (l := []) HO.out rfl rfl, HB.out⟩

set_option maxRecDepth 20000 in
set_option maxHeartbeats 2000000 in
theorem rb_27_no (N M : Int) (S : ByteArray) (hs : S.size ≤ maxLen) (w : World) (hno : ¬ (nameB S = true ∧ N = 0 ∧ 0 ≤ M ∧ M ≤ 6)) :
    Calls Tryd.prog 45 #[.agg #[.int .i64 27, .int .i64 N, .int .i64 M, .string S]] w (RBPost [] false w) := by
  obtain ⟨w2, hw2, hsz, hown, hb, c0, c1, c2, c3⟩ := rb_start w 27 N M S
  have HW := Lib.hid hw2
  have HO := Lib.hid hown
  have HB := Lib.hid hb
  have HSZ := Lib.hid hs; clear hs
  clear hw2 hsz hown hb c0 c1 c2 c3
  cases h0 : nameB S
  · have HN := Lib.hid h0; clear h0 hno
    go_enter Tryd.func45, Tryd.ntmps45
    go_wp2_with (go_at_call 10; refine (refname_any S HSZ.out _).mono ?_; rw [HN.out]; rintro e w9 ⟨rfl, rfl⟩)
    go_ret2
    rw [HW.out]
    exact ⟨_, rfl, read_of_own (l := []) HO.out rfl rfl, HB.out⟩
  · have HN := Lib.hid h0; clear h0
    by_cases h1 : N = 0
    · subst h1
      by_cases h3 : M < 0
      · have d3 : decide (M < 0) = true := by simpa using h3
        clear h3 hno
        go_enter Tryd.func45, Tryd.ntmps45
        go_wp2_with (go_at_call 10; refine (refname_any S HSZ.out _).mono ?_; rw [HN.out]; rintro e w9 ⟨rfl, rfl⟩)
        go_ret2
        rw [HW.out]
        exact ⟨_, rfl, read_of_own (l := []) HO.out rfl rfl, HB.out⟩
      · have d3 : decide (M < 0) = false := by simpa using h3
        have d4 : decide (6 < M) = true := by
          rw [decide_eq_true_eq]
          by_cases hc : 6 < M
          · exact hc
          · exact absurd ⟨HN.out, rfl, by omega, by omega⟩ hno
        clear h3 hno
        go_enter Tryd.func45, Tryd.ntmps45
        go_wp2_with (go_at_call 10; refine (refname_any S HSZ.out _).mono ?_; rw [HN.out]; rintro e w9 ⟨rfl, rfl⟩)
        go_ret2
        rw [HW.out]
        exact ⟨_, rfl, read_of_own (l := []) HO.out rfl rfl, HB.out⟩
    · have d1 : (N != 0) = true := by simpa using h1
      clear h1 hno
      go_enter Tryd.func45, Tryd.ntmps45
      go_wp2_with (go_at_call 10; refine (refname_any S HSZ.out _).mono ?_; rw [HN.out]; rintro e w9 ⟨rfl, rfl⟩)
      go_ret2
      rw [HW.out]
      exact ⟨_, rfl, read_of_own (l := []) HO.out rfl rfl, HB.out⟩

set_option maxRecDepth 20000 in
set_option maxHeartbeats 2000000 in
theorem rb_26 (N : Int) (m : Nat) (S : ByteArray) (hs : S.size ≤ maxLen) (w : World) (h0 : nameB S = true) (h1 : 0 ≤ N) (h2 : N < 6) (hm : m ≤ 6) :
    Calls Tryd.prog 45 #[.agg #[.int .i64 26, .int .i64 N, .int .i64 (m : Int), .string S]] w (RBPost (List.replicate m 0) true w) := by
  obtain ⟨i0, hi, hz0, hz1, hz2⟩ := info_parts Tryd.infoInt
  obtain ⟨w2, hw2, hsz, hown, hb, c0, c1, c2, c3⟩ := rb_start w 26 N m S
  have HW := Lib.hid hw2
  have HB := Lib.hid hb
  have HSZ := Lib.hid hs; clear hs
  clear hw2 hsz hown hb c0 c1 c2 c3
  have HN := Lib.hid h0; clear h0
  have hmk := fun w => run_make_zeros (P := Tryd.prog) 45 3 i0 Tryd.underlying45 hi hz0 hz1 hz2 m (by omega) w
  go_enter Tryd.func45, Tryd.ntmps45
  go_wp2_with (go_at_call 10; refine (refname_any S HSZ.out _).mono ?_; rw [HN.out]; rintro e w9 ⟨rfl, rfl⟩)
  go_ret2
  rw [HW.out]
  refine ⟨.slice (some ⟨w2.heap.size, 0, none⟩) m m, by rw [← HW.out]; simp, ?_, HB.out.alloc HB.out.size _⟩
  have := ReadI.lit w2 3 (List.replicate m (0 : Int)) (by simp; unfold maxLen; omega)
  simpa [ints_repl] using this

end Go.Proofs.YteldkcpkamgfpaaDoor

namespace Go.Proofs.YteldkcpkamgfpaaDoor
set_option linter.unusedSimpArgs false
set_option linter.unusedVariables false
open Go.RowKit

set_option maxRecDepth 20000 in
set_option maxHeartbeats 2000000 in
theorem rb_27 (m : Nat) (S : ByteArray) (hs : S.size ≤ maxLen) (w : World) (h0 : nameB S = true) (hm : m ≤ 6) :
    Calls Tryd.prog 45 #[.agg #[.int .i64 27, .int .i64 0, .int .i64 (m : Int), .string S]] w (RBPost (1 :: List.replicate (m + 1) 0) true w) := by
  obtain ⟨i0, hi, hz0, hz1, hz2⟩ := info_parts Tryd.infoInt
  obtain ⟨w2, hw2, hsz, hown, hb, c0, c1, c2, c3⟩ := rb_start w 27 0 m S
  have HO := Lib.hid hown; clear hown
  have HB := Lib.hid hb; clear hb
  have hlt : w.heap.size < w2.heap.size := by omega
  have hle : w.heap.size + 1 < w2.heap.size := by omega
  have HSZ := Lib.hid hs; clear hs
  clear hsz
  have HN := Lib.hid h0; clear h0
  have hone : ∀ u ∈ [Value.int .i64 1], u.oneCell' = true := by intro u hu; simp at hu; subst hu; rfl
  have HONE := Lib.hid hone; clear hone
  go_enter Tryd.func45, Tryd.ntmps45
  go_upto_region 52 with (go_at_call 10; refine (refname_any S HSZ.out _).mono ?_; rw [HN.out]; rintro e w9 ⟨rfl, rfl⟩)
  clear hw2
  go_wp2_with (first
    | (at_builtin; refine wpList_append_run rfl (.tmp 222) (.tmp 225) 45 3 rfl _ _ rfl rfl HRUN.out ?_)
    | (at_builtin; go_must (refine wpList_append_row rfl (.tmp 219) (.tmp 220) 45 rfl w.heap.size 3 i0 (.int .i64 0) 1 8 Tryd.underlying45 hi hz0 hz1 hz2 rfl (by decide) (.slice (some ⟨w.heap.size + 1, 0, none⟩) 0 0) 0 [] rfl (HO.out.alloc _) (.slice (some ⟨w2.heap.size, 0, none⟩) 1 1) 1 [.int .i64 1] rfl (RowAt.lit w2 _ #[.int .i64 1] 1 rfl (by unfold maxLen; omega)) HONE.out (by omega) (by unfold maxLen; omega) (by simp; omega) ?_); intro v5 w5 hown5 hg5 hat5
       have HO5 := Lib.hid hown5; clear hown5
       have hb5 : Below w.heap.size w w5 := (HB.out.alloc HB.out.size _).grown hg5 (by have := HB.out.size; simp; omega) (fun g hg => by simp [Value.ownBlock] at hg; omega)
       have d2 : w5.cell? ⟨w.heap.size, 2, none⟩ = some (.int .i64 (m : Int)) := hg5.cell ((((Below.refl _ w2).alloc (Nat.le_refl _) _).cell (p := ⟨w.heap.size, 2, none⟩) hlt).trans c2) (by simp [Value.ownBlock])
       clear hg5 hat5
       obtain ⟨v6, w6, hrun, hown6, hg6, _⟩ := run_append_zero_row (P := Tryd.prog) w5 w.heap.size 45 3 45 3 i0 (.int .i64 0) 1 8 Tryd.underlying45 Tryd.underlying3 hi hz0 hz1 hz2 rfl (by decide) v5 (0 + 1) ([] ++ [.int .i64 1]) HO5.out (m + 1) (by omega) (by rw [show (Value.int IntKind.i64 0).cells = #[Value.int .i64 0] from rfl, zeroCells_int]; intro u hu; rw [List.mem_replicate] at hu; rw [hu.2]; rfl) (by unfold maxLen; omega) (by omega) hb5.size
       have e1 : ((m + 1 : Nat) : Int) = (m : Int) + 1 := by omega
       rw [e1] at hrun
       have HRUN := Lib.hid hrun; clear hrun e1
       have HO6 := Lib.hid hown6; clear hown6
       have HG6 := Lib.hid hg6; clear hg6))
  go_ret2
  have hb6 : Below w.heap.size w w6 := hb5.grown HG6.out hb5.size (fun g hg => (HO5.out.lt g hg).1)
  exact ⟨v6, rfl, read_of_own (l := 1 :: List.replicate (m + 1) 0) HO6.out (by simp; omega) (by rw [show (Value.int IntKind.i64 0).cells = #[Value.int .i64 0] from rfl, zeroCells_int]; simp), hb6⟩

end Go.Proofs.YteldkcpkamgfpaaDoor

namespace Go.Proofs.YteldkcpkamgfpaaDoor
set_option linter.unusedSimpArgs false
set_option linter.unusedVariables false
open Go.RowKit

theorem pi_read (w2 : World) (t : TypeId) (zs : Array Value) (c : Nat) (h2 : 2 ≤ c) (hc : c ≤ maxLen) :
    ReadI ((w2.alloc (Obj.cells #[Value.int .i64 0, Value.int .i64 1] t)).alloc (Obj.cells (#[Value.int .i64 0, Value.int .i64 1] ++ zs) t)).drew.drew (.slice (some ⟨w2.heap.size + 1, 0, none⟩) 2 c) [0, 1] := by
  refine RowAt.drew (RowAt.drew ⟨rfl, _, c, rfl, h2, hc, fun _ => ⟨_, 0, rfl, by simp, fun j u hu => ?_⟩⟩)
  have e : (w2.alloc (Obj.cells #[Value.int .i64 0, Value.int .i64 1] t)).heap.size = w2.heap.size + 1 := by simp
  have h := World.cell?_alloc_new (w2.alloc (Obj.cells #[Value.int .i64 0, Value.int .i64 1] t)) (#[Value.int .i64 0, Value.int .i64 1] ++ zs) t (0 + j)
  rw [e] at h
  rw [h]
  match j, hu with
  | 0, hu => simp at hu; subst hu; simp [Array.getElem?_append]
  | 1, hu => simp at hu; subst hu; simp [Array.getElem?_append]

theorem pi_below {w w2 : World} (hb : Below w.heap.size w w2) (o1 o2 : Obj) : Below w.heap.size w ((w2.alloc o1).alloc o2).drew.drew :=
  ((hb.alloc hb.size _).alloc (by have := hb.size; simp; omega) _).drew.drew

set_option maxRecDepth 20000 in
set_option maxHeartbeats 4000000 in
theorem rb_3 (N M : Int) (S : ByteArray) (w : World) :
    Calls Tryd.prog 45 #[.agg #[.int .i64 3, .int .i64 N, .int .i64 M, .string S]] w (RBPost [0, 1] (decide (0 ≤ N) && decide (N ≤ 3) && (M == 0) && decide (S.size = 0)) w) := by
  obtain ⟨i0, hi, hz0, hz1, hz2⟩ := info_parts Tryd.infoInt
  obtain ⟨w2, hw2, hsz, hown, hb, c0, c1, c2, c3⟩ := rb_start w 3 N M S
  rw [← size0 S]
  have HO := Lib.hid hown; clear hown
  have HB := Lib.hid hb; clear hb
  have hlt : w.heap.size < w2.heap.size := by omega
  have hle : w.heap.size + 1 < w2.heap.size := by omega
  clear hsz
  have hcap : ¬ (281474976710656 < Builtin.nextslicecap 2 0 * Tryd.t3.bytes) := by decide
  have hd : decide (0 ≤ N) = false ∨ (decide (0 ≤ N) = true ∧ decide (N ≤ 3) = false) ∨ (decide (0 ≤ N) = true ∧ decide (N ≤ 3) = true ∧ (M == 0) = false) ∨ (decide (0 ≤ N) = true ∧ decide (N ≤ 3) = true ∧ (M == 0) = true) := by
    cases decide (0 ≤ N) <;> cases decide (N ≤ 3) <;> cases (M == 0) <;> simp
  rcases hd with h1 | ⟨h1, h2⟩ | ⟨h1, h2, h3⟩ | ⟨h1, h2, h3⟩
  all_goals
    rw [h1]
    try rw [h2]
    try rw [h3]
    go_enter Tryd.func45, Tryd.ntmps45
    go_wp2_with fail
    clear hw2
    go_region
    go_wp2_with fail
    go_ret2
    exact ⟨_, rfl, pi_read w2 _ _ _ (grownCap_ge w2.drew 2 0 3) (grownCap_le_maxLen w2.drew 2 0 3 (by unfold maxLen; omega)), pi_below HB.out _ _⟩

set_option maxRecDepth 20000 in
set_option maxHeartbeats 4000000 in
theorem rb_6 (N M : Int) (S : ByteArray) (w : World) :
    Calls Tryd.prog 45 #[.agg #[.int .i64 6, .int .i64 N, .int .i64 M, .string S]] w (RBPost [0, 1] (decide (0 ≤ N) && decide (N ≤ 3) && (M == 0) && decide (S.size = 0)) w) := by
  obtain ⟨i0, hi, hz0, hz1, hz2⟩ := info_parts Tryd.infoInt
  obtain ⟨w2, hw2, hsz, hown, hb, c0, c1, c2, c3⟩ := rb_start w 6 N M S
  rw [← size0 S]
  have HO := Lib.hid hown; clear hown
  have HB := Lib.hid hb; clear hb
  have hlt : w.heap.size < w2.heap.size := by omega
  have hle : w.heap.size + 1 < w2.heap.size := by omega
  clear hsz
  have hcap : ¬ (281474976710656 < Builtin.nextslicecap 2 0 * Tryd.t3.bytes) := by decide
  have hd : decide (0 ≤ N) = false ∨ (decide (0 ≤ N) = true ∧ decide (N ≤ 3) = false) ∨ (decide (0 ≤ N) = true ∧ decide (N ≤ 3) = true ∧ (M == 0) = false) ∨ (decide (0 ≤ N) = true ∧ decide (N ≤ 3) = true ∧ (M == 0) = true) := by
    cases decide (0 ≤ N) <;> cases decide (N ≤ 3) <;> cases (M == 0) <;> simp
  rcases hd with h1 | ⟨h1, h2⟩ | ⟨h1, h2, h3⟩ | ⟨h1, h2, h3⟩
  all_goals
    rw [h1]
    try rw [h2]
    try rw [h3]
    go_enter Tryd.func45, Tryd.ntmps45
    go_wp2_with fail
    clear hw2
    go_region
    go_wp2_with fail
    go_ret2
    exact ⟨_, rfl, pi_read w2 _ _ _ (grownCap_ge w2.drew 2 0 3) (grownCap_le_maxLen w2.drew 2 0 3 (by unfold maxLen; omega)), pi_below HB.out _ _⟩

end Go.Proofs.YteldkcpkamgfpaaDoor

namespace Go.Proofs.YteldkcpkamgfpaaDoor
set_option linter.unusedSimpArgs false
set_option linter.unusedVariables false
open Go.RowKit

def RefBPost (n : Nd) (w : World) (e : Ending) (w' : World) : Prop :=
  ∃ v l, e = .returned (.tuple #[v, .bool (rightB n)]) ∧ ReadI w' v l ∧ (rightB n = true → l = (bnds n).map Int.ofNat) ∧ Below w.heap.size w w'

theorem RBPost.to {l : List Int} {b : Bool} {n : Nd} {w : World} {e : Ending} {w' : World} (h : RBPost l b w e w') (hb : rightB n = b) (hl : b = true → l = (bnds n).map Int.ofNat) : RefBPost n w e w' := by
  obtain ⟨v, rfl, h2, h3⟩ := h
  exact ⟨v, l, by rw [hb], h2, fun hr => hl (hb ▸ hr), h3⟩

theorem size_beq (S : ByteArray) : (S.size == 0) = decide (S.size = 0) := by
  by_cases h : S.size = 0
  · simp [h]
  · rw [decide_eq_false h]; exact beq_eq_false_iff_ne.2 h

set_option maxRecDepth 20000 in
set_option maxHeartbeats 2000000 in
theorem rb_none (K N M : Int) (S : ByteArray) (w : World) (hk : K < 0 ∨ 29 < K) :
    Calls Tryd.prog 45 #[.agg #[.int .i64 K, .int .i64 N, .int .i64 M, .string S]] w (RBPost [] false w) := by
  obtain ⟨w2, hw2, hsz, hown, hb, c0, c1, c2, c3⟩ := rb_start w K N M S
  have HW := Lib.hid hw2
  have HO := Lib.hid hown
  have HB := Lib.hid hb
  clear hw2 hsz hown hb c0 c1 c2 c3
  have k0 : (K == 0) = false := by rw [beq_eq_false_iff_ne]; omega
  have k1 : (K == 1) = false := by rw [beq_eq_false_iff_ne]; omega
  have k2 : (K == 2) = false := by rw [beq_eq_false_iff_ne]; omega
  have k3 : (K == 3) = false := by rw [beq_eq_false_iff_ne]; omega
  have k4 : (K == 4) = false := by rw [beq_eq_false_iff_ne]; omega
  have k5 : (K == 5) = false := by rw [beq_eq_false_iff_ne]; omega
  have k6 : (K == 6) = false := by rw [beq_eq_false_iff_ne]; omega
  have k7 : (K == 7) = false := by rw [beq_eq_false_iff_ne]; omega
  have k8 : (K == 8) = false := by rw [beq_eq_false_iff_ne]; omega
  have k9 : (K == 9) = false := by rw [beq_eq_false_iff_ne]; omega
  have k10 : (K == 10) = false := by rw [beq_eq_false_iff_ne]; omega
  have k11 : (K == 11) = false := by rw [beq_eq_false_iff_ne]; omega
  have k12 : (K == 12) = false := by rw [beq_eq_false_iff_ne]; omega
  have k13 : (K == 13) = false := by rw [beq_eq_false_iff_ne]; omega
  have k14 : (K == 14) = false := by rw [beq_eq_false_iff_ne]; omega
  have k15 : (K == 15) = false := by rw [beq_eq_false_iff_ne]; omega
  have k16 : (K == 16) = false := by rw [beq_eq_false_iff_ne]; omega
  have k17 : (K == 17) = false := by rw [beq_eq_false_iff_ne]; omega
  have k18 : (K == 18) = false := by rw [beq_eq_false_iff_ne]; omega
  have k19 : (K == 19) = false := by rw [beq_eq_false_iff_ne]; omega
  have k20 : (K == 20) = false := by rw [beq_eq_false_iff_ne]; omega
  have k21 : (K == 21) = false := by rw [beq_eq_false_iff_ne]; omega
  have k22 : (K == 22) = false := by rw [beq_eq_false_iff_ne]; omega
  have k23 : (K == 23) = false := by rw [beq_eq_false_iff_ne]; omega
  have k24 : (K == 24) = false := by rw [beq_eq_false_iff_ne]; omega
  have k25 : (K == 25) = false := by rw [beq_eq_false_iff_ne]; omega
  have k26 : (K == 26) = false := by rw [beq_eq_false_iff_ne]; omega
  have k27 : (K == 27) = false := by rw [beq_eq_false_iff_ne]; omega
  have k28 : (K == 28) = false := by rw [beq_eq_false_iff_ne]; omega
  have k29 : (K == 29) = false := by rw [beq_eq_false_iff_ne]; omega
  clear hk
  go_enter Tryd.func45, Tryd.ntmps45
  go_wp2_with fail
  go_ret2
  rw [HW.out]
  exact ⟨_, rfl, read_of_own (l := []) HO.out rfl rfl, HB.out⟩

set_option maxRecDepth 20000 in
set_option maxHeartbeats 2000000 in
theorem refbinds_any (n : Nd) (w : World) (hs : n.S.size ≤ maxLen) :
    Calls Tryd.prog 45 #[.agg #[.int .i64 n.K, .int .i64 n.N, .int .i64 n.M, .string n.S]] w (RefBPost n w) := by
  obtain ⟨K, N, M, S⟩ := n
  simp only at hs ⊢
  have hz := size_beq S
  by_cases hk : K < 0 ∨ 29 < K
  · refine (rb_none K N M S w hk).mono fun e w' h => h.to ?_ (fun h => by cases h)
    rcases hk with hk | hk
    · have : decide (0 ≤ K) = false := by simp; omega
      simp only [rightB, this, Bool.false_and]
    · have : decide (K ≤ 29) = false := by simp; omega
      simp only [rightB, this, Bool.false_and, Bool.and_false]
  have hc : K = 0 ∨ K = 1 ∨ K = 2 ∨ K = 3 ∨ K = 4 ∨ K = 5 ∨ K = 6 ∨ K = 7 ∨ K = 8 ∨ K = 9 ∨ K = 10 ∨ K = 11 ∨ K = 12 ∨ K = 13 ∨ K = 14 ∨ K = 15 ∨ K = 16 ∨ K = 17 ∨ K = 18 ∨ K = 19 ∨ K = 20 ∨ K = 21 ∨ K = 22 ∨ K = 23 ∨ K = 24 ∨ K = 25 ∨ K = 26 ∨ K = 27 ∨ K = 28 ∨ K = 29 := by omega
  rcases hc with rfl | rfl | rfl | rfl | rfl | rfl | rfl | rfl | rfl | rfl | rfl | rfl | rfl | rfl | rfl | rfl | rfl | rfl | rfl | rfl | rfl | rfl | rfl | rfl | rfl | rfl | rfl | rfl | rfl | rfl
  · exact (rb_0 N M S w).mono fun e w' h => h.to (by simp [rightB, shp, mostN, hz, Bool.and_assoc]) (fun _ => by simp [bnds, shp])
  · exact (rb_name 1 (by omega) N M S hs w).mono fun e w' h => h.to (by simp [rightB, shp, hz, Bool.and_assoc]) (fun _ => by simp [bnds, shp])
  · exact (rb_2 N M S w).mono fun e w' h => h.to (by simp [rightB, shp, mostN, lv, hz, Bool.and_assoc]) (fun _ => by simp [bnds, shp])
  · exact (rb_3 N M S w).mono fun e w' h => h.to (by simp [rightB, shp, mostN, hz, Bool.and_assoc]) (fun _ => by simp [bnds, shp])
  · exact (rb_4 N M S w).mono fun e w' h => h.to (by simp [rightB, plainB, shp, hz, Bool.and_assoc]) (fun _ => by simp [bnds, shp])
  · exact (rb_5 N M S w).mono fun e w' h => h.to (by simp [rightB, plainB, shp, hz, Bool.and_assoc]) (fun _ => by simp [bnds, shp])
  · exact (rb_6 N M S w).mono fun e w' h => h.to (by simp [rightB, shp, mostN, hz, Bool.and_assoc]) (fun _ => by simp [bnds, shp])
  · exact (rb_7 N M S w).mono fun e w' h => h.to (by simp [rightB, plainB, shp, hz, Bool.and_assoc]) (fun _ => by simp [bnds, shp])
  · exact (rb_8 N M S w).mono fun e w' h => h.to (by simp [rightB, plainB, shp, hz, Bool.and_assoc]) (fun _ => by simp [bnds, shp])
  · exact (rb_9 N M S w).mono fun e w' h => h.to (by simp [rightB, plainB, shp, hz, Bool.and_assoc]) (fun _ => by simp [bnds, shp])
  · exact (rb_10 N M S w).mono fun e w' h => h.to (by simp [rightB, plainB, shp, hz, Bool.and_assoc]) (fun _ => by simp [bnds, shp])
  · exact (rb_11 N M S w).mono fun e w' h => h.to (by simp [rightB, plainB, shp, hz, Bool.and_assoc]) (fun _ => by simp [bnds, shp])
  · exact (rb_12 N M S w).mono fun e w' h => h.to (by simp [rightB, plainB, shp, hz, Bool.and_assoc]) (fun _ => by simp [bnds, shp])
  · exact (rb_13 N M S w).mono fun e w' h => h.to (by simp [rightB, plainB, shp, hz, Bool.and_assoc]) (fun _ => by simp [bnds, shp])
  · exact (rb_14 N M S w).mono fun e w' h => h.to (by simp [rightB, plainB, shp, hz, Bool.and_assoc]) (fun _ => by simp [bnds, shp])
  · exact (rb_15 N M S w).mono fun e w' h => h.to (by simp [rightB, plainB, shp, hz, Bool.and_assoc]) (fun _ => by simp [bnds, shp])
  · exact (rb_16 N M S w).mono fun e w' h => h.to (by simp [rightB, plainB, shp, hz, Bool.and_assoc]) (fun _ => by simp [bnds, shp])
  · exact (rb_17 N M S w).mono fun e w' h => h.to (by simp [rightB, plainB, shp, hz, Bool.and_assoc]) (fun _ => by simp [bnds, shp])
  · exact (rb_18 N M S w).mono fun e w' h => h.to (by simp [rightB, plainB, shp, hz, Bool.and_assoc]) (fun _ => by simp [bnds, shp])
  · exact (rb_19 N M S w).mono fun e w' h => h.to (by simp [rightB, plainB, shp, hz, Bool.and_assoc]) (fun _ => by simp [bnds, shp])
  · exact (rb_20 N M S w).mono fun e w' h => h.to (by simp [rightB, plainB, shp, hz, Bool.and_assoc]) (fun _ => by simp [bnds, shp])
  · exact (rb_21 N M S w).mono fun e w' h => h.to (by simp [rightB, plainB, shp, hz, Bool.and_assoc]) (fun _ => by simp [bnds, shp])
  · exact (rb_22 N M S w).mono fun e w' h => h.to (by simp [rightB, plainB, shp, hz, Bool.and_assoc]) (fun _ => by simp [bnds, shp])
  · exact (rb_23 N M S w).mono fun e w' h => h.to (by simp [rightB, plainB, shp, hz, Bool.and_assoc]) (fun _ => by simp [bnds, shp])
  · exact (rb_24 N M S w).mono fun e w' h => h.to (by simp [rightB, plainB, shp, hz, Bool.and_assoc]) (fun _ => by simp [bnds, shp])
  · exact (rb_name 25 (by omega) N M S hs w).mono fun e w' h => h.to (by simp [rightB, shp, hz, Bool.and_assoc]) (fun _ => by simp [bnds, shp])
  · by_cases hno : nameB S = true ∧ 0 ≤ N ∧ N < 6 ∧ 0 ≤ M ∧ M ≤ 6
    · obtain ⟨h0, h1, h2, h3, h4⟩ := hno
      obtain ⟨m, rfl⟩ := Int.eq_ofNat_of_zero_le h3
      exact (rb_26 N m S hs w h0 h1 h2 (by omega)).mono fun e w' h => h.to (by simp [rightB, shp, mostN, h0, h1]; omega) (fun _ => by simp [bnds])
    · exact (rb_26_no N M S hs w hno).mono fun e w' h => h.to (by
        rw [Bool.eq_false_iff]
        intro hr
        simp [rightB, shp, mostN] at hr
        exact hno ⟨hr.2, by omega, by omega, by omega, by omega⟩) (fun h => by cases h)
  · by_cases hno : nameB S = true ∧ N = 0 ∧ 0 ≤ M ∧ M ≤ 6
    · obtain ⟨h0, rfl, h3, h4⟩ := hno
      obtain ⟨m, rfl⟩ := Int.eq_ofNat_of_zero_le h3
      exact (rb_27 m S hs w h0 (by omega)).mono fun e w' h => h.to (by simp [rightB, shp, h0]; omega) (fun _ => by simp [bnds])
    · exact (rb_27_no N M S hs w hno).mono fun e w' h => h.to (by
        rw [Bool.eq_false_iff]
        intro hr
        simp [rightB, shp] at hr
        exact hno ⟨hr.2, by omega, by omega, by omega⟩) (fun h => by cases h)
  · exact (rb_28 N M S w).mono fun e w' h => h.to (by simp [rightB, plainB, shp, hz, Bool.and_assoc]) (fun _ => by simp [bnds, shp])
  · exact (rb_29 N M S w).mono fun e w' h => h.to (by simp [rightB, plainB, shp, hz, Bool.and_assoc]) (fun _ => by simp [bnds, shp])

end Go.Proofs.YteldkcpkamgfpaaDoor

namespace Go.Proofs.YteldkcpkamgfpaaDoor
set_option linter.unusedSimpArgs false
set_option linter.unusedVariables false
open Go.RowKit

def zeroSuc : List Nd := [⟨11, 0, 0, ByteArray.empty⟩, ⟨12, 0, 0, ByteArray.empty⟩]
theorem zs_chk : chk zeroSuc = 0 := by decide +kernel
theorem zs_dpt : dpt zeroSuc = 2 := by decide +kernel
theorem zs_small : SmallN zeroSuc := by
  intro n hn
  simp [zeroSuc] at hn
  rcases hn with rfl | rfl <;> (show (0 : Nat) ≤ maxLen; omega)

theorem nameA : nameB ⟨#[97]⟩ = true := by decide +kernel

end Go.Proofs.YteldkcpkamgfpaaDoor

namespace Go.Proofs.YteldkcpkamgfpaaDoor
set_option linter.unusedSimpArgs false
set_option linter.unusedVariables false
open Go.RowKit

def HeavyPost (n N : Nat) (w : World) (e : Ending) (w' : World) : Prop := (∃ b, e = .returned (.bool b) ∧ (b = false → n ≤ N)) ∧ w = w'

end Go.Proofs.YteldkcpkamgfpaaDoor

