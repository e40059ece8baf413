/- What the reference's Binds comes to, for the other kinds of one rule; no condition. -/
import Derived.Test.YtjhgpifccleknaaDoorRefB
namespace Go.Proofs.YtjhgpifccleknaaDoor
set_option linter.unusedSimpArgs false
set_option linter.unusedVariables false
open Go.RowKit

set_option maxRecDepth 20000 in
set_option maxHeartbeats 2000000 in
theorem rb_9 (N M : Int) (S : ByteArray) (w : World) :
    Calls Tryd.prog 23 #[.agg #[.int .i64 9, .int .i64 N, .int .i64 M, .string S]] w (RBPost [0] (plainB ⟨9, N, M, S⟩) w) := by
  obtain ⟨i0, hi, hz0, hz1, hz2⟩ := info_parts Tryd.infoInt
  obtain ⟨pl, hpl⟩ : ∃ b, plainB ⟨9, N, M, S⟩ = b := ⟨_, rfl⟩
  rw [hpl]
  have HP := Lib.hid hpl; clear hpl
  go_enter Tryd.func23, Tryd.ntmps23
  go_wp2_with fail
  obtain ⟨w2, hw2, hsz, hown, hb, c0, c1, c2, c3⟩ := rb_start w 9 N M S
  rw [hw2]
  clear hw2
  have HO := Lib.hid hown; clear hown
  have HB := Lib.hid hb; clear hb
  have hlt : w.heap.size < w2.heap.size := by omega
  have hle : w.heap.size + 1 < w2.heap.size := by omega
  clear hsz
  have hone : ∀ u ∈ [Value.int .i64 0], u.oneCell' = true := by intro u hu; obtain ⟨x, _, rfl⟩ := List.mem_map.1 (show u ∈ ([0] : List Int).map (Value.int .i64) from hu); rfl
  have HONE := Lib.hid hone; clear hone
  go_region_law (first
    | (refine step_append_row rfl (.tmp 117) (.tmp 118) 25 rfl w.heap.size 3 i0 (.int .i64 0) 1 8 Tryd.underlying25 hi hz0 hz1 hz2 rfl (by decide) (.slice (some ⟨w.heap.size + 1, 0, none⟩) 0 0) 0 [] (by rfl) (by first | exact HO.out.alloc _ | exact (HO.out.alloc _).drew | exact HO.out.drew.alloc _) (.slice (some ⟨w2.heap.size, 0, none⟩) 1 1) 1 [.int .i64 0] (by rfl) (by first | exact RowAt.lit w2 _ #[.int .i64 0] 1 rfl (by unfold maxLen; omega) | exact RowAt.lit w2.drew _ #[.int .i64 0] 1 rfl (by unfold maxLen; omega)) HONE.out (by omega) (by unfold maxLen; omega) (by simp; omega) ?_; intro v5 w5 hown5 hg5 hat5
       have HO5 := Lib.hid hown5; clear hown5
       have HG5 := Lib.hid hg5; clear hg5
       have d0 : w5.cell? ⟨w.heap.size, 0, none⟩ = some (.int .i64 9) := HG5.out.cell (by first | exact (((Below.refl _ w2).alloc (Nat.le_refl _) _).cell (p := ⟨w.heap.size, 0, none⟩) hlt).trans c0 | exact (((Below.refl _ w2.drew).alloc (Nat.le_refl _) _).cell (p := ⟨w.heap.size, 0, none⟩) hlt).trans c0) (by simp [Value.ownBlock])
       have d1 : w5.cell? ⟨w.heap.size, 1, none⟩ = some (.int .i64 N) := HG5.out.cell (by first | exact (((Below.refl _ w2).alloc (Nat.le_refl _) _).cell (p := ⟨w.heap.size, 1, none⟩) hlt).trans c1 | exact (((Below.refl _ w2.drew).alloc (Nat.le_refl _) _).cell (p := ⟨w.heap.size, 1, none⟩) hlt).trans c1) (by simp [Value.ownBlock])
       have d2 : w5.cell? ⟨w.heap.size, 2, none⟩ = some (.int .i64 M) := HG5.out.cell (by first | exact (((Below.refl _ w2).alloc (Nat.le_refl _) _).cell (p := ⟨w.heap.size, 2, none⟩) hlt).trans c2 | exact (((Below.refl _ w2.drew).alloc (Nat.le_refl _) _).cell (p := ⟨w.heap.size, 2, none⟩) hlt).trans c2) (by simp [Value.ownBlock])
       have d3 : w5.cell? ⟨w.heap.size, 3, none⟩ = some (.string S) := HG5.out.cell (by first | exact (((Below.refl _ w2).alloc (Nat.le_refl _) _).cell (p := ⟨w.heap.size, 3, none⟩) hlt).trans c3 | exact (((Below.refl _ w2.drew).alloc (Nat.le_refl _) _).cell (p := ⟨w.heap.size, 3, none⟩) hlt).trans c3) (by simp [Value.ownBlock]))
    | (go_simp; go_at_call 59; refine (plain_any ⟨9, N, M, S⟩ _).mono ?_; rw [HP.out]; rintro e w9 ⟨rfl, rfl⟩))
  all_goals
    have hb5 : Below w.heap.size w w5 := ((HB.out.alloc HB.out.size _).drew).grown HG5.out (by have := HB.out.size; simp; omega) (fun g hg => by simp [Value.ownBlock] at hg; omega)
    clear d0 d1 d2 d3
    go_wp2_with fail
    go_ret2
    exact ⟨v5, rfl, (read_of_own (l := [0]) HO5.out rfl rfl).alloc _, hb5.alloc hb5.size _⟩

set_option maxRecDepth 20000 in
set_option maxHeartbeats 2000000 in
theorem rb_12 (N M : Int) (S : ByteArray) (w : World) :
    Calls Tryd.prog 23 #[.agg #[.int .i64 12, .int .i64 N, .int .i64 M, .string S]] w (RBPost [0] (plainB ⟨12, N, M, S⟩) w) := by
  obtain ⟨i0, hi, hz0, hz1, hz2⟩ := info_parts Tryd.infoInt
  obtain ⟨pl, hpl⟩ : ∃ b, plainB ⟨12, N, M, S⟩ = b := ⟨_, rfl⟩
  rw [hpl]
  have HP := Lib.hid hpl; clear hpl
  go_enter Tryd.func23, Tryd.ntmps23
  go_wp2_with fail
  obtain ⟨w2, hw2, hsz, hown, hb, c0, c1, c2, c3⟩ := rb_start w 12 N M S
  rw [hw2]
  clear hw2
  have HO := Lib.hid hown; clear hown
  have HB := Lib.hid hb; clear hb
  have hlt : w.heap.size < w2.heap.size := by omega
  have hle : w.heap.size + 1 < w2.heap.size := by omega
  clear hsz
  have hone : ∀ u ∈ [Value.int .i64 0], u.oneCell' = true := by intro u hu; obtain ⟨x, _, rfl⟩ := List.mem_map.1 (show u ∈ ([0] : List Int).map (Value.int .i64) from hu); rfl
  have HONE := Lib.hid hone; clear hone
  go_region_law (first
    | (refine step_append_row rfl (.tmp 117) (.tmp 118) 25 rfl w.heap.size 3 i0 (.int .i64 0) 1 8 Tryd.underlying25 hi hz0 hz1 hz2 rfl (by decide) (.slice (some ⟨w.heap.size + 1, 0, none⟩) 0 0) 0 [] (by rfl) (by first | exact HO.out.alloc _ | exact (HO.out.alloc _).drew | exact HO.out.drew.alloc _) (.slice (some ⟨w2.heap.size, 0, none⟩) 1 1) 1 [.int .i64 0] (by rfl) (by first | exact RowAt.lit w2 _ #[.int .i64 0] 1 rfl (by unfold maxLen; omega) | exact RowAt.lit w2.drew _ #[.int .i64 0] 1 rfl (by unfold maxLen; omega)) HONE.out (by omega) (by unfold maxLen; omega) (by simp; omega) ?_; intro v5 w5 hown5 hg5 hat5
       have HO5 := Lib.hid hown5; clear hown5
       have HG5 := Lib.hid hg5; clear hg5
       have d0 : w5.cell? ⟨w.heap.size, 0, none⟩ = some (.int .i64 12) := HG5.out.cell (by first | exact (((Below.refl _ w2).alloc (Nat.le_refl _) _).cell (p := ⟨w.heap.size, 0, none⟩) hlt).trans c0 | exact (((Below.refl _ w2.drew).alloc (Nat.le_refl _) _).cell (p := ⟨w.heap.size, 0, none⟩) hlt).trans c0) (by simp [Value.ownBlock])
       have d1 : w5.cell? ⟨w.heap.size, 1, none⟩ = some (.int .i64 N) := HG5.out.cell (by first | exact (((Below.refl _ w2).alloc (Nat.le_refl _) _).cell (p := ⟨w.heap.size, 1, none⟩) hlt).trans c1 | exact (((Below.refl _ w2.drew).alloc (Nat.le_refl _) _).cell (p := ⟨w.heap.size, 1, none⟩) hlt).trans c1) (by simp [Value.ownBlock])
       have d2 : w5.cell? ⟨w.heap.size, 2, none⟩ = some (.int .i64 M) := HG5.out.cell (by first | exact (((Below.refl _ w2).alloc (Nat.le_refl _) _).cell (p := ⟨w.heap.size, 2, none⟩) hlt).trans c2 | exact (((Below.refl _ w2.drew).alloc (Nat.le_refl _) _).cell (p := ⟨w.heap.size, 2, none⟩) hlt).trans c2) (by simp [Value.ownBlock])
       have d3 : w5.cell? ⟨w.heap.size, 3, none⟩ = some (.string S) := HG5.out.cell (by first | exact (((Below.refl _ w2).alloc (Nat.le_refl _) _).cell (p := ⟨w.heap.size, 3, none⟩) hlt).trans c3 | exact (((Below.refl _ w2.drew).alloc (Nat.le_refl _) _).cell (p := ⟨w.heap.size, 3, none⟩) hlt).trans c3) (by simp [Value.ownBlock]))
    | (go_simp; go_at_call 59; refine (plain_any ⟨12, N, M, S⟩ _).mono ?_; rw [HP.out]; rintro e w9 ⟨rfl, rfl⟩))
  all_goals
    have hb5 : Below w.heap.size w w5 := ((HB.out.alloc HB.out.size _).drew).grown HG5.out (by have := HB.out.size; simp; omega) (fun g hg => by simp [Value.ownBlock] at hg; omega)
    clear d0 d1 d2 d3
    go_wp2_with fail
    go_ret2
    exact ⟨v5, rfl, (read_of_own (l := [0]) HO5.out rfl rfl).alloc _, hb5.alloc hb5.size _⟩

set_option maxRecDepth 20000 in
set_option maxHeartbeats 2000000 in
theorem rb_28 (N M : Int) (S : ByteArray) (w : World) :
    Calls Tryd.prog 23 #[.agg #[.int .i64 28, .int .i64 N, .int .i64 M, .string S]] w (RBPost [0] (plainB ⟨28, N, M, S⟩) w) := by
  obtain ⟨i0, hi, hz0, hz1, hz2⟩ := info_parts Tryd.infoInt
  obtain ⟨pl, hpl⟩ : ∃ b, plainB ⟨28, N, M, S⟩ = b := ⟨_, rfl⟩
  rw [hpl]
  have HP := Lib.hid hpl; clear hpl
  go_enter Tryd.func23, Tryd.ntmps23
  go_wp2_with fail
  obtain ⟨w2, hw2, hsz, hown, hb, c0, c1, c2, c3⟩ := rb_start w 28 N M S
  rw [hw2]
  clear hw2
  have HO := Lib.hid hown; clear hown
  have HB := Lib.hid hb; clear hb
  have hlt : w.heap.size < w2.heap.size := by omega
  have hle : w.heap.size + 1 < w2.heap.size := by omega
  clear hsz
  have hone : ∀ u ∈ [Value.int .i64 0], u.oneCell' = true := by intro u hu; obtain ⟨x, _, rfl⟩ := List.mem_map.1 (show u ∈ ([0] : List Int).map (Value.int .i64) from hu); rfl
  have HONE := Lib.hid hone; clear hone
  go_region_law (first
    | (refine step_append_row rfl (.tmp 117) (.tmp 118) 25 rfl w.heap.size 3 i0 (.int .i64 0) 1 8 Tryd.underlying25 hi hz0 hz1 hz2 rfl (by decide) (.slice (some ⟨w.heap.size + 1, 0, none⟩) 0 0) 0 [] (by rfl) (by first | exact HO.out.alloc _ | exact (HO.out.alloc _).drew | exact HO.out.drew.alloc _) (.slice (some ⟨w2.heap.size, 0, none⟩) 1 1) 1 [.int .i64 0] (by rfl) (by first | exact RowAt.lit w2 _ #[.int .i64 0] 1 rfl (by unfold maxLen; omega) | exact RowAt.lit w2.drew _ #[.int .i64 0] 1 rfl (by unfold maxLen; omega)) HONE.out (by omega) (by unfold maxLen; omega) (by simp; omega) ?_; intro v5 w5 hown5 hg5 hat5
       have HO5 := Lib.hid hown5; clear hown5
       have HG5 := Lib.hid hg5; clear hg5
       have d0 : w5.cell? ⟨w.heap.size, 0, none⟩ = some (.int .i64 28) := HG5.out.cell (by first | exact (((Below.refl _ w2).alloc (Nat.le_refl _) _).cell (p := ⟨w.heap.size, 0, none⟩) hlt).trans c0 | exact (((Below.refl _ w2.drew).alloc (Nat.le_refl _) _).cell (p := ⟨w.heap.size, 0, none⟩) hlt).trans c0) (by simp [Value.ownBlock])
       have d1 : w5.cell? ⟨w.heap.size, 1, none⟩ = some (.int .i64 N) := HG5.out.cell (by first | exact (((Below.refl _ w2).alloc (Nat.le_refl _) _).cell (p := ⟨w.heap.size, 1, none⟩) hlt).trans c1 | exact (((Below.refl _ w2.drew).alloc (Nat.le_refl _) _).cell (p := ⟨w.heap.size, 1, none⟩) hlt).trans c1) (by simp [Value.ownBlock])
       have d2 : w5.cell? ⟨w.heap.size, 2, none⟩ = some (.int .i64 M) := HG5.out.cell (by first | exact (((Below.refl _ w2).alloc (Nat.le_refl _) _).cell (p := ⟨w.heap.size, 2, none⟩) hlt).trans c2 | exact (((Below.refl _ w2.drew).alloc (Nat.le_refl _) _).cell (p := ⟨w.heap.size, 2, none⟩) hlt).trans c2) (by simp [Value.ownBlock])
       have d3 : w5.cell? ⟨w.heap.size, 3, none⟩ = some (.string S) := HG5.out.cell (by first | exact (((Below.refl _ w2).alloc (Nat.le_refl _) _).cell (p := ⟨w.heap.size, 3, none⟩) hlt).trans c3 | exact (((Below.refl _ w2.drew).alloc (Nat.le_refl _) _).cell (p := ⟨w.heap.size, 3, none⟩) hlt).trans c3) (by simp [Value.ownBlock]))
    | (go_simp; go_at_call 59; refine (plain_any ⟨28, N, M, S⟩ _).mono ?_; rw [HP.out]; rintro e w9 ⟨rfl, rfl⟩))
  all_goals
    have hb5 : Below w.heap.size w w5 := ((HB.out.alloc HB.out.size _).drew).grown HG5.out (by have := HB.out.size; simp; omega) (fun g hg => by simp [Value.ownBlock] at hg; omega)
    clear d0 d1 d2 d3
    go_wp2_with fail
    go_ret2
    exact ⟨v5, rfl, (read_of_own (l := [0]) HO5.out rfl rfl).alloc _, hb5.alloc hb5.size _⟩

set_option maxRecDepth 20000 in
set_option maxHeartbeats 2000000 in
theorem rb_13 (N M : Int) (S : ByteArray) (w : World) :
    Calls Tryd.prog 23 #[.agg #[.int .i64 13, .int .i64 N, .int .i64 M, .string S]] w (RBPost [1, 0, 2, 0] (plainB ⟨13, N, M, S⟩) w) := by
  obtain ⟨i0, hi, hz0, hz1, hz2⟩ := info_parts Tryd.infoInt
  obtain ⟨pl, hpl⟩ : ∃ b, plainB ⟨13, N, M, S⟩ = b := ⟨_, rfl⟩
  rw [hpl]
  have HP := Lib.hid hpl; clear hpl
  go_enter Tryd.func23, Tryd.ntmps23
  go_wp2_with fail
  obtain ⟨w2, hw2, hsz, hown, hb, c0, c1, c2, c3⟩ := rb_start w 13 N M S
  rw [hw2]
  clear hw2
  have HO := Lib.hid hown; clear hown
  have HB := Lib.hid hb; clear hb
  have hlt : w.heap.size < w2.heap.size := by omega
  have hle : w.heap.size + 1 < w2.heap.size := by omega
  clear hsz
  have hone : ∀ u ∈ [Value.int .i64 1, .int .i64 0, .int .i64 2, .int .i64 0], u.oneCell' = true := by intro u hu; obtain ⟨x, _, rfl⟩ := List.mem_map.1 (show u ∈ ([1, 0, 2, 0] : List Int).map (Value.int .i64) from hu); rfl
  have HONE := Lib.hid hone; clear hone
  go_region_law (first
    | (refine step_append_row rfl (.tmp 134) (.tmp 135) 25 rfl w.heap.size 3 i0 (.int .i64 0) 1 8 Tryd.underlying25 hi hz0 hz1 hz2 rfl (by decide) (.slice (some ⟨w.heap.size + 1, 0, none⟩) 0 0) 0 [] (by rfl) (by first | exact HO.out.alloc _ | exact (HO.out.alloc _).drew | exact HO.out.drew.alloc _) (.slice (some ⟨w2.heap.size, 0, none⟩) 4 4) 4 [.int .i64 1, .int .i64 0, .int .i64 2, .int .i64 0] (by rfl) (by first | exact RowAt.lit w2 _ #[.int .i64 1, .int .i64 0, .int .i64 2, .int .i64 0] 4 rfl (by unfold maxLen; omega) | exact RowAt.lit w2.drew _ #[.int .i64 1, .int .i64 0, .int .i64 2, .int .i64 0] 4 rfl (by unfold maxLen; omega)) HONE.out (by omega) (by unfold maxLen; omega) (by simp; omega) ?_; intro v5 w5 hown5 hg5 hat5
       have HO5 := Lib.hid hown5; clear hown5
       have HG5 := Lib.hid hg5; clear hg5
       have d0 : w5.cell? ⟨w.heap.size, 0, none⟩ = some (.int .i64 13) := HG5.out.cell (by first | exact (((Below.refl _ w2).alloc (Nat.le_refl _) _).cell (p := ⟨w.heap.size, 0, none⟩) hlt).trans c0 | exact (((Below.refl _ w2.drew).alloc (Nat.le_refl _) _).cell (p := ⟨w.heap.size, 0, none⟩) hlt).trans c0) (by simp [Value.ownBlock])
       have d1 : w5.cell? ⟨w.heap.size, 1, none⟩ = some (.int .i64 N) := HG5.out.cell (by first | exact (((Below.refl _ w2).alloc (Nat.le_refl _) _).cell (p := ⟨w.heap.size, 1, none⟩) hlt).trans c1 | exact (((Below.refl _ w2.drew).alloc (Nat.le_refl _) _).cell (p := ⟨w.heap.size, 1, none⟩) hlt).trans c1) (by simp [Value.ownBlock])
       have d2 : w5.cell? ⟨w.heap.size, 2, none⟩ = some (.int .i64 M) := HG5.out.cell (by first | exact (((Below.refl _ w2).alloc (Nat.le_refl _) _).cell (p := ⟨w.heap.size, 2, none⟩) hlt).trans c2 | exact (((Below.refl _ w2.drew).alloc (Nat.le_refl _) _).cell (p := ⟨w.heap.size, 2, none⟩) hlt).trans c2) (by simp [Value.ownBlock])
       have d3 : w5.cell? ⟨w.heap.size, 3, none⟩ = some (.string S) := HG5.out.cell (by first | exact (((Below.refl _ w2).alloc (Nat.le_refl _) _).cell (p := ⟨w.heap.size, 3, none⟩) hlt).trans c3 | exact (((Below.refl _ w2.drew).alloc (Nat.le_refl _) _).cell (p := ⟨w.heap.size, 3, none⟩) hlt).trans c3) (by simp [Value.ownBlock]))
    | (go_simp; go_at_call 59; refine (plain_any ⟨13, N, M, S⟩ _).mono ?_; rw [HP.out]; rintro e w9 ⟨rfl, rfl⟩))
  all_goals
    have hb5 : Below w.heap.size w w5 := ((HB.out.alloc HB.out.size _).drew).grown HG5.out (by have := HB.out.size; simp; omega) (fun g hg => by simp [Value.ownBlock] at hg; omega)
    clear d0 d1 d2 d3
    go_wp2_with fail
    go_ret2
    exact ⟨v5, rfl, (read_of_own (l := [1, 0, 2, 0]) HO5.out rfl rfl).alloc _, hb5.alloc hb5.size _⟩

set_option maxRecDepth 20000 in
set_option maxHeartbeats 2000000 in
theorem rb_20 (N M : Int) (S : ByteArray) (w : World) :
    Calls Tryd.prog 23 #[.agg #[.int .i64 20, .int .i64 N, .int .i64 M, .string S]] w (RBPost [0, 0, 0, 0] (plainB ⟨20, N, M, S⟩) w) := by
  obtain ⟨i0, hi, hz0, hz1, hz2⟩ := info_parts Tryd.infoInt
  obtain ⟨pl, hpl⟩ : ∃ b, plainB ⟨20, N, M, S⟩ = b := ⟨_, rfl⟩
  rw [hpl]
  have HP := Lib.hid hpl; clear hpl
  go_enter Tryd.func23, Tryd.ntmps23
  go_wp2_with fail
  obtain ⟨w2, hw2, hsz, hown, hb, c0, c1, c2, c3⟩ := rb_start w 20 N M S
  rw [hw2]
  clear hw2
  have HO := Lib.hid hown; clear hown
  have HB := Lib.hid hb; clear hb
  have hlt : w.heap.size < w2.heap.size := by omega
  have hle : w.heap.size + 1 < w2.heap.size := by omega
  clear hsz
  have hone : ∀ u ∈ [Value.int .i64 0, .int .i64 0, .int .i64 0, .int .i64 0], u.oneCell' = true := by intro u hu; obtain ⟨x, _, rfl⟩ := List.mem_map.1 (show u ∈ ([0, 0, 0, 0] : List Int).map (Value.int .i64) from hu); rfl
  have HONE := Lib.hid hone; clear hone
  go_region_law (first
    | (refine step_append_row rfl (.tmp 141) (.tmp 142) 25 rfl w.heap.size 3 i0 (.int .i64 0) 1 8 Tryd.underlying25 hi hz0 hz1 hz2 rfl (by decide) (.slice (some ⟨w.heap.size + 1, 0, none⟩) 0 0) 0 [] (by rfl) (by first | exact HO.out.alloc _ | exact (HO.out.alloc _).drew | exact HO.out.drew.alloc _) (.slice (some ⟨w2.heap.size, 0, none⟩) 4 4) 4 [.int .i64 0, .int .i64 0, .int .i64 0, .int .i64 0] (by rfl) (by first | exact RowAt.lit w2 _ #[.int .i64 0, .int .i64 0, .int .i64 0, .int .i64 0] 4 rfl (by unfold maxLen; omega) | exact RowAt.lit w2.drew _ #[.int .i64 0, .int .i64 0, .int .i64 0, .int .i64 0] 4 rfl (by unfold maxLen; omega)) HONE.out (by omega) (by unfold maxLen; omega) (by simp; omega) ?_; intro v5 w5 hown5 hg5 hat5
       have HO5 := Lib.hid hown5; clear hown5
       have HG5 := Lib.hid hg5; clear hg5
       have d0 : w5.cell? ⟨w.heap.size, 0, none⟩ = some (.int .i64 20) := HG5.out.cell (by first | exact (((Below.refl _ w2).alloc (Nat.le_refl _) _).cell (p := ⟨w.heap.size, 0, none⟩) hlt).trans c0 | exact (((Below.refl _ w2.drew).alloc (Nat.le_refl _) _).cell (p := ⟨w.heap.size, 0, none⟩) hlt).trans c0) (by simp [Value.ownBlock])
       have d1 : w5.cell? ⟨w.heap.size, 1, none⟩ = some (.int .i64 N) := HG5.out.cell (by first | exact (((Below.refl _ w2).alloc (Nat.le_refl _) _).cell (p := ⟨w.heap.size, 1, none⟩) hlt).trans c1 | exact (((Below.refl _ w2.drew).alloc (Nat.le_refl _) _).cell (p := ⟨w.heap.size, 1, none⟩) hlt).trans c1) (by simp [Value.ownBlock])
       have d2 : w5.cell? ⟨w.heap.size, 2, none⟩ = some (.int .i64 M) := HG5.out.cell (by first | exact (((Below.refl _ w2).alloc (Nat.le_refl _) _).cell (p := ⟨w.heap.size, 2, none⟩) hlt).trans c2 | exact (((Below.refl _ w2.drew).alloc (Nat.le_refl _) _).cell (p := ⟨w.heap.size, 2, none⟩) hlt).trans c2) (by simp [Value.ownBlock])
       have d3 : w5.cell? ⟨w.heap.size, 3, none⟩ = some (.string S) := HG5.out.cell (by first | exact (((Below.refl _ w2).alloc (Nat.le_refl _) _).cell (p := ⟨w.heap.size, 3, none⟩) hlt).trans c3 | exact (((Below.refl _ w2.drew).alloc (Nat.le_refl _) _).cell (p := ⟨w.heap.size, 3, none⟩) hlt).trans c3) (by simp [Value.ownBlock]))
    | (go_simp; go_at_call 59; refine (plain_any ⟨20, N, M, S⟩ _).mono ?_; rw [HP.out]; rintro e w9 ⟨rfl, rfl⟩))
  all_goals
    have hb5 : Below w.heap.size w w5 := ((HB.out.alloc HB.out.size _).drew).grown HG5.out (by have := HB.out.size; simp; omega) (fun g hg => by simp [Value.ownBlock] at hg; omega)
    clear d0 d1 d2 d3
    go_wp2_with fail
    go_ret2
    exact ⟨v5, rfl, (read_of_own (l := [0, 0, 0, 0]) HO5.out rfl rfl).alloc _, hb5.alloc hb5.size _⟩

set_option maxRecDepth 20000 in
set_option maxHeartbeats 2000000 in
theorem rb_21 (N M : Int) (S : ByteArray) (w : World) :
    Calls Tryd.prog 23 #[.agg #[.int .i64 21, .int .i64 N, .int .i64 M, .string S]] w (RBPost [0, 0, 1, 0, 0, 0] (plainB ⟨21, N, M, S⟩) w) := by
  obtain ⟨i0, hi, hz0, hz1, hz2⟩ := info_parts Tryd.infoInt
  obtain ⟨pl, hpl⟩ : ∃ b, plainB ⟨21, N, M, S⟩ = b := ⟨_, rfl⟩
  rw [hpl]
  have HP := Lib.hid hpl; clear hpl
  go_enter Tryd.func23, Tryd.ntmps23
  go_wp2_with fail
  obtain ⟨w2, hw2, hsz, hown, hb, c0, c1, c2, c3⟩ := rb_start w 21 N M S
  rw [hw2]
  clear hw2
  have HO := Lib.hid hown; clear hown
  have HB := Lib.hid hb; clear hb
  have hlt : w.heap.size < w2.heap.size := by omega
  have hle : w.heap.size + 1 < w2.heap.size := by omega
  clear hsz
  have hone : ∀ u ∈ [Value.int .i64 0, .int .i64 0, .int .i64 1, .int .i64 0, .int .i64 0, .int .i64 0], u.oneCell' = true := by intro u hu; obtain ⟨x, _, rfl⟩ := List.mem_map.1 (show u ∈ ([0, 0, 1, 0, 0, 0] : List Int).map (Value.int .i64) from hu); rfl
  have HONE := Lib.hid hone; clear hone
  go_region_law (first
    | (refine step_append_row rfl (.tmp 148) (.tmp 149) 25 rfl w.heap.size 3 i0 (.int .i64 0) 1 8 Tryd.underlying25 hi hz0 hz1 hz2 rfl (by decide) (.slice (some ⟨w.heap.size + 1, 0, none⟩) 0 0) 0 [] (by rfl) (by first | exact HO.out.alloc _ | exact (HO.out.alloc _).drew | exact HO.out.drew.alloc _) (.slice (some ⟨w2.heap.size, 0, none⟩) 6 6) 6 [.int .i64 0, .int .i64 0, .int .i64 1, .int .i64 0, .int .i64 0, .int .i64 0] (by rfl) (by first | exact RowAt.lit w2 _ #[.int .i64 0, .int .i64 0, .int .i64 1, .int .i64 0, .int .i64 0, .int .i64 0] 6 rfl (by unfold maxLen; omega) | exact RowAt.lit w2.drew _ #[.int .i64 0, .int .i64 0, .int .i64 1, .int .i64 0, .int .i64 0, .int .i64 0] 6 rfl (by unfold maxLen; omega)) HONE.out (by omega) (by unfold maxLen; omega) (by simp; omega) ?_; intro v5 w5 hown5 hg5 hat5
       have HO5 := Lib.hid hown5; clear hown5
       have HG5 := Lib.hid hg5; clear hg5
       have d0 : w5.cell? ⟨w.heap.size, 0, none⟩ = some (.int .i64 21) := HG5.out.cell (by first | exact (((Below.refl _ w2).alloc (Nat.le_refl _) _).cell (p := ⟨w.heap.size, 0, none⟩) hlt).trans c0 | exact (((Below.refl _ w2.drew).alloc (Nat.le_refl _) _).cell (p := ⟨w.heap.size, 0, none⟩) hlt).trans c0) (by simp [Value.ownBlock])
       have d1 : w5.cell? ⟨w.heap.size, 1, none⟩ = some (.int .i64 N) := HG5.out.cell (by first | exact (((Below.refl _ w2).alloc (Nat.le_refl _) _).cell (p := ⟨w.heap.size, 1, none⟩) hlt).trans c1 | exact (((Below.refl _ w2.drew).alloc (Nat.le_refl _) _).cell (p := ⟨w.heap.size, 1, none⟩) hlt).trans c1) (by simp [Value.ownBlock])
       have d2 : w5.cell? ⟨w.heap.size, 2, none⟩ = some (.int .i64 M) := HG5.out.cell (by first | exact (((Below.refl _ w2).alloc (Nat.le_refl _) _).cell (p := ⟨w.heap.size, 2, none⟩) hlt).trans c2 | exact (((Below.refl _ w2.drew).alloc (Nat.le_refl _) _).cell (p := ⟨w.heap.size, 2, none⟩) hlt).trans c2) (by simp [Value.ownBlock])
       have d3 : w5.cell? ⟨w.heap.size, 3, none⟩ = some (.string S) := HG5.out.cell (by first | exact (((Below.refl _ w2).alloc (Nat.le_refl _) _).cell (p := ⟨w.heap.size, 3, none⟩) hlt).trans c3 | exact (((Below.refl _ w2.drew).alloc (Nat.le_refl _) _).cell (p := ⟨w.heap.size, 3, none⟩) hlt).trans c3) (by simp [Value.ownBlock]))
    | (go_simp; go_at_call 59; refine (plain_any ⟨21, N, M, S⟩ _).mono ?_; rw [HP.out]; rintro e w9 ⟨rfl, rfl⟩))
  all_goals
    have hb5 : Below w.heap.size w w5 := ((HB.out.alloc HB.out.size _).drew).grown HG5.out (by have := HB.out.size; simp; omega) (fun g hg => by simp [Value.ownBlock] at hg; omega)
    clear d0 d1 d2 d3
    go_wp2_with fail
    go_ret2
    exact ⟨v5, rfl, (read_of_own (l := [0, 0, 1, 0, 0, 0]) HO5.out rfl rfl).alloc _, hb5.alloc hb5.size _⟩

set_option maxRecDepth 20000 in
set_option maxHeartbeats 2000000 in
theorem rb_22 (N M : Int) (S : ByteArray) (w : World) :
    Calls Tryd.prog 23 #[.agg #[.int .i64 22, .int .i64 N, .int .i64 M, .string S]] w (RBPost [0, 2, 0, 0, 0] (plainB ⟨22, N, M, S⟩) w) := by
  obtain ⟨i0, hi, hz0, hz1, hz2⟩ := info_parts Tryd.infoInt
  obtain ⟨pl, hpl⟩ : ∃ b, plainB ⟨22, N, M, S⟩ = b := ⟨_, rfl⟩
  rw [hpl]
  have HP := Lib.hid hpl; clear hpl
  go_enter Tryd.func23, Tryd.ntmps23
  go_wp2_with fail
  obtain ⟨w2, hw2, hsz, hown, hb, c0, c1, c2, c3⟩ := rb_start w 22 N M S
  rw [hw2]
  clear hw2
  have HO := Lib.hid hown; clear hown
  have HB := Lib.hid hb; clear hb
  have hlt : w.heap.size < w2.heap.size := by omega
  have hle : w.heap.size + 1 < w2.heap.size := by omega
  clear hsz
  have hone : ∀ u ∈ [Value.int .i64 0, .int .i64 2, .int .i64 0, .int .i64 0, .int .i64 0], u.oneCell' = true := by intro u hu; obtain ⟨x, _, rfl⟩ := List.mem_map.1 (show u ∈ ([0, 2, 0, 0, 0] : List Int).map (Value.int .i64) from hu); rfl
  have HONE := Lib.hid hone; clear hone
  go_region_law (first
    | (refine step_append_row rfl (.tmp 155) (.tmp 156) 25 rfl w.heap.size 3 i0 (.int .i64 0) 1 8 Tryd.underlying25 hi hz0 hz1 hz2 rfl (by decide) (.slice (some ⟨w.heap.size + 1, 0, none⟩) 0 0) 0 [] (by rfl) (by first | exact HO.out.alloc _ | exact (HO.out.alloc _).drew | exact HO.out.drew.alloc _) (.slice (some ⟨w2.heap.size, 0, none⟩) 5 5) 5 [.int .i64 0, .int .i64 2, .int .i64 0, .int .i64 0, .int .i64 0] (by rfl) (by first | exact RowAt.lit w2 _ #[.int .i64 0, .int .i64 2, .int .i64 0, .int .i64 0, .int .i64 0] 5 rfl (by unfold maxLen; omega) | exact RowAt.lit w2.drew _ #[.int .i64 0, .int .i64 2, .int .i64 0, .int .i64 0, .int .i64 0] 5 rfl (by unfold maxLen; omega)) HONE.out (by omega) (by unfold maxLen; omega) (by simp; omega) ?_; intro v5 w5 hown5 hg5 hat5
       have HO5 := Lib.hid hown5; clear hown5
       have HG5 := Lib.hid hg5; clear hg5
       have d0 : w5.cell? ⟨w.heap.size, 0, none⟩ = some (.int .i64 22) := HG5.out.cell (by first | exact (((Below.refl _ w2).alloc (Nat.le_refl _) _).cell (p := ⟨w.heap.size, 0, none⟩) hlt).trans c0 | exact (((Below.refl _ w2.drew).alloc (Nat.le_refl _) _).cell (p := ⟨w.heap.size, 0, none⟩) hlt).trans c0) (by simp [Value.ownBlock])
       have d1 : w5.cell? ⟨w.heap.size, 1, none⟩ = some (.int .i64 N) := HG5.out.cell (by first | exact (((Below.refl _ w2).alloc (Nat.le_refl _) _).cell (p := ⟨w.heap.size, 1, none⟩) hlt).trans c1 | exact (((Below.refl _ w2.drew).alloc (Nat.le_refl _) _).cell (p := ⟨w.heap.size, 1, none⟩) hlt).trans c1) (by simp [Value.ownBlock])
       have d2 : w5.cell? ⟨w.heap.size, 2, none⟩ = some (.int .i64 M) := HG5.out.cell (by first | exact (((Below.refl _ w2).alloc (Nat.le_refl _) _).cell (p := ⟨w.heap.size, 2, none⟩) hlt).trans c2 | exact (((Below.refl _ w2.drew).alloc (Nat.le_refl _) _).cell (p := ⟨w.heap.size, 2, none⟩) hlt).trans c2) (by simp [Value.ownBlock])
       have d3 : w5.cell? ⟨w.heap.size, 3, none⟩ = some (.string S) := HG5.out.cell (by first | exact (((Below.refl _ w2).alloc (Nat.le_refl _) _).cell (p := ⟨w.heap.size, 3, none⟩) hlt).trans c3 | exact (((Below.refl _ w2.drew).alloc (Nat.le_refl _) _).cell (p := ⟨w.heap.size, 3, none⟩) hlt).trans c3) (by simp [Value.ownBlock]))
    | (go_simp; go_at_call 59; refine (plain_any ⟨22, N, M, S⟩ _).mono ?_; rw [HP.out]; rintro e w9 ⟨rfl, rfl⟩))
  all_goals
    have hb5 : Below w.heap.size w w5 := ((HB.out.alloc HB.out.size _).drew).grown HG5.out (by have := HB.out.size; simp; omega) (fun g hg => by simp [Value.ownBlock] at hg; omega)
    clear d0 d1 d2 d3
    go_wp2_with fail
    go_ret2
    exact ⟨v5, rfl, (read_of_own (l := [0, 2, 0, 0, 0]) HO5.out rfl rfl).alloc _, hb5.alloc hb5.size _⟩

set_option maxRecDepth 20000 in
set_option maxHeartbeats 2000000 in
theorem rb_24 (N M : Int) (S : ByteArray) (w : World) :
    Calls Tryd.prog 23 #[.agg #[.int .i64 24, .int .i64 N, .int .i64 M, .string S]] w (RBPost [0, 1, 0, 0] (plainB ⟨24, N, M, S⟩) w) := by
  obtain ⟨i0, hi, hz0, hz1, hz2⟩ := info_parts Tryd.infoInt
  obtain ⟨pl, hpl⟩ : ∃ b, plainB ⟨24, N, M, S⟩ = b := ⟨_, rfl⟩
  rw [hpl]
  have HP := Lib.hid hpl; clear hpl
  go_enter Tryd.func23, Tryd.ntmps23
  go_wp2_with fail
  obtain ⟨w2, hw2, hsz, hown, hb, c0, c1, c2, c3⟩ := rb_start w 24 N M S
  rw [hw2]
  clear hw2
  have HO := Lib.hid hown; clear hown
  have HB := Lib.hid hb; clear hb
  have hlt : w.heap.size < w2.heap.size := by omega
  have hle : w.heap.size + 1 < w2.heap.size := by omega
  clear hsz
  have hone : ∀ u ∈ [Value.int .i64 0, .int .i64 1, .int .i64 0, .int .i64 0], u.oneCell' = true := by intro u hu; obtain ⟨x, _, rfl⟩ := List.mem_map.1 (show u ∈ ([0, 1, 0, 0] : List Int).map (Value.int .i64) from hu); rfl
  have HONE := Lib.hid hone; clear hone
  go_region_law (first
    | (refine step_append_row rfl (.tmp 162) (.tmp 163) 25 rfl w.heap.size 3 i0 (.int .i64 0) 1 8 Tryd.underlying25 hi hz0 hz1 hz2 rfl (by decide) (.slice (some ⟨w.heap.size + 1, 0, none⟩) 0 0) 0 [] (by rfl) (by first | exact HO.out.alloc _ | exact (HO.out.alloc _).drew | exact HO.out.drew.alloc _) (.slice (some ⟨w2.heap.size, 0, none⟩) 4 4) 4 [.int .i64 0, .int .i64 1, .int .i64 0, .int .i64 0] (by rfl) (by first | exact RowAt.lit w2 _ #[.int .i64 0, .int .i64 1, .int .i64 0, .int .i64 0] 4 rfl (by unfold maxLen; omega) | exact RowAt.lit w2.drew _ #[.int .i64 0, .int .i64 1, .int .i64 0, .int .i64 0] 4 rfl (by unfold maxLen; omega)) HONE.out (by omega) (by unfold maxLen; omega) (by simp; omega) ?_; intro v5 w5 hown5 hg5 hat5
       have HO5 := Lib.hid hown5; clear hown5
       have HG5 := Lib.hid hg5; clear hg5
       have d0 : w5.cell? ⟨w.heap.size, 0, none⟩ = some (.int .i64 24) := HG5.out.cell (by first | exact (((Below.refl _ w2).alloc (Nat.le_refl _) _).cell (p := ⟨w.heap.size, 0, none⟩) hlt).trans c0 | exact (((Below.refl _ w2.drew).alloc (Nat.le_refl _) _).cell (p := ⟨w.heap.size, 0, none⟩) hlt).trans c0) (by simp [Value.ownBlock])
       have d1 : w5.cell? ⟨w.heap.size, 1, none⟩ = some (.int .i64 N) := HG5.out.cell (by first | exact (((Below.refl _ w2).alloc (Nat.le_refl _) _).cell (p := ⟨w.heap.size, 1, none⟩) hlt).trans c1 | exact (((Below.refl _ w2.drew).alloc (Nat.le_refl _) _).cell (p := ⟨w.heap.size, 1, none⟩) hlt).trans c1) (by simp [Value.ownBlock])
       have d2 : w5.cell? ⟨w.heap.size, 2, none⟩ = some (.int .i64 M) := HG5.out.cell (by first | exact (((Below.refl _ w2).alloc (Nat.le_refl _) _).cell (p := ⟨w.heap.size, 2, none⟩) hlt).trans c2 | exact (((Below.refl _ w2.drew).alloc (Nat.le_refl _) _).cell (p := ⟨w.heap.size, 2, none⟩) hlt).trans c2) (by simp [Value.ownBlock])
       have d3 : w5.cell? ⟨w.heap.size, 3, none⟩ = some (.string S) := HG5.out.cell (by first | exact (((Below.refl _ w2).alloc (Nat.le_refl _) _).cell (p := ⟨w.heap.size, 3, none⟩) hlt).trans c3 | exact (((Below.refl _ w2.drew).alloc (Nat.le_refl _) _).cell (p := ⟨w.heap.size, 3, none⟩) hlt).trans c3) (by simp [Value.ownBlock]))
    | (go_simp; go_at_call 59; refine (plain_any ⟨24, N, M, S⟩ _).mono ?_; rw [HP.out]; rintro e w9 ⟨rfl, rfl⟩))
  all_goals
    have hb5 : Below w.heap.size w w5 := ((HB.out.alloc HB.out.size _).drew).grown HG5.out (by have := HB.out.size; simp; omega) (fun g hg => by simp [Value.ownBlock] at hg; omega)
    clear d0 d1 d2 d3
    go_wp2_with fail
    go_ret2
    exact ⟨v5, rfl, (read_of_own (l := [0, 1, 0, 0]) HO5.out rfl rfl).alloc _, hb5.alloc hb5.size _⟩

set_option maxRecDepth 20000 in
set_option maxHeartbeats 2000000 in
theorem rb_10 (N M : Int) (S : ByteArray) (w : World) :
    Calls Tryd.prog 23 #[.agg #[.int .i64 10, .int .i64 N, .int .i64 M, .string S]] w (RBPost [] (plainB ⟨10, N, M, S⟩) w) := by
  obtain ⟨pl, hpl⟩ : ∃ b, plainB ⟨10, N, M, S⟩ = b := ⟨_, rfl⟩
  rw [hpl]
  have HP := Lib.hid hpl; clear hpl
  go_enter Tryd.func23, Tryd.ntmps23
  go_wp2_with (go_at_call 59; refine (plain_any ⟨10, N, M, S⟩ _).mono ?_; rw [HP.out]; rintro e w9 ⟨rfl, rfl⟩)
  go_ret2
  obtain ⟨w2, hw2, hsz, hown, hb, c0, c1, c2, c3⟩ := rb_start w 10 N M S
  rw [hw2]
  exact ⟨_, rfl, (read_of_own (l := []) hown rfl rfl).alloc _, hb.alloc hb.size _⟩

set_option maxRecDepth 20000 in
set_option maxHeartbeats 2000000 in
theorem rb_11 (N M : Int) (S : ByteArray) (w : World) :
    Calls Tryd.prog 23 #[.agg #[.int .i64 11, .int .i64 N, .int .i64 M, .string S]] w (RBPost [] (plainB ⟨11, N, M, S⟩) w) := by
  obtain ⟨pl, hpl⟩ : ∃ b, plainB ⟨11, N, M, S⟩ = b := ⟨_, rfl⟩
  rw [hpl]
  have HP := Lib.hid hpl; clear hpl
  go_enter Tryd.func23, Tryd.ntmps23
  go_wp2_with (go_at_call 59; refine (plain_any ⟨11, N, M, S⟩ _).mono ?_; rw [HP.out]; rintro e w9 ⟨rfl, rfl⟩)
  go_ret2
  obtain ⟨w2, hw2, hsz, hown, hb, c0, c1, c2, c3⟩ := rb_start w 11 N M S
  rw [hw2]
  exact ⟨_, rfl, (read_of_own (l := []) hown rfl rfl).alloc _, hb.alloc hb.size _⟩

set_option maxRecDepth 20000 in
set_option maxHeartbeats 2000000 in
theorem rb_14 (N M : Int) (S : ByteArray) (w : World) :
    Calls Tryd.prog 23 #[.agg #[.int .i64 14, .int .i64 N, .int .i64 M, .string S]] w (RBPost [] (plainB ⟨14, N, M, S⟩) w) := by
  obtain ⟨pl, hpl⟩ : ∃ b, plainB ⟨14, N, M, S⟩ = b := ⟨_, rfl⟩
  rw [hpl]
  have HP := Lib.hid hpl; clear hpl
  go_enter Tryd.func23, Tryd.ntmps23
  go_wp2_with (go_at_call 59; refine (plain_any ⟨14, N, M, S⟩ _).mono ?_; rw [HP.out]; rintro e w9 ⟨rfl, rfl⟩)
  go_ret2
  obtain ⟨w2, hw2, hsz, hown, hb, c0, c1, c2, c3⟩ := rb_start w 14 N M S
  rw [hw2]
  exact ⟨_, rfl, (read_of_own (l := []) hown rfl rfl).alloc _, hb.alloc hb.size _⟩

set_option maxRecDepth 20000 in
set_option maxHeartbeats 2000000 in
theorem rb_16 (N M : Int) (S : ByteArray) (w : World) :
    Calls Tryd.prog 23 #[.agg #[.int .i64 16, .int .i64 N, .int .i64 M, .string S]] w (RBPost [] (plainB ⟨16, N, M, S⟩) w) := by
  obtain ⟨pl, hpl⟩ : ∃ b, plainB ⟨16, N, M, S⟩ = b := ⟨_, rfl⟩
  rw [hpl]
  have HP := Lib.hid hpl; clear hpl
  go_enter Tryd.func23, Tryd.ntmps23
  go_wp2_with (go_at_call 59; refine (plain_any ⟨16, N, M, S⟩ _).mono ?_; rw [HP.out]; rintro e w9 ⟨rfl, rfl⟩)
  go_ret2
  obtain ⟨w2, hw2, hsz, hown, hb, c0, c1, c2, c3⟩ := rb_start w 16 N M S
  rw [hw2]
  exact ⟨_, rfl, (read_of_own (l := []) hown rfl rfl).alloc _, hb.alloc hb.size _⟩

set_option maxRecDepth 20000 in
set_option maxHeartbeats 2000000 in
theorem rb_17 (N M : Int) (S : ByteArray) (w : World) :
    Calls Tryd.prog 23 #[.agg #[.int .i64 17, .int .i64 N, .int .i64 M, .string S]] w (RBPost [] (plainB ⟨17, N, M, S⟩) w) := by
  obtain ⟨pl, hpl⟩ : ∃ b, plainB ⟨17, N, M, S⟩ = b := ⟨_, rfl⟩
  rw [hpl]
  have HP := Lib.hid hpl; clear hpl
  go_enter Tryd.func23, Tryd.ntmps23
  go_wp2_with (go_at_call 59; refine (plain_any ⟨17, N, M, S⟩ _).mono ?_; rw [HP.out]; rintro e w9 ⟨rfl, rfl⟩)
  go_ret2
  obtain ⟨w2, hw2, hsz, hown, hb, c0, c1, c2, c3⟩ := rb_start w 17 N M S
  rw [hw2]
  exact ⟨_, rfl, (read_of_own (l := []) hown rfl rfl).alloc _, hb.alloc hb.size _⟩

set_option maxRecDepth 20000 in
set_option maxHeartbeats 2000000 in
theorem rb_29 (N M : Int) (S : ByteArray) (w : World) :
    Calls Tryd.prog 23 #[.agg #[.int .i64 29, .int .i64 N, .int .i64 M, .string S]] w (RBPost [] (plainB ⟨29, N, M, S⟩) w) := by
  obtain ⟨pl, hpl⟩ : ∃ b, plainB ⟨29, N, M, S⟩ = b := ⟨_, rfl⟩
  rw [hpl]
  have HP := Lib.hid hpl; clear hpl
  go_enter Tryd.func23, Tryd.ntmps23
  go_wp2_with (go_at_call 59; refine (plain_any ⟨29, N, M, S⟩ _).mono ?_; rw [HP.out]; rintro e w9 ⟨rfl, rfl⟩)
  go_ret2
  obtain ⟨w2, hw2, hsz, hown, hb, c0, c1, c2, c3⟩ := rb_start w 29 N M S
  rw [hw2]
  exact ⟨_, rfl, (read_of_own (l := []) hown rfl rfl).alloc _, hb.alloc hb.size _⟩


end Go.Proofs.YtjhgpifccleknaaDoor
