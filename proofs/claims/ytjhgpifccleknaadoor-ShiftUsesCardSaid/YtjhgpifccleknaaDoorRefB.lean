/- What the reference's Binds comes to, kind by kind; no condition but the string's size. -/
import Derived.Test.YtjhgpifccleknaaDoorRefN
import Derived.Test.YtjhgpifccleknaaDoorRowLaws
import Derived.Deep.RegionLaw
namespace Go.Proofs.YtjhgpifccleknaaDoor
set_option linter.unusedSimpArgs false
set_option linter.unusedVariables false
open Go.RowKit

def RBPost (l : List Int) (b : Bool) (w : World) (e : Ending) (w' : World) : Prop :=
  ∃ v, e = .returned (.tuple #[v, .bool b]) ∧ ReadI w' v l ∧ Below w.heap.size w w'

/-- what the reference's Binds has laid when it comes to a kind's answer -/
theorem rb_start (w : World) (K N M : Int) (S : ByteArray) : ∃ w2 : World, ((w.alloc (.cells #[.int .i64 K, .int .i64 N, .int .i64 M, .string S] 23)).alloc (.cells #[] 3)) = w2 ∧ w2.heap.size = w.heap.size + 2 ∧
    w2.ownsRow w.heap.size 3 1 (.slice (some ⟨w.heap.size + 1, 0, none⟩) 0 0) 0 [] ∧ Below w.heap.size w w2 ∧
    w2.cell? ⟨w.heap.size, 0, none⟩ = some (.int .i64 K) ∧ w2.cell? ⟨w.heap.size, 1, none⟩ = some (.int .i64 N) ∧ w2.cell? ⟨w.heap.size, 2, none⟩ = some (.int .i64 M) ∧ w2.cell? ⟨w.heap.size, 3, none⟩ = some (.string S) := by
  have hb : Below (w.heap.size + 1) (w.alloc (.cells #[.int .i64 K, .int .i64 N, .int .i64 M, .string S] 23)) ((w.alloc (.cells #[.int .i64 K, .int .i64 N, .int .i64 M, .string S] 23)).alloc (.cells #[] 3)) := (Below.refl _ _).alloc (by simp) _
  obtain ⟨c0, c1, c2, c3, _⟩ := box_cells hb
  refine ⟨_, rfl, by simp, ?_, below_box hb, c0, c1, c2, c3⟩
  have h := World.ownsRow_lit (base := w.heap.size) (e := 3) (size := 1) (w.alloc (.cells #[.int .i64 K, .int .i64 N, .int .i64 M, .string S] 23)) #[] 0 (by simp) (by unfold maxLen; omega) (by simp)
  simpa using h

set_option maxRecDepth 20000 in
set_option maxHeartbeats 2000000 in
theorem rb_4 (N M : Int) (S : ByteArray) (w : World) :
    Calls Tryd.prog 23 #[.agg #[.int .i64 4, .int .i64 N, .int .i64 M, .string S]] w (RBPost [0, 1] (plainB ⟨4, N, M, S⟩) w) := by
  obtain ⟨i0, hi, hz0, hz1, hz2⟩ := info_parts Tryd.infoInt
  obtain ⟨pl, hpl⟩ : ∃ b, plainB ⟨4, N, M, S⟩ = b := ⟨_, rfl⟩
  rw [hpl]
  have HP := Lib.hid hpl; clear hpl
  go_enter Tryd.func23, Tryd.ntmps23
  go_wp2_with fail
  obtain ⟨w2, hw2, hsz, hown, hb, c0, c1, c2, c3⟩ := rb_start w 4 N M S
  rw [hw2]
  clear hw2
  have HO := Lib.hid hown; clear hown
  have HB := Lib.hid hb; clear hb
  have hlt : w.heap.size < w2.heap.size := by omega
  have hle : w.heap.size + 1 < w2.heap.size := by omega
  clear hsz
  have hone : ∀ u ∈ [Value.int .i64 0, .int .i64 1], u.oneCell' = true := by intro u hu; obtain ⟨x, _, rfl⟩ := List.mem_map.1 (show u ∈ ([0, 1] : List Int).map (Value.int .i64) from hu); rfl
  have HONE := Lib.hid hone; clear hone
  go_region_law (first
    | (refine step_append_row rfl (.tmp 89) (.tmp 90) 25 rfl w.heap.size 3 i0 (.int .i64 0) 1 8 Tryd.underlying25 hi hz0 hz1 hz2 rfl (by decide) (.slice (some ⟨w.heap.size + 1, 0, none⟩) 0 0) 0 [] (by rfl) (by first | exact HO.out.alloc _ | exact (HO.out.alloc _).drew | exact HO.out.drew.alloc _) (.slice (some ⟨w2.heap.size, 0, none⟩) 2 2) 2 [.int .i64 0, .int .i64 1] (by rfl) (by first | exact RowAt.lit w2 _ #[.int .i64 0, .int .i64 1] 2 rfl (by unfold maxLen; omega) | exact RowAt.lit w2.drew _ #[.int .i64 0, .int .i64 1] 2 rfl (by unfold maxLen; omega)) HONE.out (by omega) (by unfold maxLen; omega) (by simp; omega) ?_; intro v5 w5 hown5 hg5 hat5
       have HO5 := Lib.hid hown5; clear hown5
       have HG5 := Lib.hid hg5; clear hg5
       have d0 : w5.cell? ⟨w.heap.size, 0, none⟩ = some (.int .i64 4) := HG5.out.cell (by first | exact (((Below.refl _ w2).alloc (Nat.le_refl _) _).cell (p := ⟨w.heap.size, 0, none⟩) hlt).trans c0 | exact (((Below.refl _ w2.drew).alloc (Nat.le_refl _) _).cell (p := ⟨w.heap.size, 0, none⟩) hlt).trans c0) (by simp [Value.ownBlock])
       have d1 : w5.cell? ⟨w.heap.size, 1, none⟩ = some (.int .i64 N) := HG5.out.cell (by first | exact (((Below.refl _ w2).alloc (Nat.le_refl _) _).cell (p := ⟨w.heap.size, 1, none⟩) hlt).trans c1 | exact (((Below.refl _ w2.drew).alloc (Nat.le_refl _) _).cell (p := ⟨w.heap.size, 1, none⟩) hlt).trans c1) (by simp [Value.ownBlock])
       have d2 : w5.cell? ⟨w.heap.size, 2, none⟩ = some (.int .i64 M) := HG5.out.cell (by first | exact (((Below.refl _ w2).alloc (Nat.le_refl _) _).cell (p := ⟨w.heap.size, 2, none⟩) hlt).trans c2 | exact (((Below.refl _ w2.drew).alloc (Nat.le_refl _) _).cell (p := ⟨w.heap.size, 2, none⟩) hlt).trans c2) (by simp [Value.ownBlock])
       have d3 : w5.cell? ⟨w.heap.size, 3, none⟩ = some (.string S) := HG5.out.cell (by first | exact (((Below.refl _ w2).alloc (Nat.le_refl _) _).cell (p := ⟨w.heap.size, 3, none⟩) hlt).trans c3 | exact (((Below.refl _ w2.drew).alloc (Nat.le_refl _) _).cell (p := ⟨w.heap.size, 3, none⟩) hlt).trans c3) (by simp [Value.ownBlock]))
    | (go_simp; go_at_call 59; refine (plain_any ⟨4, N, M, S⟩ _).mono ?_; rw [HP.out]; rintro e w9 ⟨rfl, rfl⟩))
  all_goals
    have hb5 : Below w.heap.size w w5 := ((HB.out.alloc HB.out.size _).drew).grown HG5.out (by have := HB.out.size; simp; omega) (fun g hg => by simp [Value.ownBlock] at hg; omega)
    clear d0 d1 d2 d3
    go_wp2_with fail
    go_ret2
    exact ⟨v5, rfl, (read_of_own (l := [0, 1]) HO5.out rfl rfl).alloc _, hb5.alloc hb5.size _⟩

set_option maxRecDepth 20000 in
set_option maxHeartbeats 2000000 in
theorem rb_5 (N M : Int) (S : ByteArray) (w : World) :
    Calls Tryd.prog 23 #[.agg #[.int .i64 5, .int .i64 N, .int .i64 M, .string S]] w (RBPost [0, 0] (plainB ⟨5, N, M, S⟩) w) := by
  obtain ⟨i0, hi, hz0, hz1, hz2⟩ := info_parts Tryd.infoInt
  obtain ⟨pl, hpl⟩ : ∃ b, plainB ⟨5, N, M, S⟩ = b := ⟨_, rfl⟩
  rw [hpl]
  have HP := Lib.hid hpl; clear hpl
  go_enter Tryd.func23, Tryd.ntmps23
  go_wp2_with fail
  obtain ⟨w2, hw2, hsz, hown, hb, c0, c1, c2, c3⟩ := rb_start w 5 N M S
  rw [hw2]
  clear hw2
  have HO := Lib.hid hown; clear hown
  have HB := Lib.hid hb; clear hb
  have hlt : w.heap.size < w2.heap.size := by omega
  have hle : w.heap.size + 1 < w2.heap.size := by omega
  clear hsz
  have hone : ∀ u ∈ [Value.int .i64 0, .int .i64 0], u.oneCell' = true := by intro u hu; obtain ⟨x, _, rfl⟩ := List.mem_map.1 (show u ∈ ([0, 0] : List Int).map (Value.int .i64) from hu); rfl
  have HONE := Lib.hid hone; clear hone
  go_region_law (first
    | (refine step_append_row rfl (.tmp 99) (.tmp 100) 25 rfl w.heap.size 3 i0 (.int .i64 0) 1 8 Tryd.underlying25 hi hz0 hz1 hz2 rfl (by decide) (.slice (some ⟨w.heap.size + 1, 0, none⟩) 0 0) 0 [] (by rfl) (by first | exact HO.out.alloc _ | exact (HO.out.alloc _).drew | exact HO.out.drew.alloc _) (.slice (some ⟨w2.heap.size, 0, none⟩) 2 2) 2 [.int .i64 0, .int .i64 0] (by rfl) (by first | exact RowAt.lit w2 _ #[.int .i64 0, .int .i64 0] 2 rfl (by unfold maxLen; omega) | exact RowAt.lit w2.drew _ #[.int .i64 0, .int .i64 0] 2 rfl (by unfold maxLen; omega)) HONE.out (by omega) (by unfold maxLen; omega) (by simp; omega) ?_; intro v5 w5 hown5 hg5 hat5
       have HO5 := Lib.hid hown5; clear hown5
       have HG5 := Lib.hid hg5; clear hg5
       have d0 : w5.cell? ⟨w.heap.size, 0, none⟩ = some (.int .i64 5) := HG5.out.cell (by first | exact (((Below.refl _ w2).alloc (Nat.le_refl _) _).cell (p := ⟨w.heap.size, 0, none⟩) hlt).trans c0 | exact (((Below.refl _ w2.drew).alloc (Nat.le_refl _) _).cell (p := ⟨w.heap.size, 0, none⟩) hlt).trans c0) (by simp [Value.ownBlock])
       have d1 : w5.cell? ⟨w.heap.size, 1, none⟩ = some (.int .i64 N) := HG5.out.cell (by first | exact (((Below.refl _ w2).alloc (Nat.le_refl _) _).cell (p := ⟨w.heap.size, 1, none⟩) hlt).trans c1 | exact (((Below.refl _ w2.drew).alloc (Nat.le_refl _) _).cell (p := ⟨w.heap.size, 1, none⟩) hlt).trans c1) (by simp [Value.ownBlock])
       have d2 : w5.cell? ⟨w.heap.size, 2, none⟩ = some (.int .i64 M) := HG5.out.cell (by first | exact (((Below.refl _ w2).alloc (Nat.le_refl _) _).cell (p := ⟨w.heap.size, 2, none⟩) hlt).trans c2 | exact (((Below.refl _ w2.drew).alloc (Nat.le_refl _) _).cell (p := ⟨w.heap.size, 2, none⟩) hlt).trans c2) (by simp [Value.ownBlock])
       have d3 : w5.cell? ⟨w.heap.size, 3, none⟩ = some (.string S) := HG5.out.cell (by first | exact (((Below.refl _ w2).alloc (Nat.le_refl _) _).cell (p := ⟨w.heap.size, 3, none⟩) hlt).trans c3 | exact (((Below.refl _ w2.drew).alloc (Nat.le_refl _) _).cell (p := ⟨w.heap.size, 3, none⟩) hlt).trans c3) (by simp [Value.ownBlock]))
    | (go_simp; go_at_call 59; refine (plain_any ⟨5, N, M, S⟩ _).mono ?_; rw [HP.out]; rintro e w9 ⟨rfl, rfl⟩))
  all_goals
    have hb5 : Below w.heap.size w w5 := ((HB.out.alloc HB.out.size _).drew).grown HG5.out (by have := HB.out.size; simp; omega) (fun g hg => by simp [Value.ownBlock] at hg; omega)
    clear d0 d1 d2 d3
    go_wp2_with fail
    go_ret2
    exact ⟨v5, rfl, (read_of_own (l := [0, 0]) HO5.out rfl rfl).alloc _, hb5.alloc hb5.size _⟩

set_option maxRecDepth 20000 in
set_option maxHeartbeats 2000000 in
theorem rb_15 (N M : Int) (S : ByteArray) (w : World) :
    Calls Tryd.prog 23 #[.agg #[.int .i64 15, .int .i64 N, .int .i64 M, .string S]] w (RBPost [0, 0] (plainB ⟨15, N, M, S⟩) w) := by
  obtain ⟨i0, hi, hz0, hz1, hz2⟩ := info_parts Tryd.infoInt
  obtain ⟨pl, hpl⟩ : ∃ b, plainB ⟨15, N, M, S⟩ = b := ⟨_, rfl⟩
  rw [hpl]
  have HP := Lib.hid hpl; clear hpl
  go_enter Tryd.func23, Tryd.ntmps23
  go_wp2_with fail
  obtain ⟨w2, hw2, hsz, hown, hb, c0, c1, c2, c3⟩ := rb_start w 15 N M S
  rw [hw2]
  clear hw2
  have HO := Lib.hid hown; clear hown
  have HB := Lib.hid hb; clear hb
  have hlt : w.heap.size < w2.heap.size := by omega
  have hle : w.heap.size + 1 < w2.heap.size := by omega
  clear hsz
  have hone : ∀ u ∈ [Value.int .i64 0, .int .i64 0], u.oneCell' = true := by intro u hu; obtain ⟨x, _, rfl⟩ := List.mem_map.1 (show u ∈ ([0, 0] : List Int).map (Value.int .i64) from hu); rfl
  have HONE := Lib.hid hone; clear hone
  go_region_law (first
    | (refine step_append_row rfl (.tmp 99) (.tmp 100) 25 rfl w.heap.size 3 i0 (.int .i64 0) 1 8 Tryd.underlying25 hi hz0 hz1 hz2 rfl (by decide) (.slice (some ⟨w.heap.size + 1, 0, none⟩) 0 0) 0 [] (by rfl) (by first | exact HO.out.alloc _ | exact (HO.out.alloc _).drew | exact HO.out.drew.alloc _) (.slice (some ⟨w2.heap.size, 0, none⟩) 2 2) 2 [.int .i64 0, .int .i64 0] (by rfl) (by first | exact RowAt.lit w2 _ #[.int .i64 0, .int .i64 0] 2 rfl (by unfold maxLen; omega) | exact RowAt.lit w2.drew _ #[.int .i64 0, .int .i64 0] 2 rfl (by unfold maxLen; omega)) HONE.out (by omega) (by unfold maxLen; omega) (by simp; omega) ?_; intro v5 w5 hown5 hg5 hat5
       have HO5 := Lib.hid hown5; clear hown5
       have HG5 := Lib.hid hg5; clear hg5
       have d0 : w5.cell? ⟨w.heap.size, 0, none⟩ = some (.int .i64 15) := HG5.out.cell (by first | exact (((Below.refl _ w2).alloc (Nat.le_refl _) _).cell (p := ⟨w.heap.size, 0, none⟩) hlt).trans c0 | exact (((Below.refl _ w2.drew).alloc (Nat.le_refl _) _).cell (p := ⟨w.heap.size, 0, none⟩) hlt).trans c0) (by simp [Value.ownBlock])
       have d1 : w5.cell? ⟨w.heap.size, 1, none⟩ = some (.int .i64 N) := HG5.out.cell (by first | exact (((Below.refl _ w2).alloc (Nat.le_refl _) _).cell (p := ⟨w.heap.size, 1, none⟩) hlt).trans c1 | exact (((Below.refl _ w2.drew).alloc (Nat.le_refl _) _).cell (p := ⟨w.heap.size, 1, none⟩) hlt).trans c1) (by simp [Value.ownBlock])
       have d2 : w5.cell? ⟨w.heap.size, 2, none⟩ = some (.int .i64 M) := HG5.out.cell (by first | exact (((Below.refl _ w2).alloc (Nat.le_refl _) _).cell (p := ⟨w.heap.size, 2, none⟩) hlt).trans c2 | exact (((Below.refl _ w2.drew).alloc (Nat.le_refl _) _).cell (p := ⟨w.heap.size, 2, none⟩) hlt).trans c2) (by simp [Value.ownBlock])
       have d3 : w5.cell? ⟨w.heap.size, 3, none⟩ = some (.string S) := HG5.out.cell (by first | exact (((Below.refl _ w2).alloc (Nat.le_refl _) _).cell (p := ⟨w.heap.size, 3, none⟩) hlt).trans c3 | exact (((Below.refl _ w2.drew).alloc (Nat.le_refl _) _).cell (p := ⟨w.heap.size, 3, none⟩) hlt).trans c3) (by simp [Value.ownBlock]))
    | (go_simp; go_at_call 59; refine (plain_any ⟨15, N, M, S⟩ _).mono ?_; rw [HP.out]; rintro e w9 ⟨rfl, rfl⟩))
  all_goals
    have hb5 : Below w.heap.size w w5 := ((HB.out.alloc HB.out.size _).drew).grown HG5.out (by have := HB.out.size; simp; omega) (fun g hg => by simp [Value.ownBlock] at hg; omega)
    clear d0 d1 d2 d3
    go_wp2_with fail
    go_ret2
    exact ⟨v5, rfl, (read_of_own (l := [0, 0]) HO5.out rfl rfl).alloc _, hb5.alloc hb5.size _⟩

set_option maxRecDepth 20000 in
set_option maxHeartbeats 2000000 in
theorem rb_19 (N M : Int) (S : ByteArray) (w : World) :
    Calls Tryd.prog 23 #[.agg #[.int .i64 19, .int .i64 N, .int .i64 M, .string S]] w (RBPost [0, 0] (plainB ⟨19, N, M, S⟩) w) := by
  obtain ⟨i0, hi, hz0, hz1, hz2⟩ := info_parts Tryd.infoInt
  obtain ⟨pl, hpl⟩ : ∃ b, plainB ⟨19, N, M, S⟩ = b := ⟨_, rfl⟩
  rw [hpl]
  have HP := Lib.hid hpl; clear hpl
  go_enter Tryd.func23, Tryd.ntmps23
  go_wp2_with fail
  obtain ⟨w2, hw2, hsz, hown, hb, c0, c1, c2, c3⟩ := rb_start w 19 N M S
  rw [hw2]
  clear hw2
  have HO := Lib.hid hown; clear hown
  have HB := Lib.hid hb; clear hb
  have hlt : w.heap.size < w2.heap.size := by omega
  have hle : w.heap.size + 1 < w2.heap.size := by omega
  clear hsz
  have hone : ∀ u ∈ [Value.int .i64 0, .int .i64 0], u.oneCell' = true := by intro u hu; obtain ⟨x, _, rfl⟩ := List.mem_map.1 (show u ∈ ([0, 0] : List Int).map (Value.int .i64) from hu); rfl
  have HONE := Lib.hid hone; clear hone
  go_region_law (first
    | (refine step_append_row rfl (.tmp 99) (.tmp 100) 25 rfl w.heap.size 3 i0 (.int .i64 0) 1 8 Tryd.underlying25 hi hz0 hz1 hz2 rfl (by decide) (.slice (some ⟨w.heap.size + 1, 0, none⟩) 0 0) 0 [] (by rfl) (by first | exact HO.out.alloc _ | exact (HO.out.alloc _).drew | exact HO.out.drew.alloc _) (.slice (some ⟨w2.heap.size, 0, none⟩) 2 2) 2 [.int .i64 0, .int .i64 0] (by rfl) (by first | exact RowAt.lit w2 _ #[.int .i64 0, .int .i64 0] 2 rfl (by unfold maxLen; omega) | exact RowAt.lit w2.drew _ #[.int .i64 0, .int .i64 0] 2 rfl (by unfold maxLen; omega)) HONE.out (by omega) (by unfold maxLen; omega) (by simp; omega) ?_; intro v5 w5 hown5 hg5 hat5
       have HO5 := Lib.hid hown5; clear hown5
       have HG5 := Lib.hid hg5; clear hg5
       have d0 : w5.cell? ⟨w.heap.size, 0, none⟩ = some (.int .i64 19) := HG5.out.cell (by first | exact (((Below.refl _ w2).alloc (Nat.le_refl _) _).cell (p := ⟨w.heap.size, 0, none⟩) hlt).trans c0 | exact (((Below.refl _ w2.drew).alloc (Nat.le_refl _) _).cell (p := ⟨w.heap.size, 0, none⟩) hlt).trans c0) (by simp [Value.ownBlock])
       have d1 : w5.cell? ⟨w.heap.size, 1, none⟩ = some (.int .i64 N) := HG5.out.cell (by first | exact (((Below.refl _ w2).alloc (Nat.le_refl _) _).cell (p := ⟨w.heap.size, 1, none⟩) hlt).trans c1 | exact (((Below.refl _ w2.drew).alloc (Nat.le_refl _) _).cell (p := ⟨w.heap.size, 1, none⟩) hlt).trans c1) (by simp [Value.ownBlock])
       have d2 : w5.cell? ⟨w.heap.size, 2, none⟩ = some (.int .i64 M) := HG5.out.cell (by first | exact (((Below.refl _ w2).alloc (Nat.le_refl _) _).cell (p := ⟨w.heap.size, 2, none⟩) hlt).trans c2 | exact (((Below.refl _ w2.drew).alloc (Nat.le_refl _) _).cell (p := ⟨w.heap.size, 2, none⟩) hlt).trans c2) (by simp [Value.ownBlock])
       have d3 : w5.cell? ⟨w.heap.size, 3, none⟩ = some (.string S) := HG5.out.cell (by first | exact (((Below.refl _ w2).alloc (Nat.le_refl _) _).cell (p := ⟨w.heap.size, 3, none⟩) hlt).trans c3 | exact (((Below.refl _ w2.drew).alloc (Nat.le_refl _) _).cell (p := ⟨w.heap.size, 3, none⟩) hlt).trans c3) (by simp [Value.ownBlock]))
    | (go_simp; go_at_call 59; refine (plain_any ⟨19, N, M, S⟩ _).mono ?_; rw [HP.out]; rintro e w9 ⟨rfl, rfl⟩))
  all_goals
    have hb5 : Below w.heap.size w w5 := ((HB.out.alloc HB.out.size _).drew).grown HG5.out (by have := HB.out.size; simp; omega) (fun g hg => by simp [Value.ownBlock] at hg; omega)
    clear d0 d1 d2 d3
    go_wp2_with fail
    go_ret2
    exact ⟨v5, rfl, (read_of_own (l := [0, 0]) HO5.out rfl rfl).alloc _, hb5.alloc hb5.size _⟩

set_option maxRecDepth 20000 in
set_option maxHeartbeats 2000000 in
theorem rb_23 (N M : Int) (S : ByteArray) (w : World) :
    Calls Tryd.prog 23 #[.agg #[.int .i64 23, .int .i64 N, .int .i64 M, .string S]] w (RBPost [0, 0] (plainB ⟨23, N, M, S⟩) w) := by
  obtain ⟨i0, hi, hz0, hz1, hz2⟩ := info_parts Tryd.infoInt
  obtain ⟨pl, hpl⟩ : ∃ b, plainB ⟨23, N, M, S⟩ = b := ⟨_, rfl⟩
  rw [hpl]
  have HP := Lib.hid hpl; clear hpl
  go_enter Tryd.func23, Tryd.ntmps23
  go_wp2_with fail
  obtain ⟨w2, hw2, hsz, hown, hb, c0, c1, c2, c3⟩ := rb_start w 23 N M S
  rw [hw2]
  clear hw2
  have HO := Lib.hid hown; clear hown
  have HB := Lib.hid hb; clear hb
  have hlt : w.heap.size < w2.heap.size := by omega
  have hle : w.heap.size + 1 < w2.heap.size := by omega
  clear hsz
  have hone : ∀ u ∈ [Value.int .i64 0, .int .i64 0], u.oneCell' = true := by intro u hu; obtain ⟨x, _, rfl⟩ := List.mem_map.1 (show u ∈ ([0, 0] : List Int).map (Value.int .i64) from hu); rfl
  have HONE := Lib.hid hone; clear hone
  go_region_law (first
    | (refine step_append_row rfl (.tmp 99) (.tmp 100) 25 rfl w.heap.size 3 i0 (.int .i64 0) 1 8 Tryd.underlying25 hi hz0 hz1 hz2 rfl (by decide) (.slice (some ⟨w.heap.size + 1, 0, none⟩) 0 0) 0 [] (by rfl) (by first | exact HO.out.alloc _ | exact (HO.out.alloc _).drew | exact HO.out.drew.alloc _) (.slice (some ⟨w2.heap.size, 0, none⟩) 2 2) 2 [.int .i64 0, .int .i64 0] (by rfl) (by first | exact RowAt.lit w2 _ #[.int .i64 0, .int .i64 0] 2 rfl (by unfold maxLen; omega) | exact RowAt.lit w2.drew _ #[.int .i64 0, .int .i64 0] 2 rfl (by unfold maxLen; omega)) HONE.out (by omega) (by unfold maxLen; omega) (by simp; omega) ?_; intro v5 w5 hown5 hg5 hat5
       have HO5 := Lib.hid hown5; clear hown5
       have HG5 := Lib.hid hg5; clear hg5
       have d0 : w5.cell? ⟨w.heap.size, 0, none⟩ = some (.int .i64 23) := HG5.out.cell (by first | exact (((Below.refl _ w2).alloc (Nat.le_refl _) _).cell (p := ⟨w.heap.size, 0, none⟩) hlt).trans c0 | exact (((Below.refl _ w2.drew).alloc (Nat.le_refl _) _).cell (p := ⟨w.heap.size, 0, none⟩) hlt).trans c0) (by simp [Value.ownBlock])
       have d1 : w5.cell? ⟨w.heap.size, 1, none⟩ = some (.int .i64 N) := HG5.out.cell (by first | exact (((Below.refl _ w2).alloc (Nat.le_refl _) _).cell (p := ⟨w.heap.size, 1, none⟩) hlt).trans c1 | exact (((Below.refl _ w2.drew).alloc (Nat.le_refl _) _).cell (p := ⟨w.heap.size, 1, none⟩) hlt).trans c1) (by simp [Value.ownBlock])
       have d2 : w5.cell? ⟨w.heap.size, 2, none⟩ = some (.int .i64 M) := HG5.out.cell (by first | exact (((Below.refl _ w2).alloc (Nat.le_refl _) _).cell (p := ⟨w.heap.size, 2, none⟩) hlt).trans c2 | exact (((Below.refl _ w2.drew).alloc (Nat.le_refl _) _).cell (p := ⟨w.heap.size, 2, none⟩) hlt).trans c2) (by simp [Value.ownBlock])
       have d3 : w5.cell? ⟨w.heap.size, 3, none⟩ = some (.string S) := HG5.out.cell (by first | exact (((Below.refl _ w2).alloc (Nat.le_refl _) _).cell (p := ⟨w.heap.size, 3, none⟩) hlt).trans c3 | exact (((Below.refl _ w2.drew).alloc (Nat.le_refl _) _).cell (p := ⟨w.heap.size, 3, none⟩) hlt).trans c3) (by simp [Value.ownBlock]))
    | (go_simp; go_at_call 59; refine (plain_any ⟨23, N, M, S⟩ _).mono ?_; rw [HP.out]; rintro e w9 ⟨rfl, rfl⟩))
  all_goals
    have hb5 : Below w.heap.size w w5 := ((HB.out.alloc HB.out.size _).drew).grown HG5.out (by have := HB.out.size; simp; omega) (fun g hg => by simp [Value.ownBlock] at hg; omega)
    clear d0 d1 d2 d3
    go_wp2_with fail
    go_ret2
    exact ⟨v5, rfl, (read_of_own (l := [0, 0]) HO5.out rfl rfl).alloc _, hb5.alloc hb5.size _⟩

set_option maxRecDepth 20000 in
set_option maxHeartbeats 2000000 in
theorem rb_7 (N M : Int) (S : ByteArray) (w : World) :
    Calls Tryd.prog 23 #[.agg #[.int .i64 7, .int .i64 N, .int .i64 M, .string S]] w (RBPost [0, 0, 0] (plainB ⟨7, N, M, S⟩) w) := by
  obtain ⟨i0, hi, hz0, hz1, hz2⟩ := info_parts Tryd.infoInt
  obtain ⟨pl, hpl⟩ : ∃ b, plainB ⟨7, N, M, S⟩ = b := ⟨_, rfl⟩
  rw [hpl]
  have HP := Lib.hid hpl; clear hpl
  go_enter Tryd.func23, Tryd.ntmps23
  go_wp2_with fail
  obtain ⟨w2, hw2, hsz, hown, hb, c0, c1, c2, c3⟩ := rb_start w 7 N M S
  rw [hw2]
  clear hw2
  have HO := Lib.hid hown; clear hown
  have HB := Lib.hid hb; clear hb
  have hlt : w.heap.size < w2.heap.size := by omega
  have hle : w.heap.size + 1 < w2.heap.size := by omega
  clear hsz
  have hone : ∀ u ∈ [Value.int .i64 0, .int .i64 0, .int .i64 0], u.oneCell' = true := by intro u hu; obtain ⟨x, _, rfl⟩ := List.mem_map.1 (show u ∈ ([0, 0, 0] : List Int).map (Value.int .i64) from hu); rfl
  have HONE := Lib.hid hone; clear hone
  go_region_law (first
    | (refine step_append_row rfl (.tmp 107) (.tmp 108) 25 rfl w.heap.size 3 i0 (.int .i64 0) 1 8 Tryd.underlying25 hi hz0 hz1 hz2 rfl (by decide) (.slice (some ⟨w.heap.size + 1, 0, none⟩) 0 0) 0 [] (by rfl) (by first | exact HO.out.alloc _ | exact (HO.out.alloc _).drew | exact HO.out.drew.alloc _) (.slice (some ⟨w2.heap.size, 0, none⟩) 3 3) 3 [.int .i64 0, .int .i64 0, .int .i64 0] (by rfl) (by first | exact RowAt.lit w2 _ #[.int .i64 0, .int .i64 0, .int .i64 0] 3 rfl (by unfold maxLen; omega) | exact RowAt.lit w2.drew _ #[.int .i64 0, .int .i64 0, .int .i64 0] 3 rfl (by unfold maxLen; omega)) HONE.out (by omega) (by unfold maxLen; omega) (by simp; omega) ?_; intro v5 w5 hown5 hg5 hat5
       have HO5 := Lib.hid hown5; clear hown5
       have HG5 := Lib.hid hg5; clear hg5
       have d0 : w5.cell? ⟨w.heap.size, 0, none⟩ = some (.int .i64 7) := HG5.out.cell (by first | exact (((Below.refl _ w2).alloc (Nat.le_refl _) _).cell (p := ⟨w.heap.size, 0, none⟩) hlt).trans c0 | exact (((Below.refl _ w2.drew).alloc (Nat.le_refl _) _).cell (p := ⟨w.heap.size, 0, none⟩) hlt).trans c0) (by simp [Value.ownBlock])
       have d1 : w5.cell? ⟨w.heap.size, 1, none⟩ = some (.int .i64 N) := HG5.out.cell (by first | exact (((Below.refl _ w2).alloc (Nat.le_refl _) _).cell (p := ⟨w.heap.size, 1, none⟩) hlt).trans c1 | exact (((Below.refl _ w2.drew).alloc (Nat.le_refl _) _).cell (p := ⟨w.heap.size, 1, none⟩) hlt).trans c1) (by simp [Value.ownBlock])
       have d2 : w5.cell? ⟨w.heap.size, 2, none⟩ = some (.int .i64 M) := HG5.out.cell (by first | exact (((Below.refl _ w2).alloc (Nat.le_refl _) _).cell (p := ⟨w.heap.size, 2, none⟩) hlt).trans c2 | exact (((Below.refl _ w2.drew).alloc (Nat.le_refl _) _).cell (p := ⟨w.heap.size, 2, none⟩) hlt).trans c2) (by simp [Value.ownBlock])
       have d3 : w5.cell? ⟨w.heap.size, 3, none⟩ = some (.string S) := HG5.out.cell (by first | exact (((Below.refl _ w2).alloc (Nat.le_refl _) _).cell (p := ⟨w.heap.size, 3, none⟩) hlt).trans c3 | exact (((Below.refl _ w2.drew).alloc (Nat.le_refl _) _).cell (p := ⟨w.heap.size, 3, none⟩) hlt).trans c3) (by simp [Value.ownBlock]))
    | (go_simp; go_at_call 59; refine (plain_any ⟨7, N, M, S⟩ _).mono ?_; rw [HP.out]; rintro e w9 ⟨rfl, rfl⟩))
  all_goals
    have hb5 : Below w.heap.size w w5 := ((HB.out.alloc HB.out.size _).drew).grown HG5.out (by have := HB.out.size; simp; omega) (fun g hg => by simp [Value.ownBlock] at hg; omega)
    clear d0 d1 d2 d3
    go_wp2_with fail
    go_ret2
    exact ⟨v5, rfl, (read_of_own (l := [0, 0, 0]) HO5.out rfl rfl).alloc _, hb5.alloc hb5.size _⟩

set_option maxRecDepth 20000 in
set_option maxHeartbeats 2000000 in
theorem rb_18 (N M : Int) (S : ByteArray) (w : World) :
    Calls Tryd.prog 23 #[.agg #[.int .i64 18, .int .i64 N, .int .i64 M, .string S]] w (RBPost [0, 0, 0] (plainB ⟨18, N, M, S⟩) w) := by
  obtain ⟨i0, hi, hz0, hz1, hz2⟩ := info_parts Tryd.infoInt
  obtain ⟨pl, hpl⟩ : ∃ b, plainB ⟨18, N, M, S⟩ = b := ⟨_, rfl⟩
  rw [hpl]
  have HP := Lib.hid hpl; clear hpl
  go_enter Tryd.func23, Tryd.ntmps23
  go_wp2_with fail
  obtain ⟨w2, hw2, hsz, hown, hb, c0, c1, c2, c3⟩ := rb_start w 18 N M S
  rw [hw2]
  clear hw2
  have HO := Lib.hid hown; clear hown
  have HB := Lib.hid hb; clear hb
  have hlt : w.heap.size < w2.heap.size := by omega
  have hle : w.heap.size + 1 < w2.heap.size := by omega
  clear hsz
  have hone : ∀ u ∈ [Value.int .i64 0, .int .i64 0, .int .i64 0], u.oneCell' = true := by intro u hu; obtain ⟨x, _, rfl⟩ := List.mem_map.1 (show u ∈ ([0, 0, 0] : List Int).map (Value.int .i64) from hu); rfl
  have HONE := Lib.hid hone; clear hone
  go_region_law (first
    | (refine step_append_row rfl (.tmp 107) (.tmp 108) 25 rfl w.heap.size 3 i0 (.int .i64 0) 1 8 Tryd.underlying25 hi hz0 hz1 hz2 rfl (by decide) (.slice (some ⟨w.heap.size + 1, 0, none⟩) 0 0) 0 [] (by rfl) (by first | exact HO.out.alloc _ | exact (HO.out.alloc _).drew | exact HO.out.drew.alloc _) (.slice (some ⟨w2.heap.size, 0, none⟩) 3 3) 3 [.int .i64 0, .int .i64 0, .int .i64 0] (by rfl) (by first | exact RowAt.lit w2 _ #[.int .i64 0, .int .i64 0, .int .i64 0] 3 rfl (by unfold maxLen; omega) | exact RowAt.lit w2.drew _ #[.int .i64 0, .int .i64 0, .int .i64 0] 3 rfl (by unfold maxLen; omega)) HONE.out (by omega) (by unfold maxLen; omega) (by simp; omega) ?_; intro v5 w5 hown5 hg5 hat5
       have HO5 := Lib.hid hown5; clear hown5
       have HG5 := Lib.hid hg5; clear hg5
       have d0 : w5.cell? ⟨w.heap.size, 0, none⟩ = some (.int .i64 18) := HG5.out.cell (by first | exact (((Below.refl _ w2).alloc (Nat.le_refl _) _).cell (p := ⟨w.heap.size, 0, none⟩) hlt).trans c0 | exact (((Below.refl _ w2.drew).alloc (Nat.le_refl _) _).cell (p := ⟨w.heap.size, 0, none⟩) hlt).trans c0) (by simp [Value.ownBlock])
       have d1 : w5.cell? ⟨w.heap.size, 1, none⟩ = some (.int .i64 N) := HG5.out.cell (by first | exact (((Below.refl _ w2).alloc (Nat.le_refl _) _).cell (p := ⟨w.heap.size, 1, none⟩) hlt).trans c1 | exact (((Below.refl _ w2.drew).alloc (Nat.le_refl _) _).cell (p := ⟨w.heap.size, 1, none⟩) hlt).trans c1) (by simp [Value.ownBlock])
       have d2 : w5.cell? ⟨w.heap.size, 2, none⟩ = some (.int .i64 M) := HG5.out.cell (by first | exact (((Below.refl _ w2).alloc (Nat.le_refl _) _).cell (p := ⟨w.heap.size, 2, none⟩) hlt).trans c2 | exact (((Below.refl _ w2.drew).alloc (Nat.le_refl _) _).cell (p := ⟨w.heap.size, 2, none⟩) hlt).trans c2) (by simp [Value.ownBlock])
       have d3 : w5.cell? ⟨w.heap.size, 3, none⟩ = some (.string S) := HG5.out.cell (by first | exact (((Below.refl _ w2).alloc (Nat.le_refl _) _).cell (p := ⟨w.heap.size, 3, none⟩) hlt).trans c3 | exact (((Below.refl _ w2.drew).alloc (Nat.le_refl _) _).cell (p := ⟨w.heap.size, 3, none⟩) hlt).trans c3) (by simp [Value.ownBlock]))
    | (go_simp; go_at_call 59; refine (plain_any ⟨18, N, M, S⟩ _).mono ?_; rw [HP.out]; rintro e w9 ⟨rfl, rfl⟩))
  all_goals
    have hb5 : Below w.heap.size w w5 := ((HB.out.alloc HB.out.size _).drew).grown HG5.out (by have := HB.out.size; simp; omega) (fun g hg => by simp [Value.ownBlock] at hg; omega)
    clear d0 d1 d2 d3
    go_wp2_with fail
    go_ret2
    exact ⟨v5, rfl, (read_of_own (l := [0, 0, 0]) HO5.out rfl rfl).alloc _, hb5.alloc hb5.size _⟩

set_option maxRecDepth 20000 in
set_option maxHeartbeats 2000000 in
theorem rb_8 (N M : Int) (S : ByteArray) (w : World) :
    Calls Tryd.prog 23 #[.agg #[.int .i64 8, .int .i64 N, .int .i64 M, .string S]] w (RBPost [0] (plainB ⟨8, N, M, S⟩) w) := by
  obtain ⟨i0, hi, hz0, hz1, hz2⟩ := info_parts Tryd.infoInt
  obtain ⟨pl, hpl⟩ : ∃ b, plainB ⟨8, N, M, S⟩ = b := ⟨_, rfl⟩
  rw [hpl]
  have HP := Lib.hid hpl; clear hpl
  go_enter Tryd.func23, Tryd.ntmps23
  go_wp2_with fail
  obtain ⟨w2, hw2, hsz, hown, hb, c0, c1, c2, c3⟩ := rb_start w 8 N M S
  rw [hw2]
  clear hw2
  have HO := Lib.hid hown; clear hown
  have HB := Lib.hid hb; clear hb
  have hlt : w.heap.size < w2.heap.size := by omega
  have hle : w.heap.size + 1 < w2.heap.size := by omega
  clear hsz
  have hone : ∀ u ∈ [Value.int .i64 0], u.oneCell' = true := by intro u hu; obtain ⟨x, _, rfl⟩ := List.mem_map.1 (show u ∈ ([0] : List Int).map (Value.int .i64) from hu); rfl
  have HONE := Lib.hid hone; clear hone
  go_region_law (first
    | (refine step_append_row rfl (.tmp 117) (.tmp 118) 25 rfl w.heap.size 3 i0 (.int .i64 0) 1 8 Tryd.underlying25 hi hz0 hz1 hz2 rfl (by decide) (.slice (some ⟨w.heap.size + 1, 0, none⟩) 0 0) 0 [] (by rfl) (by first | exact HO.out.alloc _ | exact (HO.out.alloc _).drew | exact HO.out.drew.alloc _) (.slice (some ⟨w2.heap.size, 0, none⟩) 1 1) 1 [.int .i64 0] (by rfl) (by first | exact RowAt.lit w2 _ #[.int .i64 0] 1 rfl (by unfold maxLen; omega) | exact RowAt.lit w2.drew _ #[.int .i64 0] 1 rfl (by unfold maxLen; omega)) HONE.out (by omega) (by unfold maxLen; omega) (by simp; omega) ?_; intro v5 w5 hown5 hg5 hat5
       have HO5 := Lib.hid hown5; clear hown5
       have HG5 := Lib.hid hg5; clear hg5
       have d0 : w5.cell? ⟨w.heap.size, 0, none⟩ = some (.int .i64 8) := HG5.out.cell (by first | exact (((Below.refl _ w2).alloc (Nat.le_refl _) _).cell (p := ⟨w.heap.size, 0, none⟩) hlt).trans c0 | exact (((Below.refl _ w2.drew).alloc (Nat.le_refl _) _).cell (p := ⟨w.heap.size, 0, none⟩) hlt).trans c0) (by simp [Value.ownBlock])
       have d1 : w5.cell? ⟨w.heap.size, 1, none⟩ = some (.int .i64 N) := HG5.out.cell (by first | exact (((Below.refl _ w2).alloc (Nat.le_refl _) _).cell (p := ⟨w.heap.size, 1, none⟩) hlt).trans c1 | exact (((Below.refl _ w2.drew).alloc (Nat.le_refl _) _).cell (p := ⟨w.heap.size, 1, none⟩) hlt).trans c1) (by simp [Value.ownBlock])
       have d2 : w5.cell? ⟨w.heap.size, 2, none⟩ = some (.int .i64 M) := HG5.out.cell (by first | exact (((Below.refl _ w2).alloc (Nat.le_refl _) _).cell (p := ⟨w.heap.size, 2, none⟩) hlt).trans c2 | exact (((Below.refl _ w2.drew).alloc (Nat.le_refl _) _).cell (p := ⟨w.heap.size, 2, none⟩) hlt).trans c2) (by simp [Value.ownBlock])
       have d3 : w5.cell? ⟨w.heap.size, 3, none⟩ = some (.string S) := HG5.out.cell (by first | exact (((Below.refl _ w2).alloc (Nat.le_refl _) _).cell (p := ⟨w.heap.size, 3, none⟩) hlt).trans c3 | exact (((Below.refl _ w2.drew).alloc (Nat.le_refl _) _).cell (p := ⟨w.heap.size, 3, none⟩) hlt).trans c3) (by simp [Value.ownBlock]))
    | (go_simp; go_at_call 59; refine (plain_any ⟨8, N, M, S⟩ _).mono ?_; rw [HP.out]; rintro e w9 ⟨rfl, rfl⟩))
  all_goals
    have hb5 : Below w.heap.size w w5 := ((HB.out.alloc HB.out.size _).drew).grown HG5.out (by have := HB.out.size; simp; omega) (fun g hg => by simp [Value.ownBlock] at hg; omega)
    clear d0 d1 d2 d3
    go_wp2_with fail
    go_ret2
    exact ⟨v5, rfl, (read_of_own (l := [0]) HO5.out rfl rfl).alloc _, hb5.alloc hb5.size _⟩


end Go.Proofs.YtjhgpifccleknaaDoor
