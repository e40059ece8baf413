/- What level.greatest and level.Check come to; condition: a list of at most a million numbers. -/
import Derived.Test.YtkkjcgjebaeniaaLevA
namespace Go.Proofs.Ytkkjcgjebaeniaa
open Go.RowKit

theorem Try.infoInt : (Try.prog.info? 3).map (fun i => (i.zero, i.size, i.bytes)) = some (some (.int .i64 0), 1, 8) := by kernel_rfl

def mxI (l : List Int) : Int := if l.all lv then l.foldl max 0 else 0
def mxE (l : List Int) : Int := if l.all lv then 0 else 1

set_option maxHeartbeats 400000 in
theorem greatest_any (l : List Int) (v : Value) (w : World) (hv : ReadI w v l) (hl : l.length ≤ 1000000) :
    Calls Try.prog 22 #[v] w fun e w' => e = .returned (.tuple #[.int .i64 (mxI l), .int .i64 (mxE l)]) ∧ Below w.heap.size w w' := by
  obtain ⟨i0, hi, hz0, hz1, hz2⟩ := info_parts Try.infoInt
  cases hx : l.all lv
  · have h1 : mxI l = 0 := by simp [mxI, hx]
    have h2 : mxE l = 1 := by simp [mxE, hx]
    have HX := Lib.hid hx; clear hx
    rw [h1, h2]; clear h1 h2
    go_enter Try.func22, Try.ntmps22
    go_wp2_with fail
    refine (all_any l v w hv).mono ?_
    rintro e w' ⟨rfl, rfl⟩
    rw [HX.out]
    go_wp2
    go_ret2
    exact ⟨rfl, Below.refl _ _⟩
  · have h1 : mxI l = l.foldl max 0 := by simp [mxI, hx]
    have h2 : mxE l = 0 := by simp [mxE, hx]
    have HX := Lib.hid hx; clear hx
    rw [h1, h2]; clear h1 h2
    go_enter Try.func22, Try.ntmps22
    go_wp2_with fail
    refine (all_any l v w hv).mono ?_
    rintro e w' ⟨rfl, rfl⟩
    rw [HX.out]
    have hone : ∀ u ∈ l.map (Value.int .i64), u.oneCell' = true := by
      intro u hu; obtain ⟨x, _, rfl⟩ := List.mem_map.1 hu; rfl
    go_wp2_with (at_builtin; go_must (refine wpList_append_row rfl (.tmp 7) (.tmp 8) 29 rfl w.heap.size 3 i0 (.int .i64 0) 1 8 Try.underlying29 hi hz0 hz1 hz2 rfl (by decide) (.slice (some ⟨w.heap.size, 0, none⟩) 1 1) 1 [.int .i64 0] rfl (World.ownsRow_lit (size := 1) w #[.int .i64 0] 1 (Nat.le_refl _) (by unfold maxLen; omega) rfl) v l.length (l.map (.int .i64)) rfl (RowAt.alloc hv _) hone (by omega) (by unfold maxLen; omega) (by simp) ?_); intro v' w1 hown hg hat)
    have hr : ReadI w1 v' (0 :: l) := by have hr := RowAt.of_own hown; unfold ReadI; simpa [Nat.add_comm] using hr
    have hb1 : Below w.heap.size w w1 := ((Below.refl _ w).alloc (Nat.le_refl _) _).grown hg (by simp) (fun k hk => by simp [Value.ownBlock] at hk; omega)
    clear hown hg hat
    refine (max_any 0 l v' w1 hr).mono ?_
    rintro e w' ⟨rfl, rfl⟩
    go_wp2
    go_ret2
    exact ⟨rfl, hb1⟩

set_option maxHeartbeats 400000 in
theorem check_any (n : Int) (w : World) :
    Calls Try.prog 9 #[.int .i64 n] w fun e w' => e = .returned (.int .i64 (if lv n then 0 else 1)) ∧ Below w.heap.size w w' := by
  cases hx : lv n
  all_goals
    have hal : [n].all lv = lv n := by simp
    rw [hx] at hal
    have HAL := Lib.hid hal; clear hal
    have HX := Lib.hid hx; clear hx
    go_enter Try.func9, Try.ntmps9
    go_wp2_with fail
    refine (all_any [n] _ _ (ReadI.lit w _ [n] (by simp [maxLen]))).mono ?_
    rintro e w' ⟨rfl, rfl⟩
    rw [HAL.out]
    go_wp2
    go_ret
    exact ⟨rfl, (Below.refl _ _).alloc (Nat.le_refl _) _⟩

end Go.Proofs.Ytkkjcgjebaeniaa
