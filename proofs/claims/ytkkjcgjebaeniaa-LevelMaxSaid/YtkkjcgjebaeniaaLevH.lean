/- What the reference's Max comes to, for every slice; no condition. -/
import Derived.Test.YtkkjcgjebaeniaaLevD
namespace Go.Proofs.Ytkkjcgjebaeniaa
open Go.RowKit

theorem mxI_no {l : List Int} (h : l.all lv = false) : mxI l = 0 := by simp [mxI, h]
theorem mxE_no {l : List Int} (h : l.all lv = false) : mxE l = 1 := by simp [mxE, h]
theorem mxI_yes {l : List Int} (h : l.all lv = true) : mxI l = l.foldl max 0 := by simp [mxI, h]
theorem mxE_yes {l : List Int} (h : l.all lv = true) : mxE l = 0 := by simp [mxE, h]

theorem fold_take (l : List Int) {k : Nat} (hk : k < l.length) : (l.take (k + 1)).foldl max 0 = max ((l.take k).foldl max 0) (l.getD k 0) := by
  rw [List.take_add_one, List.foldl_append, List.getD_eq_getElem?_getD, List.getElem?_eq_getElem hk]
  rfl

set_option maxHeartbeats 400000 in
theorem refmax_any (l : List Int) (v : Value) (w : World) (hv : ReadI w v l) :
    Calls Try.prog 18 #[v] w fun e w' => e = .returned (.tuple #[.int .i64 (mxI l), .int .i64 (mxE l)]) ∧ w = w' := by
  obtain ⟨hl, ⟨rfl, a, cap, rfl⟩ | ⟨b, off, cap, rfl, _, hc⟩⟩ := hv.cases
  · go_enter Try.func18, Try.ntmps18
    go_wp2
    go_loop [4, 5] (fun m i => i = .int .i64 0 ∧ m = .int .i64 0) (fun _ _ => 0)
    case atStart => exact ⟨rfl, rfl⟩
    case round =>
      obtain ⟨rfl, rfl⟩ := hrel
      go_wp2
      go_ret2
      exact ⟨rfl, rfl⟩
  · unfold maxLen at hl
    have HC := Lib.hid hc; clear hc
    go_enter Try.func18, Try.ntmps18
    go_wp2
    go_loop [4, 5] (fun m i => ∃ k : Nat, k ≤ l.length ∧ i = .int .i64 k ∧ m = .int .i64 ((l.take k).foldl max 0) ∧ Good l k) (fun _ i => l.length - (intOf i).toNat)
    case atStart => exact ⟨0, Nat.zero_le _, rfl, rfl, Good.zero l⟩
    case round =>
      obtain ⟨k, hk, rfl, rfl, hg⟩ := hrel
      by_cases hlt : k < l.length
      · have hcell := HC.out k hlt
        have hft := fold_take l hlt
        obtain ⟨y, hy⟩ : ∃ y, (l.take k).foldl max 0 = y := ⟨_, rfl⟩
        cases hb : lv (l.getD k 0)
        · have hf := all_f hlt hb
          have h1 := Lib.hid (mxI_no hf)
          have h2 := Lib.hid (mxE_no hf)
          obtain ⟨x, hx⟩ : ∃ x, l.getD k 0 = x := ⟨_, rfl⟩
          rw [hx] at hcell hb; rw [hy]; clear hx hy hf hft
          go_wp2_with (go_at_call 23; refine (reflevel_any _ _).mono ?_; rintro e w' ⟨rfl, rfl⟩)
          go_ret2
          exact ⟨by rw [h1.out, h2.out]; rfl, rfl⟩
        · have hg' := hg.succ hb; clear hg
          obtain ⟨x, hx⟩ : ∃ x, l.getD k 0 = x := ⟨_, rfl⟩
          rw [hx] at hcell hb hft; rw [hy] at hft; rw [hy]; clear hx hy
          have HF := Lib.hid hft; clear hft
          go_wp2_with (go_at_call 23; refine (reflevel_any _ _).mono ?_; rintro e w' ⟨rfl, rfl⟩)
          all_goals
            go_round
            case rel => exact ⟨k + 1, by omega, by go_num, by rw [HF.out]; first | rfl | (congr 1; omega), hg'⟩
            case measure => simp [intOf]; omega
      · obtain rfl : k = l.length := by omega
        have hf := hg.all; clear hg
        have h1 := Lib.hid (mxI_yes hf)
        have h2 := Lib.hid (mxE_yes hf)
        rw [List.take_length]
        clear hf
        go_wp2
        go_ret2
        exact ⟨by rw [h1.out, h2.out]; rfl, rfl⟩

end Go.Proofs.Ytkkjcgjebaeniaa
