/- corniceref10.closed; conditions: the strings' sizes. -/
import Derived.Test.YteldkcpkamgfpaaDoorDn
import Derived.Test.YteldkcpkamgfpaaDoorRefSf
namespace Go.Proofs.YteldkcpkamgfpaaDoor
set_option linter.unusedSimpArgs false
set_option linter.unusedVariables false
open Go.RowKit

set_option maxHeartbeats 2000000 in
set_option maxRecDepth 100000 in
theorem rclosed_any (t : List Nd) (v : Value) (w : World) (hv : ReadN w v t) (hs : SmallN t) :
    Calls Tryd.prog 64 #[v] w fun e w' => e = .returned (.int .i64 (closE freeN t)) ∧ Below w.heap.size w w' := by
  have HC := Lib.hid (reffree_any t v w hv hs)
  obtain ⟨a0, n0, rfl⟩ := hv.len_slice
  clear hv hs
  obtain ⟨c, hc⟩ : ∃ c, chk t = c := ⟨_, rfl⟩
  obtain ⟨f, hf⟩ : ∃ c, freeN t = c := ⟨_, rfl⟩
  obtain ⟨m, hm⟩ : ∃ c, closE freeN t = c := ⟨_, rfl⟩
  have hce : m = if c = 0 then (if 0 < f then 30 else 0) else c := by rw [← hm, ← hc, ← hf]; rfl
  rw [hc, hf] at HC
  rw [hm]
  obtain ⟨q, hq⟩ : ∃ q, t.length = q := ⟨_, rfl⟩
  rw [hq] at HC ⊢
  clear hc hf hm hq
  go_enter Tryd.func64, Tryd.ntmps64
  go_wp2_with (go_at_call 80; refine HC.out.mono ?_)
  rintro e w2 ⟨rfl, hb2⟩
  have HB2 := Lib.hid hb2
  clear hb2 HC
  by_cases hc0 : c = 0
  · subst hc0
    rw [if_pos rfl] at hce
    by_cases hf0 : 0 < f
    · rw [if_pos hf0] at hce
      subst hce
      have df : decide (f > 0) = true := by simpa using hf0
      have df2 : decide (0 < f) = true := by simpa using hf0
      go_wp2_with fail
      go_ret
      exact ⟨rfl, HB2.out⟩
    · rw [if_neg hf0] at hce
      subst hce
      have df : decide (f > 0) = false := by simpa using hf0
      have df2 : decide (0 < f) = false := by simpa using hf0
      go_wp2_with fail
      go_ret
      exact ⟨rfl, HB2.out⟩
  · rw [if_neg hc0] at hce
    subst hce
    have d0 : (m == 0) = false := by simpa using hc0
    go_wp2_with fail
    go_ret
    exact ⟨rfl, HB2.out⟩

end Go.Proofs.YteldkcpkamgfpaaDoor
