/- The walk of the law LevelTells: it returns true for all numbers and every slice; no condition. -/
import Derived.Test.YtkkjcgjebaeniaaLevH
import Derived.Test.YtkkjcgjebaeniaaLevE
import Derived.Test.YtkkjcgjebaeniaaOpenI
namespace Go.Proofs.Ytkkjcgjebaeniaa
open Go.RowKit

theorem lvm1 : lv (-1) = false := by decide
theorem step0 {w0 w w1 : World} (h : Below w0.heap.size w0 w) (hb : Below w.heap.size w w1) : Below w0.heap.size w0 w1 := h.trans (hb.mono h.size)

set_option maxHeartbeats 2000000 in
theorem tells_walk (w : World) (a : Int) (_ : (Lit.int .i64 a).wf = true) (b : Int) (_ : (Lit.int .i64 b).wf = true) (l : List Int) (v : Value) (hv : ReadI w v l) :
    Calls Try.prog 7 #[.int .i64 a, .int .i64 b, v] w fun e w' => e = .returned (.bool true) ∧ Below w.heap.size w w' := by
  have h0 := Below.refl w.heap.size w
  have hm := lvm1
  have hsl := hv.len_slice
  obtain ⟨ad, cap, hv'⟩ := hsl
  by_cases hlen : 1024 < l.length
  · have HV := Lib.hid hv; clear hv
    subst hv'
    go_enter Try.func7, Try.ntmps7
    go_wp2_with (go_at_call 9; refine (check_call _ _ w (by assumption)).mono ?_; rintro e w1 ⟨rfl, hb⟩; clear h0; have h0 := hb; clear hb)
    go_ret
    exact ⟨rfl, h0⟩
  · have hle : l.length ≤ 1024 := by omega
    have HV := Lib.hid hv; clear hv
    subst hv'
    obtain ⟨u1, hu1⟩ : ∃ x, upN a = x := ⟨_, rfl⟩
    obtain ⟨u2, hu2⟩ : ∃ x, upE a = x := ⟨_, rfl⟩
    obtain ⟨p1, hp1⟩ : ∃ x, piN a b = x := ⟨_, rfl⟩
    obtain ⟨p2, hp2⟩ : ∃ x, mxE [a, b] = x := ⟨_, rfl⟩
    obtain ⟨s1, hs1⟩ : ∃ x, mxI [a, b] = x := ⟨_, rfl⟩
    obtain ⟨m1, hm1⟩ : ∃ x, mxI l = x := ⟨_, rfl⟩
    obtain ⟨m2, hm2⟩ : ∃ x, mxE l = x := ⟨_, rfl⟩
    go_enter Try.func7, Try.ntmps7
    go_wp2_with (first
      | (go_at_call 10; refine (up_any _ _).mono ?_; rintro e w1 ⟨rfl, hb⟩; have h1 := step0 h0 hb; clear h0 hb; have h0 := h1; clear h1)
      | (go_at_call 15; refine (refup_any _ _).mono ?_; rintro e w1 ⟨rfl, rfl⟩)
      | (go_at_call 13; refine (pi_any _ _ _).mono ?_; rintro e w1 ⟨rfl, hb⟩; have h1 := step0 h0 hb; clear h0 hb; have h0 := h1; clear h1)
      | (go_at_call 16; refine (refpi_any _ _ _).mono ?_; rintro e w1 ⟨rfl, rfl⟩)
      | (go_at_call 14; refine (sig_any _ _ _).mono ?_; rintro e w1 ⟨rfl, hb⟩; have h1 := step0 h0 hb; clear h0 hb; have h0 := h1; clear h1)
      | (go_at_call 17; refine (refsig_any _ _ _).mono ?_; rintro e w1 ⟨rfl, rfl⟩)
      | (go_at_call 12; refine (maxl_any l _ _ (HV.out.below h0) (by omega)).mono ?_; rintro e w1 ⟨rfl, hb⟩; have h1 := step0 h0 hb; clear h0 hb; have h0 := h1; clear h1)
      | (go_at_call 18; refine (refmax_any l _ _ (HV.out.below h0)).mono ?_; rintro e w1 ⟨rfl, rfl⟩)
      | (go_at_call 9; refine (check_any _ _).mono ?_; rintro e w1 ⟨rfl, hb⟩; have h1 := step0 h0 hb; clear h0 hb; have h0 := h1; clear h1)
      | (go_at_call 19; refine (refcheck_any _ _).mono ?_; rintro e w1 ⟨rfl, rfl⟩)
      | (go_at_call 8; refine (below_any _ _ _).mono ?_; rintro e w1 ⟨rfl, hb⟩; have h1 := step0 h0 hb; clear h0 hb; have h0 := h1; clear h1)
      | (go_at_call 20; refine (refbelow_any _ _ _).mono ?_; rintro e w1 ⟨rfl, rfl⟩)
      | (go_at_call 11; refine (strict_any _ _).mono ?_; rintro e w1 ⟨rfl, rfl⟩))
    go_ways
    all_goals
      go_ret
      exact ⟨rfl, h0⟩

end Go.Proofs.Ytkkjcgjebaeniaa
