/- What slices.Clone of nodes makes is a block of its own; what term.backward hands back. -/
import Derived.Test.YtjhgpifccleknaaDoorBack
namespace Go.Proofs.YtjhgpifccleknaaDoor
set_option linter.unusedSimpArgs false
set_option linter.unusedVariables false
open Go.RowKit

def ClonedN (w : World) (n : Nat) (cs : List Value) (e : Ending) (w' : World) : Prop := ∃ a cap, e = .returned (.slice a n cap) ∧ RowAt w' 4 (.slice a n cap) n cs ∧ (∀ g, (Value.slice a n cap).ownBlock = some g → w.heap.size ≤ g) ∧ Below w.heap.size w w'

set_option maxHeartbeats 1000000 in
theorem cloneN_own (v : Value) (n : Nat) (cs : List Value) (w : World) (hv : RowAt w 4 v n cs) (hone : Hid (∀ u, u ∈ cs → u.oneCell' = true)) (hn : Hid (n ≤ 1000000000)) :
    Calls Tryd.prog 63 #[v] w (ClonedN w n cs) := by
  obtain ⟨i0, hi, hz0, hz1, hz2⟩ := info_parts Tryd.infoNode
  have hv0 := hv
  obtain ⟨a, cap, rfl, hc1, hc2, hc3⟩ := hv0.form
  have HV := Lib.hid hv; clear hv
  have H3 := Lib.hid hc3; clear hc3 hv0
  cases a with
  | none =>
    have h0 : n = 0 := by
      rcases Nat.eq_zero_or_pos n with h | h
      · exact h
      · obtain ⟨b, off, hb, _⟩ := H3.out h; cases hb
    subst h0
    have hcs : cs = [] := List.eq_nil_of_length_eq_zero (by simpa using HV.out.len)
    have HC := Lib.hid hcs; clear hcs
    have hq := fun w n c => Lib.run_eql_slice_nil (P := Tryd.prog) w 30 23 none n c 0 0 Tryd.underlying30
    go_enter Tryd.func63, Tryd.ntmps63
    go_wp2
    go_ret
    exact ⟨none, 0, rfl, by rw [HC.out]; exact RowAt.nil w 4, (fun g h => by cases h), Below.refl _ _⟩
  | some ad =>
    have hq := fun w n c => Lib.run_eql_slice_nil (P := Tryd.prog) w 30 23 (some ad) n c 0 0 Tryd.underlying30
    go_enter Tryd.func63, Tryd.ntmps63
    go_wp2_with (at_builtin; go_must (refine wpList_append_row rfl (.tmp 5) (.tmp 6) 30 rfl w.heap.size 23 i0 (.agg #[.int .i64 0, .int .i64 0, .int .i64 0, .string ByteArray.empty]) 4 40 Tryd.underlying30 hi hz0 hz1 hz2 rfl (by decide) (.slice (some ⟨w.heap.size, 0, none⟩) 0 0) 0 [] rfl (World.ownsRow_lit (size := 4) w #[] 0 (Nat.le_refl _) (by unfold maxLen; omega) rfl) _ n cs rfl (RowAt.alloc HV.out _) hone.out (by have := hn.out; omega) (by have := hn.out; unfold maxLen; omega) (by simp) ?_); intro v' w1 hown hg hat)
    have hr : RowAt w1 4 v' n cs := by have hr := RowAt.of_own hown; simpa using hr
    have hb1 : Below w.heap.size w w1 := ((Below.refl _ w).alloc (Nat.le_refl _) _).grown hg (by simp) (fun k hk => by simp [Value.ownBlock] at hk; omega)
    have hlt := fun g h => (hown.lt g h).1
    obtain ⟨a', cap', rfl, _⟩ := hr.form
    have HR := Lib.hid hr
    have HL := Lib.hid hlt
    clear hown hg hat hr hlt
    go_wp2
    go_ret
    exact ⟨a', cap', rfl, HR.out, HL.out, hb1⟩

theorem backward_any (a : Option Addr) (n c : Nat) (a' : Option Addr) (n' c' : Nat) (w : World) :
    Calls Tryd.prog 62 #[.slice a n c, .slice a' n' c'] w fun e w' =>
      e = .returned (.func (.func 87) #[] #[.pointer (some ⟨w.heap.size, 0, none⟩), .pointer (some ⟨w.heap.size + 1, 0, none⟩)]) ∧ w' = (w.alloc (.cells #[.slice a n c] 30)).alloc (.cells #[.slice a' n' c'] 73) := by
  go_enter Tryd.func62, Tryd.ntmps62
  go_wp2
  go_ret
  exact ⟨rfl, rfl⟩

end Go.Proofs.YtjhgpifccleknaaDoor
