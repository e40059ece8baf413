/- What term.many, slices.Clone (of numbers, of nodes) come to. -/
import Derived.Test.YtjhgpifccleknaaDoorRightB
namespace Go.Proofs.YtjhgpifccleknaaDoor
set_option linter.unusedSimpArgs false
set_option linter.unusedVariables false
open Go.RowKit

theorem Tryd.infoInt : (Tryd.prog.info? 3).map (fun i => (i.zero, i.size, i.bytes)) = some (some (.int .i64 0), 1, 8) := by kernel_rfl
theorem Tryd.infoNode : (Tryd.prog.info? 23).map (fun i => (i.zero, i.size, i.bytes)) = some (some (.agg #[.int .i64 0, .int .i64 0, .int .i64 0, .string ByteArray.empty]), 4, 40) := by kernel_rfl

theorem right_kind {n : Nd} (h : rightB n = true) : ∃ k : Nat, n.K = k ∧ k < 30 := by
  simp only [rightB, Bool.and_eq_true, decide_eq_true_eq] at h
  obtain ⟨⟨⟨⟨h1, h2⟩, _⟩, _⟩, _⟩ := h
  obtain ⟨k, hk⟩ := Int.eq_ofNat_of_zero_le h1
  exact ⟨k, hk, by omega⟩
theorem right_M {n : Nd} (h : rightB n = true) (hk : n.K = 26 ∨ n.K = 27) : 0 ≤ n.M ∧ n.M ≤ 6 := by
  simp only [rightB, Bool.and_eq_true] at h
  obtain ⟨⟨_, h1⟩, _⟩ := h
  rcases hk with e | e <;> rw [e] at h1 <;> simpa [shp] using h1

set_option maxHeartbeats 1000000 in
theorem many_any (n : Nd) (w : World) (hS : ShapesAt w) (hr : rightB n = true) :
    Calls Tryd.prog 65 #[.agg #[.int .i64 n.K, .int .i64 n.N, .int .i64 n.M, .string n.S]] w fun e w' => e = .returned (.int .i64 (arity n : Int)) ∧ Below w.heap.size w w' := by
  obtain ⟨k, hK, hk⟩ := right_kind hr
  by_cases h26 : k = 26
  · have hm := right_M hr (.inl (by omega))
    have ha : (arity n : Int) = n.M := by
      unfold arity bnds
      rw [if_pos (by omega), List.length_replicate]
      omega
    rw [ha, hK]
    clear ha
    subst h26
    go_enter Tryd.func65, Tryd.ntmps65
    go_wp2
    go_ret
    exact ⟨rfl, (by repeat (first | exact Below.refl _ _ | apply Below.drew | apply below_drewN | assumption | (refine Below.alloc ?_ (by simp) _)))⟩
  · by_cases h27 : k = 27
    · have hm := right_M hr (.inr (by omega))
      have ha : (arity n : Int) = n.M + 2 := by
        unfold arity bnds
        rw [if_neg (by omega), if_pos (by omega)]
        simp
        omega
      rw [ha, hK]
      clear ha
      subst h27
      obtain ⟨hm0, hm1⟩ := hm
      go_enter Tryd.func65, Tryd.ntmps65
      go_wp2
      go_ret
      exact ⟨rfl, (by repeat (first | exact Below.refl _ _ | apply Below.drew | apply below_drewN | assumption | (refine Below.alloc ?_ (by simp) _)))⟩
    · obtain ⟨a, m, cap, h1, h2, h3, h4, h5, h6, hlt⟩ := hS.at_ hk
      have ha : arity n = m := by
        unfold arity bnds
        rw [if_neg (by omega), if_neg (by omega), hK]
        exact h6.symm
      rw [ha, hK]
      have b1 := kne h26
      have b2 := kne h27
      clear ha h6 h5 h2 h3 h4 hK h26 h27 hr
      go_enter Tryd.func65, Tryd.ntmps65
      go_wp2
      go_ret
      exact ⟨rfl, (by repeat (first | exact Below.refl _ _ | apply Below.drew | apply below_drewN | assumption | (refine Below.alloc ?_ (by simp) _)))⟩

def ClonedcloneI (w : World) (n : Nat) (cs : List Value) (e : Ending) (w' : World) : Prop := ∃ v, e = .returned v ∧ RowAt w' 1 v n cs ∧ Below w.heap.size w w'

set_option maxHeartbeats 1000000 in
theorem cloneI_any (v : Value) (n : Nat) (cs : List Value) (w : World) (hv : RowAt w 1 v n cs) (hone : ∀ u, u ∈ cs → u.oneCell' = true) (hn : Hid (n ≤ 1000000000)) :
    Calls Tryd.prog 57 #[v] w (ClonedcloneI w n cs) := by
  obtain ⟨i0, hi, hz0, hz1, hz2⟩ := info_parts Tryd.infoInt
  have hv0 := hv
  obtain ⟨a, cap, rfl, hc1, hc2, hc3⟩ := hv0.form
  have HV := Lib.hid hv; clear hv
  have H3 := Lib.hid hc3; clear hc3 hv0
  cases a with
  | none =>
    have h0 : n = 0 := by
      rcases Nat.eq_zero_or_pos n with h | h
      · exact h
      · obtain ⟨b, off, hb, _⟩ := H3.out h; cases hb
    subst h0
    have hcs : cs = [] := List.eq_nil_of_length_eq_zero (by simpa using HV.out.len)
    have HC := Lib.hid hcs; clear hcs
    have hq := fun w n c => Lib.run_eql_slice_nil (P := Tryd.prog) w 25 3 none n c 0 0 Tryd.underlying25
    go_enter Tryd.func57, Tryd.ntmps57
    go_wp2
    go_ret
    exact ⟨_, rfl, by rw [HC.out]; exact RowAt.nil w 1, Below.refl _ _⟩
  | some ad =>
    have hq := fun w n c => Lib.run_eql_slice_nil (P := Tryd.prog) w 25 3 (some ad) n c 0 0 Tryd.underlying25
    go_enter Tryd.func57, Tryd.ntmps57
    go_wp2_with (at_builtin; go_must (refine wpList_append_row rfl (.tmp 5) (.tmp 6) 25 rfl w.heap.size 3 i0 (.int .i64 0) 1 8 Tryd.underlying25 hi hz0 hz1 hz2 rfl (by decide) (.slice (some ⟨w.heap.size, 0, none⟩) 0 0) 0 [] rfl (World.ownsRow_lit (size := 1) w #[] 0 (Nat.le_refl _) (by unfold maxLen; omega) rfl) _ n cs rfl (RowAt.alloc HV.out _) hone (by have := hn.out; omega) (by have := hn.out; unfold maxLen; omega) (by simp) ?_); intro v' w1 hown hg hat)
    have hr : RowAt w1 1 v' n cs := by have hr := RowAt.of_own hown; simpa using hr
    have hb1 : Below w.heap.size w w1 := ((Below.refl _ w).alloc (Nat.le_refl _) _).grown hg (by simp) (fun k hk => by simp [Value.ownBlock] at hk; omega)
    have HR := Lib.hid hr
    clear hown hg hat hr hone
    go_wp2
    go_ret
    exact ⟨_, rfl, HR.out, hb1⟩

def ClonedcloneN (w : World) (n : Nat) (cs : List Value) (e : Ending) (w' : World) : Prop := ∃ v, e = .returned v ∧ RowAt w' 4 v n cs ∧ Below w.heap.size w w'

set_option maxHeartbeats 1000000 in
theorem cloneN_any (v : Value) (n : Nat) (cs : List Value) (w : World) (hv : RowAt w 4 v n cs) (hone : ∀ u, u ∈ cs → u.oneCell' = true) (hn : Hid (n ≤ 1000000000)) :
    Calls Tryd.prog 63 #[v] w (ClonedcloneN w n cs) := by
  obtain ⟨i0, hi, hz0, hz1, hz2⟩ := info_parts Tryd.infoNode
  have hv0 := hv
  obtain ⟨a, cap, rfl, hc1, hc2, hc3⟩ := hv0.form
  have HV := Lib.hid hv; clear hv
  have H3 := Lib.hid hc3; clear hc3 hv0
  cases a with
  | none =>
    have h0 : n = 0 := by
      rcases Nat.eq_zero_or_pos n with h | h
      · exact h
      · obtain ⟨b, off, hb, _⟩ := H3.out h; cases hb
    subst h0
    have hcs : cs = [] := List.eq_nil_of_length_eq_zero (by simpa using HV.out.len)
    have HC := Lib.hid hcs; clear hcs
    have hq := fun w n c => Lib.run_eql_slice_nil (P := Tryd.prog) w 30 23 none n c 0 0 Tryd.underlying30
    go_enter Tryd.func63, Tryd.ntmps63
    go_wp2
    go_ret
    exact ⟨_, rfl, by rw [HC.out]; exact RowAt.nil w 4, Below.refl _ _⟩
  | some ad =>
    have hq := fun w n c => Lib.run_eql_slice_nil (P := Tryd.prog) w 30 23 (some ad) n c 0 0 Tryd.underlying30
    go_enter Tryd.func63, Tryd.ntmps63
    go_wp2_with (at_builtin; go_must (refine wpList_append_row rfl (.tmp 5) (.tmp 6) 30 rfl w.heap.size 23 i0 (.agg #[.int .i64 0, .int .i64 0, .int .i64 0, .string ByteArray.empty]) 4 40 Tryd.underlying30 hi hz0 hz1 hz2 rfl (by decide) (.slice (some ⟨w.heap.size, 0, none⟩) 0 0) 0 [] rfl (World.ownsRow_lit (size := 4) w #[] 0 (Nat.le_refl _) (by unfold maxLen; omega) rfl) _ n cs rfl (RowAt.alloc HV.out _) hone (by have := hn.out; omega) (by have := hn.out; unfold maxLen; omega) (by simp) ?_); intro v' w1 hown hg hat)
    have hr : RowAt w1 4 v' n cs := by have hr := RowAt.of_own hown; simpa using hr
    have hb1 : Below w.heap.size w w1 := ((Below.refl _ w).alloc (Nat.le_refl _) _).grown hg (by simp) (fun k hk => by simp [Value.ownBlock] at hk; omega)
    have HR := Lib.hid hr
    clear hown hg hat hr hone
    go_wp2
    go_ret
    exact ⟨_, rfl, HR.out, hb1⟩

end Go.Proofs.YtjhgpifccleknaaDoor
