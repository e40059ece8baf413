/- slices.Clone of ints and term.Binds once more: what they make lies in a block of its own. -/
import Derived.Test.YtjhgpifccleknaaDoorBinds
namespace Go.Proofs.YtjhgpifccleknaaDoor
set_option linter.unusedSimpArgs false
set_option linter.unusedVariables false
open Go.RowKit

def ClonedIO (w : World) (n : Nat) (cs : List Value) (e : Ending) (w' : World) : Prop := ∃ v, e = .returned v ∧ RowAt w' 1 v n cs ∧ (∀ g, v.ownBlock = some g → w.heap.size ≤ g) ∧ Below w.heap.size w w'

set_option maxHeartbeats 1000000 in
theorem cloneI_own (v : Value) (n : Nat) (cs : List Value) (w : World) (hv : RowAt w 1 v n cs) (hone : ∀ u, u ∈ cs → u.oneCell' = true) (hn : Hid (n ≤ 1000000000)) :
    Calls Tryd.prog 57 #[v] w (ClonedIO w n cs) := by
  obtain ⟨i0, hi, hz0, hz1, hz2⟩ := info_parts Tryd.infoInt
  have hv0 := hv
  obtain ⟨a, cap, rfl, hc1, hc2, hc3⟩ := hv0.form
  have HV := Lib.hid hv; clear hv
  have H3 := Lib.hid hc3; clear hc3 hv0
  cases a with
  | none =>
    have h0 : n = 0 := by
      rcases Nat.eq_zero_or_pos n with h | h
      · exact h
      · obtain ⟨b, off, hb, _⟩ := H3.out h; cases hb
    subst h0
    have hcs : cs = [] := List.eq_nil_of_length_eq_zero (by simpa using HV.out.len)
    have HC := Lib.hid hcs; clear hcs
    have hq := fun w n c => Lib.run_eql_slice_nil (P := Tryd.prog) w 25 3 none n c 0 0 Tryd.underlying25
    go_enter Tryd.func57, Tryd.ntmps57
    go_wp2
    go_ret
    exact ⟨_, rfl, by rw [HC.out]; exact RowAt.nil w 1, (fun g h => by cases h), Below.refl _ _⟩
  | some ad =>
    have hq := fun w n c => Lib.run_eql_slice_nil (P := Tryd.prog) w 25 3 (some ad) n c 0 0 Tryd.underlying25
    go_enter Tryd.func57, Tryd.ntmps57
    go_wp2_with (at_builtin; go_must (refine wpList_append_row rfl (.tmp 5) (.tmp 6) 25 rfl w.heap.size 3 i0 (.int .i64 0) 1 8 Tryd.underlying25 hi hz0 hz1 hz2 rfl (by decide) (.slice (some ⟨w.heap.size, 0, none⟩) 0 0) 0 [] rfl (World.ownsRow_lit (size := 1) w #[] 0 (Nat.le_refl _) (by unfold maxLen; omega) rfl) _ n cs rfl (RowAt.alloc HV.out _) hone (by have := hn.out; omega) (by have := hn.out; unfold maxLen; omega) (by simp) ?_); intro v' w1 hown hg hat)
    have hr : RowAt w1 1 v' n cs := by have hr := RowAt.of_own hown; simpa using hr
    have hb1 : Below w.heap.size w w1 := ((Below.refl _ w).alloc (Nat.le_refl _) _).grown hg (by simp) (fun k hk => by simp [Value.ownBlock] at hk; omega)
    have hlt := fun g h => (hown.lt g h).1
    have HR := Lib.hid hr
    have HL := Lib.hid hlt
    clear hown hg hat hr hone hlt
    go_wp2
    go_ret
    exact ⟨_, rfl, HR.out, HL.out, hb1⟩

def BindsOwn (n : Nd) (w : World) (e : Ending) (w' : World) : Prop :=
  ∃ v, e = .returned (.tuple #[v, .bool (rightB n)]) ∧ ReadI w' v (if rightB n = true then (bnds n).map Int.ofNat else []) ∧ (∀ g, v.ownBlock = some g → w.heap.size ≤ g) ∧ Below w.heap.size w w'

set_option maxRecDepth 20000 in
set_option maxHeartbeats 2000000 in
theorem binds_own (n : Nd) (w : World) (hS : ShapesAt w) (hs : n.S.size ≤ maxLen) :
    Calls Tryd.prog 22 #[.agg #[.int .i64 n.K, .int .i64 n.N, .int .i64 n.M, .string n.S]] w (BindsOwn n w) := by
  obtain ⟨i0, hi, hz0, hz1, hz2⟩ := info_parts Tryd.infoInt
  cases hr : rightB n
  · have HR := Lib.hid hr
    go_enter Tryd.func22, Tryd.ntmps22
    go_wp2_with fail
    refine (right_any n _ (hS.alloc _) hs).mono ?_
    rintro e w1 ⟨rfl, hb⟩
    rw [hr]
    clear hr
    simp only [World.size_alloc] at hb
    have hb0 := below_box hb
    clear hb
    go_wp2
    go_ret2
    exact ⟨.slice none 0 0, by rw [HR.out]; rfl, by rw [HR.out]; exact RowAt.nil _ _, (fun g h => by cases h), hb0⟩
  · obtain ⟨k, hK, hk⟩ := right_kind hr
    have HR := Lib.hid hr
    by_cases h26 : k = 26
    · obtain ⟨m0, m1⟩ := right_M hr (.inl (by omega))
      obtain ⟨m, hm⟩ := Int.eq_ofNat_of_zero_le m0
      have hbn : Hid (bnds n = List.replicate m 0) := by
        show bnds n = _
        unfold bnds
        rw [if_pos (by omega), hm]; rfl
      have hm6 : m ≤ 6 := by omega
      have hmk := fun w => run_make_zeros (P := Tryd.prog) 25 3 i0 Tryd.underlying25 hi hz0 hz1 hz2 m (by omega) w
      have e26 : (n.K == 26) = true := by rw [hK, h26]; rfl
      have HM := Lib.hid hm
      have HK := Lib.hid hK
      clear hK h26 hm
      go_enter Tryd.func22, Tryd.ntmps22
      go_wp2_with fail
      refine (right_any n _ (hS.alloc _) hs).mono ?_
      rintro e w1 ⟨rfl, hb⟩
      rw [hr]
      clear hr
      simp only [World.size_alloc] at hb
      rw [HM.out] at hb
      obtain ⟨c0, c1, c2, c3, hlt⟩ := box_cells hb
      have hb0 := below_box hb
      clear hb m0 m1
      go_wp2
      go_ret2
      refine ⟨.slice (some ⟨w1.heap.size, 0, none⟩) m m, by rw [HR.out]; rfl, ?_, (fun g h => by simp [Value.ownBlock] at h; have := hb0.size; omega), hb0.alloc hb0.size _⟩
      rw [if_pos HR.out, hbn.out, map_repl]
      have := ReadI.lit w1 3 (List.replicate m (0 : Int)) (by simp; unfold maxLen; omega)
      simpa [ints_repl] using this
    · by_cases h27 : k = 27
      · obtain ⟨m0, m1⟩ := right_M hr (.inr (by omega))
        obtain ⟨m, hm⟩ := Int.eq_ofNat_of_zero_le m0
        have hbn : Hid (bnds n = 1 :: List.replicate (m + 1) 0) := by
          show bnds n = _
          unfold bnds
          rw [if_neg (by omega), if_pos (by omega), hm]; rfl
        have e26 : (n.K == 26) = false := by rw [hK, h27]; rfl
        have e27 : (n.K == 27) = true := by rw [hK, h27]; rfl
        have HM := Lib.hid hm
        have HK := Lib.hid hK
        clear hK h26 h27 hm
        go_enter Tryd.func22, Tryd.ntmps22
        go_wp2_with fail
        refine (right_any n _ (hS.alloc _) hs).mono ?_
        rintro e w1 ⟨rfl, hb⟩
        rw [hr]
        clear hr
        simp only [World.size_alloc] at hb
        rw [HM.out] at hb
        obtain ⟨c0, c1, c2, c3, hlt⟩ := box_cells hb
        have hb0 := below_box hb
        have hm7 : m ≤ 6 := by have := HM.out; omega
        clear hb m0 m1
        obtain ⟨v', w2, hrun, hown, hg⟩ := run_append_zeros (P := Tryd.prog) (w1.alloc (.cells #[.int .i64 1] 3)) 25 3 25 3 i0 Tryd.underlying25 Tryd.underlying3 hi hz0 hz1 hz2 w1.heap.size (.int .i64 1) (heap_alloc_new w1 _) (m + 1) (by omega) (by omega)
        have e1 : ((m + 1 : Nat) : Int) = (m : Int) + 1 := by omega
        rw [e1] at hrun
        have HO := Lib.hid hown; clear hown
        have hb2 : Below w.heap.size w w2 := (hb0.alloc hb0.size _).grown hg (by have := hb0.size; simp; omega) (fun k hk => by cases hk)
        clear hg e1
        have HRUN := Lib.hid hrun; clear hrun
        go_wp2_with (at_builtin; go_must (refine wpList_append_run rfl (.tmp 16) (.tmp 19) 25 3 rfl _ _ rfl rfl HRUN.out ?_))
        go_ret2
        refine ⟨v', by rw [HR.out]; rfl, ?_, (fun g h => by have h1 := (HO.out.lt g h).1; (try rw [World.size_alloc] at h1); have := hb0.size; omega), hb2⟩
        rw [if_pos HR.out, hbn.out]
        exact read_of_own HO.out (by simp; omega) (by simp)
      · obtain ⟨a, c, cap, h1, h2, h3, h4, h5, h6, hlt0⟩ := hS.at_ hk
        obtain ⟨K, N, M, S⟩ := n
        simp only at hK hs
        subst hK
        have e26 := kne h26
        have e27 := kne h27
        have hbn : Hid (bnds ⟨(k : Int), N, M, S⟩ = (shp k).1) := by
          show bnds _ = _
          unfold bnds
          simp only
          rw [if_neg (by omega), if_neg (by omega)]; rfl
        have H5 := Lib.hid h5; clear h5 h2 h3 h4
        have H6 := Lib.hid h6; clear h6
        clear h26 h27
        go_enter Tryd.func22, Tryd.ntmps22
        go_wp2_with fail
        refine (right_any ⟨(k : Int), N, M, S⟩ _ (hS.alloc _) hs).mono ?_
        rintro e w1 ⟨rfl, hb⟩
        rw [hr]
        clear hr
        simp only [World.size_alloc] at hb
        obtain ⟨c0, c1, c2, c3, hlt⟩ := box_cells hb
        have hb0 := below_box hb
        have g1 := (hb0.cell (p := ⟨0, k * 4, none⟩) hlt0).trans h1
        have hI := Lib.hid (H5.out.below hb0)
        clear hb h1
        have hlen := Lib.hid (shp_len k hk)
        go_wp2_with fail
        refine (cloneI_own _ _ _ _ hI.out (by intro u hu; obtain ⟨x, _, rfl⟩ := List.mem_map.1 hu; rfl) (show _ ≤ _ by have := hlen.out; simp; omega)).mono ?_
        rintro e w2 ⟨v, rfl, hv, hl, hb2⟩
        have HV := Lib.hid hv; clear hv
        have HL := Lib.hid hl; clear hl
        have hb3 := hb0.trans (hb2.mono hb0.size)
        clear hb2
        go_wp2
        go_ret2
        exact ⟨v, by rw [HR.out]; rfl, by rw [if_pos HR.out, hbn.out]; exact HV.out, (fun g h => by have := HL.out g h; have := hb0.size; omega), hb3⟩

end Go.Proofs.YtjhgpifccleknaaDoor
