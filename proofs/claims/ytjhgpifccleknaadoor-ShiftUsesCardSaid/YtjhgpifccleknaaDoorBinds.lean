/- What term.Binds comes to, for every node, where the table of shapes lies as it is laid. -/
import Derived.Test.YtjhgpifccleknaaDoorMany
import Derived.Test.YtjhgpifccleknaaDoorZeros
namespace Go.Proofs.YtjhgpifccleknaaDoor
set_option linter.unusedSimpArgs false
set_option linter.unusedVariables false
open Go.RowKit

def BindsPost (n : Nd) (w : World) (e : Ending) (w' : World) : Prop :=
  ∃ v, e = .returned (.tuple #[v, .bool (rightB n)]) ∧ ReadI w' v (if rightB n = true then (bnds n).map Int.ofNat else []) ∧ Below w.heap.size w w'

/-- the cells of a node that has been boxed, behind a call that made memory -/
theorem box_cells {w w1 : World} {K N M : Int} {S : ByteArray} {e : TypeId} (hb : Below (w.heap.size + 1) (w.alloc (.cells #[.int .i64 K, .int .i64 N, .int .i64 M, .string S] e)) w1) :
    w1.cell? ⟨w.heap.size, 0, none⟩ = some (.int .i64 K) ∧ w1.cell? ⟨w.heap.size, 1, none⟩ = some (.int .i64 N) ∧ w1.cell? ⟨w.heap.size, 2, none⟩ = some (.int .i64 M) ∧ w1.cell? ⟨w.heap.size, 3, none⟩ = some (.string S) ∧ w.heap.size < w1.heap.size := by
  refine ⟨?_, ?_, ?_, ?_, ?_⟩
  · rw [hb.cell (p := ⟨w.heap.size, 0, none⟩) (by simp), World.cell?_alloc_new]; rfl
  · rw [hb.cell (p := ⟨w.heap.size, 1, none⟩) (by simp), World.cell?_alloc_new]; rfl
  · rw [hb.cell (p := ⟨w.heap.size, 2, none⟩) (by simp), World.cell?_alloc_new]; rfl
  · rw [hb.cell (p := ⟨w.heap.size, 3, none⟩) (by simp), World.cell?_alloc_new]; rfl
  · have := hb.size; simp at this; omega

theorem below_box {w w1 : World} {o : Obj} (hb : Below (w.heap.size + 1) (w.alloc o) w1) : Below w.heap.size w w1 :=
  ((Below.refl _ w).alloc (Nat.le_refl _) o).trans (hb.mono (by omega))

theorem map_repl (m : Nat) : (List.replicate m (0 : Nat)).map Int.ofNat = List.replicate m (0 : Int) := by simp
theorem ints_repl (m : Nat) : (List.replicate m (0 : Int)).map (Value.int .i64) = List.replicate m (.int .i64 0) := by simp

theorem read_of_own {w : World} {base : Nat} {e : TypeId} {v : Value} {l : List Int} {n : Nat} {xs : List Value} (h : w.ownsRow base e 1 v n xs) (hn : n = l.length) (hx : xs = l.map (.int .i64)) : ReadI w v l := by
  subst hn; subst hx
  exact RowAt.of_own h

theorem shp_len : ∀ k, k < 30 → (shp k).1.length ≤ 6 := by decide

set_option maxRecDepth 20000 in
set_option maxHeartbeats 2000000 in
theorem binds_any (n : Nd) (w : World) (hS : ShapesAt w) (hs : n.S.size ≤ maxLen) :
    Calls Tryd.prog 22 #[.agg #[.int .i64 n.K, .int .i64 n.N, .int .i64 n.M, .string n.S]] w (BindsPost n w) := by
  obtain ⟨i0, hi, hz0, hz1, hz2⟩ := info_parts Tryd.infoInt
  cases hr : rightB n
  · have HR := Lib.hid hr
    go_enter Tryd.func22, Tryd.ntmps22
    go_wp2_with fail
    refine (right_any n _ (hS.alloc _) hs).mono ?_
    rintro e w1 ⟨rfl, hb⟩
    rw [hr]
    clear hr
    simp only [World.size_alloc] at hb
    have hb0 := below_box hb
    clear hb
    go_wp2
    go_ret2
    exact ⟨.slice none 0 0, by rw [HR.out]; rfl, by rw [HR.out]; exact RowAt.nil _ _, hb0⟩
  · obtain ⟨k, hK, hk⟩ := right_kind hr
    have HR := Lib.hid hr
    by_cases h26 : k = 26
    · obtain ⟨m0, m1⟩ := right_M hr (.inl (by omega))
      obtain ⟨m, hm⟩ := Int.eq_ofNat_of_zero_le m0
      have hbn : Hid (bnds n = List.replicate m 0) := by
        show bnds n = _
        unfold bnds
        rw [if_pos (by omega), hm]; rfl
      have hm6 : m ≤ 6 := by omega
      have hmk := fun w => run_make_zeros (P := Tryd.prog) 25 3 i0 Tryd.underlying25 hi hz0 hz1 hz2 m (by omega) w
      have e26 : (n.K == 26) = true := by rw [hK, h26]; rfl
      have HM := Lib.hid hm
      have HK := Lib.hid hK
      clear hK h26 hm
      go_enter Tryd.func22, Tryd.ntmps22
      go_wp2_with fail
      refine (right_any n _ (hS.alloc _) hs).mono ?_
      rintro e w1 ⟨rfl, hb⟩
      rw [hr]
      clear hr
      simp only [World.size_alloc] at hb
      rw [HM.out] at hb
      obtain ⟨c0, c1, c2, c3, hlt⟩ := box_cells hb
      have hb0 := below_box hb
      clear hb m0 m1
      go_wp2
      go_ret2
      refine ⟨.slice (some ⟨w1.heap.size, 0, none⟩) m m, by rw [HR.out]; rfl, ?_, hb0.alloc hb0.size _⟩
      rw [if_pos HR.out, hbn.out, map_repl]
      have := ReadI.lit w1 3 (List.replicate m (0 : Int)) (by simp; unfold maxLen; omega)
      simpa [ints_repl] using this
    · by_cases h27 : k = 27
      · obtain ⟨m0, m1⟩ := right_M hr (.inr (by omega))
        obtain ⟨m, hm⟩ := Int.eq_ofNat_of_zero_le m0
        have hbn : Hid (bnds n = 1 :: List.replicate (m + 1) 0) := by
          show bnds n = _
          unfold bnds
          rw [if_neg (by omega), if_pos (by omega), hm]; rfl
        have e26 : (n.K == 26) = false := by rw [hK, h27]; rfl
        have e27 : (n.K == 27) = true := by rw [hK, h27]; rfl
        have HM := Lib.hid hm
        have HK := Lib.hid hK
        clear hK h26 h27 hm
        go_enter Tryd.func22, Tryd.ntmps22
        go_wp2_with fail
        refine (right_any n _ (hS.alloc _) hs).mono ?_
        rintro e w1 ⟨rfl, hb⟩
        rw [hr]
        clear hr
        simp only [World.size_alloc] at hb
        rw [HM.out] at hb
        obtain ⟨c0, c1, c2, c3, hlt⟩ := box_cells hb
        have hb0 := below_box hb
        have hm7 : m ≤ 6 := by have := HM.out; omega
        clear hb m0 m1
        obtain ⟨v', w2, hrun, hown, hg⟩ := run_append_zeros (P := Tryd.prog) (w1.alloc (.cells #[.int .i64 1] 3)) 25 3 25 3 i0 Tryd.underlying25 Tryd.underlying3 hi hz0 hz1 hz2 w1.heap.size (.int .i64 1) (heap_alloc_new w1 _) (m + 1) (by omega) (by omega)
        have e1 : ((m + 1 : Nat) : Int) = (m : Int) + 1 := by omega
        rw [e1] at hrun
        have HO := Lib.hid hown; clear hown
        have hb2 : Below w.heap.size w w2 := (hb0.alloc hb0.size _).grown hg (by have := hb0.size; simp; omega) (fun k hk => by cases hk)
        clear hg e1
        have HRUN := Lib.hid hrun; clear hrun
        go_wp2_with (at_builtin; go_must (refine wpList_append_run rfl (.tmp 16) (.tmp 19) 25 3 rfl _ _ rfl rfl HRUN.out ?_))
        go_ret2
        refine ⟨v', by rw [HR.out]; rfl, ?_, hb2⟩
        rw [if_pos HR.out, hbn.out]
        exact read_of_own HO.out (by simp; omega) (by simp)
      · obtain ⟨a, c, cap, h1, h2, h3, h4, h5, h6, hlt0⟩ := hS.at_ hk
        obtain ⟨K, N, M, S⟩ := n
        simp only at hK hs
        subst hK
        have e26 := kne h26
        have e27 := kne h27
        have hbn : Hid (bnds ⟨(k : Int), N, M, S⟩ = (shp k).1) := by
          show bnds _ = _
          unfold bnds
          simp only
          rw [if_neg (by omega), if_neg (by omega)]; rfl
        have H5 := Lib.hid h5; clear h5 h2 h3 h4
        have H6 := Lib.hid h6; clear h6
        clear h26 h27
        go_enter Tryd.func22, Tryd.ntmps22
        go_wp2_with fail
        refine (right_any ⟨(k : Int), N, M, S⟩ _ (hS.alloc _) hs).mono ?_
        rintro e w1 ⟨rfl, hb⟩
        rw [hr]
        clear hr
        simp only [World.size_alloc] at hb
        obtain ⟨c0, c1, c2, c3, hlt⟩ := box_cells hb
        have hb0 := below_box hb
        have g1 := (hb0.cell (p := ⟨0, k * 4, none⟩) hlt0).trans h1
        have hI := Lib.hid (H5.out.below hb0)
        clear hb h1
        have hlen := Lib.hid (shp_len k hk)
        go_wp2_with fail
        refine (cloneI_any _ _ _ _ hI.out (by intro u hu; obtain ⟨x, _, rfl⟩ := List.mem_map.1 hu; rfl) (show _ ≤ _ by have := hlen.out; simp; omega)).mono ?_
        rintro e w2 ⟨v, rfl, hv, hb2⟩
        have HV := Lib.hid hv; clear hv
        have hb3 := hb0.trans (hb2.mono hb0.size)
        clear hb2
        go_wp2
        go_ret2
        exact ⟨v, by rw [HR.out]; rfl, by rw [if_pos HR.out, hbn.out]; exact HV.out, hb3⟩

end Go.Proofs.YtjhgpifccleknaaDoor
