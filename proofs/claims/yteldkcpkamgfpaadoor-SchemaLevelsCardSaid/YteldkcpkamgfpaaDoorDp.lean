/- corniceref10.Terms: the terms of a declaration; conditions: at most a million. -/
import Derived.Test.YteldkcpkamgfpaaDoorDo
namespace Go.Proofs.YteldkcpkamgfpaaDoor
set_option linter.unusedSimpArgs false
set_option linter.unusedVariables false
open Go.RowKit

set_option maxRecDepth 20000 in
set_option maxHeartbeats 2000000 in
theorem rterms_any (d : Dc) (vt vb vc : Value) (w : World) (h : DeclV w d vt vb vc) (hn : d.Cons.flatten.length ≤ 1000000) :
    Calls Tryd.prog 63 #[declV d vt vb vc] w fun e w' => ∃ u, e = .returned u ∧ ReadNN w' u (termsD d) ∧ Below w.heap.size w w' := by
  obtain ⟨i0, hi, hz0, hz1, hz2⟩ := info_parts Tryd.infoNodes
  obtain ⟨a1, c1, rfl⟩ := ReadN.len_slice h.ty
  obtain ⟨a2, c2, rfl⟩ := ReadN.len_slice h.bd
  obtain ⟨a3, n3, rfl⟩ := h.cons.form
  obtain ⟨kd, hkd⟩ : ∃ k, d.Kind = k := ⟨_, rfl⟩
  have HKD := Lib.hid hkd
  have HD := Lib.hid h
  unfold declV
  rw [hkd]
  clear h hkd
  obtain ⟨lv, hlv⟩ : ∃ k, d.Level = k := ⟨_, rfl⟩
  obtain ⟨nm, hnm⟩ : ∃ k, d.Name = k := ⟨_, rfl⟩
  rw [hlv, hnm]
  clear hlv hnm
  obtain ⟨W, hW⟩ : ∃ m, w.alloc (.cells #[.int .i64 kd, .int .i64 lv, .string nm, .slice a1 d.Ty.length c1, .slice a2 d.Bd.length c2, .slice a3 d.Cons.length n3] 40) = m := ⟨_, rfl⟩
  have hb : Below w.heap.size w W := by rw [← hW]; exact (Below.refl _ _).alloc (Nat.le_refl _) _
  have hsz : w.heap.size < W.heap.size := by rw [← hW]; simp
  have HB := Lib.hid hb
  have HSZ := Lib.hid hsz
  clear hb hsz
  have hcs := (MapKept.heap_alloc w (.cells #[.int .i64 kd, .int .i64 lv, .string nm, .slice a1 d.Ty.length c1, .slice a2 d.Bd.length c2, .slice a3 d.Cons.length n3] 40)).1
  rw [hW] at hcs
  have c0 : W.cell? ⟨w.heap.size, 0, none⟩ = some (.int .i64 kd) := by rw [Lib.cell_of_heap hcs]; rfl
  have c3 : W.cell? ⟨w.heap.size, 3, none⟩ = some (.slice a1 d.Ty.length c1) := by rw [Lib.cell_of_heap hcs]; rfl
  have c4 : W.cell? ⟨w.heap.size, 4, none⟩ = some (.slice a2 d.Bd.length c2) := by rw [Lib.cell_of_heap hcs]; rfl
  have c5 : W.cell? ⟨w.heap.size, 5, none⟩ = some (.slice a3 d.Cons.length n3) := by rw [Lib.cell_of_heap hcs]; rfl
  clear hcs
  have HD2 : Hid (DeclV W d (.slice a1 d.Ty.length c1) (.slice a2 d.Bd.length c2) (.slice a3 d.Cons.length n3)) := Lib.hid (HD.out.below HB.out)
  obtain ⟨W1, hW1⟩ : ∃ m, W.alloc (.cells #[] 22) = m := ⟨_, rfl⟩
  have hbW : Below W.heap.size W W1 := by rw [← hW1]; exact (Below.refl _ _).alloc (Nat.le_refl _) _
  have hO : W1.ownsRow W.heap.size 22 1 (.slice (some ⟨W.heap.size, 0, none⟩) 0 0) 0 [] := by rw [← hW1]; exact World.ownsRow_lit (size := 1) W #[] 0 (Nat.le_refl _) (by unfold maxLen; omega) rfl
  have hs1 : W1.heap.size = W.heap.size + 1 := by rw [← hW1]; simp
  have x0 := (hbW.cell (p := ⟨w.heap.size, 0, none⟩) HSZ.out).trans c0
  have x3 := (hbW.cell (p := ⟨w.heap.size, 3, none⟩) HSZ.out).trans c3
  have x4 := (hbW.cell (p := ⟨w.heap.size, 4, none⟩) HSZ.out).trans c4
  have x5 := (hbW.cell (p := ⟨w.heap.size, 5, none⟩) HSZ.out).trans c5
  have HBW := Lib.hid hbW
  have HO := Lib.hid hO
  have HS1 := Lib.hid hs1
  clear hbW hO hs1
  have HONE1 : Hid (∀ u, u ∈ [Value.slice a1 d.Ty.length c1] → u.oneCell' = true) := Lib.hid (by intro u hu; simp at hu; subst hu; rfl)
  have HONE2 : Hid (∀ u, u ∈ [Value.slice a2 d.Bd.length c2] → u.oneCell' = true) := Lib.hid (by intro u hu; simp at hu; subst hu; rfl)
  have HA1 : Hid (AllN W [.slice a1 d.Ty.length c1] [d.Ty]) := Lib.hid ⟨rfl, fun i u l h1 h2 => by
    match i, h1, h2 with
    | 0, h1, h2 => cases h1; cases h2; exact HD2.out.ty⟩
  have HA2 : Hid (AllN W [.slice a2 d.Bd.length c2] [d.Bd]) := Lib.hid ⟨rfl, fun i u l h1 h2 => by
    match i, h1, h2 with
    | 0, h1, h2 => cases h1; cases h2; exact HD2.out.bd⟩
  have hm3 : d.Cons.length ≤ 9223372036854775807 := by have := HD2.out.cons.shape.1; unfold maxLen at this; omega
  by_cases h1 : kd = 1
  · subst h1
    go_enter Tryd.func63, Tryd.ntmps63
    go_wp2_with (first
      | (at_builtin; refine wpList_append_row rfl (.tmp 14) (.tmp 17) 42 rfl W.heap.size 22 i0 (.slice none 0 0) 1 24 Tryd.underlying42 hi hz0 hz1 hz2 rfl (by decide) (.slice (some ⟨W.heap.size, 0, none⟩) 0 0) 0 [] rfl (HO.out.alloc _) (.slice (some ⟨W1.heap.size, 0, none⟩) 1 1) 1 [.slice a1 d.Ty.length c1] rfl (RowAt.lit W1 _ #[.slice a1 d.Ty.length c1] 1 rfl (by unfold maxLen; omega)) HONE1.out (by omega) (by unfold maxLen; omega) (by have := HS1.out; simp; omega) ?_; intro v5 w5 hown5 hg5 hat5; have hb5 : Below W.heap.size W w5 := (HBW.out.alloc (by have := HS1.out; omega) _).grown hg5 (by have := HS1.out; simp; omega) (fun g hg => (HO.out.lt g hg).1); have y0 := (hb5.cell (p := ⟨w.heap.size, 0, none⟩) HSZ.out).trans c0; have y4 := (hb5.cell (p := ⟨w.heap.size, 4, none⟩) HSZ.out).trans c4; have HO5 := Lib.hid hown5; have HB5 := Lib.hid hb5; clear hown5 hb5 hg5 hat5; obtain ⟨ao, co, rfl, _⟩ := (RowAt.of_own HO5.out).form)
      | (at_builtin; refine wpList_append_row rfl (.tmp 22) (.tmp 25) 42 rfl W.heap.size 22 i0 (.slice none 0 0) 1 24 Tryd.underlying42 hi hz0 hz1 hz2 rfl (by decide) (.slice ao 1 co) 1 [.slice a1 d.Ty.length c1] rfl (HO5.out.alloc _) (.slice (some ⟨w5.heap.size, 0, none⟩) 1 1) 1 [.slice a2 d.Bd.length c2] rfl (RowAt.lit w5 _ #[.slice a2 d.Bd.length c2] 1 rfl (by unfold maxLen; omega)) HONE2.out (by omega) (by unfold maxLen; omega) (by have := HB5.out.size; simp; omega) ?_; intro v6 w6 hown6 hg6 hat6; have hb6 : Below W.heap.size W w6 := (HB5.out.alloc HB5.out.size _).grown hg6 (by have := HB5.out.size; simp; omega) (fun g hg => (HO5.out.lt g hg).1); have z0 := (hb6.cell (p := ⟨w.heap.size, 0, none⟩) HSZ.out).trans c0; have HO6 := Lib.hid hown6; have HB6 := Lib.hid hb6; clear hown6 hb6 hg6 hat6))
    go_wp2_with fail
    go_ret
    refine ⟨_, rfl, ?_, HB.out.trans (HB6.out.mono HB.out.size)⟩
    rw [show termsD d = [d.Ty, d.Bd] from by unfold termsD; rw [if_pos HKD.out]]
    exact ReadNN.mk (RowAt.of_own HO6.out) ((HA1.out.append HA2.out).below HB6.out)
  have n1 : (kd == 1) = false := by simpa using h1
  by_cases h2 : kd = 2
  · subst h2
    go_enter Tryd.func63, Tryd.ntmps63
    go_wp2_with (at_builtin; go_must (refine wpList_append_row rfl (.tmp 14) (.tmp 17) 42 rfl W.heap.size 22 i0 (.slice none 0 0) 1 24 Tryd.underlying42 hi hz0 hz1 hz2 rfl (by decide) (.slice (some ⟨W.heap.size, 0, none⟩) 0 0) 0 [] rfl (HO.out.alloc _) (.slice (some ⟨W1.heap.size, 0, none⟩) 1 1) 1 [.slice a1 d.Ty.length c1] rfl (RowAt.lit W1 _ #[.slice a1 d.Ty.length c1] 1 rfl (by unfold maxLen; omega)) HONE1.out (by omega) (by unfold maxLen; omega) (by have := HS1.out; simp; omega) ?_; intro v5 w5 hown5 hg5 hat5; have hb5 : Below W.heap.size W w5 := (HBW.out.alloc (by have := HS1.out; omega) _).grown hg5 (by have := HS1.out; simp; omega) (fun g hg => (HO.out.lt g hg).1); have y0 := (hb5.cell (p := ⟨w.heap.size, 0, none⟩) HSZ.out).trans c0; have HO5 := Lib.hid hown5; have HB5 := Lib.hid hb5; clear hown5 hb5 hg5 hat5))
    go_wp2_with fail
    go_ret
    refine ⟨_, rfl, ?_, HB.out.trans (HB5.out.mono HB.out.size)⟩
    rw [show termsD d = [d.Ty] from by unfold termsD; rw [if_neg (by rw [HKD.out]; decide), if_pos HKD.out]]
    exact ReadNN.mk (RowAt.of_own HO5.out) (HA1.out.below HB5.out)
  have n2 : (kd == 2) = false := by simpa using h2
  by_cases h3 : kd = 3
  · subst h3
    have HT : Hid (termsD d = d.Cons.flatten) := Lib.hid (by unfold termsD; rw [if_neg (by rw [HKD.out]; decide), if_neg (by rw [HKD.out]; decide), if_pos HKD.out])
    rw [HT.out]
    obtain ⟨T, hT⟩ : ∃ T, d.Cons = T := ⟨_, rfl⟩
    have HV : Hid (ReadNNN W (.slice a3 T.length n3) T) := Lib.hid (by rw [← hT]; exact HD2.out.cons)
    rw [hT] at x5 c5 hn hm3 hW ⊢
    clear x3 x4 x5 c3 c4 HA1 HA2 HONE1 HONE2 HD HD2 HKD HT hT
    have hbW2 : Below W.heap.size W W1 := HBW.out
    have HBW2 := Lib.hid hbW2
    clear hbW2 HBW
    go_enter Tryd.func63, Tryd.ntmps63
    go_wp2_with fail
    go_loopw [3, 4] (fun x i wq => ∃ k : Nat, k ≤ T.length ∧ i = .int .i64 (k : Int) ∧ Own2 W wq x (T.take k).flatten ∧ Below W.heap.size W wq) (fun _ i _ => T.length - (intOf i).toNat)
    case atStart => exact ⟨0, Nat.zero_le _, rfl, ⟨[], by simpa using HO.out, by simp, fun i u l h => by simp at h⟩, HBW2.out⟩
    case round =>
      rename World => wq
      obtain ⟨k, hk, rfl, ho, hb⟩ := hrel
      have HOO := Lib.hid ho; clear ho
      have HBB := Lib.hid hb; clear hb
      have y5 := (HBB.out.cell (p := ⟨w.heap.size, 5, none⟩) HSZ.out).trans c5
      by_cases hlt : k < T.length
      · obtain ⟨_, ⟨h0, _⟩ | ⟨b, off, cap, he, hbw⟩⟩ := HV.out.shape
        · subst h0; simp at hlt
        obtain ⟨rfl, rfl⟩ : a3 = some ⟨b, off, none⟩ ∧ n3 = cap := by simpa using he
        obtain ⟨a5, n5, g0, r1⟩ := HV.out.at hlt
        have g1 := (HBB.out.cell (p := ⟨b, off + k, none⟩) hbw).trans g0
        clear g0 he
        have R1 := Lib.hid r1; clear r1
        have hft := flat_takeG hlt
        have hle2 := flat_leG T (k + 1)
        rw [hft, List.length_append] at hle2
        obtain ⟨us, ru, au⟩ := R1.out.all
        obtain ⟨xs, ox, ax⟩ := HOO.out
        obtain ⟨ao, co, rfl, _⟩ := (RowAt.of_own ox).form
        have RU := Lib.hid (ru.below HBB.out); clear ru
        have AU := Lib.hid au; clear au
        have OX := Lib.hid ox; clear ox
        have AX := Lib.hid ax; clear ax
        have HFT := Lib.hid hft; clear hft
        go_wp2_with (at_builtin; go_must (refine wpList_append_row rfl (.tmp 37) (.tmp 42) 42 rfl W.heap.size 22 i0 (.slice none 0 0) 1 24 Tryd.underlying42 hi hz0 hz1 hz2 rfl (by decide) (.slice ao (T.take k).flatten.length co) (T.take k).flatten.length xs rfl OX.out (.slice a5 T[k].length n5) T[k].length us rfl RU.out AU.out.one (by omega) (by unfold maxLen; omega) (by have := HBB.out.size; omega) ?_); intro v5 w5 hown5 hg5 hat5)
        have hb5 : Below W.heap.size W w5 := HBB.out.grown hg5 (by have := HBB.out.size; omega) (fun g hg => (OX.out.lt g hg).1)
        have HO5 := Lib.hid hown5; clear hown5 hg5 hat5
        have HB5 := Lib.hid hb5; clear hb5
        go_wp2_with fail
        refine ⟨⟨k + 1, by omega, by go_num, ?_, HB5.out⟩, by simp [intOf]; omega⟩
        rw [HFT.out]
        exact ⟨xs ++ us, by rw [List.length_append]; exact HO5.out, AX.out.append AU.out⟩
      · obtain rfl : k = T.length := by omega
        rw [List.take_length] at HOO
        go_wp2_with fail
        go_ret
        obtain ⟨xs, ox, ax⟩ := HOO.out
        exact ⟨_, rfl, ReadNN.mk (RowAt.of_own ox) (ax.below HBB.out), HB.out.trans (HBB.out.mono HB.out.size)⟩
  have n3' : (kd == 3) = false := by simpa using h3
  go_enter Tryd.func63, Tryd.ntmps63
  go_wp2_with fail
  go_ret
  refine ⟨_, rfl, ?_, HB.out.trans (HBW.out.mono HB.out.size)⟩
  rw [show termsD d = [] from by unfold termsD; rw [if_neg (by rw [HKD.out]; exact h1), if_neg (by rw [HKD.out]; exact h2), if_neg (by rw [HKD.out]; exact h3)]]
  exact ReadNN.mk (vs := []) (RowAt.of_own HO.out) ⟨rfl, fun i u l h => by simp at h⟩

end Go.Proofs.YteldkcpkamgfpaaDoor
