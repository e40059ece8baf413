/- TermMakes' walk. -/
import Derived.Test.YtjhgpifccleknaaDoorRefMk
import Derived.Test.YtjhgpifccleknaaDoorGrows
import Derived.Deep.RegionLaw
namespace Go.Proofs.YtjhgpifccleknaaDoor
set_option linter.unusedSimpArgs false
set_option linter.unusedVariables false
open Go.RowKit

/-- a boxed node's cells, wherever they are looked at later -/
theorem box_later {W : World} {n : Nd} {t : TypeId} {w0 : World} (h : W.alloc (.cells #[.int .i64 n.K, .int .i64 n.N, .int .i64 n.M, .string n.S] t) = w0) :
    Below W.heap.size W w0 ∧ W.heap.size < w0.heap.size ∧ ∀ w', Below w0.heap.size w0 w' → w'.cell? ⟨W.heap.size, 0, none⟩ = some (.int .i64 n.K) ∧ w'.cell? ⟨W.heap.size, 1, none⟩ = some (.int .i64 n.N) ∧ w'.cell? ⟨W.heap.size, 2, none⟩ = some (.int .i64 n.M) ∧ w'.cell? ⟨W.heap.size, 3, none⟩ = some (.string n.S) := by
  subst h
  refine ⟨(Below.refl _ W).alloc (Nat.le_refl _) _, by simp, fun w' hb => ?_⟩
  have hl : W.heap.size < (W.alloc (.cells #[.int .i64 n.K, .int .i64 n.N, .int .i64 n.M, .string n.S] t)).heap.size := by simp
  exact ⟨(hb.cell (p := ⟨W.heap.size, 0, none⟩) hl).trans (by rw [World.cell?_alloc_new]; rfl), (hb.cell (p := ⟨W.heap.size, 1, none⟩) hl).trans (by rw [World.cell?_alloc_new]; rfl), (hb.cell (p := ⟨W.heap.size, 2, none⟩) hl).trans (by rw [World.cell?_alloc_new]; rfl), (hb.cell (p := ⟨W.heap.size, 3, none⟩) hl).trans (by rw [World.cell?_alloc_new]; rfl)⟩

/-- what is made of parts that are terms is one whose parts they are -/
theorem make_parts {n : Nd} {L : List (List Nd)} (h : makeE n L = 0) : chk (L.flatten ++ [n]) = 0 ∧ ∃ cs : List Tm, whole (L.flatten ++ [n]) = some (Tm.mk n cs) ∧ cs.map Tm.flat = L := by
  unfold makeE at h
  by_cases hf : fstE (L.map chk) = 0
  · rw [if_pos hf] at h
    by_cases hr : rightB n = true ∧ arity n = L.length
    · rw [if_pos hr] at h
      refine ⟨h, ?_⟩
      have hall : ∀ l, l ∈ L → ∃ t : Tm, t.wf = true ∧ t.flat = l := by
        intro l hl
        obtain ⟨_, t, ht, _⟩ := chk_ok (fstE_zero.1 hf (chk l) (List.mem_map.2 ⟨l, hl, rfl⟩))
        exact ⟨t, whole_some ht⟩
      have : ∃ cs : List Tm, cs.map Tm.flat = L ∧ ∀ t, t ∈ cs → t.wf = true := by
        clear h hr hf
        induction L with
        | nil => exact ⟨[], rfl, fun t h => by cases h⟩
        | cons l r ih =>
          obtain ⟨t, h1, h2⟩ := hall l (by simp)
          obtain ⟨cs, h3, h4⟩ := ih (fun x hx => hall x (by simp [hx]))
          exact ⟨t :: cs, by simp [h2, h3], fun x hx => by rcases List.mem_cons.1 hx with rfl | hx; exact h1; exact h4 x hx⟩
      obtain ⟨cs, h3, h4⟩ := this
      refine ⟨cs, ?_, h3⟩
      have hwf : (Tm.mk n cs).wf = true := wf_iff.2 ⟨hr.1, by rw [hr.2, ← h3]; simp, h4⟩
      have hfl : (Tm.mk n cs).flat = L.flatten ++ [n] := by
        rw [flat_mk]
        congr 1
        rw [← h3]
        clear h3 h4 hwf hall h hr hf
        induction cs with
        | nil => rw [flatL_nil]; rfl
        | cons t r ih => rw [flatL_cons, ih]; rfl
      rw [← hfl]
      exact whole_flat hwf
    · rw [if_neg hr] at h; cases h
  · rw [if_neg hf] at h; exact absurd h hf

set_option maxRecDepth 20000 in
set_option maxHeartbeats 4000000 in
theorem makes_walk (W : World) (n : Nd) (hns : n.S.size ≤ maxLen) (L : List (List Nd)) (v : Value) (hv : ReadNN W v L) (hsl : SmallNN L) (hS : ShapesAt W) :
    Calls Tryd.prog 10 #[.agg #[.int .i64 n.K, .int .i64 n.N, .int .i64 n.M, .string n.S], v] W fun e W' => e = .returned (.bool true) ∧ Below W.heap.size W W' := by
  have hshape : ∃ ad cp, v = .slice ad L.length cp := by
    obtain ⟨vs, _, hr, _⟩ := hv
    obtain ⟨a, c, h, _⟩ := hr.form
    exact ⟨a, c, h⟩
  obtain ⟨ad, cp, rfl⟩ := hshape
  obtain ⟨w0, hw0⟩ : ∃ w0, W.alloc (.cells #[.int .i64 n.K, .int .i64 n.N, .int .i64 n.M, .string n.S] 23) = w0 := ⟨_, rfl⟩
  obtain ⟨hbw, hltw, hbox⟩ := box_later hw0
  have HSH : Hid (∀ w', Below w0.heap.size w0 w' → Calls Tryd.prog 21 #[] w' fun e w9 => e = .returned (.bool true) ∧ Below w'.heap.size w' w9) := fun w' hb => shown2_any w' (hS.below (hbw.trans (hb.mono (by omega))))
  have HMK : Hid (∀ w', Below w0.heap.size w0 w' → Calls Tryd.prog 31 #[.agg #[.int .i64 n.K, .int .i64 n.N, .int .i64 n.M, .string n.S], .slice ad L.length cp] w' (MakePost n L w')) := fun w' hb => tmake_any n L _ w' (hS.below (hbw.trans (hb.mono (by omega)))) hns (hv.below (hbw.trans (hb.mono (by omega)))) hsl
  have HRM : Hid (∀ w', Below w0.heap.size w0 w' → Calls Tryd.prog 46 #[.agg #[.int .i64 n.K, .int .i64 n.N, .int .i64 n.M, .string n.S], .slice ad L.length cp] w' (MakePost n L w')) := fun w' hb => refmake_any n L _ w' hns (hv.below (hbw.trans (hb.mono (by omega)))) hsl
  have HSW : Hid (∀ w', Below w0.heap.size w0 w' → ShapesAt w') := fun w' hb => hS.below (hbw.trans (hb.mono (by omega)))
  have HVW : Hid (∀ w', Below w0.heap.size w0 w' → ReadNN w' (.slice ad L.length cp) L) := fun w' hb => hv.below (hbw.trans (hb.mono (by omega)))
  have HBW := Lib.hid hbw; clear hbw
  have HBOX := Lib.hid hbox; clear hbox
  have HSL := Lib.hid hsl; clear hsl
  have hm9 : L.length ≤ 9223372036854775807 := by have := hv.shape.1; unfold maxLen at this; omega
  clear hv hS
  have HB0 : Hid (Below w0.heap.size w0 w0) := Below.refl _ _
  have FIN : Hid (∀ w', Below w0.heap.size w0 w' → Below W.heap.size W w') := fun w' hb => HBW.out.trans (hb.mono (by omega))
  by_cases h10 : 10 < L.length
  · have d1 : decide ((10 : Int) < (L.length : Int)) = true := by simp; omega
    clear h10
    go_enter Tryd.func10, Tryd.ntmps10
    go_wp2_with fail
    refine (HSH.out _ HB0.out).mono ?_
    rintro e w1 ⟨rfl, hb1⟩
    go_wp2_with fail
    go_ret
    exact ⟨rfl, FIN.out _ hb1⟩
  have d1 : decide ((10 : Int) < (L.length : Int)) = false := by simp; omega
  by_cases hnS : 1024 < n.S.size
  · have d2 : decide ((1024 : Int) < (n.S.size : Int)) = true := by simp; omega
    clear hnS
    go_enter Tryd.func10, Tryd.ntmps10
    obtain ⟨k0, k1, k2, k3⟩ := HBOX.out _ HB0.out
    go_wp2_with fail
    refine (HSH.out _ HB0.out).mono ?_
    rintro e w1 ⟨rfl, hb1⟩
    go_wp2_with fail
    go_ret
    exact ⟨rfl, FIN.out _ hb1⟩
  have d2 : decide ((1024 : Int) < (n.S.size : Int)) = false := by simp; omega
  clear hnS
  have hL10 : L.length ≤ 10 := by omega
  clear h10
  go_enter Tryd.func10, Tryd.ntmps10
  obtain ⟨k0, k1, k2, k3⟩ := HBOX.out _ HB0.out
  go_wp2_with fail
  refine (HSH.out _ HB0.out).mono ?_
  rintro e w1 ⟨rfl, hb1⟩
  have HB1 := chain HB0 hb1
  clear hb1 k0 k1 k2 k3 hw0 d1 d2
  go_wp2_with fail
  go_loopw [5] (fun i wr => (∃ k : Nat, k ≤ L.length ∧ i = .int .i64 (k : Int)) ∧ wr = w1) (fun i _ => L.length - (intOf i).toNat)
  case atStart => exact ⟨⟨0, Nat.zero_le _, rfl⟩, rfl⟩
  case round =>
    rename World => wq
    obtain ⟨⟨k, hk, rfl⟩, rfl⟩ := hrel
    by_cases hlt : k < L.length
    · have hvr := HVW.out _ HB1.out
      obtain ⟨b, off, cap, he, _⟩ : ∃ b off cap, ad = some ⟨b, off, none⟩ ∧ cap = cp := by
        obtain ⟨_, ⟨h0, _⟩ | ⟨b, off, cap, he, _⟩⟩ := ReadNN.shape hvr
        · rw [h0] at hlt; simp at hlt
        · simp at he; exact ⟨b, off, cap, he.1, he.2.symm⟩
      subst he
      obtain ⟨a1, c1, g1, r1⟩ := hvr.at hlt
      have HHV := Lib.hid (heavy2_any L[k] _ wq r1)
      clear r1 hvr
      go_wp2_with fail
      refine HHV.out.mono ?_
      rintro e w2 ⟨⟨b1, rfl, hn1⟩, rfl⟩
      clear hn1
      cases b1
      · go_wp2_with fail
        go_roundw
        case rel => exact ⟨⟨k + 1, by omega, by go_num⟩, trivial⟩
        case measure => simp [intOf]; omega
      · go_wp2_with fail
        refine (HSH.out _ HB1.out).mono ?_
        rintro e w3 ⟨rfl, hb3⟩
        have HB3 := chain HB1 hb3
        go_wp2_with fail
        go_ret
        exact ⟨rfl, FIN.out _ HB3.out⟩
    · obtain ⟨k0, k1, k2, k3⟩ := HBOX.out _ HB1.out
      go_wp2_with fail
      refine (HMK.out _ HB1.out).mono ?_
      rintro e w3 ⟨s, rfl, hs, hb3⟩
      have HB3 := chain HB1 hb3
      have HS3 := Lib.hid hs
      clear hb3 k0 k1 k2 k3 hs
      obtain ⟨k0, k1, k2, k3⟩ := HBOX.out _ HB3.out
      go_wp2_with fail
      refine (HRM.out _ HB3.out).mono ?_
      rintro e w4 ⟨s', rfl, hs', hb4⟩
      have HB4 := chain HB3 hb4
      have HS4 := Lib.hid (HS3.out.below hb4)
      have HS4' := Lib.hid hs'
      clear hb4 hs' k0 k1 k2 k3
      have HSAME := Lib.hid (same_yes _ s s' w4 HS4.out HS4'.out)
      obtain ⟨me, hme⟩ : ∃ me, makeE n L = me := ⟨_, rfl⟩
      have HME := Lib.hid hme
      rw [hme] at HS4 HS4' ⊢
      clear hme
      go_wp2_with fail
      refine HSAME.out.mono ?_
      rintro e w5 ⟨rfl, n5, rfl⟩
      by_cases h0 : me = 0
      rotate_left
      · have hcb : (me != 0) = true := by simpa using h0
        have hrd := HS4.out
        rw [if_neg h0] at hrd
        obtain ⟨sa, sc, rfl⟩ := ReadN.len_slice hrd
        clear hrd
        go_wp2_with fail
        go_ret
        exact ⟨by simp, FIN.out _ (below_drewN HB4.out _)⟩
      subst h0
      have hrd := HS4.out
      rw [if_pos rfl] at hrd
      obtain ⟨hck, cs, hwh, hcs⟩ := make_parts HME.out
      have hsm : SmallN (L.flatten ++ [n]) := by
        intro x hx
        rcases List.mem_append.1 hx with hx | hx
        · obtain ⟨l, hl, hxl⟩ := List.mem_flatten.1 hx
          exact HSL.out l hl x hxl
        · simp at hx; subst hx; exact hns
      have hlast : (L.flatten ++ [n]).getLast? = some n := by simp
      obtain ⟨g, hg⟩ : ∃ g, L.flatten ++ [n] = g := ⟨_, rfl⟩
      rw [hg] at hrd hck hwh hsm hlast
      clear hg HS3 HS4 HS4' HSAME HMK HRM
      obtain ⟨sa, sc, rfl⟩ := ReadN.len_slice hrd
      have HB5 : Hid (Below w0.heap.size w0 (w4.drewN n5)) := below_drewN HB4.out _
      obtain ⟨w5, hw5⟩ : ∃ w5, w4.drewN n5 = w5 := ⟨_, rfl⟩
      have hrd5 : ReadN w5 (.slice sa g.length sc) g := by rw [← hw5]; exact RowAt.drewN hrd _
      rw [hw5] at HB5 ⊢
      have HR5 := Lib.hid hrd5; clear hrd5 hrd hw5
      have HCK := Lib.hid hck; clear hck
      have HWH := Lib.hid hwh; clear hwh
      have HCS := Lib.hid hcs; clear hcs
      go_wp2_with fail
      refine (targs_any g _ w5 (HSW.out _ HB5.out) HR5.out hsm).mono ?_
      rintro e w6 ⟨l, rfl, hl, _, hb6⟩
      obtain ⟨nd', cs', hw', hnn⟩ := hl HCK.out
      rw [HCK.out]
      have HB6 := chain HB5 hb6
      have HR6 := Lib.hid (HR5.out.below hb6)
      have hcc : cs'.map Tm.flat = L := by
        rw [HWH.out] at hw'
        simp at hw'
        rw [← hw'.2]; exact HCS.out
      rw [hcc] at hnn
      obtain ⟨la, lc, hle⟩ : ∃ a c, l = .slice a L.length c := by
        obtain ⟨vs, _, hr, _⟩ := hnn
        obtain ⟨a, c, h, _⟩ := hr.form
        exact ⟨a, c, h⟩
      subst hle
      have HNN6 := Lib.hid hnn
      have HVW6 := Lib.hid (HVW.out _ HB6.out)
      clear hnn hl hb6 hw' hcc
      obtain ⟨k0, k1, k2, k3⟩ := HBOX.out _ HB6.out
      have hltw6 : W.heap.size < w6.heap.size := by have := HB6.out.size; omega
      have HX : Hid (∀ x, Below w6.heap.size w6 x → Below w0.heap.size w0 x) := fun x hb => HB6.out.trans (hb.mono HB6.out.size)
      have HLS : Hid (∀ x, Below w6.heap.size w6 x → Calls Tryd.prog 37 #[.slice la L.length lc, .slice ad L.length cp] x fun e x' => e = .returned (.bool true) ∧ Below w6.heap.size w6 x') := by
        show ∀ x, _
        intro x hb
        refine (lists_yes L _ _ x (HNN6.out.below hb) (HVW6.out.below hb)).mono ?_
        rintro e x' ⟨rfl, m, rfl⟩
        exact ⟨rfl, below_drewN hb _⟩
      have HRT : Hid (∀ x, Below w6.heap.size w6 x → Calls Tryd.prog 41 #[.slice sa g.length sc] x fun e x' => e = .returned (.agg #[.int .i64 n.K, .int .i64 n.N, .int .i64 n.M, .string n.S]) ∧ Below w6.heap.size w6 x') := by
        show ∀ x, _
        intro x hb
        refine (root_any g n _ x (HR6.out.below hb) hlast).mono ?_
        rintro e x' ⟨rfl, hb'⟩
        exact ⟨rfl, hb.trans (hb'.mono hb.size)⟩
      have HTC : Hid (∀ x, Below w6.heap.size w6 x → Calls Tryd.prog 33 #[.slice sa g.length sc] x fun e x' => e = .returned (.int .i64 0) ∧ Below w6.heap.size w6 x') := by
        show ∀ x, _
        intro x hb
        have h := tcheck_any g _ x (HSW.out _ (HX.out _ hb)) (HR6.out.below hb) hsm
        rw [HCK.out] at h
        refine h.mono ?_
        rintro e x' ⟨rfl, hb'⟩
        exact ⟨rfl, hb.trans (hb'.mono hb.size)⟩
      have HBX : Hid (∀ x, Below w6.heap.size w6 x → x.cell? ⟨W.heap.size, 0, none⟩ = some (.int .i64 n.K) ∧ x.cell? ⟨W.heap.size, 1, none⟩ = some (.int .i64 n.N) ∧ x.cell? ⟨W.heap.size, 2, none⟩ = some (.int .i64 n.M) ∧ x.cell? ⟨W.heap.size, 3, none⟩ = some (.string n.S)) := fun x hb => HBOX.out x (HX.out x hb)
      have C6 : Hid (Below w6.heap.size w6 w6.drew) := (Below.refl _ _).drew
      go_wp2_with fail
      go_region_law (first
        | (go_simp; go_at_call 37; refine (HLS.out _ (by first | exact C6.out | exact C8.out | exact C9.out)).mono ?_; rintro e w7 ⟨rfl, hb7⟩
           have C7 := Lib.hid hb7
           obtain ⟨q0, q1, q2, q3⟩ := HBX.out _ hb7
           clear hb7)
        | (go_simp; go_at_call 41; refine (HRT.out _ (by first | exact C7.out | exact C6.out | exact C9.out)).mono ?_; rintro e w8 ⟨rfl, hb8⟩
           have C8 := Lib.hid hb8
           obtain ⟨p0, p1, p2, p3⟩ := HBX.out _ hb8
           clear hb8)
        | (go_simp; go_at_call 33; refine (HTC.out _ (by first | exact C8.out | exact C7.out | exact C6.out)).mono ?_; rintro e w9 ⟨rfl, hb9⟩
           have C9 := Lib.hid hb9
           clear hb9))
      all_goals
        go_wp2_with fail
        go_ret
        exact ⟨rfl, FIN.out _ (HX.out _ C9.out)⟩

end Go.Proofs.YtjhgpifccleknaaDoor
