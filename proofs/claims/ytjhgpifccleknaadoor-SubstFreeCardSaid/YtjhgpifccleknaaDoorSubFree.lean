/- The walk of SubstFree: it comes to true for every input. Printed by gen4f.py. -/
import Derived.Test.YtjhgpifccleknaaDoorSubThree
import Derived.Test.YtjhgpifccleknaaDoorSubLawC
namespace Go.Proofs.YtjhgpifccleknaaDoor
set_option linter.unusedSimpArgs false
set_option linter.unusedVariables false
open Go.RowKit Go.BigFrame

def FreeRel (u : List Nd) (n : Nat) (W w1 : World) (out i : Value) (wr : World) : Prop :=
  ∃ j, j ≤ n ∧ i = .int .i64 (j : Int) ∧ HasNN w1.heap.size wr out (List.replicate j u) ∧ Below W.heap.size W wr ∧ Below w1.heap.size w1 wr

set_option maxRecDepth 20000 in
set_option maxHeartbeats 4000000 in
theorem free4_walk (W : World) (t : List Nd) (vt : Value) (ht : ReadN W vt t) (hst : SmallN t) (u : List Nd) (vu : Value) (hu : ReadN W vu u) (hsu : SmallN u) (hS : ShapesAt W) :
    Calls Tryd.prog 20 #[vt, vu] W fun e W' => e = .returned (.bool true) ∧ Below W.heap.size W W' := by
  obtain ⟨at_, ct, rfl⟩ := ReadN.len_slice ht
  obtain ⟨au_, cu, rfl⟩ := ReadN.len_slice hu
  have HSW : Hid (∀ x, Below W.heap.size W x → ShapesAt x) := fun x hb => hS.below hb
  have HTW : Hid (∀ x, Below W.heap.size W x → ReadN x (.slice at_ t.length ct) t) := fun x hb => ht.below hb
  have HST := Lib.hid hst
  have HUW : Hid (∀ x, Below W.heap.size W x → ReadN x (.slice au_ u.length cu) u) := fun x hb => hu.below hb
  have HSU := Lib.hid hsu
  have HSH : Hid (∀ w', Below W.heap.size W w' → Calls Tryd.prog 51 #[] w' fun e w9 => e = .returned (.bool true) ∧ Below w'.heap.size w' w9) := fun w' hb => shown4_any w' (HSW.out _ hb)
  have HB0 : Hid (Below W.heap.size W W) := Below.refl _ _
  have HVT := Lib.hid (heavy4_any t _ W ht hst)
  have HVU := Lib.hid (heavy4_any u _ W hu hsu)
  clear hS ht hst hu hsu
  obtain ⟨i0, hi, hz0, hz1, hz2⟩ := info_parts Tryd.infoNodes
  obtain ⟨ce, hce⟩ : ∃ c, chk t = c := ⟨_, rfl⟩
  obtain ⟨cf, hcf⟩ : ∃ c, chk u = c := ⟨_, rfl⟩
  obtain ⟨ft, hft⟩ : ∃ c, freeN t = c := ⟨_, rfl⟩
  obtain ⟨fu, hfu⟩ : ∃ c, freeN u = c := ⟨_, rfl⟩
  have HCE := Lib.hid hce
  have HCF := Lib.hid hcf
  have HFT := Lib.hid hft
  have HFU := Lib.hid hfu
  clear hce hcf hft hfu
  go_enter Tryd.func20, Tryd.ntmps20
  go_wp2_with fail
  refine HVT.out.mono ?_
  rintro e w1 ⟨⟨b1, rfl, hn1⟩, rfl⟩
  cases b1
  rotate_left
  · go_wp2_with fail
    refine (HSH.out _ HB0.out).mono ?_
    rintro e w2 ⟨rfl, hb2⟩
    go_wp2_with fail
    go_ret
    exact ⟨rfl, hb2⟩
  have hl_t := hn1 rfl
  clear hn1
  go_wp2_with fail
  refine HVU.out.mono ?_
  rintro e w1 ⟨⟨b1, rfl, hn1⟩, rfl⟩
  cases b1
  rotate_left
  · go_wp2_with fail
    refine (HSH.out _ HB0.out).mono ?_
    rintro e w2 ⟨rfl, hb2⟩
    go_wp2_with fail
    go_ret
    exact ⟨rfl, hb2⟩
  have hl_u := hn1 rfl
  clear hn1
  go_wp2_with fail
  refine (HSH.out _ HB0.out).mono ?_
  rintro e w1 ⟨rfl, hb⟩
  have HB1 := chain HB0 hb
  clear hb
  go_wp2_with fail
  refine (reffree_any t _ w1 (HTW.out _ HB1.out) HST.out).mono ?_
  rintro e w2 ⟨rfl, hb⟩
  have HB2 := chain HB1 hb
  clear hb
  rw [HFT.out, HCE.out]
  go_wp2_with fail
  refine (reffree_any u _ w2 (HUW.out _ HB2.out) HSU.out).mono ?_
  rintro e w3 ⟨rfl, hb⟩
  have HB3 := chain HB2 hb
  clear hb
  rw [HFU.out, HCF.out]
  by_cases h0 : ce = 0
  rotate_left
  · have hb0 : (ce != 0) = true := by simpa using h0
    clear h0
    go_wp2_with fail
    refine (HSH.out _ HB3.out).mono ?_
    rintro e w4 ⟨rfl, hb⟩
    have HB4 := chain HB3 hb
    clear hb
    go_wp2_with fail
    all_goals (go_ret; exact ⟨rfl, HB4.out⟩)
  subst h0
  by_cases h0 : cf = 0
  rotate_left
  · have hb0 : (cf != 0) = true := by simpa using h0
    clear h0
    go_wp2_with fail
    refine (HSH.out _ HB3.out).mono ?_
    rintro e w4 ⟨rfl, hb⟩
    have HB4 := chain HB3 hb
    clear hb
    go_wp2_with fail
    all_goals (go_ret; exact ⟨rfl, HB4.out⟩)
  subst h0
  have hbt := freeN_bound HCE.out
  have hbu := freeN_bound HCF.out
  rw [HFT.out] at hbt
  rw [HFU.out] at hbu
  by_cases h0 : fu = 0
  rotate_left
  · have hb0 : decide (fu > 0) = true := by simp; omega
    clear h0
    go_wp2_with fail
    refine (HSH.out _ HB3.out).mono ?_
    rintro e w4 ⟨rfl, hb⟩
    have HB4 := chain HB3 hb
    clear hb
    go_wp2_with fail
    all_goals (go_ret; exact ⟨rfl, HB4.out⟩)
  subst h0
  by_cases h0 : ft ≤ 20
  rotate_left
  · have hb0 : decide (ft > 20) = true := by simp; omega
    clear h0
    go_wp2_with fail
    refine (HSH.out _ HB3.out).mono ?_
    rintro e w4 ⟨rfl, hb⟩
    have HB4 := chain HB3 hb
    clear hb
    go_wp2_with fail
    all_goals (go_ret; exact ⟨rfl, HB4.out⟩)
  obtain ⟨n, rfl⟩ := Int.eq_ofNat_of_zero_le hbt.1
  have hn20 : n ≤ 20 := by omega
  have hb0 : decide ((n : Int) > 20) = false := by simp; omega
  have hne : u ≠ [] := by
    obtain ⟨_, U, hU, _⟩ := chk_ok HCF.out
    obtain ⟨_, hfl⟩ := whole_some hU
    rw [← hfl]
    exact List.ne_nil_of_length_pos (flat_pos _)
  have HNE := Lib.hid hne
  clear h0 hbt hbu hne
  go_wp2_with fail
  go_loopw [9, 10] (fun out i wr => FreeRel u n W w3 out i wr) (fun _ i _ => n - (intOf i).toNat)
  case atStart =>
    refine ⟨0, Nat.zero_le _, rfl, ⟨[], by simp, ?_, (fun x hx => by cases hx), fun i hi => by simp at hi⟩, HB3.out.alloc HB3.out.size _, (Below.refl _ _).alloc (Nat.le_refl _) _⟩
    exact World.ownsRow_lit w3 #[] 0 (Nat.le_refl _) (by unfold maxLen; omega) rfl
  case round =>
    rename World => wr
    obtain ⟨j, hj, rfl, hnn, hb, hbb⟩ := hrel
    have HB := Lib.hid hb
    have HBB := Lib.hid hbb
    clear hb hbb
    by_cases hlt : j < n
    · have hlj : (List.replicate j u).length = j := by simp
      obtain ⟨vs, hvl, hown, hone, hel⟩ := hnn
      rw [hlj] at hown
      obtain ⟨ao, co, rfl, _⟩ := (RowAt.of_own hown).form
      have hru := HUW.out _ HB.out
      have hlo : ∀ y, (Value.slice au_ u.length cu).ownBlock = some y → y < w3.heap.size := fun y hy => (HUW.out _ HB3.out).ownLt HNE.out hy
      have HVL := Lib.hid hvl
      have HOWN := Lib.hid hown
      have HONE := Lib.hid hone
      have HEL := Lib.hid hel
      have HRU := Lib.hid hru
      have HLO := Lib.hid hlo
      have hs6 : w3.heap.size ≤ wr.heap.size := HBB.out.size
      clear hvl hown hone hel hru hlj hlo
      have HA1 : Hid ((wr.alloc (.cells #[Value.slice au_ u.length cu] 30)).ownsRow w3.heap.size 30 1 (.slice ao j co) j vs) := ownsRow_below HOWN.out ((Below.refl _ _).alloc (Nat.le_refl _) _) (fun g hg => (HOWN.out.lt g hg).2)
      have HA2 : Hid (RowAt (wr.alloc (.cells #[Value.slice au_ u.length cu] 30)) 1 (.slice (some ⟨wr.heap.size, 0, none⟩) 1 1) 1 [Value.slice au_ u.length cu]) := RowAt.lit wr _ #[Value.slice au_ u.length cu] 1 rfl (by unfold maxLen; omega)
      have HA3 : Hid (∀ x, x ∈ [Value.slice au_ u.length cu] → x.oneCell' = true) := by
        show ∀ x, _
        intro x hx
        simp at hx
        subst hx
        rfl
      have hA4 : (j + 1) * 24 ≤ 140737488355328 := by omega
      have hA5 : j + 1 ≤ maxLen := by unfold maxLen; omega
      have hA6 : w3.heap.size ≤ (wr.alloc (.cells #[Value.slice au_ u.length cu] 30)).heap.size := by simp; omega
      go_wp2_with (at_builtin; go_must (refine wpList_append_row rfl (.tmp 57) (.tmp 59) 41 rfl w3.heap.size 30 i0 (.slice none 0 0) 1 24 Tryd.underlying41 hi hz0 hz1 hz2 rfl (by decide) (.slice ao j co) j vs rfl HA1.out (.slice (some ⟨wr.heap.size, 0, none⟩) 1 1) 1 [Value.slice au_ u.length cu] rfl HA2.out HA3.out hA4 hA5 hA6 ?_); intro v7 w7 hown7 hg7 hat7)
      have h64 : Below wr.heap.size wr (wr.alloc (.cells #[Value.slice au_ u.length cu] 30)) := (Below.refl _ _).alloc (Nat.le_refl _) _
      have hbb7 : Below w3.heap.size w3 w7 := (HBB.out.alloc HBB.out.size _).grown hg7 hA6 (fun g hg => (HOWN.out.lt g hg).1)
      have hb7 : Below W.heap.size W w7 := HB3.out.trans (hbb7.mono HB3.out.size)
      have h3a : ∀ i (hi : i < (List.replicate j u).length) x, vs[i]? = some x → ReadN (wr.alloc (.cells #[Value.slice au_ u.length cu] 30)) x (List.replicate j u)[i] ∧ ∀ y, x.ownBlock = some y → (Value.slice ao j co).ownBlock ≠ some y ∧ y < (wr.alloc (.cells #[Value.slice au_ u.length cu] 30)).heap.size :=
        fun i hi x hx => ⟨(HEL.out i hi x hx).1.below h64, fun y hy => ⟨((HEL.out i hi x hx).2 y hy).1, by have := ((HEL.out i hi x hx).2 y hy).2; simp; omega⟩⟩
      have hpa : ReadN (wr.alloc (.cells #[Value.slice au_ u.length cu] 30)) (.slice au_ u.length cu) u := ReadN.below HRU.out h64
      have hpf : ∀ y, (Value.slice au_ u.length cu).ownBlock = some y → (Value.slice ao j co).ownBlock ≠ some y ∧ y < (wr.alloc (.cells #[Value.slice au_ u.length cu] 30)).heap.size := fun y hy => by
        have h1 := HLO.out y hy
        refine ⟨fun h => ?_, by simp; omega⟩
        have h2 := (HOWN.out.lt y h).1
        omega
      have hnn7 := HasNN.push (w := wr.alloc (.cells #[Value.slice au_ u.length cu] 30)) HVL.out (by rw [List.length_replicate]; exact HA1.out) HONE.out h3a hpa hpf rfl (by rw [List.length_replicate]; exact hown7) hg7 hat7
      rw [← List.replicate_succ'] at hnn7
      have HNN7 := Lib.hid hnn7
      have HB7 := Lib.hid hb7
      have HBB7 := Lib.hid hbb7
      clear hown7 hg7 hat7 h64 hbb7 hb7 h3a hpa hnn7 hpf
      go_wp2_with fail
      go_roundw
      case rel => exact ⟨j + 1, by omega, by go_num, HNN7.out, HB7.out, HBB7.out⟩
      case measure => simp [intOf]; omega
    · obtain rfl : j = n := by omega
      have hrd := hnn.read
      obtain ⟨vs0, _, hr0, _⟩ := id hrd
      rw [List.length_replicate] at hr0
      obtain ⟨al, cl, rfl, _⟩ := hr0.form
      clear hr0
      have HIL := Lib.hid (inst_law t (List.replicate j u) _ _ wr (HSW.out _ HB.out) (HTW.out _ HB.out) HST.out hrd (fun l hl => by rw [List.eq_of_mem_replicate hl]; exact HSU.out) (by simp; omega))
      clear hrd hnn
      by_cases hj0 : j = 0
      · subst hj0
        have h1 := free_none HCE.out HFT.out
        rw [show List.replicate 0 u = [] from rfl, h1.1, h1.2] at HIL
        clear h1
        go_wp2_with fail
        refine HIL.out.mono ?_
        rintro e w8 ⟨a8, c8, rfl, hr8, hb8⟩
        have HR8 := Lib.hid hr8
        have HB8 := chainB HB hb8
        clear hr8 hb8
        go_wp2_with fail
        refine (same_law t _ _ _ HR8.out (HTW.out _ HB8.out)).mono ?_
        rintro e w9 ⟨rfl, hb9⟩
        have HB9 := chainB HB8 hb9
        clear hb9
        go_wp2_with fail
        go_ret
        exact ⟨rfl, HB9.out⟩
      · have hjb : ((j : Int) == 0) = false := by simp; omega
        have he := free_err HCE.out HCF.out HFU.out j
        have hgo := fun h => free_gone (t := t) HCE.out HCF.out HFU.out HFT.out h
        have hsm : SmallN (insL (List.replicate j u) t) := insL_small HST.out (fun l hl => by rw [List.eq_of_mem_replicate hl]; exact HSU.out)
        obtain ⟨E, hE⟩ : ∃ E, insE (List.replicate j u) t = E := ⟨_, rfl⟩
        obtain ⟨X, hX⟩ : ∃ E, insL (List.replicate j u) t = E := ⟨_, rfl⟩
        rw [hE, hX] at HIL hgo
        rw [hE] at he
        rw [hX] at hsm
        have HGO := Lib.hid hgo
        have HSM := Lib.hid hsm
        clear hE hX hgo hsm hj0
        rcases he with rfl | rfl | rfl
        · have hg2 := HGO.out rfl
          obtain ⟨x1, hx1⟩ : ∃ c, chk X = c := ⟨_, rfl⟩
          obtain ⟨x2, hx2⟩ : ∃ c, freeN X = c := ⟨_, rfl⟩
          rw [hx1, hx2] at hg2
          obtain ⟨rfl, rfl⟩ := hg2
          have HX1 := Lib.hid hx1
          have HX2 := Lib.hid hx2
          clear hx1 hx2
          go_wp2_with fail
          refine HIL.out.mono ?_
          rintro e w8 ⟨a8, c8, rfl, hr8, hb8⟩
          have HR8 := Lib.hid hr8
          have HB8 := chainB HB hb8
          clear hr8 hb8
          go_wp2_with fail
          refine (reffree_any X _ w8 HR8.out HSM.out).mono ?_
          rintro e w9 ⟨rfl, hb9⟩
          rw [HX1.out, HX2.out]
          have HB9 := chainB HB8 hb9
          clear hb9
          go_wp2_with fail
          go_ret
          exact ⟨rfl, HB9.out⟩
        all_goals
          go_wp2_with fail
          refine HIL.out.mono ?_
          rintro e w8 ⟨a8, c8, rfl, hr8, hb8⟩
          have HB8 := chainB HB hb8
          clear hr8 hb8
          go_wp2_with fail
          go_ret
          exact ⟨rfl, HB8.out⟩

end Go.Proofs.YtjhgpifccleknaaDoor
