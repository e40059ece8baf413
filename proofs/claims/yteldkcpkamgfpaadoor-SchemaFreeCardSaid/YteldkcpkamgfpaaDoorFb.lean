/- SchemaFree's walk: for every type's name, term and number the law's function returns true; where the table of shapes lies as it is laid. -/
import Derived.Test.YteldkcpkamgfpaaDoorFa
namespace Go.Proofs.YteldkcpkamgfpaaDoor
set_option linter.unusedSimpArgs false
set_option linter.unusedVariables false
open Go.RowKit

theorem u8_nat17 {kk : Int} (hkk : (Lit.int .u8 kk).wf = true) : ∃ cu : Nat, kk = cu ∧ cu < 256 := by
  have h0 : IntKind.u8.min ≤ kk ∧ kk ≤ IntKind.u8.max := by simpa [Lit.wf] using hkk
  have h : 0 ≤ kk ∧ kk ≤ 255 := h0
  obtain ⟨n, hn⟩ := Int.eq_ofNat_of_zero_le h.1
  exact ⟨n, hn, by omega⟩

theorem ReadN.own {w : World} {base n : Nat} {v : Value} {l : List Nd} (h : w.ownsRow base 30 4 v n (l.flatMap nodeV)) (hn : n = l.length) : ReadN w v l := by
  subst hn
  exact RowAt.of_own h

set_option maxRecDepth 20000 in
set_option maxHeartbeats 8000000 in
theorem sfree_walk (W : World) (s : ByteArray) (hz : s.size ≤ maxLen) (t : List Nd) (vt : Value) (ht : ReadN W vt t) (hst : SmallN t) (n0 : Int) (hn0 : (Lit.int .u8 n0).wf = true) (hS : ShapesAt W) :
    Calls Tryd.prog 3 #[.string s, vt, .int .u8 n0] W fun e W' => e = .returned (.bool true) ∧ Below W.heap.size W W' := by
  obtain ⟨i0, hi, hz0, hz1, hz2⟩ := info_parts Tryd.infoNode
  obtain ⟨nn, rfl, hnn⟩ := u8_nat17 hn0
  have HSH : Hid (∀ w', Below W.heap.size W w' → Calls Tryd.prog 9 #[] w' (RetB (.bool true) w')) := Lib.hid (fun w' hb => shown17_any w' (hS.below hb))
  have HHV := Lib.hid (heavy17_any t vt W ht hst)
  have HNM : Hid (∀ w', Calls Tryd.prog 10 #[.string s] w' fun e w2 => e = .returned (.bool (nameB s)) ∧ w' = w2) := Lib.hid (fun w' => refname_any s hz w')
  have HCK : Hid (∀ w', Below W.heap.size W w' → Calls Tryd.prog 11 #[vt] w' (RetB (.int .i64 (chk t)) w')) := Lib.hid (fun w' hb => refcheck2_any t vt w' (ht.below hb) hst)
  have HDP : Hid (∀ T : Tm, T.wf = true → T.flat = t → t.length ≤ 4000 → ∀ w', Below W.heap.size W w' → Calls Tryd.prog 12 #[vt] w' (RetB (.int .i64 (T.dep : Int)) w')) := Lib.hid (fun T hT hf hl w' hb => refdeep_all T hT vt w' (by rw [hf]; exact ht.below hb) (by rw [hf]; exact hst) (by rw [hf]; exact hl))
  have HMT : Hid (∀ w', Below W.heap.size W w' → Calls Tryd.prog 14 #[vt, .string s] w' (RetB (.bool (mentB t s)) w')) := Lib.hid (fun w' hb => mentions_any t s vt w' (ht.below hb))
  have HPS : Hid (∀ w', Below W.heap.size W w' → ∀ l v, ReadN w' v l → SmallN l → Calls Tryd.prog 13 #[.string s, v] w' (RetB (.int .i64 (posE s l)) w')) := Lib.hid (fun w' hb l v hv hs => positive_any s l v w' (hS.below hb) hv hs)
  have HT := Lib.hid ht
  have HST := Lib.hid hst
  have HZ := Lib.hid hz
  obtain ⟨at_, ct, rfl⟩ := ReadN.len_slice ht
  have hz9 : s.size ≤ 9223372036854775807 := by unfold maxLen at hz; omega
  obtain ⟨p, hp⟩ : ∃ p, t.length = p := ⟨_, rfl⟩
  have HP := Lib.hid hp
  have HB0 : Hid (Below W.heap.size W W) := Below.refl _ _
  have hm : ∃ m : Int, (nn : Int) % 4 = m ∧ 0 ≤ m ∧ m ≤ 3 := ⟨_, rfl, by omega, by omega⟩
  obtain ⟨m, hm, hm0, hm3⟩ := hm
  rw [hp] at HHV HCK HDP HMT HT ⊢
  clear ht hS hst hn0 hz hp
  go_enter Tryd.func3, Tryd.ntmps3
  go_wp2_with (go_at_call 8; refine HHV.out.mono ?_)
  rintro e w1 ⟨⟨b1, rfl, hb1⟩, rfl⟩
  cases b1
  rotate_left
  · go_wp2_with fail
    refine (HSH.out _ HB0.out).mono ?_
    rintro e w2 ⟨rfl, hb2⟩
    have HB2 := Lib.hid hb2
    clear hb2
    go_wp2_with fail
    go_ret
    exact ⟨rfl, HB2.out⟩
  have hp100 : p ≤ 100 := by have := hb1 rfl; have := HP.out; omega
  clear hb1 HHV
  by_cases hs1 : s.size > 100
  · have e1 : decide ((s.size : Int) > 100) = true := by rw [decide_eq_true_eq]; omega
    go_wp2_with fail
    refine (HSH.out _ HB0.out).mono ?_
    rintro e w2 ⟨rfl, hb2⟩
    have HB2 := Lib.hid hb2
    clear hb2
    go_wp2_with fail
    go_ret
    exact ⟨rfl, HB2.out⟩
  have e1 : decide ((s.size : Int) > 100) = false := by rw [decide_eq_false_iff_not]; omega
  go_wp2_with fail
  refine (HSH.out _ HB0.out).mono ?_
  rintro e w2 ⟨rfl, hb2⟩
  have HB2 := Lib.hid hb2
  clear hb2
  go_wp2_with fail
  refine (HNM.out _).mono ?_
  rintro e w3 ⟨rfl, rfl⟩
  cases hnb : nameB s
  · go_wp2_with fail
    refine (HSH.out _ HB2.out).mono ?_
    rintro e w3 ⟨rfl, hb3⟩
    have HB3 := Lib.hid (HB2.out.trans (hb3.mono HB2.out.size))
    clear hb3
    go_wp2_with fail
    go_ret
    exact ⟨rfl, HB3.out⟩
  have HNB := Lib.hid hnb
  clear hnb HNM
  go_wp2_with fail
  refine (HCK.out _ HB2.out).mono ?_
  rintro e w3 ⟨rfl, hb3⟩
  have HB3 := Lib.hid (HB2.out.trans (hb3.mono HB2.out.size))
  clear hb3
  by_cases hc : chk t = 0
  rotate_left
  · have hcb : (chk t != 0) = true := by simpa using hc
    go_wp2_with fail
    refine (HSH.out _ HB3.out).mono ?_
    rintro e w4 ⟨rfl, hb4⟩
    have HB4 := Lib.hid (HB3.out.trans (hb4.mono HB3.out.size))
    clear hb4
    go_wp2_with fail
    go_ret
    exact ⟨rfl, HB4.out⟩
  rw [hc]
  obtain ⟨_, T, hT, _⟩ := chk_ok hc
  obtain ⟨hwf, hfl⟩ := whole_some hT
  have HC := Lib.hid hc
  have HD := Lib.hid (HDP.out T hwf hfl (by have := HP.out; omega))
  have HWF := Lib.hid hwf
  have HFL := Lib.hid hfl
  obtain ⟨dp, hdp⟩ : ∃ d, T.dep = d := ⟨_, rfl⟩
  have HDD := Lib.hid hdp
  rw [hdp] at HD
  have hd9 : dp ≤ 100 := by have := dep_le_flat T; rw [hfl] at this; have := HP.out; omega
  clear hT hwf hfl hc HDP HCK hdp
  go_wp2_with fail
  refine (HD.out _ HB3.out).mono ?_
  rintro e w4 ⟨rfl, hb4⟩
  have HB4 := Lib.hid (HB3.out.trans (hb4.mono HB3.out.size))
  clear hb4 HD
  by_cases hd : (dp : Int) > 50
  · have e2 : decide ((dp : Int) > 50) = true := by rw [decide_eq_true_eq]; omega
    go_wp2_with fail
    refine (HSH.out _ HB4.out).mono ?_
    rintro e w5 ⟨rfl, hb5⟩
    have HB5 := Lib.hid (HB4.out.trans (hb5.mono HB4.out.size))
    clear hb5
    go_wp2_with fail
    go_ret
    exact ⟨rfl, HB5.out⟩
  have e2 : decide ((dp : Int) > 50) = false := by rw [decide_eq_false_iff_not]; omega
  clear HSH HB0 HB2 HB3

  obtain ⟨B, hB⟩ : ∃ B, w4.heap.size = B := ⟨_, rfl⟩
  obtain ⟨W2, hW2⟩ : ∃ x, (w4.alloc (.cells #[.int .i64 25, .int .i64 0, .int .i64 0, .string s] 30)).alloc (.cells #[] 30) = x := ⟨_, rfl⟩
  have b0 : Blk W2 B 30 #[.int .i64 25, .int .i64 0, .int .i64 0, .string s] := by rw [← hW2, ← hB]; exact (Blk.new _ _ _).alloc _
  have hbW2 : Below w4.heap.size w4 W2 := by rw [← hW2]; exact ((Below.refl _ _).alloc (Nat.le_refl _) _).alloc (by simp) _
  have hs2 : W2.heap.size = B + 2 := by rw [← hW2, ← hB]; simp
  have hf0 : W2.ownsRow (B + 1) 30 4 (.slice (some ⟨B + 1, 0, none⟩) 0 0) 0 [] := by
    rw [← hW2, ← hB]
    have := World.ownsRow_lit (base := w4.heap.size + 1) (size := 4) (e := 30) (w4.alloc (.cells #[.int .i64 25, .int .i64 0, .int .i64 0, .string s] 30)) #[] 0 (by simp) (by unfold maxLen; omega) rfl
    rw [World.size_alloc] at this
    exact this
  have hown : ReadN W2 (.slice (some ⟨B, 0, none⟩) 1 1) (ownD s) := RowAt.of_blk (size := 4) (n := 1) b0 rfl (by unfold maxLen; omega)
  have HB5 : Hid (Below W.heap.size W W2) := Lib.hid (HB4.out.trans (hbW2.mono HB4.out.size))
  have HOWN := Lib.hid hown
  have HF0 := Lib.hid hf0
  have HS2 := Lib.hid hs2
  have HBW : Hid (W.heap.size ≤ B) := Lib.hid (by rw [← hB]; exact HB4.out.size)
  have HLT : Hid (B < W2.heap.size) := Lib.hid (by omega)
  have HONEt : Hid (∀ u, u ∈ t.flatMap nodeV → u.oneCell' = true) := nodes_one _
  have HONEo : Hid (∀ u, u ∈ (ownD s).flatMap nodeV → u.oneCell' = true) := nodes_one _
  have HONEp : Hid (∀ u, u ∈ [piNd m].flatMap nodeV → u.oneCell' = true) := nodes_one _
  have HT5 : Hid (ReadN W2 (.slice at_ p ct) t) := HT.out.below HB5.out
  clear b0 hbW2 hs2 hf0 hown
  have HOWK : Hid (∀ x, Below (B + 1) W2 x → ReadN x (.slice (some ⟨B, 0, none⟩) 1 1) (ownD s)) := Lib.hid (fun x hb => RowAt.kept HOWN.out (K := fun b => b < B + 1) ⟨hb.size, fun b _ h => hb.block b h⟩ (fun g hg => by simp [Value.ownBlock] at hg; omega))
  have HTK : Hid (∀ x, Below (B + 1) W2 x → RowAt x 4 (.slice at_ p ct) p (t.flatMap nodeV)) := Lib.hid (fun x hb => by
    have h := HT.out.below (HB5.out.trans (hb.mono (by have := HBW.out; omega)))
    unfold ReadN at h
    rw [HP.out] at h
    exact h)
  have HLT1 : Hid (B + 1 + 1 = W2.heap.size) := Lib.hid (by have := HS2.out; omega)
  go_wp2_with (first
    | (at_builtin; refine wpList_append_row rfl (.tmp 41) (.tmp 42) 22 rfl (B + 1) 30 i0 (.agg #[.int .i64 0, .int .i64 0, .int .i64 0, .string ByteArray.empty]) 4 40 Tryd.underlying22 hi hz0 hz1 hz2 rfl (by decide) (.slice (some ⟨B + 1, 0, none⟩) 0 0) 0 [] rfl HF0.out (.slice at_ p ct) p (t.flatMap nodeV) rfl (HTK.out _ (Below.refl _ _)) HONEt.out (by omega) (by unfold maxLen; omega) (by have := HLT1.out; omega) ?_; intro v6 w6 hown6 hg6 hat6; (have hb6 : Below (B + 1) W2 w6 := (Below.refl (B + 1) W2).grown hg6 (by have := HLT1.out; omega) (fun g hg => (HF0.out.lt g hg).1)); (have ho6 : w6.ownsRow (B + 1) 30 4 v6 (p) (t.flatMap nodeV) := by simpa [Nat.add_assoc] using hown6); obtain ⟨a6, c6, rfl, _⟩ := (RowAt.of_own ho6).form; have HO6 := Lib.hid ho6; have HBB6 := Lib.hid hb6; clear hown6 hg6 hat6 ho6 hb6)
    | (at_builtin; refine wpList_append_row rfl (.tmp 44) (.tmp 45) 22 rfl (B + 1) 30 i0 (.agg #[.int .i64 0, .int .i64 0, .int .i64 0, .string ByteArray.empty]) 4 40 Tryd.underlying22 hi hz0 hz1 hz2 rfl (by decide) (.slice a6 p c6) p (t.flatMap nodeV) rfl HO6.out (.slice (some ⟨B, 0, none⟩) 1 1) 1 ((ownD s).flatMap nodeV) rfl (HOWK.out _ HBB6.out) HONEo.out (by omega) (by unfold maxLen; omega) (by have := HBB6.out.size; have := HLT1.out; omega) ?_; intro v7 w7 hown7 hg7 hat7; (have hb7 : Below (B + 1) W2 w7 := HBB6.out.grown hg7 (by have := HBB6.out.size; have := HLT1.out; omega) (fun g hg => (HO6.out.lt g hg).1)); (have ho7 : w7.ownsRow (B + 1) 30 4 v7 (p + 1) (t.flatMap nodeV ++ (ownD s).flatMap nodeV) := by simpa [Nat.add_assoc] using hown7); obtain ⟨a7, c7, rfl, _⟩ := (RowAt.of_own ho7).form; have HO7 := Lib.hid ho7; have HBB7 := Lib.hid hb7; clear hown7 hg7 hat7 ho7 hb7)
    | (at_builtin; refine wpList_append_row rfl (.tmp 47) (.tmp 52) 22 rfl (B + 1) 30 i0 (.agg #[.int .i64 0, .int .i64 0, .int .i64 0, .string ByteArray.empty]) 4 40 Tryd.underlying22 hi hz0 hz1 hz2 rfl (by decide) (.slice a7 (p + 1) c7) (p + 1) (t.flatMap nodeV ++ (ownD s).flatMap nodeV) rfl (HO7.out.alloc _) (.slice (some ⟨w7.heap.size, 0, none⟩) 1 1) 1 ([piNd m].flatMap nodeV) rfl (RowAt.lit w7 _ #[.int .i64 3, .int .i64 m, .int .i64 0, .string ByteArray.empty] 1 rfl (by unfold maxLen; omega)) HONEp.out (by omega) (by unfold maxLen; omega) (by have := HBB7.out.size; have := HLT1.out; simp; omega) ?_; intro v8 w8 hown8 hg8 hat8; (have hb8 : Below (B + 1) W2 w8 := (HBB7.out.alloc (by have := HBB7.out.size; have := HLT1.out; omega) _).grown hg8 (by have := HBB7.out.size; have := HLT1.out; simp; omega) (fun g hg => (HO7.out.lt g hg).1)); (have ho8 : w8.ownsRow (B + 1) 30 4 v8 (p + (1 + 1)) (t.flatMap nodeV ++ ((ownD s).flatMap nodeV ++ [piNd m].flatMap nodeV)) := by simpa [Nat.add_assoc] using hown8); obtain ⟨a8, c8, rfl, _⟩ := (RowAt.of_own ho8).form; have HO8 := Lib.hid ho8; have HBB8 := Lib.hid hb8; clear hown8 hg8 hat8 ho8 hb8)
    | (at_builtin; refine wpList_append_row rfl (.tmp 55) (.tmp 56) 22 rfl w8.heap.size 30 i0 (.agg #[.int .i64 0, .int .i64 0, .int .i64 0, .string ByteArray.empty]) 4 40 Tryd.underlying22 hi hz0 hz1 hz2 rfl (by decide) (.slice (some ⟨w8.heap.size, 0, none⟩) 0 0) 0 [] rfl (World.ownsRow_lit (base := w8.heap.size) (size := 4) (e := 30) w8 #[] 0 (Nat.le_refl _) (by unfold maxLen; omega) rfl) (.slice (some ⟨B, 0, none⟩) 1 1) 1 ((ownD s).flatMap nodeV) rfl (RowAt.alloc (HOWK.out _ HBB8.out) _) HONEo.out (by omega) (by unfold maxLen; omega) (by simp) ?_; intro v9 w9 hown9 hg9 hat9; (have hb9 : Below w8.heap.size w8 w9 := ((Below.refl w8.heap.size w8).alloc (Nat.le_refl _) _).grown hg9 (by simp) (fun g hg => by simp [Value.ownBlock] at hg; omega)); (have ho9 : w9.ownsRow w8.heap.size 30 4 v9 (1) ((ownD s).flatMap nodeV) := by simpa [Nat.add_assoc] using hown9); obtain ⟨a9, c9, rfl, _⟩ := (RowAt.of_own ho9).form; have HO9 := Lib.hid ho9; have HBB9 := Lib.hid hb9; clear hown9 hg9 hat9 ho9 hb9)
    | (at_builtin; refine wpList_append_row rfl (.tmp 58) (.tmp 59) 22 rfl w8.heap.size 30 i0 (.agg #[.int .i64 0, .int .i64 0, .int .i64 0, .string ByteArray.empty]) 4 40 Tryd.underlying22 hi hz0 hz1 hz2 rfl (by decide) (.slice a9 1 c9) 1 ((ownD s).flatMap nodeV) rfl HO9.out (.slice at_ p ct) p (t.flatMap nodeV) rfl (HTK.out _ (HBB8.out.trans (HBB9.out.mono (by have := HBB8.out.size; have := HLT1.out; omega)))) HONEt.out (by omega) (by unfold maxLen; omega) HBB9.out.size ?_; intro v10 w10 hown10 hg10 hat10; (have hb10 : Below w8.heap.size w8 w10 := HBB9.out.grown hg10 HBB9.out.size (fun g hg => (HO9.out.lt g hg).1)); (have ho10 : w10.ownsRow w8.heap.size 30 4 v10 (1 + p) ((ownD s).flatMap nodeV ++ t.flatMap nodeV) := by simpa [Nat.add_assoc] using hown10); obtain ⟨a10, c10, rfl, _⟩ := (RowAt.of_own ho10).form; have HO10 := Lib.hid ho10; have HBB10 := Lib.hid hb10; clear hown10 hg10 hat10 ho10 hb10)
    | (at_builtin; refine wpList_append_row rfl (.tmp 61) (.tmp 66) 22 rfl w8.heap.size 30 i0 (.agg #[.int .i64 0, .int .i64 0, .int .i64 0, .string ByteArray.empty]) 4 40 Tryd.underlying22 hi hz0 hz1 hz2 rfl (by decide) (.slice a10 (1 + p) c10) (1 + p) ((ownD s).flatMap nodeV ++ t.flatMap nodeV) rfl (HO10.out.alloc _) (.slice (some ⟨w10.heap.size, 0, none⟩) 1 1) 1 ([piNd m].flatMap nodeV) rfl (RowAt.lit w10 _ #[.int .i64 3, .int .i64 m, .int .i64 0, .string ByteArray.empty] 1 rfl (by unfold maxLen; omega)) HONEp.out (by omega) (by unfold maxLen; omega) (by have := HBB10.out.size; simp; omega) ?_; intro v11 w11 hown11 hg11 hat11; (have hb11 : Below w8.heap.size w8 w11 := (HBB10.out.alloc HBB10.out.size _).grown hg11 (by have := HBB10.out.size; simp; omega) (fun g hg => (HO10.out.lt g hg).1)); (have ho11 : w11.ownsRow w8.heap.size 30 4 v11 (1 + (p + 1)) ((ownD s).flatMap nodeV ++ (t.flatMap nodeV ++ [piNd m].flatMap nodeV)) := by simpa [Nat.add_assoc] using hown11); obtain ⟨a11, c11, rfl, _⟩ := (RowAt.of_own ho11).form; have HO11 := Lib.hid ho11; have HBB11 := Lib.hid hb11; clear hown11 hg11 hat11 ho11 hb11))
  have hbA : Below (B + 1) W2 w11 := HBB8.out.trans (HBB11.out.mono (by have := HBB8.out.size; have := HLT1.out; omega))
  have hbX : Below W.heap.size W w11 := HB5.out.trans (hbA.mono (by have := HBW.out; omega))
  have hflt := HFL.out
  have rf : ReadN w11 (.slice a8 (p + 2) c8) (t ++ (ownD s ++ [piNd m])) := by
    have h := ReadN.own (l := t ++ (ownD s ++ [piNd m])) (base := B + 1) (n := p + 2) (v := .slice a8 (p + 2) c8) (w := w8) (by rw [List.flatMap_append, List.flatMap_append]; exact HO8.out) (by have := HP.out; simp [ownD]; omega)
    exact h.below HBB11.out
  have rg : ReadN w11 (.slice a11 (1 + (p + 1)) c11) (ownD s ++ (t ++ [piNd m])) :=
    ReadN.own (l := ownD s ++ (t ++ [piNd m])) (base := w8.heap.size) (n := 1 + (p + 1)) (by rw [List.flatMap_append, List.flatMap_append]; exact HO11.out) (by have := HP.out; simp [ownD]; omega)
  have ro := HOWK.out _ hbA
  have rt : ReadN w11 (.slice at_ p ct) t := HT.out.below hbX
  have so : SmallN (ownD s) := by
    intro n hn
    have : n = ⟨25, 0, 0, s⟩ := by simpa [ownD] using hn
    rw [this]
    exact HZ.out
  have sp : SmallN [piNd m] := by
    intro n hn
    have : n = piNd m := by simpa using hn
    rw [this]
    exact of_decide_eq_true (by kernel_rfl)
  have sf : SmallN (t ++ (ownD s ++ [piNd m])) := by
    intro n hn
    rcases List.mem_append.1 hn with h | h
    · exact HST.out n h
    · rcases List.mem_append.1 h with h | h
      · exact so n h
      · exact sp n h
  have sg : SmallN (ownD s ++ (t ++ [piNd m])) := by
    intro n hn
    rcases List.mem_append.1 hn with h | h
    · exact so n h
    · rcases List.mem_append.1 h with h | h
      · exact HST.out n h
      · exact sp n h
  have hlen : T.flat.length ≤ 3998 := by rw [hflt, HP.out]; omega
  have hdd : T.dep ≤ 59 := by have := HDD.out; omega
  have e0 : posE s (ownD s) = 0 := pos_own (chk_own HNB.out)
  have ef := pos_to HNB.out hm0 hm3 HWF.out hlen hdd
  have eg := pos_from HNB.out hm0 hm3 HWF.out hlen hdd
  rw [hflt] at ef eg
  have et : mentB t s = false → posE s t = 0 := fun h => by rw [pos_not h]; exact HC.out
  have C0 := Lib.hid (HPS.out _ hbX _ _ ro so)
  have CF : Hid (∀ w', Below w11.heap.size w11 w' → Calls Tryd.prog 13 #[.string s, .slice a8 (p + 2) c8] w' (RetB (.int .i64 (if mentB t s then 170 else 0)) w')) := Lib.hid (fun w' hb => by
    have := HPS.out w' (hbX.trans (hb.mono hbX.size)) _ _ (rf.below hb) sf
    rw [ef] at this
    exact this)
  have CG : Hid (∀ w', Below w11.heap.size w11 w' → Calls Tryd.prog 13 #[.string s, .slice a11 (1 + (p + 1)) c11] w' (RetB (.int .i64 170) w')) := Lib.hid (fun w' hb => by
    have := HPS.out w' (hbX.trans (hb.mono hbX.size)) _ _ (rg.below hb) sg
    rw [eg] at this
    exact this)
  have CT : Hid (mentB t s = false → ∀ w', Below w11.heap.size w11 w' → Calls Tryd.prog 13 #[.string s, .slice at_ p ct] w' (RetB (.int .i64 0) w')) := Lib.hid (fun h w' hb => by
    have := HPS.out w' (hbX.trans (hb.mono hbX.size)) _ _ (rt.below hb) HST.out
    rw [et h] at this
    exact this)
  rw [e0] at C0
  have HX := Lib.hid hbX
  obtain ⟨mt, hmt⟩ : ∃ x, mentB t s = x := ⟨_, rfl⟩
  rw [hmt] at HMT CF CT
  clear hbA hbX hflt rf rg ro rt so sp sf sg hlen hdd e0 ef eg et hmt HPS HO6 HO7 HO8 HO9 HO10 HO11 HOWK HTK HF0 HOWN HT5
  refine C0.out.mono ?_
  rintro e x1 ⟨rfl, hc1⟩
  have X1 := Lib.hid hc1
  clear hc1
  go_wp2_with fail
  refine (HMT.out _ (HX.out.trans (X1.out.mono HX.out.size))).mono ?_
  rintro e x2 ⟨rfl, hc2⟩
  have X2 := Lib.hid (X1.out.trans (hc2.mono X1.out.size))
  clear hc2
  cases mt
  · go_wp2_with fail
    refine (CT.out (by first | exact rfl | trivial) _ X2.out).mono ?_
    rintro e x3 ⟨rfl, hc3⟩
    have X3 := Lib.hid (X2.out.trans (hc3.mono X2.out.size))
    clear hc3
    go_wp2_with fail
    refine (CF.out _ X3.out).mono ?_
    rintro e x4 ⟨rfl, hc4⟩
    have X4 := Lib.hid (X3.out.trans (hc4.mono X3.out.size))
    clear hc4
    go_wp2_with fail
    refine (CG.out _ X4.out).mono ?_
    rintro e x5 ⟨rfl, hc5⟩
    have X5 := Lib.hid (X4.out.trans (hc5.mono X4.out.size))
    clear hc5
    go_wp2_with fail
    go_ret
    exact ⟨rfl, HX.out.trans (X5.out.mono HX.out.size)⟩
  · go_wp2_with fail
    refine (CF.out _ X2.out).mono ?_
    rintro e x4 ⟨rfl, hc4⟩
    have X4 := Lib.hid (X2.out.trans (hc4.mono X2.out.size))
    clear hc4
    go_wp2_with fail
    refine (CG.out _ X4.out).mono ?_
    rintro e x5 ⟨rfl, hc5⟩
    have X5 := Lib.hid (X4.out.trans (hc5.mono X4.out.size))
    clear hc5
    go_wp2_with fail
    go_ret
    exact ⟨rfl, HX.out.trans (X5.out.mono HX.out.size)⟩

end Go.Proofs.YteldkcpkamgfpaaDoor
