/- TermOnce's walk, and its plain law: no beginning and end of a term's nodes are both terms. -/
import Derived.Test.YtjhgpifccleknaaDoorMakes
import Derived.Test.YtjhgpifccleknaaDoorQuietB
namespace Go.Proofs.YtjhgpifccleknaaDoor
set_option linter.unusedSimpArgs false
set_option linter.unusedVariables false
open Go.RowKit Go.BigFrame

theorem flatten_flat (cs : List Tm) : (cs.map Tm.flat).flatten = flatL cs := by
  induction cs with
  | nil => rw [flatL_nil]; rfl
  | cons t r ih => rw [flatL_cons, ← ih]; rfl

/-- a term is what its root and its parts make -/
theorem make_back {l : List Nd} {nd : Nd} {cs : List Tm} (hc : chk l = 0) (hw : whole l = some (Tm.mk nd cs)) : (cs.map Tm.flat).flatten ++ [nd] = l ∧ makeE nd (cs.map Tm.flat) = 0 := by
  obtain ⟨hwf, hfl⟩ := whole_some hw
  obtain ⟨hr, ha, hk⟩ := wf_iff.1 hwf
  obtain ⟨hl, t, hw', hd⟩ := chk_ok hc
  have e : (cs.map Tm.flat).flatten ++ [nd] = l := by rw [flatten_flat, ← flat_mk, hfl]
  refine ⟨e, ?_⟩
  rw [hw] at hw'
  have ht : Tm.mk nd cs = t := Option.some.inj hw'
  have h0 : fstE ((cs.map Tm.flat).map chk) = 0 := by
    rw [fstE_zero]
    intro x hx
    obtain ⟨y, hy, rfl⟩ := List.mem_map.1 hx
    obtain ⟨c, hcm, rfl⟩ := List.mem_map.1 hy
    rw [chk_flat (hk c hcm)]
    have h1 : c.dep ≤ depL cs := dep_le_depL hcm
    have h2 : (Tm.mk nd cs).dep = depL cs + 1 := dep_mk nd cs
    rw [ht] at h2
    obtain ⟨i, hi, rfl⟩ := List.mem_iff_getElem.1 hcm
    have h3 := part_len (nd := nd) hi
    rw [hfl] at h3
    rw [if_neg (by omega), if_neg (by omega)]
  rw [makeE_yes h0 hr (by simp [ha]), e, hc]

/-- a beginning and an end are not both terms -/
theorem not_both {l : List Nd} (h : chk l = 0) {k : Nat} (hk : 0 < k) (hk2 : k < l.length) : ¬ (chk (l.take k) = 0 ∧ chk (l.drop k) = 0) := by
  rintro ⟨h1, h2⟩
  obtain ⟨_, t, hw, _⟩ := chk_ok h
  obtain ⟨_, a, ha, _⟩ := chk_ok h1
  obtain ⟨_, b, hb, _⟩ := chk_ok h2
  obtain ⟨hwf, hfl⟩ := whole_some hw
  obtain ⟨hwa, hfa⟩ := whole_some ha
  obtain ⟨hwb, hfb⟩ := whole_some hb
  have e : l = flatL [a, b] := by rw [flatL_cons, flatL_one, hfa, hfb, List.take_append_drop]
  have p1 := prun_flatL [a, b] (fun x hx => by simp at hx; rcases hx with rfl | rfl; exact hwa; exact hwb) []
  rw [← e, ← hfl, prun_flat t hwf] at p1
  have := congrArg List.length (Option.some.inj p1)
  simp at this

theorem slice_take {w : World} {b off cap : Nat} {l : List Nd} (h : ReadN w (.slice (some ⟨b, off, none⟩) l.length cap) l) {k : Nat} (hk : k ≤ l.length) : ReadN w (.slice (some ⟨b, off, none⟩) k cap) (l.take k) := by
  have hl : (l.take k).length = k := by simp; omega
  unfold ReadN
  rw [hl]
  obtain ⟨a, cap', he, h1, h2, h3⟩ := RowAt.form h
  obtain ⟨rfl, rfl⟩ : some ⟨b, off, none⟩ = a ∧ cap = cap' := by simpa using he
  refine ⟨by rw [nodes_length, hl], _, _, rfl, by omega, h2, fun hn => ?_⟩
  obtain ⟨b', off', he', hb, hc⟩ := h3 (by omega)
  refine ⟨b', off', he', hb, fun j u hu => hc j u ?_⟩
  have e : l.flatMap nodeV = (l.take k).flatMap nodeV ++ (l.drop k).flatMap nodeV := by rw [← List.flatMap_append, List.take_append_drop]
  rw [e, List.getElem?_append_left (List.getElem?_eq_some_iff.1 hu).1]
  exact hu
theorem slice_drop {w : World} {b off cap : Nat} {l : List Nd} (h : ReadN w (.slice (some ⟨b, off, none⟩) l.length cap) l) {k : Nat} (hk : k ≤ l.length) : ReadN w (.slice (some ⟨b, off + k * 4, none⟩) (l.length - k) (cap - k)) (l.drop k) := by
  have hl : (l.drop k).length = l.length - k := by simp
  unfold ReadN
  rw [hl]
  obtain ⟨a, cap', he, h1, h2, h3⟩ := RowAt.form h
  obtain ⟨rfl, rfl⟩ : some ⟨b, off, none⟩ = a ∧ cap = cap' := by simpa using he
  refine ⟨by rw [nodes_length, hl], _, _, rfl, by omega, by omega, fun hn => ?_⟩
  obtain ⟨b', off', he', hb, hc⟩ := h3 (by omega)
  simp at he'
  obtain ⟨rfl, rfl⟩ := he'
  refine ⟨b, _, rfl, hb, fun j u hu => ?_⟩
  rw [Nat.add_assoc]
  refine hc _ u ?_
  have e : l.flatMap nodeV = (l.take k).flatMap nodeV ++ (l.drop k).flatMap nodeV := by rw [← List.flatMap_append, List.take_append_drop]
  have ht : (l.take k).length = k := by simp; omega
  rw [e, List.getElem?_append_right (by rw [nodes_length, ht]; omega), nodes_length, ht, show k * 4 + j - k * 4 = j from by omega]
  exact hu

set_option maxRecDepth 20000 in
set_option maxHeartbeats 1000000 in
theorem once_walk (W : World) (t : List Nd) (vt : Value) (ht : ReadN W vt t) (hst : SmallN t) (cut : Int) (hcut : (Lit.int .u16 cut).wf = true) (hS : ShapesAt W) :
    Calls Tryd.prog 11 #[vt, .int .u16 cut] W fun e W' => e = .returned (.bool true) ∧ Below W.heap.size W W' := by
  obtain ⟨cu, rfl, hcu⟩ : ∃ cu : Nat, cut = cu ∧ cu < 65536 := by
    have h0 : IntKind.u16.min ≤ cut ∧ cut ≤ IntKind.u16.max := by simpa [Lit.wf] using hcut
    have h : 0 ≤ cut ∧ cut ≤ 65535 := h0
    obtain ⟨n, hn⟩ := Int.eq_ofNat_of_zero_le h.1
    exact ⟨n, hn, by omega⟩
  obtain ⟨at_, ct, rfl⟩ := ReadN.len_slice ht
  have HSW : Hid (∀ x, Below W.heap.size W x → ShapesAt x) := fun x hb => hS.below hb
  have HTW : Hid (∀ x, Below W.heap.size W x → ReadN x (.slice at_ t.length ct) t) := fun x hb => ht.below hb
  have HST := Lib.hid hst; clear hst
  have HSH : Hid (∀ w', Below W.heap.size W w' → Calls Tryd.prog 21 #[] w' fun e w9 => e = .returned (.bool true) ∧ Below w'.heap.size w' w9) := fun w' hb => shown2_any w' (HSW.out _ hb)
  have HB0 : Hid (Below W.heap.size W W) := Below.refl _ _
  have HVT := Lib.hid (heavy2_any t _ W ht)
  have hm9 : t.length ≤ 9223372036854775807 := by have := RowAt.small ht; unfold maxLen at this; omega
  clear ht hS hcut
  go_enter Tryd.func11, Tryd.ntmps11
  go_wp2_with fail
  refine HVT.out.mono ?_
  rintro e w1 ⟨⟨b1, rfl, hn1⟩, rfl⟩
  clear hn1
  cases b1
  rotate_left
  · go_wp2_with fail
    refine (HSH.out _ HB0.out).mono ?_
    rintro e w2 ⟨rfl, hb2⟩
    go_wp2_with fail
    go_ret
    exact ⟨rfl, hb2⟩
  go_wp2_with fail
  refine (HSH.out _ HB0.out).mono ?_
  rintro e w2 ⟨rfl, hb2⟩
  have HB2 := chain HB0 hb2
  clear hb2
  obtain ⟨c, hc⟩ : ∃ c, chk t = c := ⟨_, rfl⟩
  have HC := Lib.hid hc; clear hc
  go_wp2_with fail
  refine (tcheck_any t _ w2 (HSW.out _ HB2.out) (HTW.out _ HB2.out) HST.out).mono ?_
  rintro e w3 ⟨rfl, hb3⟩
  rw [HC.out]
  have HB3 := chain HB2 hb3
  clear hb3
  go_wp2_with fail
  refine (refcheck2_any t _ w3 (HTW.out _ HB3.out) HST.out).mono ?_
  rintro e w4 ⟨rfl, hb4⟩
  rw [HC.out]
  have HB4 := chain HB3 hb4
  clear hb4
  by_cases h0 : c = 0
  rotate_left
  · have hcb : (c != 0) = true := by simpa using h0
    go_wp2_with fail
    refine (HSH.out _ HB4.out).mono ?_
    rintro e w5 ⟨rfl, hb5⟩
    have HB5 := chain HB4 hb5
    go_wp2_with fail
    go_ret
    exact ⟨rfl, HB5.out⟩
  subst h0
  go_wp2_with fail
  refine (targs_any t _ w4 (HSW.out _ HB4.out) (HTW.out _ HB4.out) HST.out).mono ?_
  rintro e w5 ⟨l, rfl, hl, _, hb5⟩
  obtain ⟨nd, cs, hw, hnn⟩ := hl HC.out
  rw [HC.out]
  have HB5 := chain HB4 hb5
  obtain ⟨hback, hme⟩ := make_back HC.out hw
  have HHW := Lib.hid hw
  have HBK := Lib.hid hback
  have HME := Lib.hid hme
  obtain ⟨hwf, hfl⟩ := whole_some hw
  have hlast : t.getLast? = some nd := by rw [← hfl]; exact flat_last _
  have hnds : nd.S.size ≤ maxLen := HST.out nd (List.mem_of_getLast? hlast)
  have hsml : SmallNN (cs.map Tm.flat) := by
    intro x hx n hn
    refine HST.out n ?_
    rw [← hback]
    exact List.mem_append.2 (.inl (List.mem_flatten.2 ⟨x, hx, hn⟩))
  obtain ⟨L, hL⟩ : ∃ L, cs.map Tm.flat = L := ⟨_, rfl⟩
  rw [hL] at hnn hsml HBK HME
  obtain ⟨la, lc, hle⟩ : ∃ a c, l = .slice a L.length c := by
    obtain ⟨vs, _, hr, _⟩ := hnn
    obtain ⟨a, c, h, _⟩ := hr.form
    exact ⟨a, c, h⟩
  subst hle
  have HNN := Lib.hid hnn
  have HSL := Lib.hid hsml
  clear hnn hl hb5 hw hback hme hwf hfl hL hsml
  go_wp2_with fail
  refine (root_any t nd _ w5 (HTW.out _ HB5.out) hlast).mono ?_
  rintro e w6 ⟨rfl, hb6⟩
  have HB6 := chain HB5 hb6
  have HNN6 := Lib.hid (HNN.out.below hb6)
  clear hb6
  go_wp2_with fail
  refine (tmake_any nd L _ w6 (HSW.out _ HB6.out) hnds HNN6.out HSL.out).mono ?_
  rintro e w7 ⟨u, rfl, hu, hb7⟩
  rw [HME.out, if_pos rfl, HBK.out] at hu
  rw [HME.out]
  have HB7 := chain HB6 hb7
  obtain ⟨ua, uc, rfl⟩ := ReadN.len_slice hu
  have HSAME := Lib.hid (same_yes t _ _ w7 (HTW.out _ HB7.out) hu)
  clear hu hb7
  go_wp2_with fail
  refine HSAME.out.mono ?_
  rintro e w8 ⟨rfl, n8, rfl⟩
  have HB8 : Hid (Below W.heap.size W (w7.drewN n8)) := below_drewN HB7.out _
  obtain ⟨w8, hw8⟩ : ∃ w8, w7.drewN n8 = w8 := ⟨_, rfl⟩
  rw [hw8] at HB8 ⊢
  obtain ⟨_, ⟨he, _⟩ | ⟨b, off, cap, he, hcap1, hcap2, hblt, _⟩⟩ := ReadN.cases (HTW.out _ HB8.out)
  · rw [he] at hlast; cases hlast
  obtain ⟨rfl, rfl⟩ : at_ = some ⟨b, off, none⟩ ∧ ct = cap := by simpa using he
  have hcap3 : ct ≤ 9223372036854775807 := by unfold maxLen at hcap2; omega
  have hpos : 0 < t.length := List.length_pos_iff.2 (by rintro rfl; cases hlast)
  clear hw8 he hcap2 HSAME HNN6 HNN hlast
  obtain ⟨n, hn⟩ : ∃ n, t.length = n := ⟨_, rfl⟩
  have HN := Lib.hid hn
  rw [hn] at hpos hcap1 hm9 ⊢
  clear hn
  go_wp2_with fail
  have ek : ((cu : Int) % (n : Int)) = ((cu % n : Nat) : Int) := by simp
  rw [ek]
  obtain ⟨k, hk⟩ : ∃ k, cu % n = k := ⟨_, rfl⟩
  have hkn : k < n := by rw [← hk]; exact Nat.mod_lt _ hpos
  rw [hk]
  clear ek hk
  have hnb : Hid (0 < k → ¬ (chk (t.take k) = 0 ∧ chk (t.drop k) = 0)) := fun h => not_both HC.out h (by rw [HN.out]; exact hkn)
  have hsmT : Hid (SmallN (t.take k)) := fun x hx => HST.out x (List.mem_of_mem_take hx)
  have hsmD : Hid (SmallN (t.drop k)) := fun x hx => HST.out x (List.mem_of_mem_drop hx)
  have HRT : Hid (∀ x, Below W.heap.size W x → ReadN x (.slice (some ⟨b, off, none⟩) k ct) (t.take k)) := by
    show ∀ x, _
    intro x hb
    have h := HTW.out x hb
    exact slice_take h (by rw [HN.out]; omega)
  have HRD : Hid (∀ x, Below W.heap.size W x → ReadN x (.slice (some ⟨b, off + k * 4, none⟩) (n - k) (ct - k)) (t.drop k)) := by
    show ∀ x, _
    intro x hb
    have h := HTW.out x hb
    have := slice_drop h (k := k) (by rw [HN.out]; omega)
    rw [HN.out] at this
    exact this
  obtain ⟨ca, hca⟩ : ∃ c, chk (t.take k) = c := ⟨_, rfl⟩
  obtain ⟨cb, hcb⟩ : ∃ c, chk (t.drop k) = c := ⟨_, rfl⟩
  have H1 : Hid (∀ x, Below W.heap.size W x → Calls Tryd.prog 33 #[.slice (some ⟨b, off, none⟩) k ct] x fun e x' => e = .returned (.int .i64 ca) ∧ Below W.heap.size W x') := by
    show ∀ x, _
    intro x hb
    have h := tcheck_any _ _ x (HSW.out _ hb) (HRT.out _ hb) hsmT.out
    rw [hca] at h
    exact h.mono fun e x' ⟨he, hb'⟩ => ⟨he, hb.trans (hb'.mono hb.size)⟩
  have H2 : Hid (∀ x, Below W.heap.size W x → Calls Tryd.prog 32 #[.slice (some ⟨b, off, none⟩) k ct] x fun e x' => e = .returned (.int .i64 ca) ∧ Below W.heap.size W x') := by
    show ∀ x, _
    intro x hb
    have h := refcheck2_any _ _ x (HRT.out _ hb) hsmT.out
    rw [hca] at h
    exact h.mono fun e x' ⟨he, hb'⟩ => ⟨he, hb.trans (hb'.mono hb.size)⟩
  have H3 : Hid (∀ x, Below W.heap.size W x → Calls Tryd.prog 33 #[.slice (some ⟨b, off + k * 4, none⟩) (n - k) (ct - k)] x fun e x' => e = .returned (.int .i64 cb) ∧ Below W.heap.size W x') := by
    show ∀ x, _
    intro x hb
    have h := tcheck_any _ _ x (HSW.out _ hb) (HRD.out _ hb) hsmD.out
    rw [hcb] at h
    exact h.mono fun e x' ⟨he, hb'⟩ => ⟨he, hb.trans (hb'.mono hb.size)⟩
  have H4 : Hid (∀ x, Below W.heap.size W x → Calls Tryd.prog 32 #[.slice (some ⟨b, off + k * 4, none⟩) (n - k) (ct - k)] x fun e x' => e = .returned (.int .i64 cb) ∧ Below W.heap.size W x') := by
    show ∀ x, _
    intro x hb
    have h := refcheck2_any _ _ x (HRD.out _ hb) hsmD.out
    rw [hcb] at h
    exact h.mono fun e x' ⟨he, hb'⟩ => ⟨he, hb.trans (hb'.mono hb.size)⟩
  rw [hca, hcb] at hnb
  clear hca hcb HRT HRD hsmT hsmD HSW HTW
  have hkc : k ≤ ct := by omega
  have C0 : Hid (Below W.heap.size W w8.drew) := HB8.out.drew
  have hne : ∀ p : Prop, (∀ w, Bel W.heap.size W w → p) ↔ p := bel_const
  by_cases hk0 : k = 0
  · subst hk0
    clear hnb
    refine wp_region_below (B := W.heap.size) (W := W) (by kernel_rfl) (by kernel_rfl) C0.out ?_
    repeat (first
      | go_big_quiet_skip
      | (go_big_quiet_want; go_big_quiet_op; first | go_big_quiet_on | (apply Exists.intro; refine ⟨?_, ?_⟩; (intro x hx; first | (go_at_call 33; exact H1.out x hx) | (go_at_call 32; exact H2.out x hx)); go_big_quiet_on)))
    refine wpQuiet_nil ?_
    intro w9 hb9
    have C9 : Hid (Below W.heap.size W w9) := hb9
    clear hb9 hne
    go_wp2_with fail
    go_ret
    exact ⟨rfl, C9.out⟩
  · have dk : decide (0 < k) = true := by simp; omega
    have dk0 : ((k : Int) == 0) = false := by rw [beq_eq_false_iff_ne]; omega
    have hnb' := hnb.out (by omega)
    have hd : (ca == 0) = false ∨ ((ca == 0) = true ∧ (cb == 0) = false) := by
      by_cases h1 : ca = 0
      · exact .inr ⟨by simpa using h1, by rw [beq_eq_false_iff_ne]; exact fun h => hnb' ⟨h1, h⟩⟩
      · exact .inl (by rw [beq_eq_false_iff_ne]; exact h1)
    clear hnb hnb'
    refine wp_region_below (B := W.heap.size) (W := W) (by kernel_rfl) (by kernel_rfl) C0.out ?_
    repeat (first
      | go_big_quiet_skip
      | (go_big_quiet_want; go_big_quiet_op; first | go_big_quiet_on | (apply Exists.intro; refine ⟨?_, ?_⟩; (intro x hx; first | (go_at_call_of 33 (Value.slice (some ⟨b, off, none⟩) k ct); exact H1.out x hx) | (go_at_call_of 32 (Value.slice (some ⟨b, off, none⟩) k ct); exact H2.out x hx) | (go_at_call 33; exact H3.out x hx) | (go_at_call 32; exact H4.out x hx)); go_big_quiet_on)))
    refine wpQuiet_nil ?_
    intro w9 hb9
    have C9 : Hid (Below W.heap.size W w9) := hb9
    clear hb9 hne
    rcases hd with h1 | ⟨h1, h2⟩
    · go_wp2_with fail
      refine (H1.out _ C9.out).mono ?_
      rintro e w10 ⟨rfl, hb10⟩
      have C10 := Lib.hid hb10; clear hb10
      go_wp2_with fail
      go_ret
      exact ⟨rfl, C10.out⟩
    · go_wp2_with fail
      refine (H1.out _ C9.out).mono ?_
      rintro e w10 ⟨rfl, hb10⟩
      have C10 := Lib.hid hb10; clear hb10
      go_wp2_with fail
      refine (H3.out _ C10.out).mono ?_
      rintro e w11 ⟨rfl, hb11⟩
      have C11 := Lib.hid hb11; clear hb11
      go_wp2_with fail
      go_ret
      exact ⟨rfl, C11.out⟩

end Go.Proofs.YtjhgpifccleknaaDoor
