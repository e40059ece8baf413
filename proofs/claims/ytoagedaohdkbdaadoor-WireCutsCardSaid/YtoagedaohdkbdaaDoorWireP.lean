/- The walks of WireCuts, WirePacks, WireParts: each comes to true for every input. -/
import Derived.Test.YtoagedaohdkbdaaDoorWireY
namespace Go.Proofs.YtoagedaohdkbdaaDoor
set_option linter.unusedSimpArgs false
set_option linter.unusedVariables false
open Go.RowKit

theorem rem_lt {c : Int} (h0 : 0 ≤ c) {n : Nat} (hn : 0 < n) : ∃ m : Nat, m < n ∧ c % (n : Int) = (m : Int) := by
  obtain ⟨k, rfl⟩ := Int.eq_ofNat_of_zero_le h0
  exact ⟨k % n, Nat.mod_lt _ hn, by omega⟩
theorem head_run {s : ByteArray} {m : Nat} (h : m ≤ s.size) (w : World) : (Instr.slice 9 (.string s) none (some (.int .i64 (m : Int))) none).run Tryd.prog w = .ok (.string (s.extract 0 m)) w := by
  have := run_slice_string_to_if (P := Tryd.prog) w 9 s .i64 (m : Int) Tryd.underlying9
  rw [this, if_pos (by omega), Int.toNat_natCast]
theorem head_list {s : ByteArray} {m : Nat} : (s.extract 0 m).data.toList = s.data.toList.take m := by rw [Lib.extract_data]; simp
theorem empty_facts {s : ByteArray} (h : s.size = 0) : s = ⟨#[]⟩ := text_eq (l := []) (List.eq_nil_of_length_eq_zero (by rw [← size_list]; exact h))
theorem full_facts {s : ByteArray} (h : s.size ≠ 0) : s.toList.isEmpty = false ∧ (s.toList == []) = false ∧ s.data.toList ≠ [] := by
  have e1 : s.toList.isEmpty = false := by rw [size0]; simpa using h
  refine ⟨e1, ?_, fun h2 => h (by rw [size_list, h2]; rfl)⟩
  cases h2 : s.toList with
  | nil => rw [h2] at e1; cases e1
  | cons a r => rfl

set_option maxRecDepth 20000 in
set_option maxHeartbeats 4000000 in
theorem cuts_walk (W : World) (t : List Nd) (vt : Value) (ht : ReadN W vt t) (hst : SmallN t) (cut : Int) (hcut : (Lit.int .u16 cut).wf = true) (more : ByteArray) (hmo : more.size ≤ maxLen) (hS : ShapesAt W) (hF : FieldsAt W) :
    Calls Tryd.prog 6 #[vt, .int .u16 cut, .string more] W fun e W' => e = .returned (.bool true) ∧ Below W.heap.size W W' := by
  obtain ⟨at_, ct, rfl⟩ := ReadN.len_slice ht
  have hc0 : 0 ≤ cut ∧ cut ≤ 65535 := by
    have h0 : IntKind.u16.min ≤ cut ∧ cut ≤ IntKind.u16.max := by simpa [Lit.wf] using hcut
    exact h0
  obtain ⟨hc1, hc2⟩ := hc0
  have HSW : Hid (∀ x, Below W.heap.size W x → ShapesAt x) := fun x hb => hS.below hb
  have HFW : Hid (∀ x, Below W.heap.size W x → FieldsAt x) := fun x hb => hF.below hb
  have HTW : Hid (∀ x, Below W.heap.size W x → ReadN x (.slice at_ t.length ct) t) := fun x hb => ht.below hb
  have HST := Lib.hid hst
  have HSH : Hid (∀ x, Below W.heap.size W x → Calls Tryd.prog 10 #[] x fun e x' => e = .returned (.bool true) ∧ Below x.heap.size x x') := fun x hb => shown5_any x (HSW.out _ hb) (HFW.out _ hb)
  have HET : Hid (∀ x, Below W.heap.size W x → Calls Tryd.prog 11 #[.slice at_ t.length ct] x (EncP t x)) := fun x hb => encode_any t _ x (HSW.out _ hb) (HFW.out _ hb) (HTW.out _ hb) HST.out
  have HCK : Hid (∀ x, Below W.heap.size W x → Calls Tryd.prog 12 #[.slice at_ t.length ct] x fun e x' => e = .returned (.int .i64 (chk t)) ∧ Below x.heap.size x x') := fun x hb => refcheck2_any t _ x (HTW.out _ hb) HST.out
  have HB0 : Hid (Below W.heap.size W W) := Below.refl _ _
  have HVT := Lib.hid (heavy5_any t _ W ht hst)
  have hmo9 : more.size ≤ 9223372036854775807 := by unfold maxLen at hmo; omega
  obtain ⟨c, hc⟩ : ∃ c, chk t = c := ⟨_, rfl⟩
  have HC := Lib.hid hc
  rw [hc] at HCK
  clear ht hS hst hF hc hcut hmo
  go_enter Tryd.func6, Tryd.ntmps6
  go_wp2_with fail
  refine HVT.out.mono ?_
  rintro e w1 ⟨b1, rfl, hn1, hww⟩
  subst w1
  cases b1
  rotate_left
  · go_wp2_with fail
    refine (HSH.out _ HB0.out).mono ?_
    rintro e w2 ⟨rfl, hb2⟩
    go_wp2_with fail
    go_ret
    exact ⟨rfl, hb2⟩
  have hl5 := hn1 rfl
  clear hn1
  by_cases hm100 : more.size > 100
  · have d1 : decide ((more.size : Int) > 100) = true := by simp; omega
    clear hm100
    go_wp2_with fail
    refine (HSH.out _ HB0.out).mono ?_
    rintro e w2 ⟨rfl, hb2⟩
    go_wp2_with fail
    go_ret
    exact ⟨rfl, hb2⟩
  have d1 : decide ((more.size : Int) > 100) = false := by simp; omega
  have hml : more.size ≤ 100 := by omega
  clear hm100
  go_wp2_with fail
  refine (HSH.out _ HB0.out).mono ?_
  rintro e w2 ⟨rfl, hb2⟩
  have HB2 := chain5 HB0 hb2
  clear hb2
  go_wp2_with fail
  refine (HET.out _ HB2.out).mono ?_
  rintro e w3 ⟨s, rfl, hs, hb3⟩
  rw [HC.out]
  have HS3 := Lib.hid hs
  have HB3 := chain5 HB2 hb3
  clear hs hb3
  go_wp2_with fail
  refine (HCK.out _ HB3.out).mono ?_
  rintro e w4 ⟨rfl, hb4⟩
  have HB4 := chain5 HB3 hb4
  clear hb4
  by_cases h0 : c = 0
  rotate_left
  · have hcb : (c != 0) = true := by simpa using h0
    have hse : s.data.toList = [] := by rw [HS3.out]; unfold codE; rw [if_neg (by rw [HC.out]; exact h0)]
    obtain rfl : s = ⟨#[]⟩ := text_eq hse
    clear hse h0
    go_wp2_with fail
    go_ret
    exact ⟨rfl, HB4.out⟩
  subst h0
  have HS4 : Hid (s.data.toList = codB t) := by show _ = _; rw [HS3.out]; unfold codE; rw [if_pos HC.out]
  have hsz : s.size ≤ 150002 := by
    have h := codB_size (chk_right HC.out) HC.out hl5
    rw [size_list, HS4.out]
    exact h
  have hs3 : 3 ≤ s.size := by
    rw [size_list, HS4.out]
    obtain ⟨_, T, hw, _⟩ := chk_ok HC.out
    obtain ⟨_, hfl⟩ := whole_some hw
    have hp : 0 < t.length := by rw [← hfl]; exact flat_pos T
    have hcl : (codB t).length = 2 + longs t := codB_long HC.out
    rw [hcl]
    match t, hp with
    | n :: r, _ =>
      unfold longs
      rw [List.map_cons, List.sum_cons]
      omega
  have d3 : decide ((s.size : Int) < 3) = false := by simp; omega
  obtain ⟨m, hm1, hm2⟩ := rem_lt hc1 (show 0 < s.size by omega)
  have hrun := head_run (s := s) (m := m) (by omega)
  obtain ⟨p, hp⟩ : ∃ p, s.extract 0 m = p := ⟨_, rfl⟩
  rw [hp] at hrun
  have hpl : p.data.toList = s.data.toList.take m := by rw [← hp]; exact head_list
  have hps : p.size ≤ 150002 := by rw [size_list, hpl, List.length_take, ← size_list]; omega
  have HDP : Hid (decB p.data.toList = none) := by
    refine dec_cut HC.out (p := p.data.toList) (q := s.data.toList.drop m) ?_ ?_
    · rw [hpl, List.take_append_drop, HS4.out]
    · intro h
      have := List.drop_eq_nil_iff.1 h
      rw [← size_list] at this
      omega
  obtain ⟨sm, hsm⟩ : ∃ q, s ++ more = q := ⟨_, rfl⟩
  have had : ∀ w, (Op.stringOp .add s more).run Tryd.prog w = .ok (.string sm) w := fun w => by rw [← hsm]; exact add_run (by omega) w
  have hsml : sm.data.toList = codB t ++ more.data.toList := by rw [← hsm]; exact text_add HS4.out rfl
  have hsms : sm.size ≤ 150102 := by rw [← hsm, ByteArray.size_append]; omega
  have HDA : Hid (∀ x, Below W.heap.size W x → Calls Tryd.prog 14 #[.string p] x (DecW p.data.toList x)) := fun x hb => (decode_any p x (HSW.out _ hb) (HFW.out _ hb) (by unfold maxLen; omega)).mono fun e x' h => h.to
  have HDB : Hid (∀ x, Below W.heap.size W x → Calls Tryd.prog 14 #[.string sm] x (DecW sm.data.toList x)) := fun x hb => (decode_any sm x (HSW.out _ hb) (HFW.out _ hb) (by unfold maxLen; omega)).mono fun e x' h => h.to
  have HSML := Lib.hid hsml
  clear hp hpl hsm hsml
  have hmI : (cut % (s.size : Int)) = (m : Int) := hm2
  clear hm2
  go_wp2_with fail
  refine (HDA.out _ HB4.out).mono ?_
  rintro e w5 ⟨v5, rfl, hr5, hb5⟩
  rw [(decE_none HDP.out).1]
  have HB5 := chain5 HB4 hb5
  clear hr5 hb5
  go_wp2_with fail
  refine (HDB.out _ HB5.out).mono ?_
  rintro e w6 ⟨v6, rfl, hr6, hb6⟩
  have HB6 := chain5 HB5 hb6
  clear hr6 hb6
  by_cases hme : more.size = 0
  · obtain rfl := empty_facts hme
    have hE : decE sm.data.toList = 0 := by
      have h := dec_enc HC.out
      have h2 : sm.data.toList = codB t := by rw [HSML.out]; exact List.append_nil _
      rw [← h2] at h
      exact (decE_some h).1
    rw [hE]
    clear hE hme
    go_wp2_with fail
    go_ret
    exact ⟨rfl, HB6.out⟩
  · obtain ⟨e1, e2, e3⟩ := full_facts hme
    have hE : decE sm.data.toList = 50 := by rw [HSML.out]; exact (decE_none (dec_more HC.out e3)).1
    rw [hE]
    clear hE hme e3
    go_wp2_with fail
    go_ret
    exact ⟨rfl, HB6.out⟩

end Go.Proofs.YtoagedaohdkbdaaDoor
