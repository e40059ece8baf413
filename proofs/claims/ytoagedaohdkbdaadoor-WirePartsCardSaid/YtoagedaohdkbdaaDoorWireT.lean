/- The walk of WireParts: it comes to true for every input. -/
import Derived.Test.YtoagedaohdkbdaaDoorWireQ
namespace Go.Proofs.YtoagedaohdkbdaaDoor
set_option linter.unusedSimpArgs false
set_option linter.unusedVariables false
open Go.RowKit

theorem two_read (w : World) (s : ByteArray) : ReadS (w.alloc (.cells #[.string s, .string s] 9)) (.slice (some ⟨w.heap.size, 0, none⟩) 2 2) [s, s] :=
  RowAt.lit (size := 1) w 9 #[.string s, .string s] 2 rfl (by unfold maxLen; omega)

set_option maxRecDepth 20000 in
set_option maxHeartbeats 4000000 in
theorem parts_walk (W : World) (l : List ByteArray) (vl : Value) (hl : ReadS W vl l) (hsl : SmallS l) (more : ByteArray) (hmo : more.size ≤ maxLen) (cut : Int) (hcut : (Lit.int .u16 cut).wf = true) (hS : ShapesAt W) (hF : FieldsAt W) :
    Calls Tryd.prog 8 #[vl, .string more, .int .u16 cut] W fun e W' => e = .returned (.bool true) ∧ Below W.heap.size W W' := by
  obtain ⟨al, cl, rfl⟩ := ReadS.len_slice hl
  have hm := hl.cases.1
  have hm9 : l.length ≤ 9223372036854775807 := by unfold maxLen at hm; omega
  have hmo9 : more.size ≤ 9223372036854775807 := by unfold maxLen at hmo; omega
  have hc0 : 0 ≤ cut ∧ cut ≤ 65535 := by
    have h0 : IntKind.u16.min ≤ cut ∧ cut ≤ IntKind.u16.max := by simpa [Lit.wf] using hcut
    exact h0
  obtain ⟨hc1, hc2⟩ := hc0
  have HSH : Hid (∀ x, Below W.heap.size W x → Calls Tryd.prog 10 #[] x fun e x' => e = .returned (.bool true) ∧ Below x.heap.size x x') := fun x hb => shown5_any x (hS.below hb) (hF.below hb)
  have HLW : Hid (∀ x, Below W.heap.size W x → ReadS x (.slice al l.length cl) l) := fun x hb => hl.below hb
  have HSL := Lib.hid hsl
  have HB0 : Hid (Below W.heap.size W W) := Below.refl _ _
  clear hS hF hl hsl hm hmo hcut
  by_cases h3 : l.length > 50
  · have d1 : decide ((l.length : Int) > 50) = true := by simp; omega
    clear h3
    go_enter Tryd.func8, Tryd.ntmps8
    go_wp2_with fail
    refine (HSH.out _ HB0.out).mono ?_
    rintro e w2 ⟨rfl, hb2⟩
    go_wp2_with fail
    go_ret
    exact ⟨rfl, hb2⟩
  have d1 : decide ((l.length : Int) > 50) = false := by simp; omega
  have hl3 : l.length ≤ 50 := by omega
  clear h3
  by_cases h2 : more.size > 100
  · have d2 : decide ((more.size : Int) > 100) = true := by simp; omega
    clear h2
    go_enter Tryd.func8, Tryd.ntmps8
    go_wp2_with fail
    refine (HSH.out _ HB0.out).mono ?_
    rintro e w2 ⟨rfl, hb2⟩
    go_wp2_with fail
    go_ret
    exact ⟨rfl, hb2⟩
  have d2 : decide ((more.size : Int) > 100) = false := by simp; omega
  have hs2 : more.size ≤ 100 := by omega
  clear h2
  go_enter Tryd.func8, Tryd.ntmps8
  go_wp2_with fail
  refine (HSH.out _ HB0.out).mono ?_
  rintro e w2 ⟨rfl, hb2⟩
  have HB2 := chain5 HB0 hb2
  clear hb2
  have HI : Hid (SizeR 512 l w2 (.int .i64 0) w2) := ⟨0, by omega, rfl, (fun i hi h => by omega), rfl⟩
  go_wp2_with fail
  go_loopw [7] (fun i wr => SizeR 512 l w2 i wr) (fun i _ => l.length - (intOf i).toNat)
  case atStart => exact HI.out
  case round =>
    obtain ⟨k, hk, rfl, hfit, hww⟩ := hrel
    rename World => wr
    subst wr
    have HFI := Lib.hid hfit
    clear hfit
    by_cases hlt : k < l.length
    · obtain ⟨_, ⟨h0, _⟩ | ⟨pb, po, pcap, hpe, hpb, hcell⟩⟩ := (HLW.out _ HB2.out).cases
      · subst h0; simp at hlt
      obtain ⟨rfl, rfl⟩ : al = some ⟨pb, po, none⟩ ∧ cl = pcap := by simpa using hpe
      have g0 := hcell k hlt
      have hss := HSL.out l[k] (List.getElem_mem hlt)
      have hk9 : l[k].size ≤ 9223372036854775807 := by unfold maxLen at hss; omega
      obtain ⟨q, hq⟩ : ∃ q, l[k] = q := ⟨_, rfl⟩
      rw [hq] at g0 hk9
      have HQ := Lib.hid hq
      clear hq hss hcell hpe
      by_cases hg : q.size > 512
      · have dg : decide ((q.size : Int) > 512) = true := by simp; omega
        clear hg
        go_wp2_with fail
        refine (HSH.out _ HB2.out).mono ?_
        rintro e w3 ⟨rfl, hb3⟩
        have HB3 := chain5 HB2 hb3
        clear hb3
        go_wp2_with fail
        go_ret
        exact ⟨rfl, HB3.out⟩
      have dg : decide ((q.size : Int) > 512) = false := by simp; omega
      have HF2 : Hid (∀ i (hi : i < l.length), i < k + 1 → l[i].size ≤ 512) := by
        intro i hi h2
        by_cases e : i = k
        · subst e; rw [HQ.out]; omega
        · exact HFI.out i hi (by omega)
      clear hg
      go_wp2_with fail
      go_roundw
      case rel => exact ⟨k + 1, by omega, by go_num, HF2.out, rfl⟩
      case measure => simp [intOf]; omega
    obtain rfl : k = l.length := by omega
    have HALL := Lib.hid (SizeR.all HFI.out)
    have HFB : Hid (fitB 20000 l) := ⟨by omega, fun s h => by have := HALL.out s h; omega⟩
    have HFD : Hid (fitD l = true) := fitD_iff.2 HFB.out
    have HPK := Lib.hid (pack_any l _ w2 (HLW.out _ HB2.out) HSL.out)
    go_wp2_with fail
    refine HPK.out.mono ?_
    rintro e w3 ⟨s, rfl, ha, hb3⟩
    have hpe : packE l = 0 := by unfold packE; rw [HFD.out]; rfl
    have hsl : s.data.toList = packB l := by rw [ha]; unfold packL; rw [HFD.out]; rfl
    rw [hpe]
    have HB3 := chain5 HB2 hb3
    have HPB := Lib.hid hsl
    have hs1 : 1 ≤ s.size := by rw [size_list, hsl]; unfold packB; rw [List.length_cons]; omega
    have hsmax : s.size ≤ 5100511 := by rw [size_list, hsl]; exact packB_size HFB.out
    have hz : ((s.size : Int) == 0) = false := by rw [beq_eq_false_iff_ne]; omega
    have hz2 : (s.size == 0) = false := by rw [beq_eq_false_iff_ne]; omega
    clear ha hb3 hpe hsl
    by_cases hbig : s.size > 20000
    · have db : decide ((s.size : Int) > 20000) = true := by simp; omega
      clear hbig
      go_wp2_with fail
      refine (HSH.out _ HB3.out).mono ?_
      rintro e w4 ⟨rfl, hb4⟩
      have HB4 := chain5 HB3 hb4
      clear hb4
      go_wp2_with fail
      go_ret
      exact ⟨rfl, HB4.out⟩
    have db : decide ((s.size : Int) > 20000) = false := by simp; omega
    have hs20 : s.size ≤ 20000 := by omega
    obtain ⟨m, hm1, hm2⟩ := qrem_lt hc1 (show 0 < s.size by omega)
    have hrun := qhead_run (s := s) (m := m) (by omega)
    obtain ⟨p, hp⟩ : ∃ p, s.extract 0 m = p := ⟨_, rfl⟩
    rw [hp] at hrun
    have hpl : p.data.toList = s.data.toList.take m := by rw [← hp]; exact qhead_list
    have hps : p.size ≤ 20000 := by rw [size_list, hpl, List.length_take, ← size_list]; omega
    have HDP : Hid (unpackB 20000 p.data.toList = none) := by
      refine unpack_cut (by omega) HFB.out (p := p.data.toList) (q := s.data.toList.drop m) ?_ ?_
      · rw [hpl, List.take_append_drop, HPB.out]
      · intro h
        have := List.drop_eq_nil_iff.1 h
        rw [← size_list] at this
        omega
    obtain ⟨sm, hsm⟩ : ∃ q, s ++ more = q := ⟨_, rfl⟩
    have had : ∀ w, (Op.stringOp .add s more).run Tryd.prog w = .ok (.string sm) w := fun w => by rw [← hsm]; exact add_run (by omega) w
    have hsml : sm.data.toList = packB l ++ more.data.toList := by rw [← hsm]; exact text_add HPB.out rfl
    have hsms : sm.size ≤ 20100 := by rw [← hsm, ByteArray.size_append]; omega
    have HUA : Hid (∀ x, Calls Tryd.prog 19 #[.string sm] x (UnW sm.data.toList x)) := fun x => (unpack_any sm x (by unfold maxLen; omega)).mono fun e x' h => h.to
    have HUB : Hid (∀ x, Calls Tryd.prog 19 #[.string p] x (UnW p.data.toList x)) := fun x => (unpack_any p x (by unfold maxLen; omega)).mono fun e x' h => h.to
    have HSML := Lib.hid hsml
    have hmI : (cut % (s.size : Int)) = (m : Int) := hm2
    have HFS : Hid (fitB 20000 [s, s]) := ⟨by simp, fun q h => by simp at h; rw [h]; exact hs20⟩
    have HFSD : Hid (fitD [s, s] = true) := fitD_iff.2 HFS.out
    have HSS : Hid (SmallS [s, s]) := fun q h => by simp at h; rw [h]; unfold maxLen; omega
    clear hp hpl hsm hsml hm2 hbig
    go_wp2_with fail
    refine (HUA.out _).mono ?_
    rintro e w5 ⟨v5, rfl, hr5, hb5⟩
    obtain ⟨f, hf⟩ : ∃ f, unE sm.data.toList = f := ⟨_, rfl⟩
    have HFF := Lib.hid hf
    rw [hf]
    have HB5 := chain5 HB3 hb5
    clear hr5 hb5 hf
    go_wp2_with fail
    refine (HUB.out _).mono ?_
    rintro e w6 ⟨v6, rfl, hr6, hb6⟩
    rw [(unE_none HDP.out).1]
    have HB6 := chain5 HB5 hb6
    obtain ⟨w7, hw7⟩ : ∃ x, w6.alloc (.cells #[.string s, .string s] 9) = x := ⟨_, rfl⟩
    have hb7 : Below w6.heap.size w6 w7 := by rw [← hw7]; exact (Below.refl _ _).alloc (Nat.le_refl _) _
    have HB7 := chain5 HB6 hb7
    have HR7 : Hid (ReadS w7 (.slice (some ⟨w6.heap.size, 0, none⟩) 2 2) [s, s]) := by rw [← hw7]; exact two_read _ _
    have HPT := Lib.hid (pack_any [s, s] _ w7 HR7.out HSS.out)
    have HW7 := Lib.hid hw7
    clear hr6 hb6 hw7 hb7
    go_wp2_with fail
    rw [HW7.out]
    refine HPT.out.mono ?_
    rintro e w8 ⟨t, rfl, ht, hb8⟩
    have hpe : packE [s, s] = 0 := by unfold packE; rw [HFSD.out]; rfl
    have htl : t.data.toList = packB [s, s] := by rw [ht]; unfold packL; rw [HFSD.out]; rfl
    rw [hpe]
    have HB8 := chain5 HB7 hb8
    have hts : t.size ≤ 5100511 := by rw [size_list, htl]; exact packB_size HFS.out
    have HUT : Hid (∀ x, Calls Tryd.prog 19 #[.string t] x (UnW t.data.toList x)) := fun x => (unpack_any t x (by unfold maxLen; omega)).mono fun e x' h => h.to
    have HUL : Hid (unE t.data.toList = 0 ∧ unL t.data.toList = [s, s]) := by rw [htl]; exact unE_some (unpack_pack (by omega) HFS.out)
    clear ht hb8 hpe htl
    go_wp2_with fail
    refine (HUT.out _).mono ?_
    rintro e w9 ⟨v9, rfl, hr9, hb9⟩
    rw [HUL.out.1]
    rw [HUL.out.2] at hr9
    have HB9 := chain5 HB8 hb9
    obtain ⟨_, ⟨h0, _⟩ | ⟨xb, xo, xcap, rfl, hxb, hxc⟩⟩ := hr9.cases
    · cases h0
    have x0 := hxc 0 (by simp)
    have x1 := hxc 1 (by simp)
    simp only [List.getElem_cons_zero, List.getElem_cons_succ, List.length_cons, List.length_nil, Nat.reduceAdd, Nat.add_zero] at x0 x1 ⊢
    clear hr9 hb9 hxc
    by_cases hme : more.size = 0
    · obtain rfl := qempty hme
      have hE : f = 0 := by
        rw [← HFF.out]
        have h2 : sm.data.toList = packB l := by rw [HSML.out]; exact List.append_nil _
        rw [h2]
        exact (unE_some (unpack_pack (by omega) HFB.out)).1
      subst hE
      clear hme
      go_wp2_with fail
      go_ret
      exact ⟨rfl, HB9.out⟩
    · obtain ⟨e1, e2, e3⟩ := qfull hme
      have hE : f = 50 := by rw [← HFF.out, HSML.out]; exact (unE_none (unpack_more (by omega) HFB.out e3)).1
      subst hE
      clear hme e3
      go_wp2_with fail
      go_ret
      exact ⟨rfl, HB9.out⟩

end Go.Proofs.YtoagedaohdkbdaaDoor
