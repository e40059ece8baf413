/- The walks of WirePacks and WireParts: each comes to true for every input. -/
import Derived.Test.YtoagedaohdkbdaaDoorWireX
namespace Go.Proofs.YtoagedaohdkbdaaDoor
set_option linter.unusedSimpArgs false
set_option linter.unusedVariables false
open Go.RowKit

theorem qrem_lt {c : Int} (h0 : 0 ≤ c) {n : Nat} (hn : 0 < n) : ∃ m : Nat, m < n ∧ c % (n : Int) = (m : Int) := by
  obtain ⟨k, rfl⟩ := Int.eq_ofNat_of_zero_le h0
  exact ⟨k % n, Nat.mod_lt _ hn, by omega⟩
theorem qhead_run {s : ByteArray} {m : Nat} (h : m ≤ s.size) (w : World) : (Instr.slice 9 (.string s) none (some (.int .i64 (m : Int))) none).run Tryd.prog w = .ok (.string (s.extract 0 m)) w := by
  have := run_slice_string_to_if (P := Tryd.prog) w 9 s .i64 (m : Int) Tryd.underlying9
  rw [this, if_pos (by omega), Int.toNat_natCast]
theorem qhead_list {s : ByteArray} {m : Nat} : (s.extract 0 m).data.toList = s.data.toList.take m := by rw [Lib.extract_data]; simp
theorem qempty {s : ByteArray} (h : s.size = 0) : s = ⟨#[]⟩ := text_eq (l := []) (List.eq_nil_of_length_eq_zero (by rw [← size_list]; exact h))
theorem qfull {s : ByteArray} (h : s.size ≠ 0) : s.toList.isEmpty = false ∧ (s.toList == []) = false ∧ s.data.toList ≠ [] := by
  have e1 : s.toList.isEmpty = false := by rw [size0]; simpa using h
  refine ⟨e1, ?_, fun h2 => h (by rw [size_list, h2]; rfl)⟩
  cases h2 : s.toList with
  | nil => rw [h2] at e1; cases e1
  | cons a r => rfl
def UnW (s : List UInt8) (w : World) (e : Ending) (w' : World) : Prop := ∃ v, e = .returned (.tuple #[v, .int .i64 (unE s)]) ∧ ReadS w' v (unL s) ∧ Below w.heap.size w w'
theorem UnP.to {s : List UInt8} {w : World} {e : Ending} {w' : World} (h : UnP s w e w') : UnW s w e w' := by
  obtain ⟨v, h1, h2, h3⟩ := h
  exact ⟨v, h1, h2.read, h3⟩
theorem packB_size {l : List ByteArray} (h : fitB 20000 l) : (packB l).length ≤ 5100511 := by
  have h1 := preP_len l.length (Nat.le_refl _) (fun i hi _ => h.2 _ (List.getElem_mem hi))
  rw [preP_all] at h1
  have := h.1
  omega
def SizeR (n : Nat) (l : List ByteArray) (w : World) (i : Value) (wr : World) : Prop := ∃ k : Nat, k ≤ l.length ∧ i = .int .i64 (k : Int) ∧ (∀ i (hi : i < l.length), i < k → l[i].size ≤ n) ∧ wr = w
theorem SizeR.all {n : Nat} {l : List ByteArray} (h : ∀ i (hi : i < l.length), i < l.length → l[i].size ≤ n) : ∀ s, s ∈ l → s.size ≤ n := by
  intro s hs
  obtain ⟨i, hi, rfl⟩ := List.mem_iff_getElem.1 hs
  exact h i hi hi

set_option maxRecDepth 20000 in
set_option maxHeartbeats 4000000 in
theorem packs_walk (W : World) (l : List ByteArray) (vl : Value) (hl : ReadS W vl l) (hsl : SmallS l) (s : ByteArray) (hs : s.size ≤ maxLen) (hS : ShapesAt W) (hF : FieldsAt W) :
    Calls Tryd.prog 7 #[vl, .string s] W fun e W' => e = .returned (.bool true) ∧ Below W.heap.size W W' := by
  obtain ⟨al, cl, rfl⟩ := ReadS.len_slice hl
  have hm := hl.cases.1
  have hm9 : l.length ≤ 9223372036854775807 := by unfold maxLen at hm; omega
  have hs9 : s.size ≤ 9223372036854775807 := by unfold maxLen at hs; omega
  have HSH : Hid (∀ x, Below W.heap.size W x → Calls Tryd.prog 10 #[] x fun e x' => e = .returned (.bool true) ∧ Below x.heap.size x x') := fun x hb => shown5_any x (hS.below hb) (hF.below hb)
  have HLW : Hid (∀ x, Below W.heap.size W x → ReadS x (.slice al l.length cl) l) := fun x hb => hl.below hb
  have HSL := Lib.hid hsl
  have HB0 : Hid (Below W.heap.size W W) := Below.refl _ _
  have HSM := Lib.hid hs
  clear hS hF hl hsl hm hs
  by_cases h3 : l.length > 300
  · have d1 : decide ((l.length : Int) > 300) = true := by simp; omega
    clear h3
    go_enter Tryd.func7, Tryd.ntmps7
    go_wp2_with fail
    refine (HSH.out _ HB0.out).mono ?_
    rintro e w2 ⟨rfl, hb2⟩
    go_wp2_with fail
    go_ret
    exact ⟨rfl, hb2⟩
  have d1 : decide ((l.length : Int) > 300) = false := by simp; omega
  have hl3 : l.length ≤ 300 := by omega
  clear h3
  by_cases h2 : s.size > 2048
  · have d2 : decide ((s.size : Int) > 2048) = true := by simp; omega
    clear h2
    go_enter Tryd.func7, Tryd.ntmps7
    go_wp2_with fail
    refine (HSH.out _ HB0.out).mono ?_
    rintro e w2 ⟨rfl, hb2⟩
    go_wp2_with fail
    go_ret
    exact ⟨rfl, hb2⟩
  have d2 : decide ((s.size : Int) > 2048) = false := by simp; omega
  have hs2 : s.size ≤ 2048 := by omega
  clear h2
  go_enter Tryd.func7, Tryd.ntmps7
  go_wp2_with fail
  refine (HSH.out _ HB0.out).mono ?_
  rintro e w2 ⟨rfl, hb2⟩
  have HB2 := chain5 HB0 hb2
  clear hb2
  have HI : Hid (SizeR 1024 l w2 (.int .i64 0) w2) := ⟨0, by omega, rfl, (fun i hi h => by omega), rfl⟩
  go_wp2_with fail
  go_loopw [5] (fun i wr => SizeR 1024 l w2 i wr) (fun i _ => l.length - (intOf i).toNat)
  case atStart => exact HI.out
  case round =>
    obtain ⟨k, hk, rfl, hfit, hww⟩ := hrel
    rename World => wr
    subst wr
    have HFI := Lib.hid hfit
    clear hfit
    by_cases hlt : k < l.length
    · obtain ⟨_, ⟨h0, _⟩ | ⟨pb, po, pcap, hpe, hpb, hcell⟩⟩ := (HLW.out _ HB2.out).cases
      · subst h0; simp at hlt
      obtain ⟨rfl, rfl⟩ : al = some ⟨pb, po, none⟩ ∧ cl = pcap := by simpa using hpe
      have g0 := hcell k hlt
      have hss := HSL.out l[k] (List.getElem_mem hlt)
      have hk9 : l[k].size ≤ 9223372036854775807 := by unfold maxLen at hss; omega
      obtain ⟨q, hq⟩ : ∃ q, l[k] = q := ⟨_, rfl⟩
      rw [hq] at g0 hk9
      have HQ := Lib.hid hq
      clear hq hss hcell hpe
      by_cases hg : q.size > 1024
      · have dg : decide ((q.size : Int) > 1024) = true := by simp; omega
        clear hg
        go_wp2_with fail
        refine (HSH.out _ HB2.out).mono ?_
        rintro e w3 ⟨rfl, hb3⟩
        have HB3 := chain5 HB2 hb3
        clear hb3
        go_wp2_with fail
        go_ret
        exact ⟨rfl, HB3.out⟩
      have dg : decide ((q.size : Int) > 1024) = false := by simp; omega
      have HF2 : Hid (∀ i (hi : i < l.length), i < k + 1 → l[i].size ≤ 1024) := by
        intro i hi h2
        by_cases e : i = k
        · subst e; rw [HQ.out]; omega
        · exact HFI.out i hi (by omega)
      clear hg
      go_wp2_with fail
      go_roundw
      case rel => exact ⟨k + 1, by omega, by go_num, HF2.out, rfl⟩
      case measure => simp [intOf]; omega
    obtain rfl : k = l.length := by omega
    have HALL := Lib.hid (SizeR.all HFI.out)
    have HPK := Lib.hid (pack_any l _ w2 (HLW.out _ HB2.out) HSL.out)
    go_wp2_with fail
    refine HPK.out.mono ?_
    rintro e w3 ⟨a, rfl, ha, hb3⟩
    have HB3 := chain5 HB2 hb3
    have HA := Lib.hid ha
    obtain ⟨c, hc⟩ : ∃ c, packE l = c := ⟨_, rfl⟩
    have HC := Lib.hid hc
    rw [hc]
    have HRP := Lib.hid (rpack_any l _ w3 (HLW.out _ HB3.out) HSL.out)
    clear ha hb3 hc
    go_wp2_with fail
    refine HRP.out.mono ?_
    rintro e w4 ⟨a2, rfl, ha, hb4⟩
    rw [HC.out]
    obtain rfl : a2 = a := by rw [text_eq ha, text_eq HA.out]
    have HB4 := chain5 HB3 hb4
    clear ha hb4
    have HUS := Lib.hid (unpack_any s w4 HSM.out)
    have HRU : Hid (∀ x, Calls Tryd.prog 20 #[.string s] x (UnW s.data.toList x)) := fun x => (runpack_any s x (by omega)).mono fun e x' h => h.to
    go_wp2_with fail
    refine HUS.out.mono ?_
    rintro e w5 hu5
    obtain ⟨v5, rfl, hr5, hb5⟩ := hu5.to
    obtain ⟨L, hL⟩ : ∃ L, unL s.data.toList = L := ⟨_, rfl⟩
    obtain ⟨g, hg⟩ : ∃ g, unE s.data.toList = g := ⟨_, rfl⟩
    have HG := Lib.hid hg
    have HL := Lib.hid hL
    rw [hL] at hr5
    rw [hg]
    obtain ⟨a5, c5, rfl⟩ := hr5.len_slice
    have HR5 := Lib.hid hr5
    have HB5 := chain5 HB4 hb5
    clear hu5 hr5 hb5 hg hL
    go_wp2_with fail
    refine (HRU.out _).mono ?_
    rintro e w6 ⟨v6, rfl, hr6, hb6⟩
    rw [HL.out] at hr6
    rw [HG.out]
    obtain ⟨a6, c6, rfl⟩ := hr6.len_slice
    have HR6 := Lib.hid hr6
    have HR56 := Lib.hid (HR5.out.below hb6)
    have HB6 := chain5 HB5 hb6
    clear hr6 hb6
    go_wp2_with fail
    refine (texts_yes L _ _ _ HR56.out HR6.out).mono ?_
    rintro e w7 ⟨rfl, hb7⟩
    have HB7 := chain5 HB6 hb7
    clear hb7
    cases hf : fitD l with
    | false =>
      have hc1 : c = 21 := by rw [← HC.out]; unfold packE; rw [hf]; rfl
      have ha1 : a2.data.toList = [] := by rw [HA.out]; unfold packL; rw [hf]; rfl
      subst hc1
      obtain rfl : a2 = ⟨#[]⟩ := text_eq ha1
      have HUA : Hid (∀ x, Calls Tryd.prog 19 #[.string ⟨#[]⟩] x (UnW [] x)) := fun x => (unpack_any ⟨#[]⟩ x (by show (0 : Nat) ≤ maxLen; omega)).mono fun e x' h => h.to
      clear hf ha1
      go_wp2_with fail
      refine (HUA.out _).mono ?_
      rintro e w8 ⟨v8, rfl, hr8, hb8⟩
      have hu : unE [] = 50 := rfl
      rw [hu]
      have HB8 := chain5 HB7 hb8
      clear hr8 hb8 hu
      go_wp2_with fail
      go_ret
      exact ⟨rfl, HB8.out⟩
    | true =>
      have hc1 : c = 0 := by rw [← HC.out]; unfold packE; rw [hf]; rfl
      have ha1 : a2.data.toList = packB l := by rw [HA.out]; unfold packL; rw [hf]; rfl
      have hfb := fitD_iff.1 hf
      have hps := packB_size hfb
      subst hc1
      have HUA : Hid (∀ x, Calls Tryd.prog 19 #[.string a2] x (UnW a2.data.toList x)) := fun x => (unpack_any a2 x (by rw [size_list, ha1]; unfold maxLen; omega)).mono fun e x' h => h.to
      have HUL : Hid (unE a2.data.toList = 0 ∧ unL a2.data.toList = l) := by rw [ha1]; exact unE_some (unpack_pack (by omega) hfb)
      clear hf ha1 hfb hps
      go_wp2_with fail
      refine (HUA.out _).mono ?_
      rintro e w8 ⟨v8, rfl, hr8, hb8⟩
      rw [HUL.out.1]
      rw [HUL.out.2] at hr8
      obtain ⟨a8, c8, rfl⟩ := hr8.len_slice
      have HR8 := Lib.hid hr8
      have HB8 := chain5 HB7 hb8
      clear hr8 hb8
      go_wp2_with fail
      refine (texts_yes l _ _ _ HR8.out (HLW.out _ HB8.out)).mono ?_
      rintro e w9 ⟨rfl, hb9⟩
      have HB9 := chain5 HB8 hb9
      clear hb9
      go_wp2_with fail
      go_ret
      exact ⟨rfl, HB9.out⟩

end Go.Proofs.YtoagedaohdkbdaaDoor
