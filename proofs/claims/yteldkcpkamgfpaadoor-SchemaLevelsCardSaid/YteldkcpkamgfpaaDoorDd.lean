/- decls.closed; conditions: at most a million terms, the strings' sizes; where the table of shapes lies as it is laid. -/
import Derived.Test.YteldkcpkamgfpaaDoorDc
namespace Go.Proofs.YteldkcpkamgfpaaDoor
set_option linter.unusedSimpArgs false
set_option linter.unusedVariables false
open Go.RowKit

def RClos (w : World) (L : List (List Nd)) (i : Value) (wr : World) : Prop :=
  ∃ k : Nat, k ≤ L.length ∧ i = .int .i64 k ∧ (∀ t ∈ L.take k, closE freeN t = 0) ∧ Below w.heap.size w wr

theorem clos_skip (L : List (List Nd)) (k : Nat) (h : ∀ t ∈ L.take k, closE freeN t = 0) : fstE (L.map (closE freeN)) = fstE ((L.drop k).map (closE freeN)) := by
  have := fstE_skip (L.map (closE freeN)) k (fun e he => by
    rw [← List.map_take] at he
    obtain ⟨t, ht, rfl⟩ := List.mem_map.1 he
    exact h t ht)
  rw [this, List.map_drop]

set_option maxHeartbeats 4000000 in
set_option maxRecDepth 20000 in
theorem closed_run (d : Dc) (vt vb vc : Value) (p : Nat) (w : World) (h : DeclV w d vt vb vc) (hS : ShapesAt w) (hs : SmallNN (termsD d)) (hn : d.Cons.flatten.length ≤ 1000000)
    (c0 : w.cell? ⟨p, 0, none⟩ = some (.int .i64 d.Kind)) (c1 : w.cell? ⟨p, 1, none⟩ = some (.int .i64 d.Level)) (c2 : w.cell? ⟨p, 2, none⟩ = some (.string d.Name))
    (c3 : w.cell? ⟨p, 3, none⟩ = some vt) (c4 : w.cell? ⟨p, 4, none⟩ = some vb) (c5 : w.cell? ⟨p, 5, none⟩ = some vc) :
    Calls Tryd.prog 77 #[.pointer (some ⟨p, 0, none⟩)] w fun e w' => e = .returned (.int .i64 (fstE ((termsD d).map (closE freeN)))) ∧ Below w.heap.size w w' := by
  have HT := Lib.hid (dterms_any d vt vb vc w h hn)
  have HS := Lib.hid hS
  have HM := Lib.hid hs
  clear h hS hs hn
  obtain ⟨L, hL⟩ : ∃ L, termsD d = L := ⟨_, rfl⟩
  rw [hL] at HT HM ⊢
  clear hL
  go_enter Tryd.func77, Tryd.ntmps77
  go_wp2_with (go_at_call 78; refine HT.out.mono ?_)
  rintro e w1 ⟨u, rfl, hu, hb1⟩
  have HU := Lib.hid hu
  have HB1 := Lib.hid hb1
  clear hb1 HT c0 c1 c2 c3 c4 c5
  have a0 : Hid (RClos w1 L (.int .i64 0) w1) := Lib.hid ⟨0, Nat.zero_le _, rfl, by simp, Below.refl _ _⟩
  obtain ⟨hm, ⟨h0, a, cap, rfl⟩ | ⟨b, off, cap, rfl, hbw⟩⟩ := hu.shape
  · subst h0
    clear hu
    go_wp2_with fail
    go_loopw [9] (fun i wr => i = .int .i64 0 ∧ wr = w1) (fun _ _ => 0)
    case atStart => exact ⟨rfl, rfl⟩
    case round =>
      obtain ⟨rfl, rfl⟩ := hrel
      go_wp2_with fail
      go_ret
      exact ⟨rfl, HB1.out⟩
  clear hu
  have hm9 : L.length ≤ 9223372036854775807 := by unfold maxLen at hm; omega
  clear hm
  go_wp2_with fail
  go_loopw [9] (fun i wr => RClos w1 L i wr) (fun i _ => L.length - (intOf i).toNat)
  case atStart => exact a0.out
  case round =>
    rename World => wr
    obtain ⟨k, hk, rfl, hz, hbe⟩ := hrel
    have HZ := Lib.hid hz
    have HB := Lib.hid hbe
    clear hz hbe a0
    by_cases hlt : k < L.length
    rotate_left
    · obtain rfl : k = L.length := by omega
      have hf : fstE (L.map (closE freeN)) = 0 := by rw [clos_skip L L.length HZ.out]; simp [fstE]
      go_wp2_with fail
      go_ret
      exact ⟨by rw [hf]; rfl, HB1.out.trans (HB.out.mono HB1.out.size)⟩
    obtain ⟨a1, n1, g0, r1⟩ := HU.out.at hlt
    have g1 := (HB.out.cell (p := ⟨b, off + k, none⟩) hbw).trans g0
    clear g0
    have hfs : fstE (L.map (closE freeN)) = (if closE freeN L[k] = 0 then fstE ((L.drop (k + 1)).map (closE freeN)) else closE freeN L[k]) := by
      rw [clos_skip L k HZ.out, List.drop_eq_getElem_cons hlt]
      rfl
    have hcall := free_any L[k] _ wr (HS.out.below (HB1.out.trans (HB.out.mono HB1.out.size))) (r1.below HB.out) (HM.out _ (List.getElem_mem hlt))
    have HC := Lib.hid hcall
    have HF := Lib.hid hfs
    have hzk : closE freeN L[k] = 0 → ∀ t ∈ L.take (k + 1), closE freeN t = 0 := fun h0 x hx => by
      rw [List.take_succ_eq_append_getElem hlt] at hx
      rcases List.mem_append.1 hx with h | h
      · exact HZ.out x h
      · simp at h; subst h; exact h0
    have HZK := Lib.hid hzk
    clear hcall hfs r1 hzk HZ
    obtain ⟨c, hc⟩ : ∃ c, chk L[k] = c := ⟨_, rfl⟩
    obtain ⟨f, hf⟩ : ∃ c, freeN L[k] = c := ⟨_, rfl⟩
    obtain ⟨m, hmm⟩ : ∃ c, closE freeN L[k] = c := ⟨_, rfl⟩
    have hce : m = if c = 0 then (if 0 < f then 30 else 0) else c := by rw [← hmm, ← hc, ← hf]; rfl
    obtain ⟨q, hq⟩ : ∃ q, L[k].length = q := ⟨_, rfl⟩
    rw [hc, hf] at HC
    rw [hmm] at HF HZK
    rw [hq] at HC g1
    clear hc hf hmm hq
    go_wp2_with (go_at_call 79; refine HC.out.mono ?_)
    rintro e w2 ⟨rfl, hb2⟩
    have HB2 := Lib.hid (HB.out.trans (hb2.mono HB.out.size))
    clear hb2 HC
    by_cases hc0 : c = 0
    · subst hc0
      rw [if_pos rfl] at hce
      by_cases hf0 : 0 < f
      · rw [if_pos hf0] at hce
        have df : decide (f > 0) = true := by simpa using hf0
        have df2 : decide (0 < f) = true := by simpa using hf0
        go_wp2_with fail
        go_ret
        exact ⟨by rw [HF.out, hce]; rfl, HB1.out.trans (HB2.out.mono HB1.out.size)⟩
      · rw [if_neg hf0] at hce
        have df : decide (f > 0) = false := by simpa using hf0
        have df2 : decide (0 < f) = false := by simpa using hf0
        go_wp2_with fail
        go_roundw
        case rel => exact ⟨k + 1, by omega, by go_num, HZK.out hce, HB2.out⟩
        case measure => simp [intOf]; omega
    · rw [if_neg hc0] at hce
      have d0 : (c == 0) = false := by simpa using hc0
      have d1 : (c != 0) = true := by simpa using hc0
      go_wp2_with fail
      go_ret
      exact ⟨by rw [HF.out, hce, if_neg hc0]; rfl, HB1.out.trans (HB2.out.mono HB1.out.size)⟩

end Go.Proofs.YteldkcpkamgfpaaDoor
