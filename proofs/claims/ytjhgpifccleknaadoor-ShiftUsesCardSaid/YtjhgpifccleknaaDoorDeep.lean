/- What the reference's Deep comes to, for every term that is one; condition: the strings' sizes, and at most 4000 nodes. -/
import Derived.Test.YtjhgpifccleknaaDoorParts
namespace Go.Proofs.YtjhgpifccleknaaDoor
set_option linter.unusedSimpArgs false
set_option linter.unusedVariables false
open Go.RowKit

theorem part_small {nd : Nd} {cs : List Tm} (hs : SmallN (Tm.mk nd cs).flat) {k : Nat} (hk : k < cs.length) : SmallN (cs[k]).flat := by
  intro n hn
  refine hs n ?_
  rw [flat_mk, cs_split cs hk]
  simp [hn]
theorem part_len {nd : Nd} {cs : List Tm} {k : Nat} (hk : k < cs.length) : (cs[k]).flat.length + 1 ≤ (Tm.mk nd cs).flat.length := by
  rw [flat_mk, cs_split cs hk]
  simp
  omega
theorem depL_step {cs : List Tm} {k : Nat} (hk : k < cs.length) : depL (cs.take (k + 1)) = max (depL (cs.take k)) (cs[k]).dep := by
  rw [List.take_add_one, List.getElem?_eq_getElem hk]
  show depL (cs.take k ++ [cs[k]]) = _
  rw [depL_append, depL_cons, depL_nil, Nat.max_zero]

/-- an element of a slice of slices -/
theorem ReadNN.at {w : World} {b off cap : Nat} {L : List (List Nd)} (h : ReadNN w (.slice (some ⟨b, off, none⟩) L.length cap) L) {i : Nat} (hi : i < L.length) :
    ∃ a c, w.cell? ⟨b, off + i, none⟩ = some (.slice a (L[i]).length c) ∧ ReadN w (.slice a (L[i]).length c) (L[i]) := by
  obtain ⟨vs, hl, hr, he⟩ := h
  obtain ⟨b', off', cap', h1, _, _, _, hc⟩ := RowAt.pos hr (by omega)
  obtain ⟨⟨rfl, rfl⟩, rfl⟩ : (b = b' ∧ off = off') ∧ cap = cap' := by simpa using h1
  have hv : vs[i]? = some vs[i] := List.getElem?_eq_getElem (by omega)
  have hn := he i hi _ hv
  have hcell := hc _ _ hv
  obtain ⟨a, c, hu, _⟩ := RowAt.form hn
  rw [hu] at hn hcell
  exact ⟨a, c, hcell, hn⟩
theorem ReadNN.shape {w : World} {v : Value} {L : List (List Nd)} (h : ReadNN w v L) : L.length ≤ maxLen ∧ ((L = [] ∧ ∃ a cap, v = .slice a 0 cap) ∨ ∃ b off cap, v = .slice (some ⟨b, off, none⟩) L.length cap ∧ b < w.heap.size) := by
  obtain ⟨vs, hl, hr, he⟩ := h
  refine ⟨hr.small, ?_⟩
  by_cases h0 : L = []
  · subst h0
    obtain ⟨a, cap, rfl, _⟩ := hr.form
    exact .inl ⟨rfl, a, cap, rfl⟩
  · obtain ⟨b, off, cap, rfl, _, _, hb, _⟩ := RowAt.pos hr (List.length_pos_iff.2 h0)
    exact .inr ⟨b, off, cap, rfl, hb⟩
theorem ReadNN.below {w w' : World} {v : Value} {L : List (List Nd)} (h : ReadNN w v L) (hb : Below w.heap.size w w') : ReadNN w' v L := by
  obtain ⟨vs, hl, hr, he⟩ := h
  exact ⟨vs, hl, hr.below hb, fun i hi u hu => (he i hi u hu).below hb⟩

def DeepIt (t : Tm) : Prop := t.wf = true → ∀ (v : Value) (w : World), ReadN w v t.flat → SmallN t.flat → t.flat.length ≤ 4000 →
    Calls Tryd.prog 69 #[v] w fun e w' => e = .returned (.int .i64 (t.dep : Int)) ∧ Below w.heap.size w w'

set_option maxRecDepth 20000 in
set_option maxHeartbeats 2000000 in
theorem refdeep_all : ∀ t : Tm, DeepIt t := by
  refine Tm.ind ?_
  intro nd cs ih hwf v w hv hs hlen
  obtain ⟨hr, har, hks⟩ := wf_iff.1 hwf
  obtain ⟨ad, cp, rfl⟩ : ∃ a c, v = .slice a (Tm.mk nd cs).flat.length c := by obtain ⟨a, cap, h, _⟩ := RowAt.form hv; exact ⟨a, cap, h⟩
  have hm4 : cs.length ≤ 4000 := by have := flatL_ge cs; rw [flat_mk, List.length_append] at hlen; omega
  have HIH : Hid (∀ (k : Nat) (hk : k < cs.length) (u : Value) (w' : World), ReadN w' u (cs[k]).flat → Calls Tryd.prog 69 #[u] w' fun e w9 => e = .returned (.int .i64 ((cs[k]).dep : Int)) ∧ Below w'.heap.size w' w9) := by
    show ∀ (k : Nat) (hk : k < cs.length) (u : Value) (w' : World), _
    intro k hk u w' hu
    have := part_len (nd := nd) hk
    exact ih cs[k] (List.getElem_mem hk) (hks _ (List.getElem_mem hk)) u w' hu (part_small hs hk) (by omega)
  have hd : ∀ k, depL (cs.take k) ≤ 4000 := by
    intro k
    have h1 := dep_le_flat (Tm.mk nd cs)
    rw [dep_mk] at h1
    have h2 : depL cs = max (depL (cs.take k)) (depL (cs.drop k)) := by rw [← depL_append, List.take_append_drop]
    omega
  have HD := Lib.hid hd; clear hd
  have hc := refparts_any nd cs _ w hwf hv hs hlen
  have HCALL := Lib.hid hc; clear hc
  have hdm : (Tm.mk nd cs).dep = depL cs + 1 := dep_mk nd cs
  rw [hdm]
  clear ih hks hdm hwf hv hs har hr
  obtain ⟨n, hn⟩ : ∃ n, (Tm.mk nd cs).flat.length = n := ⟨_, rfl⟩
  rw [hn] at HCALL hlen ⊢
  clear hn
  go_enter Tryd.func69, Tryd.ntmps69
  go_wp2_with fail
  refine HCALL.out.mono ?_
  rintro e w1 ⟨a1, c1, rfl, hnn, hb1⟩
  have HB1 := Lib.hid hb1; clear hb1
  have hl : (cs.map Tm.flat).length = cs.length := by simp
  obtain ⟨_, ⟨h0, _⟩ | ⟨b, off, cap, he, hblt⟩⟩ := ReadNN.shape hnn
  · have h1 : cs = [] := by simpa using h0
    subst h1
    clear h0 hnn hl HIH HD HCALL
    go_wp2_with fail
    go_loopw [4, 5] (fun d i wr => d = .int .i64 0 ∧ i = .int .i64 0 ∧ wr = w1) (fun _ _ _ => 0)
    case atStart => exact ⟨rfl, rfl, rfl⟩
    case round =>
      obtain ⟨rfl, rfl, rfl⟩ := hrel
      go_wp2_with fail
      go_ret
      exact ⟨by rw [depL_nil]; rfl, HB1.out⟩
  rw [hl] at he
  obtain ⟨rfl, rfl⟩ : a1 = some ⟨b, off, none⟩ ∧ c1 = cap := by simpa using he
  have HNN := Lib.hid hnn; clear hnn he
  have HL := Lib.hid hl; clear hl
  go_wp2_with fail
  go_loopw [4, 5] (fun d i wr => ∃ k, k ≤ cs.length ∧ i = .int .i64 (k : Int) ∧ d = .int .i64 ((depL (cs.take k) : Nat) : Int) ∧ Below w.heap.size w wr ∧ Below w1.heap.size w1 wr) (fun _ i _ => cs.length - (intOf i).toNat)
  case atStart => exact ⟨0, Nat.zero_le _, rfl, by simp [depL_nil], HB1.out, Below.refl _ _⟩
  case round =>
    rename World => wa
    obtain ⟨k, hk, rfl, rfl, hb, hb1⟩ := hrel
    have HB := Lib.hid hb; clear hb
    have HBB := Lib.hid hb1; clear hb1
    have hd1 := HD.out k
    by_cases hlt : k < cs.length
    · have hnk := HNN.out.below HBB.out
      have hnk' : ReadNN wa (.slice (some ⟨b, off, none⟩) (cs.map Tm.flat).length c1) (cs.map Tm.flat) := by rw [HL.out]; exact hnk
      obtain ⟨a, c, hcell, hrd⟩ := hnk'.at (i := k) (by rw [HL.out]; exact hlt)
      have e : (cs.map Tm.flat)[k]'(by rw [HL.out]; exact hlt) = (cs[k]).flat := by simp
      rw [e] at hcell hrd
      have HR := Lib.hid hrd; clear hrd hnk hnk' e
      have hst := depL_step hlt
      obtain ⟨p, hp⟩ : ∃ p, depL (cs.take k) = p := ⟨_, rfl⟩
      obtain ⟨q, hq⟩ : ∃ q, (cs[k]).dep = q := ⟨_, rfl⟩
      have hcall := HIH.out k hlt _ wa HR.out
      rw [hp, hq] at hst
      rw [hp] at hd1
      rw [hq] at hcall
      rw [hp]
      have HCL := Lib.hid hcall; clear hcall
      have HST := Lib.hid hst; clear hst hp hq HCALL
      go_wp2_with fail
      refine HCL.out.mono ?_
      rintro e w3 ⟨rfl, hb3⟩
      have HB3 : Hid (Below w.heap.size w w3) := HB.out.trans (hb3.mono HB.out.size)
      have HBB3 : Hid (Below w1.heap.size w1 w3) := HBB.out.trans (hb3.mono HBB.out.size)
      clear hb3
      go_wp2_with fail
      go_roundw
      case rel => exact ⟨k + 1, by omega, by go_num, by rw [HST.out]; congr 1; omega, HB3.out, HBB3.out⟩
      case measure => simp [intOf]; omega
    · obtain rfl : k = cs.length := by omega
      rw [List.take_length] at hd1 ⊢
      go_wp2_with fail
      go_ret
      exact ⟨by simp, HB.out⟩

end Go.Proofs.YtjhgpifccleknaaDoor
