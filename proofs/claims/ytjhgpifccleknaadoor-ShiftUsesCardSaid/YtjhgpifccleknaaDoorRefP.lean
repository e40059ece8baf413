/- What the reference's from comes to: where a term begins that ends at a place; for every term that is one, wherever it stands in a row of nodes; condition: the strings' sizes, and at most 4000 nodes. -/
import Derived.Test.YtjhgpifccleknaaDoorRefW
import Derived.Test.YtjhgpifccleknaaDoorBack
namespace Go.Proofs.YtjhgpifccleknaaDoor
set_option linter.unusedSimpArgs false
set_option linter.unusedVariables false
open Go.RowKit

theorem cs_split (cs : List Tm) {k : Nat} (h : k < cs.length) : flatL cs = flatL (cs.take k) ++ cs[k].flat ++ flatL (cs.drop (k + 1)) := by
  have e : cs = cs.take k ++ [cs[k]] ++ cs.drop (k + 1) := by simp
  conv => lhs; rw [e]
  rw [flatL_append, flatL_append, flatL_one]

def FromIt (t : Tm) : Prop := t.wf = true → ∀ (l pre post : List Nd) (v : Value) (w : World) (en : Nat), l = pre ++ t.flat ++ post → pre.length + t.flat.length = en + 1 → ReadN w v l → SmallN l → l.length ≤ 4000 →
    Calls Tryd.prog 72 #[v, .int .i64 (en : Int)] w fun e w' => e = .returned (.int .i64 (pre.length : Int)) ∧ Below w.heap.size w w'

set_option maxRecDepth 20000 in
set_option maxHeartbeats 2000000 in
theorem reffrom_all : ∀ t : Tm, FromIt t := by
  refine Tm.ind ?_
  intro nd cs ih hwf l pre post v w en hl hen hv hs hlen
  obtain ⟨hr, har, hks⟩ := wf_iff.1 hwf
  have hfl : (Tm.mk nd cs).flat.length = (flatL cs).length + 1 := by rw [flat_mk, List.length_append]; rfl
  have hen2 : en = pre.length + (flatL cs).length := by omega
  have hll : l.length = pre.length + (flatL cs).length + 1 + post.length := by rw [hl]; simp [hfl]; omega
  have hlast : l[en]? = some nd := by
    rw [hl, flat_mk, List.append_assoc, List.append_assoc, List.getElem?_append_right (by omega), List.getElem?_append_right (by omega)]
    rw [show en - pre.length - (flatL cs).length = 0 from by omega]
    rfl
  obtain ⟨hclt, hcn⟩ := List.getElem?_eq_some_iff.1 hlast
  have hsz : nd.S.size ≤ maxLen := hs _ (by rw [← hcn]; exact List.getElem_mem hclt)
  obtain ⟨_, ⟨he, _⟩ | ⟨b, off, cap, he, hcap1, hcap2, hblt, hcell⟩⟩ := ReadN.cases hv
  · rw [he] at hclt; simp at hclt
  subst he
  have hcell0 := hcell en hclt
  rw [hcn] at hcell0
  obtain ⟨r0, r1, r2, r3⟩ := hcell0
  obtain ⟨p, hp⟩ : ∃ p, pre.length = p := ⟨_, rfl⟩
  have hstart : en = p + startP cs cs.length := by rw [startP_all]; omega
  have hm4 : cs.length ≤ 4000 := by have := flatL_ge cs; omega
  have hp4 : p ≤ 4000 := by omega
  rw [hp]
  have HIH : Hid (∀ (k : Nat) (hk : k < cs.length) (w' : World) (e1 : Nat), p + startP cs (k + 1) = e1 + 1 → Below w.heap.size w w' → Calls Tryd.prog 72 #[.slice (some ⟨b, off, none⟩) l.length cap, .int .i64 (e1 : Int)] w' fun e w9 => e = .returned (.int .i64 ((p + startP cs k : Nat) : Int)) ∧ Below w'.heap.size w' w9) := by
    show ∀ (k : Nat) (hk : k < cs.length) (w' : World) (e1 : Nat), _
    intro k hk w' e1 he1 hbw
    have hs1 := startP_succ cs hk
    have hsp := cs_split cs hk
    have := ih cs[k] (List.getElem_mem hk) (hks _ (List.getElem_mem hk)) l (pre ++ flatL (cs.take k)) (flatL (cs.drop (k + 1)) ++ [nd] ++ post) (.slice (some ⟨b, off, none⟩) l.length cap) w' e1
      (by rw [hl, flat_mk, hsp]; simp) (by rw [List.length_append, hp]; show p + startP cs k + _ = _; omega) (hv.below hbw) hs hlen
    rw [List.length_append, hp] at this
    exact this
  have HAR := Lib.hid har
  have hcap3 : cap ≤ 9223372036854775807 := by unfold maxLen at hcap2; omega
  have HST := Lib.hid hstart; clear hstart
  clear ih hlast hcn hcell hv hs hks hl hfl hen hen2 hcap2 hll hp har
  go_enter Tryd.func72, Tryd.ntmps72
  go_wp2_with fail
  refine (refbinds_any nd _ hsz).mono ?_
  rintro e w1 ⟨vb, lb, rfl, hvb, hlb, hb1⟩
  obtain ⟨a, cb, rfl⟩ := ReadI.len_slice hvb
  have hll : lb.length = cs.length := by rw [hlb hr, HAR.out]; simp [arity]
  rw [hll, hr]
  have HB1 := Lib.hid hb1; clear hb1
  clear r0 r1 r2 r3 hvb hlb hll
  go_wp2_with fail
  go_loopw [7, 8] (fun at_ i wr => ∃ j, j ≤ cs.length ∧ i = .int .i64 (j : Int) ∧ at_ = .int .i64 ((p + startP cs (cs.length - j) : Nat) : Int) ∧ Below w.heap.size w wr) (fun _ i _ => cs.length - (intOf i).toNat)
  case atStart => exact ⟨0, Nat.zero_le _, rfl, by rw [HST.out]; rfl, HB1.out⟩
  case round =>
    rename World => wa
    obtain ⟨j, hj, rfl, rfl, hb⟩ := hrel
    have HB := Lib.hid hb; clear hb
    by_cases hlt : j < cs.length
    · obtain ⟨k, hk⟩ : ∃ k, cs.length = k + 1 + j := ⟨cs.length - 1 - j, by omega⟩
      have hkl : k < cs.length := by omega
      have e2 : cs.length - j = k + 1 := by omega
      rw [e2]
      have hs1 := startP_succ cs hkl
      have hpos := flat_pos cs[k]
      obtain ⟨e1, he1⟩ : ∃ e1, p + startP cs (k + 1) = e1 + 1 := ⟨p + startP cs (k + 1) - 1, by omega⟩
      have hle := startP_le cs (k + 1)
      have hcall := HIH.out k hkl
      rw [he1]
      have he4 : e1 ≤ 100000 := by have := startP_le cs (k+1); have := startP_all cs; have := HST.out; omega
      obtain ⟨q, hq⟩ : ∃ q, p + startP cs k = q := ⟨_, rfl⟩
      rw [hq] at hcall
      have hq4 : q ≤ 100000 := by omega
      have HCALL := Lib.hid hcall; clear hcall
      have HE1 := Lib.hid he1
      have HQ := Lib.hid hq
      have HKK := Lib.hid hk
      clear he1 hq hs1 hle e2 hk
      go_wp2_with fail
      refine (HCALL.out _ e1 HE1.out HB.out).mono ?_
      rintro e w3 ⟨rfl, hb3⟩
      have HB3 : Hid (Below w.heap.size w w3) := HB.out.trans (hb3.mono HB.out.size)
      clear hb3
      go_wp2_with fail
      go_roundw
      case rel =>
        have hk := HKK.out
        exact ⟨j + 1, by omega, by go_num, by rw [show cs.length - (j + 1) = k from by omega, HQ.out], HB3.out⟩
      case measure => simp [intOf]; omega
    · obtain rfl : j = cs.length := by omega
      rw [Nat.sub_self]
      have e0 : p + startP cs 0 = p := by unfold startP; simp [flatL_nil]
      rw [e0]
      clear e0
      go_wp2_with fail
      go_ret
      exact ⟨rfl, HB.out⟩

end Go.Proofs.YtjhgpifccleknaaDoor
