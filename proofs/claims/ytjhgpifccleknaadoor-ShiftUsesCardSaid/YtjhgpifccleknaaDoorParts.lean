/- What the reference's Parts and Deep come to, for every term that is one; condition: the strings' sizes, and at most 4000 nodes. -/
import Derived.Test.YtjhgpifccleknaaDoorRefP
import Derived.Test.YtjhgpifccleknaaDoorArgs
namespace Go.Proofs.YtjhgpifccleknaaDoor
set_option linter.unusedSimpArgs false
set_option linter.unusedVariables false
open Go.RowKit

/-- the parts from number i on, as the program hands them on -/
def partsFrom (b off cap : Nat) (cs : List Tm) (i : Nat) : List Value := ((List.range cs.length).drop i).map (partV b off cap cs)
theorem partsFrom_all (b off cap : Nat) (cs : List Tm) : partsFrom b off cap cs cs.length = [] := by unfold partsFrom; rw [List.drop_of_length_le (by simp)]; rfl
theorem partsFrom_step (b off cap : Nat) (cs : List Tm) {k : Nat} (h : k < cs.length) : partsFrom b off cap cs k = partV b off cap cs k :: partsFrom b off cap cs (k + 1) := by
  unfold partsFrom
  rw [List.drop_eq_getElem_cons (by simpa using h)]
  simp
theorem partsFrom_one (b off cap : Nat) (cs : List Tm) (i : Nat) : ∀ u, u ∈ partsFrom b off cap cs i → u.oneCell' = true := by
  intro u hu
  obtain ⟨x, _, rfl⟩ := List.mem_map.1 hu
  rfl
theorem partsFrom_read {w : World} {b off cap base : Nat} {e : TypeId} {nd : Nd} {cs : List Tm} {u : Value} (h : ReadN w (.slice (some ⟨b, off, none⟩) (Tm.mk nd cs).flat.length cap) (Tm.mk nd cs).flat) (ho : w.ownsRow base e 1 u cs.length (partsFrom b off cap cs 0)) : ReadNN w u (cs.map Tm.flat) := by
  have hl : (cs.map Tm.flat).length = cs.length := by simp
  refine ⟨partsFrom b off cap cs 0, by simp [partsFrom], by rw [hl]; exact RowAt.of_own ho, fun i hi x hx => ?_⟩
  rw [hl] at hi
  have e : x = partV b off cap cs i := by
    simp [partsFrom, hi] at hx
    exact hx.symm
  subst e
  simpa using part_read h hi

def PartsPost (cs : List Tm) (w : World) (e : Ending) (w' : World) : Prop := ∃ a cap, e = .returned (.slice a cs.length cap) ∧ ReadNN w' (.slice a cs.length cap) (cs.map Tm.flat) ∧ Below w.heap.size w w'

def PartsRel (w : World) (b off cap : Nat) (cs : List Tm) (en out i : Value) (wr : World) : Prop :=
  ∃ j, j ≤ cs.length ∧ i = .int .i64 (j : Int) ∧ en = .int .i64 ((startP cs (cs.length - j) : Nat) : Int) ∧ wr.ownsRow w.heap.size 30 1 out j (partsFrom b off cap cs (cs.length - j)) ∧ Below w.heap.size w wr

set_option maxRecDepth 20000 in
set_option maxHeartbeats 2000000 in
theorem refparts_any (nd : Nd) (cs : List Tm) (v : Value) (w : World) (hwf : (Tm.mk nd cs).wf = true) (hv : ReadN w v (Tm.mk nd cs).flat) (hs : SmallN (Tm.mk nd cs).flat) (hlen : (Tm.mk nd cs).flat.length ≤ 4000) :
    Calls Tryd.prog 42 #[v] w (PartsPost cs w) := by
  obtain ⟨hr, har, hks⟩ := wf_iff.1 hwf
  obtain ⟨c, hc⟩ : ∃ c, (flatL cs).length = c := ⟨_, rfl⟩
  have hl : (Tm.mk nd cs).flat.length = c + 1 := by rw [flat_mk, List.length_append, hc]; rfl
  have hlast : (Tm.mk nd cs).flat[c]? = some nd := by rw [flat_mk, List.getElem?_append_right (by omega), hc]; simp
  obtain ⟨hclt, hcn⟩ := List.getElem?_eq_some_iff.1 hlast
  have hsz : nd.S.size ≤ maxLen := by have h := List.getElem_mem hclt; rw [hcn] at h; exact hs _ h
  obtain ⟨_, ⟨he, _⟩ | ⟨b, off, cap, he, hcap1, hcap2, hblt, hcell⟩⟩ := ReadN.cases hv
  · rw [he] at hclt; simp at hclt
  subst he
  have hcell0 := hcell c hclt
  rw [hcn] at hcell0
  obtain ⟨r0, r1, r2, r3⟩ := hcell0
  have hm4 : cs.length ≤ 4000 := by have := flatL_ge cs; omega
  have hcap3 : cap ≤ 9223372036854775807 := by unfold maxLen at hcap2; omega
  obtain ⟨i0, hi, hz0, hz1, hz2⟩ := info_parts Tryd.infoNodes
  have HFROM : Hid (∀ (k : Nat) (hk : k < cs.length) (w' : World) (e1 : Nat), startP cs (k + 1) = e1 + 1 → Below w.heap.size w w' → Calls Tryd.prog 72 #[.slice (some ⟨b, off, none⟩) (c + 1) cap, .int .i64 (e1 : Int)] w' fun e w9 => e = .returned (.int .i64 ((startP cs k : Nat) : Int)) ∧ Below w'.heap.size w' w9) := by
    show ∀ (k : Nat) (hk : k < cs.length) (w' : World) (e1 : Nat), _
    intro k hk w' e1 he1 hbw
    have hs1 := startP_succ cs hk
    have hsp := cs_split cs hk
    have := reffrom_all cs[k] (hks _ (List.getElem_mem hk)) (Tm.mk nd cs).flat (flatL (cs.take k)) (flatL (cs.drop (k + 1)) ++ [nd]) (.slice (some ⟨b, off, none⟩) (Tm.mk nd cs).flat.length cap) w' e1
      (by rw [flat_mk, hsp]; simp) (by show startP cs k + _ = _; omega) (hv.below hbw) hs hlen
    rw [hl] at this
    exact this
  have HV := Lib.hid hv; clear hv
  have HAR := Lib.hid har
  have HC := Lib.hid hc
  have HHL := Lib.hid hl
  rw [hl] at hcap1 hlen ⊢
  clear hlast hcn hcell hs hks hl hc hcap2 har hwf hclt
  go_enter Tryd.func42, Tryd.ntmps42
  go_wp2_with fail
  refine (refbinds_any nd _ hsz).mono ?_
  rintro e w1 ⟨vb, lb, rfl, hvb, hlb, hb1⟩
  obtain ⟨a, cb, rfl⟩ := ReadI.len_slice hvb
  have hll : lb.length = cs.length := by rw [hlb hr, HAR.out]; simp [arity]
  rw [hll, hr]
  have HB1 := Lib.hid hb1; clear hb1
  clear r0 r1 r2 r3 hvb hlb hll
  go_wp2_with fail
  go_loopw [3, 6, 7] (fun en out i wr => PartsRel w b off cap cs en out i wr) (fun _ _ i _ => cs.length - (intOf i).toNat)
  case atStart =>
    refine ⟨0, Nat.zero_le _, rfl, by rw [Nat.sub_zero, startP_all, HC.out], ?_, HB1.out.alloc HB1.out.size _⟩
    rw [Nat.sub_zero, partsFrom_all]
    exact World.ownsRow_lit w1 #[] 0 HB1.out.size (by unfold maxLen; omega) rfl
  case round =>
    rename World => wa
    obtain ⟨j, hj, rfl, rfl, hown, hb⟩ := hrel
    have HB := Lib.hid hb; clear hb
    have HO := Lib.hid hown; clear hown
    by_cases hlt : j < cs.length
    · obtain ⟨k, hk⟩ : ∃ k, cs.length = k + 1 + j := ⟨cs.length - 1 - j, by omega⟩
      have hkl : k < cs.length := by omega
      have e2 : cs.length - j = k + 1 := by omega
      rw [e2] at HO ⊢
      have hs1 := startP_succ cs hkl
      have hpos := flat_pos cs[k]
      have hle := startP_le cs (k + 1)
      rw [HC.out] at hle
      obtain ⟨q, hq⟩ : ∃ q, startP cs k = q := ⟨_, rfl⟩
      obtain ⟨e1, he1⟩ : ∃ e1, startP cs (k + 1) = e1 + 1 := ⟨startP cs (k + 1) - 1, by omega⟩
      have hcall := HFROM.out k hkl
      have hpv : partV b off cap cs k = .slice (some ⟨b, off + q * 4, none⟩) (e1 + 1 - q) (cap - q) := by unfold partV; rw [hq, he1]
      have hqe : q ≤ e1 := by omega
      rw [hq] at hcall
      rw [he1] at hle ⊢
      have HCALL := Lib.hid hcall; clear hcall
      have HE1 := Lib.hid he1
      have HQ := Lib.hid hq
      have HKK := Lib.hid hk
      have HPV := Lib.hid hpv
      obtain ⟨ao, co, rfl, _⟩ := (RowAt.of_own HO.out).form
      clear he1 hq hs1 e2 hk hpv hpos
      go_wp2_with fail
      refine (HCALL.out _ e1 HE1.out HB.out).mono ?_
      rintro e w3 ⟨rfl, hb3⟩
      have HB3 : Hid (Below w.heap.size w w3) := HB.out.trans (hb3.mono HB.out.size)
      have HO3 : Hid (w3.ownsRow w.heap.size 30 1 (.slice ao j co) j (partsFrom b off cap cs (k + 1))) := ownsRow_below HO.out hb3 (fun g hg => (HO.out.lt g hg).2)
      clear hb3
      go_wp2_with (at_builtin; go_must (refine wpList_append_row rfl (.tmp 37) (.tmp 38) 41 rfl w.heap.size 30 i0 (.slice none 0 0) 1 24 Tryd.underlying41 hi hz0 hz1 hz2 rfl (by decide) (.slice (some ⟨w3.heap.size, 0, none⟩) 1 1) 1 [.slice (some ⟨b, off + q * 4, none⟩) (e1 + 1 - q) (cap - q)] rfl (World.ownsRow_lit w3 #[.slice (some ⟨b, off + q * 4, none⟩) (e1 + 1 - q) (cap - q)] 1 HB3.out.size (by unfold maxLen; omega) rfl) (.slice ao j co) j (partsFrom b off cap cs (k + 1)) rfl ((RowAt.of_own HO3.out).alloc _) (partsFrom_one _ _ _ _ _) (by omega) (by unfold maxLen; omega) (by have := HB3.out.size; simp; omega) ?_); intro v5 w5 hown5 hg5 hat5)
      have hb5 : Below w.heap.size w w5 := (HB3.out.alloc HB3.out.size _).grown hg5 (by have := HB3.out.size; simp; omega) (fun g hg => by simp [Value.ownBlock] at hg; have := HB3.out.size; omega)
      have HO5 := Lib.hid hown5; clear hown5 hg5 hat5
      have HB5 := Lib.hid hb5; clear hb5
      go_wp2_with fail
      have hk := HKK.out
      refine ⟨⟨j + 1, by omega, by go_num, by rw [show cs.length - (j + 1) = k from by omega, HQ.out], ?_, HB5.out⟩, by simp [intOf]; omega⟩
      rw [show cs.length - (j + 1) = k from by omega, partsFrom_step b off cap cs hkl, HPV.out, show j + 1 = 1 + j from by omega]
      exact HO5.out
    · obtain rfl : j = cs.length := by omega
      obtain ⟨ao, co, rfl, _⟩ := (RowAt.of_own HO.out).form
      go_wp2_with fail
      go_ret
      refine ⟨ao, co, rfl, partsFrom_read (HV.out.below HB.out) (by rw [← Nat.sub_self cs.length]; exact HO.out), HB.out⟩

end Go.Proofs.YtjhgpifccleknaaDoor
