/- What term.backward's iterator gives: the parts of a root, from the last on, each with its number; for every term that is one, where the table of shapes lies as it is laid. -/
import Derived.Test.YtjhgpifccleknaaDoorLook
import Derived.Test.YtjhgpifccleknaaDoorRange
namespace Go.Proofs.YtjhgpifccleknaaDoor
set_option linter.unusedSimpArgs false
set_option linter.unusedVariables false
open Go.RowKit
attribute [local go_sem] Oper.semAt_some

theorem RowAt.kept {w w' : World} {size n : Nat} {v : Value} {cs : List Value} {K : Bset} (h : RowAt w size v n cs) (hk : Kept K w w') (hv : ∀ g, v.ownBlock = some g → K g) : RowAt w' size v n cs := by
  obtain ⟨a, cap, rfl, h1, h2, h3⟩ := h.form
  refine ⟨h.len, a, cap, rfl, h1, h2, fun hn => ?_⟩
  obtain ⟨b, off, rfl, hb, hc⟩ := h3 hn
  exact ⟨b, off, rfl, by have := hk.size; omega, fun j u hu => hk.cell (hv b rfl) (hc j u hu)⟩

theorem ShapesAt.kept {w w' : World} (h : ShapesAt w) (hk : Kept (fun b => b < w.heap.size) w w') : ShapesAt w' := by
  have hlt := h.lt
  obtain ⟨sv, hs⟩ := h
  refine ⟨sv, fun k hkk => ?_⟩
  obtain ⟨h1, h2, h3, h4, h5⟩ := hs k hkk
  refine ⟨hk.cell hlt h1, hk.cell hlt h2, hk.cell hlt h3, hk.cell hlt h4, ?_⟩
  obtain ⟨a, cap, e, g1, g2, g3⟩ := RowAt.form h5
  refine ⟨h5.len, a, cap, e, g1, g2, fun hn => ?_⟩
  obtain ⟨b, off, e2, hb, hc⟩ := g3 hn
  exact ⟨b, off, e2, by have := hk.size; omega, fun j u hu => hk.cell (p := ⟨b, off + j, none⟩) hb (hc j u hu)⟩

/-- where part i of a root begins, among its nodes -/
def startP (cs : List Tm) (i : Nat) : Nat := (flatL (cs.take i)).length
/-- part i as the program hands it on: a slice of the term's -/
def partV (b off cap : Nat) (cs : List Tm) (i : Nat) : Value := .slice (some ⟨b, off + startP cs i * 4, none⟩) (startP cs (i + 1) - startP cs i) (cap - startP cs i)
def encB (b off cap : Nat) (cs : List Tm) (j : Nat) : Array Value := #[.int .i64 ((cs.length - 1 - j : Nat) : Int), partV b off cap cs (cs.length - 1 - j)]

theorem startP_succ (cs : List Tm) {i : Nat} (h : i < cs.length) : startP cs (i + 1) = startP cs i + cs[i].flat.length := by
  unfold startP
  rw [List.take_add_one, List.getElem?_eq_getElem h]
  show (flatL (cs.take i ++ [cs[i]])).length = _
  rw [flatL_append, flatL_one, List.length_append]
theorem startP_all (cs : List Tm) : startP cs cs.length = (flatL cs).length := by unfold startP; rw [List.take_length]
theorem startP_le (cs : List Tm) (i : Nat) : startP cs i ≤ (flatL cs).length := by
  unfold startP
  have h : flatL cs = flatL (cs.take i) ++ flatL (cs.drop i) := by rw [← flatL_append, List.take_append_drop]
  rw [h, List.length_append]
  omega

set_option maxRecDepth 20000 in
set_option maxHeartbeats 2000000 in
theorem back_iter (n : Nat) (nd : Nd) (cs : List Tm) (hwf : (Tm.mk nd cs).wf = true) (hlen : (Tm.mk nd cs).flat.length ≤ 4000) (b off cap bt bm : Nat) (mv : Value) (K : Bset) (w0 : World)
    (hS : ShapesAt w0) (hct : w0.cell? ⟨bt, 0, none⟩ = some (.slice (some ⟨b, off, none⟩) (Tm.mk nd cs).flat.length cap)) (hcm : w0.cell? ⟨bm, 0, none⟩ = some mv)
    (hv : ReadN w0 (.slice (some ⟨b, off, none⟩) (Tm.mk nd cs).flat.length cap) (Tm.mk nd cs).flat) (hm : RowAt w0 2 mv (Tm.mk nd cs).flat.length (measL (tops (Tm.mk nd cs).flat (Tm.mk nd cs).flat.length)))
    (k1 : K bt) (k2 : K bm) (k3 : K b) (k4 : ∀ g, mv.ownBlock = some g → K g) :
    Iter Fence.wide n Tryd.prog 87 #[.pointer (some ⟨bt, 0, none⟩), .pointer (some ⟨bm, 0, none⟩)] (encB b off cap cs) cs.length K w0 := by
  intro l J Jx W hW hJ hJx hY h0
  have hr := (wf_iff.1 hwf).1
  have har := (wf_iff.1 hwf).2.1
  obtain ⟨c, hc⟩ : ∃ c, (flatL cs).length = c := ⟨_, rfl⟩
  have hl : (Tm.mk nd cs).flat.length = c + 1 := by rw [flat_mk, List.length_append, hc]; rfl
  have hvW := RowAt.kept hv hW (fun g hg => by
    simp [Value.ownBlock] at hg
    subst hg
    obtain ⟨_, _, _, he, _, _, hlt, _⟩ := RowAt.pos hv (by omega)
    simp at he
    obtain ⟨⟨rfl, rfl⟩, _⟩ := he
    exact hlt)
  have hlast : (Tm.mk nd cs).flat[c]? = some nd := by rw [flat_mk, List.getElem?_append_right (by omega), hc]; simp
  obtain ⟨hclt, hcn⟩ := List.getElem?_eq_some_iff.1 hlast
  have hctW := hW.cell (World.block_lt_of_cell? w0 _ hct) hct
  have hcmW := hW.cell (World.block_lt_of_cell? w0 _ hcm) hcm
  obtain ⟨_, ⟨he, _⟩ | ⟨b', off', cap', he, hcap1, hcap2, hblt, hcell⟩⟩ := ReadN.cases hvW
  · rw [he] at hl; simp at hl
  obtain ⟨⟨rfl, rfl⟩, rfl⟩ : (b = b' ∧ off = off') ∧ cap = cap' := by simpa using he
  have hcell0 := hcell c hclt
  rw [hcn] at hcell0
  obtain ⟨r0, r1, r2, r3⟩ := hcell0
  have HCELL := Lib.hid hcell; clear hcell he
  rw [hl] at hctW hcap1 hlen
  have hSW := hS.kept hW
  have HS := Lib.hid hSW; clear hSW hS
  have HHL := Lib.hid hl
  have HAR := Lib.hid har
  have HY := Lib.hid hY; clear hY
  have HJ := Lib.hid hJ; clear hJ
  have HJX := Lib.hid hJx; clear hJx
  have HM := Lib.hid hm; clear hm
  have HWF := Lib.hid hwf
  have HV := Lib.hid hv; clear hv
  have HW := Lib.hid hW; clear hW
  have HC := Lib.hid hc; clear hc
  have H0 := Lib.hid h0; clear h0
  have HK4 := Lib.hid k4; clear k4
  have HLAST := Lib.hid hlast; clear hlast
  have hcap3 : cap ≤ 9223372036854775807 := by unfold maxLen at hcap2; omega
  clear hl hcn har hcm hct hclt hcap2 hvW hwf
  refine callsIn_of_wp Tryd.func87 rfl trivial ?_ rfl
  simp only [Tryd.ntmps87, List.size_toArray, List.length_cons, List.length_nil, Nat.reduceAdd, Nat.reduceSub, Array.replicate_succ, Array.replicate_zero, List.push_toArray, List.append_toArray, List.nil_append, List.cons_append]
  gi_wp2_with fail
  refine enterW (many_any nd _ HS.out hr) ?_
  rintro e w1 ⟨rfl, hb1⟩
  rw [← HAR.out]
  have hJ0 : J 0 (fun _ => False) w1 := HJ.out _ _ _ _ _ H0.out (Chg.fresh hb1) (fun b h => .inl h)
  have hk0 : Kept (fun b => b < W.heap.size) W w1 := ⟨hb1.size, fun b hb _ => hb1.block b hb⟩
  have HJ0 := Lib.hid hJ0; clear hJ0
  have HK0 := Lib.hid hk0; clear hk0 hb1
  have hc0 := HK0.out.cell (World.block_lt_of_cell? W _ hctW) hctW
  have hc1 := HK0.out.cell (World.block_lt_of_cell? W _ hcmW) hcmW
  have hm4 : cs.length ≤ 4000 := by have := flatL_ge cs; have := HC.out; omega
  clear r0 r1 r2 r3 hctW hcmW
  gi_wp2_with fail
  gi_loopw [4, 5] (fun e i wr => ∃ j, j ≤ cs.length ∧ i = .int .i64 ((cs.length : Int) - 1 - j) ∧ e = .int .i64 (startP cs (cs.length - j) : Int) ∧ J j (fun _ => False) wr ∧ Kept K w1 wr) (fun _ i _ => (intOf i + 1).toNat)
  case atStart => exact ⟨0, Nat.zero_le _, by simp, by rw [Nat.sub_zero, startP_all, HC.out], HJ0.out, Kept.refl _ _⟩
  case round =>
    rename World => wr
    obtain ⟨j, hj, rfl, rfl, hJw, hkw⟩ := hrel
    have HJW := Lib.hid hJw; clear hJw
    have HKW := Lib.hid hkw; clear hkw
    by_cases hlt : j < cs.length
    · obtain ⟨k, hk⟩ : ∃ k, cs.length = k + 1 + j := ⟨cs.length - 1 - j, by omega⟩
      have hkl : k < cs.length := by omega
      have e1 : (cs.length : Int) - 1 - j = (k : Int) := by omega
      have e2 : cs.length - j = k + 1 := by omega
      have e3 : cs.length - 1 - j = k := by omega
      rw [e1, e2]
      have hpart := topm_part HWF.out hkl
      have hs1 := startP_succ cs hkl
      have hpos := flat_pos cs[k]
      have hle := startP_le cs (k + 1)
      rw [HC.out] at hle
      have htop : (tops (Tm.mk nd cs).flat (c + 1))[startP cs (k + 1) - 1]'(by rw [tops_length]; omega) = (startP cs k, cs[k].dep) := by
        simp only [tops, List.getElem_map, List.getElem_range]
        exact hpart
      have hget := measL_get (tops (Tm.mk nd cs).flat (c + 1)) (startP cs (k + 1) - 1) (by rw [tops_length]; omega) 0 (by omega)
      rw [htop] at hget
      have hm0 := HM.out
      rw [HHL.out] at hm0
      obtain ⟨bg, og, capm, hmv, hcm1, hcm2, _, hmc⟩ := RowAt.pos hm0 (by omega)
      have hmcell := hmc _ _ hget
      have hk4 := HK4.out bg (by rw [hmv]; rfl)
      have g1 := HKW.out.cell (p := ⟨bg, og + ((startP cs (k + 1) - 1) * 2 + 0), none⟩) hk4 (HK0.out.cell (World.block_lt_of_cell? W _ (HW.out.cell (World.block_lt_of_cell? w0 _ hmcell) hmcell)) (HW.out.cell (World.block_lt_of_cell? w0 _ hmcell) hmcell))
      have g2 := HKW.out.cell k1 hc0
      have g3 := HKW.out.cell k2 hc1
      rw [hmv] at g3
      have hen : encB b off cap cs j = #[.int .i64 (k : Int), .slice (some ⟨b, off + startP cs k * 4, none⟩) (startP cs (k + 1) - startP cs k) (cap - startP cs k)] := by unfold encB partV; rw [e3]
      obtain ⟨fn, tmps, assign, body, hy, hR⟩ := HY.out j _ wr (by omega) HJW.out (fun b h => h.elim)
      rw [hen] at hy
      have HR := Lib.hid hR; clear hR
      obtain ⟨s0, hs0⟩ : ∃ s0, startP cs k = s0 := ⟨_, rfl⟩
      obtain ⟨d, hd⟩ : ∃ d, startP cs (k + 1) = s0 + (d + 1) := ⟨startP cs (k + 1) - s0 - 1, by omega⟩
      rw [hd, hs0, Nat.add_sub_cancel_left] at hy
      rw [hd] at g1 hle ⊢
      simp only [nodeV, meaV, List.getElem?_cons_zero, Nat.add_zero] at g1
      rw [hs0, show s0 + (d + 1) - 1 = s0 + d from rfl] at g1
      have HD := Lib.hid hd; have HS0 := Lib.hid hs0; have HKK := Lib.hid hk
      clear hd hs0 hget hmc hmcell htop hpart hs1 hpos hm0 hen e1 e2 e3 hk hmv
      gi_wp2_with fail
      refine ⟨(fun h => by cases h), HR.out.mono ?_⟩
      rintro e w3 (⟨rfl, hj3, hk3⟩ | ⟨rfl, hj3⟩)
      · have HJ3 := Lib.hid hj3; clear hj3
        have HK3 : Hid (Kept K w1 w3) := HKW.out.trans (hk3.mono fun b _ h => .inr h)
        clear hk3 g1 g2 g3 hy
        gi_wp2_with fail
        have hk := HKK.out
        refine ⟨⟨j + 1, by omega, congrArg (Value.int .i64) (by omega), ?_, HJ3.out, HK3.out⟩, by simp [intOf]⟩
        rw [show cs.length - (j + 1) = k from by omega, HS0.out]
      · have HJ3 := Lib.hid hj3; clear hj3
        clear g1 g2 g3 hy
        gi_wp2_with fail
        exact bodyPost_ret (results_none rfl _ _ _) rfl ⟨⟨_, rfl⟩, _, .inr ⟨j + 1, by omega, HJ3.out⟩⟩
    · obtain rfl : j = cs.length := by omega
      have e1 : (cs.length : Int) - 1 - (cs.length : Int) = -1 := by omega
      rw [e1]
      gi_wp2_with fail
      go_end0
      exact ⟨⟨_, rfl⟩, _, .inl HJW.out⟩

end Go.Proofs.YtjhgpifccleknaaDoor
