/- What term.Part comes to, for every row of nodes and path, where the table of shapes lies as it is laid; conditions: the strings' sizes, and a path of at most a million steps. -/
import Derived.Test.YtjhgpifccleknaaDoorArgs
import Derived.Test.YtjhgpifccleknaaDoorDeep
namespace Go.Proofs.YtjhgpifccleknaaDoor
set_option linter.unusedSimpArgs false
set_option linter.unusedVariables false
open Go.RowKit
attribute [local go_sem] Oper.semAt_some

/-- the part at a path -/
def walkP : Tm → List Int → Option Tm
  | t, [] => some t
  | t, k :: r => if 0 ≤ k ∧ k < t.kids.length then (t.kids[k.toNat]?).bind fun c => walkP c r else none

theorem walkP_append (t : Tm) (a b : List Int) : walkP t (a ++ b) = (walkP t a).bind fun u => walkP u b := by
  induction a generalizing t with
  | nil => rfl
  | cons k r ih =>
    simp only [List.cons_append, walkP]
    split
    · cases t.kids[k.toNat]? with
      | none => rfl
      | some c => simp [ih]
    · rfl
theorem walkP_wf {t u : Tm} {p : List Int} (hw : t.wf = true) (h : walkP t p = some u) : u.wf = true ∧ u.flat.length ≤ t.flat.length ∧ u.dep + p.length ≤ t.dep ∧ ∀ n, n ∈ u.flat → n ∈ t.flat := by
  induction p generalizing t with
  | nil => cases h; exact ⟨hw, Nat.le_refl _, by simp, fun n hn => hn⟩
  | cons k r ih =>
    simp only [walkP] at h
    split at h
    · obtain ⟨nd, cs⟩ := t
      simp only [Tm.kids] at h
      cases hc : cs[k.toNat]? with
      | none => rw [hc] at h; cases h
      | some c =>
        rw [hc] at h
        obtain ⟨hlt, hcc⟩ := List.getElem?_eq_some_iff.1 hc
        have hm : c ∈ cs := by rw [← hcc]; exact List.getElem_mem hlt
        obtain ⟨h1, h2, h3, h4⟩ := ih ((wf_iff.1 hw).2.2 c hm) h
        have hl := part_len (nd := nd) hlt
        rw [hcc] at hl
        have hd : c.dep ≤ depL cs := dep_le_depL hm
        refine ⟨h1, by omega, by rw [dep_mk, List.length_cons]; omega, fun n hn => ?_⟩
        have := h4 n hn
        rw [flat_mk, cs_split cs hlt, hcc]
        simp [this]
    · cases h

def partE (l : List Nd) (p : List Int) : Int := if chk l = 0 then (match (whole l).bind fun t => walkP t p with | some _ => 0 | none => 3) else chk l
def partL (l : List Nd) (p : List Int) : List Nd := if chk l = 0 then (match (whole l).bind fun t => walkP t p with | some u => u.flat | none => []) else []

def PartPost (l : List Nd) (p : List Int) (w : World) (e : Ending) (w' : World) : Prop := ∃ v, e = .returned (.tuple #[v, .int .i64 (partE l p)]) ∧ ReadN w' v (partL l p) ∧ Below w.heap.size w w'

set_option maxRecDepth 20000 in
set_option maxHeartbeats 2000000 in
theorem tpart_bad (l : List Nd) (p : List Int) (v vp : Value) (w : World) (hS : ShapesAt w) (hv : ReadN w v l) (hs : SmallN l) (hp : ReadI w vp p) (hk : chk l ≠ 0) :
    Calls Tryd.prog 27 #[v, vp] w (PartPost l p w) := by
  have HV := Lib.hid hv; clear hv
  have HS := Lib.hid hS; clear hS
  have HSM := Lib.hid hs; clear hs
  have hpe : partE l p = chk l := by unfold partE; rw [if_neg hk]
  have hpl : partL l p = [] := by unfold partL; rw [if_neg hk]
  obtain ⟨c, hc⟩ : ∃ c, chk l = c := ⟨_, rfl⟩
  rw [hc] at hk hpe
  have HC := Lib.hid hc; clear hc
  have HPE := Lib.hid hpe; clear hpe
  have HPL := Lib.hid hpl; clear hpl
  have hkb : (c != 0) = true := by simpa using hk
  refine callsIn_wide.1 (callsIn_of_wp_marks (n := 3) Tryd.func27 rfl trivial ?_)
  simp only [Tryd.ntmps27, List.size_toArray, List.length_cons, List.length_nil, Nat.reduceAdd, Nat.reduceSub, Array.replicate_succ, Array.replicate_zero, List.push_toArray, List.append_toArray, List.nil_append, List.cons_append]
  gi_wp2_with fail
  refine enterW2 (tcheck_any l _ w HS.out HV.out HSM.out) ?_
  rintro e w1 ⟨rfl, hb⟩
  rw [HC.out]
  have HB := Lib.hid hb; clear hb
  gi_wp2_with fail
  exact postM0 (results_tmp2 rfl _ _ _) rfl ⟨_, by rw [HPE.out]; rfl, by rw [HPL.out]; exact ReadN.nil _, HB.out⟩

theorem partE_ok {l : List Nd} {T u : Tm} {p : List Int} (hk : chk l = 0) (hw : whole l = some T) (h : walkP T p = some u) : partE l p = 0 ∧ partL l p = u.flat := by
  unfold partE partL
  rw [if_pos hk, if_pos hk, hw]
  simp [h]
theorem partE_none {l : List Nd} {T : Tm} {p : List Int} (hk : chk l = 0) (hw : whole l = some T) (h : walkP T p = none) : partE l p = 3 ∧ partL l p = [] := by
  unfold partE partL
  rw [if_pos hk, if_pos hk, hw]
  simp [h]
theorem walk_step {T : Tm} {nd : Nd} {cs : List Tm} {p : List Int} {k : Nat} (hk : k < p.length) (h : walkP T (p.take k) = some (Tm.mk nd cs)) : walkP T (p.take (k + 1)) = walkP (Tm.mk nd cs) [p[k]] := by
  rw [List.take_add_one, List.getElem?_eq_getElem hk]
  show walkP T (p.take k ++ [p[k]]) = _
  rw [walkP_append, h]
  rfl
theorem walk_ok {T : Tm} {nd : Nd} {cs : List Tm} {p : List Int} {k i : Nat} (hk : k < p.length) (h : walkP T (p.take k) = some (Tm.mk nd cs)) (hi : p[k] = (i : Int)) (hlt : i < cs.length) : walkP T (p.take (k + 1)) = some cs[i] := by
  rw [walk_step hk h, hi]
  show (if 0 ≤ (i : Int) ∧ (i : Int) < (cs.length : Int) then (cs[(i : Int).toNat]?).bind (fun c => walkP c []) else none) = _
  rw [if_pos (by omega), Int.toNat_natCast, List.getElem?_eq_getElem hlt]
  rfl
theorem walk_none {T : Tm} {nd : Nd} {cs : List Tm} {p : List Int} {k : Nat} (hk : k < p.length) (h : walkP T (p.take k) = some (Tm.mk nd cs)) (hi : ¬ (0 ≤ p[k] ∧ p[k] < cs.length)) : walkP T p = none := by
  have h1 : walkP T (p.take (k + 1)) = none := by
    rw [walk_step hk h]
    show (if 0 ≤ p[k] ∧ p[k] < (cs.length : Int) then (cs[p[k].toNat]?).bind (fun c => walkP c []) else none) = _
    rw [if_neg hi]
  rw [← List.take_append_drop (k + 1) p, walkP_append, h1]
  rfl

/-- what the box of the next term holds behind j rounds -/
def nxtV (b off cap : Nat) (cs : List Tm) (pk : Int) (j : Nat) : Value := if (cs.length : Int) - j ≤ pk ∧ pk < cs.length then partV b off cap cs pk.toNat else .slice none 0 0
theorem nxtV_zero (b off cap : Nat) (cs : List Tm) (pk : Int) : nxtV b off cap cs pk 0 = .slice none 0 0 := by unfold nxtV; rw [if_neg (by omega)]
theorem nxtV_hit {b off cap : Nat} {cs : List Tm} {pk : Int} {j k : Nat} (hk : cs.length = k + 1 + j) (h : (k : Int) = pk) : nxtV b off cap cs pk (j + 1) = partV b off cap cs k := by
  subst h; unfold nxtV; rw [if_pos (by omega)]; simp
theorem nxtV_miss {b off cap : Nat} {cs : List Tm} {pk : Int} {j k : Nat} (hk : cs.length = k + 1 + j) (h : (k : Int) ≠ pk) : nxtV b off cap cs pk (j + 1) = nxtV b off cap cs pk j := by
  unfold nxtV
  by_cases h1 : (cs.length : Int) - j ≤ pk ∧ pk < cs.length
  · rw [if_pos h1, if_pos (by omega)]
  · rw [if_neg h1, if_neg (by omega)]
theorem nxtV_in {b off cap : Nat} {cs : List Tm} {i : Nat} (h : i < cs.length) : nxtV b off cap cs (i : Int) cs.length = partV b off cap cs i := by
  unfold nxtV; rw [if_pos (by omega)]; simp
theorem nxtV_out {b off cap : Nat} {cs : List Tm} {pk : Int} (h : ¬ (0 ≤ pk ∧ pk < cs.length)) : nxtV b off cap cs pk cs.length = .slice none 0 0 := by
  unfold nxtV; rw [if_neg (by omega)]

theorem three_blocks (w : World) (x0 x1 x2 : Array Value) (t0 t1 t2 : TypeId) : ∃ W, (((w.alloc (Obj.cells x0 t0)).alloc (Obj.cells x1 t1)).alloc (Obj.cells x2 t2)) = W ∧ W.heap.size = w.heap.size + 3 ∧ Below w.heap.size w W ∧
    Blk W w.heap.size t0 x0 ∧ Blk W (w.heap.size + 1) t1 x1 ∧ Blk W (w.heap.size + 1 + 1) t2 x2 := by
  refine ⟨_, rfl, by simp, ?_, ?_, ?_, ?_⟩
  · exact (((Below.refl _ w).alloc (Nat.le_refl _) _).alloc (by simp) _).alloc (by simp; omega) _
  · exact ((Blk.new w _ _).alloc _).alloc _
  · have := Blk.new (w.alloc (Obj.cells x0 t0)) t1 x1; rw [World.size_alloc] at this; exact this.alloc _
  · have := Blk.new ((w.alloc (Obj.cells x0 t0)).alloc (Obj.cells x1 t1)) t2 x2; rw [World.size_alloc, World.size_alloc] at this; exact this

/-- a mark that a loop over an iterator leaves among the deferred calls -/
def mark (D : Nat) : Deferred := { target := .collected D, args := #[] }

theorem postMs {F : Fence} {n : Nat} {P : Program} {fn : Func} {R : Ending → World → Prop} {tmps : Array Value} {v : Value} (Ds : List Nat) : ∀ (w : World), Ds.Nodup → (∀ D, D ∈ Ds → w.heap[D]? = some (.deferred (some []))) →
    (∀ w', (results fn tmps).run P w' = .ok v w') → (∀ w', Chg (fun b => b ∈ Ds) w w' → R (.returned v) w') → LeavesInM F n P fn tmps R (Ds.map mark) .returning w := by
  induction Ds with
  | nil => exact fun w _ _ hr hR => ⟨v, hr w, hR w (Chg.refl _ _)⟩
  | cons D Ds ih =>
    intro w hn hk hr hR
    have hnd := List.nodup_cons.1 hn
    refine ⟨by simp, .inl ⟨D, _, rfl, run_takeDeferred (hk D (by simp)), ih _ hnd.2 (fun D' hD' => ?_) hr fun w' hc => hR w' ?_⟩⟩
    · refine (World.putObj_heap_other ?_).trans (hk D' (by simp [hD']))
      rintro rfl
      exact hnd.1 hD'
    · exact (Chg.putObj w D _ (S := fun b => b ∈ D :: Ds) (by simp)).trans (hc.mono fun b _ h => by simp [h])

def PartRel (w : World) (T : Tm) (p : List Int) (t i : Value) (ds : List Deferred) (wr : World) : Prop :=
  ∃ (k : Nat) (u : Tm) (Ds : List Nat), k ≤ p.length ∧ i = .int .i64 (k : Int) ∧ walkP T (p.take k) = some u ∧ ReadN wr t u.flat ∧ ds = Ds.map mark ∧ Ds.Nodup ∧ (∀ D, D ∈ Ds → w.heap.size ≤ D ∧ wr.heap[D]? = some (.deferred (some []))) ∧ Below w.heap.size w wr

/-- what the loop over the parts holds -/
def NextI (bn : Nat) (W : World) (b off cap : Nat) (cs : List Tm) (pk : Int) (j : Nat) (S : Bset) (A : World) : Prop :=
  Chg (fun b => b = bn ∨ W.heap.size ≤ b) W A ∧ (∀ b, S b → W.heap.size ≤ b) ∧ bn < W.heap.size ∧ Blk A bn 30 #[nxtV b off cap cs pk j]
theorem NextI.stab (bn : Nat) (W : World) (b off cap : Nat) (cs : List Tm) (pk : Int) : Stab (NextI bn W b off cap cs pk) := by
  intro j S A B S' ⟨h1, h2, h3, h4⟩ hc hs
  refine ⟨h1.trans (hc.mono fun b _ h => .inr (h2 b h)), fun b h => ?_, h3, h4.stab (fun h => by have := h2 _ h; omega) hc⟩
  rcases hs b h with h | h
  · exact h2 b h
  · have := h1.size; omega

set_option maxRecDepth 20000 in
set_option maxHeartbeats 4000000 in
theorem tpart_good (l : List Nd) (p : List Int) (v vp : Value) (w : World) (hS : ShapesAt w) (hv : ReadN w v l) (hs : SmallN l) (hp : ReadI w vp p) (hk : chk l = 0) :
    Calls Tryd.prog 27 #[v, vp] w (PartPost l p w) := by
  obtain ⟨hle, T, hw, _⟩ := chk_ok hk
  obtain ⟨hwf, hfl⟩ := whole_some hw
  obtain ⟨ap, cp, rfl⟩ := ReadI.len_slice hp
  obtain ⟨at_, ct, rfl⟩ := ReadN.len_slice hv
  have HV := Lib.hid hv; clear hv
  have HS := Lib.hid hS; clear hS
  have HSM := Lib.hid hs; clear hs
  have HC := Lib.hid hk; clear hk
  have HWH := Lib.hid hw; clear hw
  have HP := Lib.hid hp; clear hp
  have HWF := Lib.hid hwf; clear hwf
  have HFL := Lib.hid hfl; clear hfl
  have HLE := Lib.hid hle; clear hle
  have hpl : p.length ≤ maxLen := HP.out.small
  have hp9 : p.length ≤ 9223372036854775807 := by unfold maxLen at hpl; omega
  clear hpl
  refine callsIn_wide.1 (callsIn_of_wp_marks (n := 3) Tryd.func27 rfl trivial ?_)
  simp only [Tryd.ntmps27, List.size_toArray, List.length_cons, List.length_nil, Nat.reduceAdd, Nat.reduceSub, Array.replicate_succ, Array.replicate_zero, List.push_toArray, List.append_toArray, List.nil_append, List.cons_append]
  gi_wp2_with fail
  refine enterW2 (tcheck_any l _ w HS.out HV.out HSM.out) ?_
  rintro e w1 ⟨rfl, hb⟩
  rw [HC.out]
  have HB := Lib.hid hb; clear hb
  gi_wp2_with fail
  refine wpIn_loop (fun a wr => ∃ (ds : List Deferred) (t u8 u9 u10 u11 u12 u13 u21 u22 u23 u24 u25 u26 u27 u28 u29 u30 u31 u32 u33 u34 u35 u36 u37 u38 u39 u40 u41 u42 : Value), PartRel w T p t u21 ds wr ∧ a = { tmps := #[t, .slice ap p.length cp, undef, undef, .slice none 0 0, .int .i64 0, .int .i64 0, undef, u8, u9, u10, u11, u12, u13, .slice at_ l.length ct, .int .i64 0, .int .i64 0, .bool false, undef, .slice ap p.length cp, .int .i64 (p.length : Int), u21, u22, u23, u24, u25, u26, u27, u28, u29, u30, u31, u32, u33, u34, u35, u36, u37, u38, u39, u40, u41, u42, undef, undef], defers := ds }) (fun a _ => p.length - (intOf (a.tmps.getD 21 undef)).toNat) ?_ ?_
  · refine ⟨[], _, _, _, _, _, _, _, _, _, _, _, _, _, _, _, _, _, _, _, _, _, _, _, _, _, _, _, _, _, ⟨0, T, [], Nat.zero_le _, rfl, rfl, ?_, rfl, List.nodup_nil, (fun D h => by cases h), HB.out⟩, rfl⟩
    rw [HFL.out]
    exact HV.out.below HB.out
  · rintro a wr ⟨ds, t, u8, u9, u10, u11, u12, u13, u21, u22, u23, u24, u25, u26, u27, u28, u29, u30, u31, u32, u33, u34, u35, u36, u37, u38, u39, u40, u41, u42, ⟨k, u, Ds, hk, rfl, hwk, hrd, rfl, hnd, hds, hbw⟩, rfl⟩
    have hnd' : Hid Ds.Nodup := hnd
    have HDS := Lib.hid hds; clear hds
    have HBW := Lib.hid hbw; clear hbw
    obtain ⟨huw, hul, _, hum⟩ := walkP_wf HWF.out hwk
    have HWK := Lib.hid hwk; clear hwk
    by_cases hlt : k < p.length
    · obtain ⟨nd, cs⟩ := u
      obtain ⟨b, off, cap, rfl, hcap1, hcap2, hbl, _⟩ := RowAt.pos hrd (by simp [flat_mk])
      obtain ⟨pk, hpk⟩ : ∃ x, p[k] = x := ⟨_, rfl⟩
      have hpr := HP.out.below HBW.out
      obtain ⟨bp, op, cpp, hpe, _, _, _, hpc⟩ := RowAt.pos hpr (by omega)
      obtain ⟨rfl, rfl⟩ : ap = some ⟨bp, op, none⟩ ∧ cp = cpp := by simpa using hpe
      have p0 : wr.cell? ⟨bp, op + k, none⟩ = some (.int .i64 pk) := hpc k _ (by simp [hlt, hpk])
      have HRD := Lib.hid hrd; clear hrd
      clear hpc hpr hpe
      gi_wp2_with fail
      have hwhl : (whole (Tm.mk nd cs).flat).isSome = true := by rw [whole_flat huw]; rfl
      have hsm : SmallN (Tm.mk nd cs).flat := fun n hn => HSM.out n (by rw [← HFL.out]; exact hum n hn)
      have hl4 : (Tm.mk nd cs).flat.length ≤ 4000 := by have := HLE.out; rw [← HFL.out] at this; omega
      have HSR := Lib.hid (HS.out.below HBW.out)
      refine enterW2 (measured_any (Tm.mk nd cs).flat _ _ (HSR.out.alloc _) (HRD.out.alloc _) hsm hl4) ?_
      rintro e w3 ⟨um, rfl, hown0, hb3⟩
      have hown := hown0 hwhl
      rw [hwhl]
      clear hown0
      obtain ⟨gm, capm, rfl, hgm1, hgm2, _, _, _, _, _⟩ := ownsRow_open hown (by simp [flat_mk])
      have HO := Lib.hid (RowAt.of_own hown); clear hown
      have hk3 : Blk w3 wr.heap.size 3 #[.int .i64 pk] := (Blk.new wr _ _).below hb3 (by simp)
      have hbw3 : Below wr.heap.size wr w3 := ((Below.refl _ wr).alloc (Nat.le_refl _) _).trans (hb3.mono (by simp))
      have HK3 := Lib.hid hk3; clear hk3
      have HB3 := Lib.hid hbw3; clear hbw3 hb3
      gi_wp2_with fail
      refine enterW2 (backward_any _ _ _ _ _ _ _) ?_
      rintro e W6 ⟨rfl, rfl⟩
      gi_wp2_with fail
      obtain ⟨W0, hW0, hsz, hbwW, bn, bt, bm⟩ := three_blocks w3 #[.slice none 0 0] #[.slice (some ⟨b, off, none⟩) (Tm.mk nd cs).flat.length cap] #[.slice (some ⟨gm, 0, none⟩) (Tm.mk nd cs).flat.length capm] 30 30 73
      rw [hW0]
      have hs3 : wr.heap.size ≤ w3.heap.size := HB3.out.size
      have hit := back_iter 2 nd cs huw hl4 b off cap (w3.heap.size + 1) (w3.heap.size + 1 + 1) (.slice (some ⟨gm, 0, none⟩) (Tm.mk nd cs).flat.length capm) (fun x => x < W0.heap.size ∧ x ≠ w3.heap.size) W0
        ((HSR.out.below HB3.out).below hbwW) (by rw [bt.cell 0]; rfl) (by rw [bm.cell 0]; rfl) ((HRD.out.below HB3.out).below hbwW) (HO.out.below hbwW) ⟨by omega, by omega⟩ ⟨by omega, by omega⟩ ⟨by omega, by omega⟩ (fun g hg => by simp [Value.ownBlock] at hg; omega)
      have HIT := Lib.hid hit; clear hit
      have hbr : Below wr.heap.size wr W0 := HB3.out.trans (hbwW.mono hs3)
      have HBR := Lib.hid hbr; clear hbr
      have hk0 : Blk W0 wr.heap.size 3 #[.int .i64 pk] := HK3.out.below hbwW (by have := HK3.out.lt; omega)
      have HK0 := Lib.hid hk0; clear hk0
      have hk3 : wr.heap.size < w3.heap.size := HK3.out.lt
      have h0 : NextI w3.heap.size W0 b off cap cs pk 0 (fun _ => False) W0 := ⟨Chg.refl _ _, (fun b h => h.elim), by omega, by rw [nxtV_zero]; exact bn⟩
      have H0 := Lib.hid h0; clear h0
      have HSZ := Lib.hid hsz; clear hsz
      have HRDW := Lib.hid ((HRD.out.below HB3.out).below hbwW)
      clear hbwW bn bt bm hW0 p0 hsm
      refine wpIn_rangeFunc_round (F := Fence.wide) (n := 3) (K := fun x => x < W0.heap.size ∧ x ≠ w3.heap.size) (w0 := W0) (N := cs.length) (enc := encB b off cap cs)
        (lb := #[.pointer (some ⟨w3.heap.size + 1, 0, none⟩), .pointer (some ⟨w3.heap.size + 1 + 1, 0, none⟩)]) (gf := 87) rfl (by omega) rfl trivial (enters_of Tryd.func87 (by kernel_rfl) rfl) HIT.out
        (Kept.refl _ _) (Nat.le_refl _) (fun b h => h.1) (fun j => rfl) (NextI w3.heap.size W0 b off cap cs pk) (fun _ _ _ _ => False) (NextI.stab _ _ _ _ _ _ _)
        (fun _ _ _ _ _ _ h _ _ => h) H0.out ?round ?done (fun D cd j S A _ h => h.elim)
      case round =>
        intro l' j S A hj hi hS
        obtain ⟨i, hi'⟩ : ∃ i, cs.length = i + 1 + j := ⟨cs.length - 1 - j, by omega⟩
        have e3 : cs.length - 1 - j = i := by omega
        obtain ⟨d, hd⟩ : ∃ d, startP cs (i + 1) - startP cs i = d := ⟨_, rfl⟩
        obtain ⟨s0, hs0⟩ : ∃ s0, startP cs i = s0 := ⟨_, rfl⟩
        have hpv : partV b off cap cs i = .slice (some ⟨b, off + s0 * 4, none⟩) d (cap - s0) := by unfold partV; rw [hd, hs0]
        have hen : encB b off cap cs j = #[.int .i64 (i : Int), .slice (some ⟨b, off + s0 * 4, none⟩) d (cap - s0)] := by unfold encB; rw [e3, hpv]
        rw [hen]
        have HI := Lib.hid hi; clear hi
        have HSS := Lib.hid hS; clear hS
        have HPV := Lib.hid hpv
        have HII := Lib.hid hi'
        clear hen hd hs0 e3 hi' hpv
        gi_wp2_with fail
        refine ⟨Kept.refl _ _, fun C hC => ?_⟩
        obtain ⟨hch, hSC, hbn, hblk⟩ := NextI.stab _ _ _ _ _ _ _ j S A C S HI.out hC (fun b h => .inl h)
        have cK : C.cell? ⟨wr.heap.size, 0, none⟩ = some (.int .i64 pk) := hch.cell (by show ¬ _; simp; omega) (by rw [HK0.out.cell 0]; rfl)
        have c1 : C.cell? ⟨w3.heap.size, 0, none⟩ = some (nxtV b off cap cs pk j) := hblk.cell 0
        have c2 : C.frozen? ⟨w3.heap.size, 0, none⟩ = false := hblk.frozen 0
        have HCH := Lib.hid hch; clear hch
        have HSC := Lib.hid hSC; clear hSC
        have HBLK := Lib.hid hblk; clear hblk
        have HCC := Lib.hid hC; clear hC
        by_cases hh : (i : Int) = pk
        · have hbb : ((i : Int) == pk) = true := by simp [hh]
          gi_wp2_with fail
          refine ⟨(Chg.setCell _ _ _ (S := fun x => x = w3.heap.size) rfl).kept (fun x h => ?_), HCH.out.trans (Chg.setCell _ _ _ (.inl rfl)), HSC.out, hbn, ?_⟩
          · rcases h with h | h
            · have := HSC.out x h; omega
            · exact h.2
          · rw [nxtV_hit HII.out hh, HPV.out]
            exact HBLK.out.set_ 0 _
        · have hbb : ((i : Int) == pk) = false := by simp [hh]
          gi_wp2_with fail
          refine ⟨Kept.refl _ _, HCH.out, HSC.out, hbn, ?_⟩
          rw [nxtV_miss HII.out hh]
          exact HBLK.out
      case done =>
        intro D S A hi hSD hwD hK
        obtain ⟨hch, hSA, hbn, hblk⟩ := hi
        have c1 : A.cell? ⟨w3.heap.size, 0, none⟩ = some (nxtV b off cap cs pk cs.length) := hblk.cell 0
        have HCH := Lib.hid hch; clear hch
        have HSA := Lib.hid hSA; clear hSA
        have HKK := Lib.hid hK; clear hK
        clear hblk
        by_cases hin : 0 ≤ pk ∧ pk < (cs.length : Int)
        · obtain ⟨i, rfl⟩ := Int.eq_ofNat_of_zero_le hin.1
          have hil : i < cs.length := by omega
          rw [nxtV_in hil] at c1
          unfold partV at c1
          have hpr := part_read HRDW.out hil
          unfold partV at hpr
          obtain ⟨d, hd⟩ : ∃ d, startP cs (i + 1) - startP cs i = d := ⟨_, rfl⟩
          obtain ⟨s0, hs0⟩ : ∃ s0, startP cs i = s0 := ⟨_, rfl⟩
          rw [hd, hs0] at hpr c1
          have HPR := Lib.hid hpr; clear hpr
          clear hd hs0
          have hq := fun w n c => Lib.run_eql_slice_nil (P := Tryd.prog) w 30 23 (some ⟨b, off + s0 * 4, none⟩) n c 0 0 Tryd.underlying30
          have hbA : Below w.heap.size w A := HBW.out.trans ((HBR.out.trans (HCH.out.to_below (n := wr.heap.size) (fun x h => by have := HSZ.out; omega) HBR.out.size)).mono HBW.out.size)
          have hdA : ∀ D', D' ∈ Ds → A.heap[D']? = some (.deferred (some [])) := fun D' h => by
            have h1 := (Array.getElem?_eq_some_iff.1 (HDS.out D' h).2).1
            exact (HCH.out.block D' (by have := HSZ.out; omega) (by have := HSZ.out; omega)).trans ((HBR.out.block D' h1).trans (HDS.out D' h).2)
          have hnd2 : (D :: Ds).Nodup := List.nodup_cons.2 ⟨fun h => by have h1 := (Array.getElem?_eq_some_iff.1 (HDS.out D h).2).1; have := HSZ.out; omega, hnd'⟩
          have hwl : w.heap.size ≤ D := by have := HBW.out.size; have := HSZ.out; omega
          have HBA := Lib.hid hbA; clear hbA
          have HDA := Lib.hid hdA; clear hdA
          have HN2 := Lib.hid hnd2; clear hnd2
          gi_wp2_with fail
          refine ⟨⟨_, _, _, _, _, _, _, _, _, _, _, _, _, _, _, _, _, _, _, _, _, _, _, _, _, _, _, _, _, _, ⟨k + 1, cs[i], D :: Ds, by omega, by go_num, walk_ok hlt HWK.out hpk hil, ?_, rfl, HN2.out, ?_, HBA.out⟩, rfl⟩, by simp [intOf]; omega⟩
          · exact RowAt.kept HPR.out (HCH.out.kept (K := fun x => x < W0.heap.size ∧ x ≠ w3.heap.size) (fun x h => by omega)) (fun g hg => by simp [Value.ownBlock] at hg; have := HSZ.out; omega)
          · intro D' hD'
            rcases List.mem_cons.1 hD' with rfl | h
            · exact ⟨hwl, HKK.out⟩
            · exact ⟨(HDS.out D' h).1, HDA.out D' h⟩
        · rw [nxtV_out hin] at c1
          have hq := fun w n c => Lib.run_eql_slice_nil (P := Tryd.prog) w 30 23 none n c 0 0 Tryd.underlying30
          have hbA : Below w.heap.size w A := HBW.out.trans ((HBR.out.trans (HCH.out.to_below (n := wr.heap.size) (fun x h => by have := HSZ.out; omega) HBR.out.size)).mono HBW.out.size)
          have hdA : ∀ D', D' ∈ Ds → A.heap[D']? = some (.deferred (some [])) := fun D' h => by
            have h1 := (Array.getElem?_eq_some_iff.1 (HDS.out D' h).2).1
            exact (HCH.out.block D' (by have := HSZ.out; omega) (by have := HSZ.out; omega)).trans ((HBR.out.block D' h1).trans (HDS.out D' h).2)
          have hnd2 : (D :: Ds).Nodup := List.nodup_cons.2 ⟨fun h => by have h1 := (Array.getElem?_eq_some_iff.1 (HDS.out D h).2).1; have := HSZ.out; omega, hnd'⟩
          have hwl : w.heap.size ≤ D := by have := HBW.out.size; have := HSZ.out; omega
          have HBA := Lib.hid hbA; clear hbA
          have HDA := Lib.hid hdA; clear hdA
          have HN2 := Lib.hid hnd2; clear hnd2
          gi_wp2_with fail
          obtain ⟨e1, e2⟩ := partE_none HC.out HWH.out (walk_none hlt HWK.out (by rw [hpk]; exact hin))
          refine postMs (D :: Ds) _ HN2.out ?_ (fun w' => results_tmp2 rfl _ _ _) (fun w' hc => ⟨_, by rw [e1]; rfl, by rw [e2]; exact ReadN.nil _, ?_⟩)
          · intro D' hD'
            rcases List.mem_cons.1 hD' with rfl | h
            · exact HKK.out
            · exact HDA.out D' h
          · refine HBA.out.trans (hc.to_below (fun D' hD' => ?_) HBA.out.size)
            rcases List.mem_cons.1 hD' with rfl | h
            · exact hwl
            · exact (HDS.out D' h).1
    · obtain rfl : k = p.length := by omega
      rw [List.take_length] at HWK
      obtain ⟨au, cu, rfl⟩ := ReadN.len_slice hrd
      have HRD := Lib.hid hrd; clear hrd
      gi_wp2_with fail
      have hone : Hid (∀ x, x ∈ u.flat.flatMap nodeV → x.oneCell' = true) := nodes_one _
      have hnn : Hid (u.flat.length ≤ 1000000000) := by
        show _ ≤ _
        have := HLE.out
        rw [← HFL.out] at this
        omega
      refine enterW2 (cloneN_own _ _ _ _ HRD.out hone hnn) ?_
      rintro e w5 ⟨a9, c9, rfl, hr9, hl9, hb9⟩
      have HR9 := Lib.hid hr9; clear hr9
      have HL9 := Lib.hid hl9; clear hl9
      have HB9 := Lib.hid hb9; clear hb9
      gi_wp2_with fail
      obtain ⟨e1, e2⟩ := partE_ok HC.out HWH.out HWK.out
      have hdl : ∀ D, D ∈ Ds → D < wr.heap.size := fun D hD => (Array.getElem?_eq_some_iff.1 (HDS.out D hD).2).1
      refine postMs Ds _ hnd' (fun D hD => (HB9.out.block D (hdl D hD)).trans (HDS.out D hD).2) (fun w' => results_tmp2 rfl _ _ _) (fun w' hc => ⟨_, by rw [e1]; rfl, ?_, ?_⟩)
      · rw [e2]
        exact RowAt.kept HR9.out (hc.kept (K := fun b => b ∉ Ds) (fun b h => h)) (fun g hg hD => by have := HL9.out g hg; have := hdl g hD; omega)
      · exact (HBW.out.trans (HB9.out.mono HBW.out.size)).trans (hc.to_below (fun D hD => (HDS.out D hD).1) (by have := HBW.out.size; have := HB9.out.size; omega))

theorem tpart_any (l : List Nd) (p : List Int) (v vp : Value) (w : World) (hS : ShapesAt w) (hv : ReadN w v l) (hs : SmallN l) (hp : ReadI w vp p) :
    Calls Tryd.prog 27 #[v, vp] w (PartPost l p w) := by
  by_cases hk : chk l = 0
  · exact tpart_good l p v vp w hS hv hs hp hk
  · exact tpart_bad l p v vp w hS hv hs hp hk

end Go.Proofs.YtjhgpifccleknaaDoor
