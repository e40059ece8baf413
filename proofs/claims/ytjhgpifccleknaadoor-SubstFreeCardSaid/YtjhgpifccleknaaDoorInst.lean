/- subst.Inst: what it comes to, for every rows of nodes, at most a thousand of them; where the table of shapes lies as it is laid. -/
import Derived.Test.YtjhgpifccleknaaDoorSubst
namespace Go.Proofs.YtjhgpifccleknaaDoor
set_option linter.unusedSimpArgs false
set_option linter.unusedVariables false
open Go.RowKit Go.BigFrame

def iU (L : List (List Nd)) (v : Int) : Option (List Nd) := L[v.toNat]?
def iB (L : List (List Nd)) (v : Int) (x : Nat) : Int := if v.toNat < L.length then (x : Int) else (L.length : Int)
/-- the first error of rows -/
def chks (L : List (List Nd)) : Int := fstE (L.map chk)
def insE (L : List (List Nd)) (t : List Nd) : Int := if chks (t :: L) = 0 then (match whole t with | some T => putE (iU L) (iB L) T | none => 0) else chks (t :: L)
def insL (L : List (List Nd)) (t : List Nd) : List Nd := if insE L t = 0 then (match whole t with | some T => putL (iU L) (iB L) T | none => []) else []
theorem chks_zero {L : List (List Nd)} : chks L = 0 ↔ ∀ l, l ∈ L → chk l = 0 := by
  unfold chks
  rw [fstE_zero]
  simp
theorem chks_at {L : List (List Nd)} {j : Nat} (hj : j < L.length) (h : ∀ i (hi : i < j) (hl : i < L.length), chk L[i] = 0) (hn : chk L[j] ≠ 0) : chks L = chk L[j] := by
  induction L generalizing j with
  | nil => simp at hj
  | cons x r ih =>
    unfold chks
    rw [List.map_cons, fstE_cons]
    cases j with
    | zero => rw [if_neg (by simpa using hn)]; rfl
    | succ j =>
      have h0 := h 0 (by omega) (by simp)
      simp only [List.getElem_cons_zero] at h0
      rw [if_pos h0]
      exact ih (by simpa using hj) (fun i hi hl => by have := h (i + 1) (by omega) (by simpa using hl); simpa using this) (by simpa using hn)

set_option maxHeartbeats 1000000 in
theorem inst1_in (v : Int) (x : Nat) (bl pb po cp n : Nat) (au : Option Addr) (lu cu : Nat) (C : World) (cc : C.cell? ⟨bl, 0, none⟩ = some (.slice (some ⟨pb, po, none⟩) n cp)) (k : Nat) (hv : v = (k : Int)) (hk : k < n) (hn : n ≤ 1000) (ce : C.cell? ⟨pb, po + k, none⟩ = some (.slice au lu cu)) (hx : x ≤ 118) :
    Calls Tryd.prog 83 #[.int .i64 v, .int .i64 (x : Int), .pointer (some ⟨bl, 0, none⟩)] C
      fun e C' => e = .returned (.tuple #[.slice au lu cu, .int .i64 (x : Int)]) ∧ ∃ n, C' = C.drewN n := by
  subst hv
  go_enter Tryd.func83, Tryd.ntmps83
  go_wp2_with fail
  go_ret2
  exact ⟨rfl, 0, rfl⟩
set_option maxHeartbeats 1000000 in
theorem inst1_out (v : Int) (x : Nat) (bl cp n : Nat) (al : Option Addr) (C : World) (cc : C.cell? ⟨bl, 0, none⟩ = some (.slice al n cp)) (k : Nat) (hv : v = (k : Int)) (hk : ¬ k < n) (hn : n ≤ 1000) (hx : x ≤ 118) :
    Calls Tryd.prog 83 #[.int .i64 v, .int .i64 (x : Int), .pointer (some ⟨bl, 0, none⟩)] C
      fun e C' => e = .returned (.tuple #[.slice none 0 0, .int .i64 (n : Int)]) ∧ ∃ n, C' = C.drewN n := by
  subst hv
  have hd : decide (k < n) = false := by simpa using hk
  go_enter Tryd.func83, Tryd.ntmps83
  go_wp2_with fail
  go_quiet (fail)
  go_wp2_with fail
  go_ret2
  exact ⟨rfl, _, rfl⟩

def InsPost (L : List (List Nd)) (t : List Nd) (w : World) (e : Ending) (w' : World) : Prop :=
  ∃ v, e = .returned (.tuple #[v, .int .i64 (insE L t)]) ∧ OwnN w.heap.size w' v (insL L t) ∧ Below w.heap.size w w'
theorem InsPost.bad {L : List (List Nd)} {t : List Nd} {w w' : World} {c : Int} (hc : insE L t = c) (h0 : c ≠ 0) (hb : Below w.heap.size w w') : InsPost L t w (.returned (.tuple #[.slice none 0 0, .int .i64 c])) w' :=
  ⟨_, by rw [hc], by unfold insL; rw [hc, if_neg h0]; exact World.ownsRow_nil _ _ _ _, hb⟩

def InsRel (M : List (List Nd)) (w1 : World) (i : Value) (wr : World) : Prop :=
  ∃ j : Nat, j ≤ M.length ∧ i = .int .i64 (j : Int) ∧ (∀ i (hi : i < j) (hl : i < M.length), chk M[i] = 0) ∧ Below w1.heap.size w1 wr

set_option maxRecDepth 20000 in
set_option maxHeartbeats 4000000 in
theorem inst_any (t : List Nd) (L : List (List Nd)) (vt vL : Value) (w : World) (hS : ShapesAt w) (ht : ReadN w vt t) (hst : SmallN t) (hL : ReadNN w vL L) (hsL : SmallNN L) (hn : L.length ≤ 1000) :
    Calls Tryd.prog 54 #[vt, vL] w (InsPost L t w) := by
  obtain ⟨i0, hi, hz0, hz1, hz2⟩ := info_parts Tryd.infoNodes
  obtain ⟨at_, ct, rfl⟩ := ReadN.len_slice ht
  obtain ⟨vs, hvl, hvr, hve⟩ := id hL
  obtain ⟨al, cl, rfl, _⟩ := id hvr.form
  have hone : ∀ x, x ∈ vs → x.oneCell' = true := by
    intro x hx
    obtain ⟨i, hi', rfl⟩ := List.mem_iff_getElem.1 hx
    obtain ⟨a, c, h, _⟩ := RowAt.form (hve i (by omega) _ (List.getElem?_eq_getElem hi'))
    rw [h]
    rfl
  obtain ⟨w1, hw1⟩ : ∃ w1, (w.alloc (.cells #[.slice al L.length cl] 41)).alloc (.cells #[.slice at_ t.length ct] 30) = w1 := ⟨_, rfl⟩
  have h1s : w1.heap.size = w.heap.size + 2 := by rw [← hw1]; simp
  have ql : Blk w1 w.heap.size 41 #[.slice al L.length cl] := by rw [← hw1]; exact (Blk.new _ _ _).alloc _
  have qo : w1.ownsRow (w.heap.size + 1) 30 1 (.slice (some ⟨w.heap.size + 1, 0, none⟩) 1 1) 1 [.slice at_ t.length ct] := by
    rw [← hw1]
    have := World.ownsRow_lit (base := w.heap.size + 1) (e := 30) (size := 1) (w.alloc (.cells #[.slice al L.length cl] 41)) #[.slice at_ t.length ct] 1 (by simp) (by unfold maxLen; omega) rfl
    rwa [World.size_alloc] at this
  have hb1 : Below w.heap.size w w1 := by rw [← hw1]; exact ((Below.refl _ w).alloc (Nat.le_refl _) _).alloc (by simp) _
  have HSW : Hid (∀ x, Below w.heap.size w x → ShapesAt x) := fun x hb => hS.below hb
  have HTW : Hid (∀ x, Below w.heap.size w x → ReadN x (.slice at_ t.length ct) t) := fun x hb => ht.below hb
  have HLW : Hid (∀ x, Below w.heap.size w x → ReadNN x (.slice al L.length cl) L) := fun x hb => hL.below hb
  have HVR : Hid (∀ x, Below w.heap.size w x → RowAt x 1 (.slice al L.length cl) L.length vs) := fun x hb => hvr.below hb
  have HVE : Hid (∀ x, Below w.heap.size w x → ∀ i (h : i < L.length) u, vs[i]? = some u → ReadN x u L[i]) := fun x hb i h u hu => (hve i h u hu).below hb
  have HA1 := Lib.hid qo
  have HA2 : Hid (RowAt w1 1 (.slice al L.length cl) L.length vs) := hvr.below hb1
  have HA3 := Lib.hid hone
  have hA4 : (1 + L.length) * 24 ≤ 140737488355328 := by omega
  have hA5 : 1 + L.length ≤ maxLen := by unfold maxLen; omega
  have hA6 : w.heap.size + 1 ≤ w1.heap.size := by omega
  have HST := Lib.hid hst
  have HSL := Lib.hid hsL
  have HB1 := Lib.hid hb1
  have QL := Lib.hid ql
  have HVL := Lib.hid hvl
  have c3 : w1.cell? ⟨w.heap.size, 0, none⟩ = some (.slice al L.length cl) := ql.cell 0
  obtain ⟨M, hM⟩ : ∃ M, t :: L = M := ⟨_, rfl⟩
  obtain ⟨m, hm⟩ : ∃ m, L.length = m := ⟨_, rfl⟩
  have hMl : M.length = m + 1 := by rw [← hM, ← hm]; rfl
  have HM := Lib.hid hM
  have HMM := Lib.hid hm
  have HML := Lib.hid hMl
  rw [hm] at c3 hA4 hA5 HA2 hw1 ⊢
  clear hS ht hst hL hsL hb1 ql qo hvl hvr hve hone hM hm hMl
  go_enter Tryd.func54, Tryd.ntmps54
  go_wp2_with (at_builtin; go_must (refine wpList_append_row rfl (.tmp 10) (.tmp 11) 41 rfl (w.heap.size + 1) 30 i0 (.slice none 0 0) 1 24 Tryd.underlying41 hi hz0 hz1 hz2 rfl (by decide) (.slice (some ⟨w.heap.size + 1, 0, none⟩) 1 1) 1 [.slice at_ t.length ct] rfl HA1.out (.slice al m cl) m vs rfl HA2.out HA3.out hA4 hA5 hA6 ?_); intro v5 w5 hown5 hg5 hat5; obtain ⟨g, c5, rfl, hg1, hg2, hg3, hg4, _, hgc, _⟩ := ownsRow_open hown5 (by omega))
  have hbb5 : Below w.heap.size w w5 := HB1.out.grown hg5 (by omega) (fun g hg => by simp [Value.ownBlock] at hg; omega)
  have hql5 : Blk w5 w.heap.size 41 #[.slice al m cl] := by
    have h := QL.out
    rw [HMM.out] at h
    exact h.grown hg5 (fun h => by simp [Value.ownBlock] at h)
  have HBB5 := Lib.hid hbb5
  have HQL5 := Lib.hid hql5
  have hgc' : ∀ j, j < m + 1 → w5.cell? ⟨g, j, none⟩ = ([.slice at_ t.length ct] ++ vs)[j]? := fun j hj => hgc j (by omega)
  have HGC := Lib.hid hgc'
  have hm10 : m ≤ 1000 := by have := HMM.out; omega
  have hc59 : c5 ≤ 9223372036854775807 := by unfold maxLen at hg4; omega
  have e1 : 1 + m = m + 1 := by omega
  rw [e1] at hg3 ⊢
  clear hown5 hg5 hat5 hbb5 hql5 hgc hgc' hg4 c3 hw1 e1 HA1 HA2 HA3
  go_wp2_with fail
  go_loopw [14] (fun i wr => InsRel M w5 i wr) (fun i _ => m + 1 - (intOf i).toNat)
  case atStart => exact ⟨0, Nat.zero_le _, rfl, (fun i hi => by omega), Below.refl _ _⟩
  case round =>
    rename World => wr
    obtain ⟨j, hj, rfl, hall, hb⟩ := hrel
    have hbw : Below w.heap.size w wr := HBB5.out.trans (hb.mono HBB5.out.size)
    have HBW := Lib.hid hbw
    have HB := Lib.hid hb
    have HALL := Lib.hid hall
    rw [HML.out] at hj
    by_cases hlt : j < m + 1
    · have hjM : j < M.length := by rw [HML.out]; exact hlt
      obtain ⟨l, hl⟩ : ∃ l, M[j] = l := ⟨_, rfl⟩
      obtain ⟨av, cv, hcell, hrd⟩ : ∃ av cv, wr.cell? ⟨g, j, none⟩ = some (.slice av l.length cv) ∧ ReadN wr (.slice av l.length cv) l := by
        have hc5 := (hb.cell (p := ⟨g, j, none⟩) hg2).trans (HGC.out j hlt)
        cases j with
        | zero =>
          have : l = t := by rw [← hl]; simp only [← HM.out, List.getElem_cons_zero]
          rw [this]
          exact ⟨at_, ct, hc5, HTW.out _ hbw⟩
        | succ i =>
          have hi' : i < L.length := by rw [HMM.out]; omega
          have : l = L[i] := by rw [← hl]; simp only [← HM.out, List.getElem_cons_succ]
          have hvl' : i < vs.length := by rw [HVL.out]; exact hi'
          have hvi : vs[i]? = some vs[i] := List.getElem?_eq_getElem hvl'
          have hr := HVE.out _ hbw i hi' _ hvi
          obtain ⟨a, c, he, _⟩ := RowAt.form hr
          rw [this]
          refine ⟨a, c, ?_, by rw [he] at hr; exact hr⟩
          rw [hc5, ← he]
          simp [hvi]
      have hsl : SmallN l := by
        have hmem : l ∈ M := by rw [← hl]; exact List.getElem_mem hjM
        rw [← HM.out] at hmem
        rcases List.mem_cons.1 hmem with h | h
        · rw [h]; exact HST.out
        · exact HSL.out l h
      have hck := tcheck_any l _ wr (HSW.out _ HBW.out) hrd hsl
      obtain ⟨c, hc⟩ : ∃ c, chk l = c := ⟨_, rfl⟩
      rw [hc] at hck
      have HCK := Lib.hid hck
      have HC := Lib.hid hc
      have HL := Lib.hid hl
      clear hck hc hl hrd hsl hall hb hbw
      go_wp2_with fail
      refine HCK.out.mono ?_
      rintro e w6 ⟨rfl, hb6⟩
      have HB6 := chainB HB hb6
      have HBW6 := chainB HBW hb6
      clear hb6
      by_cases h0 : c = 0
      · subst h0
        go_wp2_with fail
        go_roundw
        case rel =>
          refine ⟨j + 1, by rw [HML.out]; omega, by go_num, fun i hi hl => ?_, HB6.out⟩
          by_cases e : i = j
          · subst e; rw [HL.out]; exact HC.out
          · exact HALL.out i (by omega) hl
        case measure => simp [intOf]; omega
      · have hcb : (c != 0) = true := by simpa using h0
        have hE : insE L t = c := by
          have h1 := chks_at hjM (fun i hi hl => HALL.out i hi hl) (by rw [HL.out, HC.out]; exact h0)
          rw [HL.out, HC.out] at h1
          unfold insE
          rw [HM.out, if_neg (by rw [h1]; exact h0), h1]
        have HE := Lib.hid hE
        clear hE
        go_wp2_with fail
        go_ret2
        exact InsPost.bad HE.out h0 HBW6.out
    · obtain rfl : j = m + 1 := by omega
      have hz : chks (t :: L) = 0 := by
        rw [HM.out]
        refine chks_zero.2 fun l hl => ?_
        obtain ⟨i, hi, rfl⟩ := List.mem_iff_getElem.1 hl
        exact hall i (by rw [HML.out] at hi; exact hi) hi
      have hct : chk t = 0 := chks_zero.1 hz t (by simp)
      have hcL : ∀ l, l ∈ L → chk l = 0 := fun l hl => chks_zero.1 hz l (by simp [hl])
      obtain ⟨hle, T, hw, hdep⟩ := chk_ok hct
      obtain ⟨hwf, hfl⟩ := whole_some hw
      have hE : insE L t = putE (iU L) (iB L) T := by unfold insE; rw [if_pos hz, hw]
      have hLL : insL L t = putL (iU L) (iB L) T := by
        unfold insL
        rw [hE, hw]
        unfold putL
        by_cases h : putE (iU L) (iB L) T = 0
        · rw [if_pos h]
        · rw [if_neg h, if_neg h]
      have hqlw : Blk wr w.heap.size 41 #[.slice al m cl] := HQL5.out.below hb HQL5.out.lt
      have hNN := HLW.out _ hbw
      have hput := put_any 83 #[.pointer (some ⟨w.heap.size, 0, none⟩)] (enters_of Tryd.func83 (by kernel_rfl) rfl)
        (iU L) (iB L) (fun v => if v.toNat < L.length then vs.getD v.toNat (.slice none 0 0) else .slice none 0 0)
        (fun v U h => hcL U (List.mem_of_getElem? h)) (fun v U h => HSL.out U (List.mem_of_getElem? h))
        (fun v x => by unfold iB; split <;> omega) (fun v x _ _ _ => by unfold iB; split <;> omega)
        (fun v h => by
          have : ¬ v.toNat < L.length := fun h2 => by unfold iU at h; rw [List.getElem?_eq_getElem h2] at h; cases h
          exact if_neg this)
        T hwf (by rw [hfl]; exact hle) hdep (by rw [hfl]; exact HST.out) at_ ct wr (HSW.out _ hbw) (by rw [hfl]; exact HTW.out _ hbw)
        (fun v U h => by
          obtain ⟨hi', hU⟩ := List.getElem?_eq_some_iff.1 h
          have hvl' : v.toNat < vs.length := by rw [HVL.out]; exact hi'
          have hvi : vs[v.toNat]? = some vs[v.toNat] := List.getElem?_eq_getElem hvl'
          have hr := HVE.out _ hbw v.toNat hi' _ hvi
          rw [hU] at hr
          have hcU := hcL U (List.mem_of_getElem? h)
          obtain ⟨bb, oo, cc, he2, _⟩ := RowAt.pos hr (by obtain ⟨_, T2, hw2, _⟩ := chk_ok hcU; obtain ⟨_, hfl2⟩ := whole_some hw2; rw [← hfl2]; exact flat_pos T2)
          have hgd : vs.getD v.toNat (.slice none 0 0) = vs[v.toNat] := by rw [List.getD_eq_getElem?_getD, hvi]; rfl
          refine ⟨⟨bb, oo, none⟩, cc, ?_, ?_⟩
          · exact (if_pos hi').trans (hgd.trans he2)
          · rw [show (if v.toNat < L.length then vs.getD v.toNat (.slice none 0 0) else .slice none 0 0) = vs[v.toNat] from (if_pos hi').trans hgd]
            exact hr)
        (fun C v x hbc h1 h2 h3 => by
          have hbC : Below w.heap.size w C := hbw.trans (hbc.mono hbw.size)
          obtain ⟨kk, hkk⟩ := Int.eq_ofNat_of_zero_le h1
          have hkn : v.toNat = kk := by omega
          have hLm := HMM.out
          have hcc : C.cell? ⟨w.heap.size, 0, none⟩ = some (.slice al m cl) := (hqlw.below hbc hqlw.lt).cell 0
          by_cases hin : kk < L.length
          · obtain ⟨pb, po, cp', he, _, _, _, hcells⟩ := RowAt.pos (HVR.out C hbC) (by omega)
            obtain ⟨rfl, rfl⟩ : al = some ⟨pb, po, none⟩ ∧ cl = cp' := by simpa using he
            have hvl' : kk < vs.length := by rw [HVL.out]; exact hin
            have hvi : vs[kk]? = some vs[kk] := List.getElem?_eq_getElem hvl'
            obtain ⟨a, c, hv', _⟩ := RowAt.form (HVE.out C hbC kk hin _ hvi)
            have hce := hcells kk _ hvi
            rw [hv'] at hce
            have hgd : vs.getD v.toNat (.slice none 0 0) = vs[kk] := by rw [hkn, List.getD_eq_getElem?_getD, hvi]; rfl
            refine (inst1_in v x w.heap.size pb po cl m a (L[kk]).length c C hcc kk hkk (by omega) hm10 hce h3).mono fun e C' ⟨g1, g2⟩ => ⟨?_, g2⟩
            rw [g1, show (if v.toNat < L.length then vs.getD v.toNat (.slice none 0 0) else .slice none 0 0) = .slice a (L[kk]).length c from (if_pos (by omega)).trans (hgd.trans hv')]
            unfold iB
            rw [if_pos (by omega)]
          · refine (inst1_out v x w.heap.size cl m al C hcc kk hkk (by omega) hm10 h3).mono fun e C' ⟨g1, g2⟩ => ⟨?_, g2⟩
            rw [g1, show (if v.toNat < L.length then vs.getD v.toNat (.slice none 0 0) else .slice none 0 0) = .slice none 0 0 from if_neg (by omega)]
            unfold iB
            rw [if_neg (by omega), hLm])
      rw [hfl] at hput
      have HPUT := Lib.hid hput
      have HE := Lib.hid hE
      have HLL := Lib.hid hLL
      clear hput hE hLL hz hct hcL hw hwf hfl hqlw hNN hall hb hbw
      go_wp2_with fail
      refine HPUT.out.mono ?_
      rintro e w6 ⟨v6, rfl, ho6, hb6⟩
      rw [← HLL.out] at ho6
      rw [← HE.out]
      have HO6 := Lib.hid ho6
      have HB6 := chainB HBW hb6
      clear ho6 hb6
      go_wp2_with fail
      go_ret2
      exact ⟨_, rfl, ownsRow_base HO6.out HBW.out.size, HB6.out⟩

end Go.Proofs.YtjhgpifccleknaaDoor
