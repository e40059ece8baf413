/- subst.Subst and subst.Inst: what they come to, for every rows of nodes; where the table of shapes lies as it is laid. -/
import Derived.Test.YtjhgpifccleknaaDoorPut
namespace Go.Proofs.YtjhgpifccleknaaDoor
set_option linter.unusedSimpArgs false
set_option linter.unusedVariables false
open Go.RowKit Go.BigFrame

/-! ### Subst -/
def sU (k : Int) (u : List Nd) (v : Int) : Option (List Nd) := if v = k then some u else none
def sB (k : Int) (v : Int) (x : Nat) : Int := if v = k then (x : Int) + k else if k < v then 1 else 0
/-- the error of a substitution, and what it makes -/
def subE (k : Int) (u t : List Nd) : Int := if chk t = 0 then (if chk u = 0 then (if k < 0 ∨ 99 < k then 1 else match whole t with | some T => putE (sU k u) (sB k) T | none => 0) else chk u) else chk t
def subL (k : Int) (u t : List Nd) : List Nd := if subE k u t = 0 then (match whole t with | some T => putL (sU k u) (sB k) T | none => []) else []

set_option maxHeartbeats 1000000 in
theorem sub1_any (v : Int) (x : Nat) (k : Int) (bk bu : Nat) (au : Option Addr) (lu cu : Nat) (C : World) (ck : C.cell? ⟨bk, 0, none⟩ = some (.int .i64 k)) (cc : C.cell? ⟨bu, 0, none⟩ = some (.slice au lu cu)) (hv : 0 ≤ v ∧ v ≤ 99) (hk : 0 ≤ k ∧ k ≤ 99) (hx : x ≤ 118) :
    Calls Tryd.prog 81 #[.int .i64 v, .int .i64 (x : Int), .pointer (some ⟨bk, 0, none⟩), .pointer (some ⟨bu, 0, none⟩)] C
      fun e C' => e = .returned (.tuple #[if v = k then .slice au lu cu else .slice none 0 0, .int .i64 (sB k v x)]) ∧ ∃ n, C' = C.drewN n := by
  obtain ⟨hv0, hv9⟩ := hv
  obtain ⟨hk0, hk9⟩ := hk
  by_cases h1 : v = k
  · subst h1
    have hs : sB v v x = (x : Int) + v := by unfold sB; rw [if_pos rfl]
    rw [hs, if_pos rfl]
    clear hs
    go_enter Tryd.func81, Tryd.ntmps81
    go_wp2_with fail
    go_quiet (fail)
    go_wp2_with fail
    go_ret2
    exact ⟨rfl, _, rfl⟩
  · have hb : (v == k) = false := by simpa using h1
    rw [if_neg h1]
    by_cases h2 : k < v
    · have hs : sB k v x = 1 := by unfold sB; rw [if_neg h1, if_pos h2]
      have hd : decide (v > k) = true := by simpa using h2
      rw [hs]
      clear hs h1
      go_enter Tryd.func81, Tryd.ntmps81
      go_wp2_with fail
      go_ret2
      exact ⟨rfl, 0, rfl⟩
    · have hs : sB k v x = 0 := by unfold sB; rw [if_neg h1, if_neg h2]
      have hd : decide (v > k) = false := by simpa using h2
      rw [hs]
      clear hs h1
      go_enter Tryd.func81, Tryd.ntmps81
      go_wp2_with fail
      go_ret2
      exact ⟨rfl, 0, rfl⟩

def SubPost (k : Int) (u t : List Nd) (w : World) (e : Ending) (w' : World) : Prop :=
  ∃ v, e = .returned (.tuple #[v, .int .i64 (subE k u t)]) ∧ OwnN w.heap.size w' v (subL k u t) ∧ Below w.heap.size w w'
theorem SubPost.bad {k : Int} {u t : List Nd} {w w' : World} {c : Int} (hc : subE k u t = c) (h0 : c ≠ 0) (hb : Below w.heap.size w w') : SubPost k u t w (.returned (.tuple #[.slice none 0 0, .int .i64 c])) w' :=
  ⟨_, by rw [hc], by unfold subL; rw [hc, if_neg h0]; exact World.ownsRow_nil _ _ _ _, hb⟩

def SubRel (t u : List Nd) (w1 : World) (i : Value) (wr : World) : Prop :=
  ∃ j : Nat, j ≤ 2 ∧ i = .int .i64 (j : Int) ∧ (0 < j → chk t = 0) ∧ (1 < j → chk u = 0) ∧ Below w1.heap.size w1 wr

set_option maxRecDepth 20000 in
set_option maxHeartbeats 4000000 in
theorem subst_any (t u : List Nd) (vt vu : Value) (k : Int) (w : World) (hS : ShapesAt w) (ht : ReadN w vt t) (hst : SmallN t) (hu : ReadN w vu u) (hsu : SmallN u) :
    Calls Tryd.prog 52 #[vt, .int .i64 k, vu] w (SubPost k u t w) := by
  obtain ⟨at_, ct, rfl⟩ := ReadN.len_slice ht
  obtain ⟨au, cu, rfl⟩ := ReadN.len_slice hu
  obtain ⟨w1, hw1⟩ : ∃ w1, ((w.alloc (.cells #[.int .i64 k] 3)).alloc (.cells #[.slice au u.length cu] 30)).alloc (.cells #[.slice at_ t.length ct, .slice au u.length cu] 30) = w1 := ⟨_, rfl⟩
  have h1s : w1.heap.size = w.heap.size + 3 := by rw [← hw1]; simp
  have qk : Blk w1 w.heap.size 3 #[.int .i64 k] := by rw [← hw1]; exact ((Blk.new _ _ _).alloc _).alloc _
  have qu : Blk w1 (w.heap.size + 1) 30 #[.slice au u.length cu] := by
    rw [← hw1]
    have := Blk.new (w.alloc (.cells #[.int .i64 k] 3)) 30 #[.slice au u.length cu]
    rw [World.size_alloc] at this
    exact this.alloc _
  have ql : Blk w1 (w.heap.size + 1 + 1) 30 #[.slice at_ t.length ct, .slice au u.length cu] := by
    rw [← hw1]
    have := Blk.new ((w.alloc (.cells #[.int .i64 k] 3)).alloc (.cells #[.slice au u.length cu] 30)) 30 #[.slice at_ t.length ct, .slice au u.length cu]
    rwa [World.size_alloc, World.size_alloc] at this
  have hb1 : Below w.heap.size w w1 := by rw [← hw1]; exact (((Below.refl _ w).alloc (Nat.le_refl _) _).alloc (by simp) _).alloc (by simp; omega) _
  have HSW : Hid (∀ x, Below w.heap.size w x → ShapesAt x) := fun x hb => hS.below hb
  have HTW : Hid (∀ x, Below w.heap.size w x → ReadN x (.slice at_ t.length ct) t) := fun x hb => ht.below hb
  have HUW : Hid (∀ x, Below w.heap.size w x → ReadN x (.slice au u.length cu) u) := fun x hb => hu.below hb
  have HST := Lib.hid hst
  have HSU := Lib.hid hsu
  have HB1 := Lib.hid hb1
  have QK := Lib.hid qk
  have QU := Lib.hid qu
  have QL := Lib.hid ql
  have H1S := Lib.hid h1s
  obtain ⟨c, hc⟩ : ∃ c, chk t = c := ⟨_, rfl⟩
  obtain ⟨d, hd⟩ : ∃ d, chk u = d := ⟨_, rfl⟩
  have HC := Lib.hid hc
  have HD := Lib.hid hd
  clear hS ht hu hst hsu hb1 qk qu ql h1s hc hd
  go_enter Tryd.func52, Tryd.ntmps52
  go_wp2_with fail
  go_loopw [15] (fun i wr => SubRel t u w1 i wr) (fun i _ => 2 - (intOf i).toNat)
  case atStart => exact ⟨0, by omega, rfl, (fun h => by omega), (fun h => by omega), Below.refl _ _⟩
  case round =>
    rename World => wr
    obtain ⟨j, hj, rfl, hjt, hju, hb⟩ := hrel
    have hs1 := H1S.out
    have hbw : Below w.heap.size w wr := HB1.out.trans (hb.mono (by omega))
    have l0 : wr.cell? ⟨w.heap.size + 1 + 1, 0, none⟩ = some (.slice at_ t.length ct) := (QL.out.below hb QL.out.lt).cell 0
    have l1 : wr.cell? ⟨w.heap.size + 1 + 1, 1, none⟩ = some (.slice au u.length cu) := (QL.out.below hb QL.out.lt).cell 1
    have ck : wr.cell? ⟨w.heap.size, 0, none⟩ = some (.int .i64 k) := (QK.out.below hb QK.out.lt).cell 0
    have HBW := Lib.hid hbw
    have HB := Lib.hid hb
    have HJT := Lib.hid hjt
    have HJU := Lib.hid hju
    clear hb hbw hjt hju hs1 hw1
    have hcase : j = 0 ∨ j = 1 ∨ j = 2 := by omega
    rcases hcase with rfl | rfl | rfl
    · go_wp2_with fail
      refine (tcheck_any t _ wr (HSW.out _ HBW.out) (HTW.out _ HBW.out) HST.out).mono ?_
      rintro e w3 ⟨rfl, hb3⟩
      rw [HC.out]
      have HB3 := chainB HB hb3
      have HBW3 := chainB HBW hb3
      clear hb3
      by_cases h0 : c = 0
      · subst h0
        go_wp2_with fail
        go_roundw
        case rel => exact ⟨1, by omega, rfl, fun _ => HC.out, (fun h => by omega), HB3.out⟩
        case measure => simp [intOf]
      · have hcb : (c != 0) = true := by simpa using h0
        have hE : subE k u t = c := by unfold subE; rw [if_neg (by rw [HC.out]; exact h0), HC.out]
        have HE := Lib.hid hE
        clear hE
        go_wp2_with fail
        go_ret2
        exact SubPost.bad HE.out h0 HBW3.out
    · go_wp2_with fail
      refine (tcheck_any u _ wr (HSW.out _ HBW.out) (HUW.out _ HBW.out) HSU.out).mono ?_
      rintro e w3 ⟨rfl, hb3⟩
      rw [HD.out]
      have HB3 := chainB HB hb3
      have HBW3 := chainB HBW hb3
      clear hb3
      by_cases h0 : d = 0
      · subst h0
        go_wp2_with fail
        go_roundw
        case rel => exact ⟨2, by omega, rfl, (fun _ => HJT.out (by omega)), fun _ => HD.out, HB3.out⟩
        case measure => simp [intOf]
      · have hcb : (d != 0) = true := by simpa using h0
        have hE : subE k u t = d := by unfold subE; rw [if_pos (HJT.out (by omega)), if_neg (by rw [HD.out]; exact h0), HD.out]
        have HE := Lib.hid hE
        clear hE
        go_wp2_with fail
        go_ret2
        exact SubPost.bad HE.out h0 HBW3.out
    · have hct := HJT.out (by omega)
      have hcu := HJU.out (by omega)
      by_cases hk : k < 0 ∨ 99 < k
      · have hE : subE k u t = 1 := by unfold subE; rw [if_pos hct, if_pos hcu, if_pos hk]
        have HE := Lib.hid hE
        clear hE hct hcu
        rcases hk with hk | hk
        · go_wp2_with fail
          go_ret2
          exact SubPost.bad HE.out (by omega) HBW.out
        · have hk2 : ¬ k < 0 := by omega
          go_wp2_with fail
          go_ret2
          exact SubPost.bad HE.out (by omega) HBW.out
      · obtain ⟨hle, T, hw, hdep⟩ := chk_ok hct
        obtain ⟨hwf, hfl⟩ := whole_some hw
        have hE : subE k u t = putE (sU k u) (sB k) T := by unfold subE; rw [if_pos hct, if_pos hcu, if_neg hk, hw]
        have hL : subL k u t = putL (sU k u) (sB k) T := by
          unfold subL
          rw [hE, hw]
          unfold putL
          by_cases h : putE (sU k u) (sB k) T = 0
          · rw [if_pos h]
          · rw [if_neg h, if_neg h]
        have hk0 : 0 ≤ k := by omega
        have hk9 : k ≤ 99 := by omega
        have QK' := Lib.hid (QK.out.below HB.out QK.out.lt)
        have QU' := Lib.hid (QU.out.below HB.out QU.out.lt)
        have hput := put_any 81 #[.pointer (some ⟨w.heap.size, 0, none⟩), .pointer (some ⟨w.heap.size + 1, 0, none⟩)] (enters_of Tryd.func81 (by kernel_rfl) rfl)
          (sU k u) (sB k) (fun v => if v = k then .slice au u.length cu else .slice none 0 0) (fun v U h => by unfold sU at h; split at h; cases h; exact hcu; cases h) (fun v U h => by unfold sU at h; split at h; cases h; exact HSU.out; cases h)
          (fun v x => by unfold sB; split; omega; split; omega; omega) (fun v x _ _ _ => by unfold sB; split; omega; split; omega; omega) (fun v h => by unfold sU at h; split at h; cases h; rename_i hne; exact if_neg hne)
          T hwf (by rw [hfl]; exact hle) hdep (by rw [hfl]; exact HST.out) at_ ct wr (HSW.out _ HBW.out) (by rw [hfl]; exact HTW.out _ HBW.out)
          (fun v U h => by
            unfold sU at h
            split at h
            · rename_i he
              cases h
              obtain ⟨bb, oo, cc, he2, _⟩ := RowAt.pos (HUW.out _ HBW.out) (by obtain ⟨_, T2, hw2, _⟩ := chk_ok hcu; obtain ⟨_, hfl2⟩ := whole_some hw2; rw [← hfl2]; exact flat_pos T2)
              refine ⟨⟨bb, oo, none⟩, cu, ?_, ?_⟩
              · simp only [if_pos he]
                simp at he2
                rw [he2.1]
              · simp only [if_pos he]
                exact HUW.out _ HBW.out
            · cases h)
          (fun C v x hbc h1 h2 h3 => sub1_any v x k w.heap.size (w.heap.size + 1) au u.length cu C ((QK'.out.below hbc QK'.out.lt).cell 0) ((QU'.out.below hbc QU'.out.lt).cell 0) ⟨h1, h2⟩ ⟨hk0, hk9⟩ h3)
        rw [hfl] at hput
        have HPUT := Lib.hid hput
        have HE := Lib.hid hE
        have HL := Lib.hid hL
        clear hput hE hL hct hcu hw hwf hfl hk
        have hk1 : ¬ k < 0 := by omega
        have hk2 : ¬ 99 < k := by omega
        go_wp2_with fail
        refine HPUT.out.mono ?_
        rintro e w4 ⟨v4, rfl, ho4, hb4⟩
        rw [← HL.out] at ho4
        rw [← HE.out]
        have HO4 := Lib.hid ho4
        have HB4 := chainB HBW hb4
        clear ho4 hb4
        go_wp2_with fail
        go_ret2
        exact ⟨_, rfl, ownsRow_base HO4.out HBW.out.size, HB4.out⟩

end Go.Proofs.YtjhgpifccleknaaDoor
