/- The walk of the law LevelMax: it returns true for every slice and every place; no condition. -/
import Derived.Test.YtkkjcgjebaeniaaLevI
import Derived.Test.YtkkjcgjebaeniaaRowLaws
namespace Go.Proofs.Ytkkjcgjebaeniaa
open Go.RowKit

def gm (l : List Int) : Int := l.foldl max 0
theorem gm_go (l : List Int) (a c : Int) : l.foldl max a ≤ c ↔ a ≤ c ∧ ∀ x, x ∈ l → x ≤ c := by
  induction l generalizing a with
  | nil => simp
  | cons x r ih =>
    rw [List.foldl_cons, ih]
    simp only [List.mem_cons, forall_eq_or_imp, Int.max_le, and_assoc]
theorem gm_le (l : List Int) (c : Int) : gm l ≤ c ↔ 0 ≤ c ∧ ∀ x, x ∈ l → x ≤ c := gm_go l 0 c
theorem gm_of {l m : List Int} (h : ∀ x, x ∈ l ↔ x ∈ m) : gm l = gm m := by
  have h1 : gm l ≤ gm m := (gm_le l _).2 ⟨((gm_le m _).1 (Int.le_refl _)).1, fun x hx => ((gm_le m _).1 (Int.le_refl _)).2 x ((h x).1 hx)⟩
  have h2 : gm m ≤ gm l := (gm_le m _).2 ⟨((gm_le l _).1 (Int.le_refl _)).1, fun x hx => ((gm_le l _).1 (Int.le_refl _)).2 x ((h x).2 hx)⟩
  omega
theorem gm_mem_go (l : List Int) (a : Int) : l.foldl max a = a ∨ l.foldl max a ∈ l := by
  induction l generalizing a with
  | nil => simp
  | cons x r ih =>
    rw [List.foldl_cons]
    rcases ih (max a x) with h | h
    · rw [h]
      by_cases hx : a ≤ x
      · right; simp [Int.max_eq_right hx]
      · left; exact Int.max_eq_left (by omega)
    · right; simp [h]
theorem gm_ge {l : List Int} {i : Nat} (h : i < l.length) : l.getD i 0 ≤ gm l := by
  refine ((gm_le l _).1 (Int.le_refl _)).2 _ ?_
  rw [List.getD_eq_getElem?_getD, List.getElem?_eq_getElem h]
  exact List.getElem_mem h
theorem gm_there {l : List Int} (h0 : l ≠ []) (h : l.all lv = true) : l.any (fun x => x == gm l) = true := by
  rw [List.any_eq_true]
  rcases gm_mem_go l 0 with h1 | h1
  · obtain ⟨x, r, rfl⟩ := List.exists_cons_of_ne_nil h0
    have hx : lv x = true := (List.all_eq_true.1 h) x (by simp)
    have h2 := ((gm_le (x :: r) _).1 (Int.le_refl _)).2 x (by simp)
    have h3 : gm (x :: r) = 0 := h1
    refine ⟨x, by simp, ?_⟩
    rw [h3] at h2 ⊢
    simp only [lv, Bool.and_eq_true, decide_eq_true_eq] at hx
    simp
    omega
  · exact ⟨_, h1, by simp [gm]⟩

/-- so many of the list, from its end -/
def back (l : List Int) (k : Nat) : List Int := l.reverse.take k
theorem back_length (l : List Int) (k : Nat) (h : k ≤ l.length) : (back l k).length = k := by simp [back]; omega
theorem back_succ (l : List Int) (k : Nat) (h : k < l.length) : back l (k + 1) = back l k ++ [l.getD (l.length - 1 - k) 0] := by
  unfold back
  rw [List.take_add_one, List.getElem?_reverse h]
  rw [List.getD_eq_getElem?_getD, List.getElem?_eq_getElem (show l.length - 1 - k < l.length by omega)]
  rfl
theorem back_all (l : List Int) : back l l.length = l.reverse := by unfold back; exact List.take_of_length_le (by simp)
theorem mxI_back {l : List Int} {x : Int} (hx : x ∈ l) (h : l.all lv = true) : mxI (l.reverse ++ [x]) = gm l ∧ mxE (l.reverse ++ [x]) = 0 := by
  have h1 : (l.reverse ++ [x]).all lv = true := by
    rw [List.all_eq_true] at h ⊢
    intro y hy
    simp only [List.mem_append, List.mem_reverse, List.mem_singleton] at hy
    rcases hy with hy | rfl
    · exact h y hy
    · exact h y hx
  refine ⟨(mxI_yes h1).trans (gm_of fun y => ?_), mxE_yes h1⟩
  simp only [List.mem_append, List.mem_reverse, List.mem_singleton]
  constructor
  · rintro (h | rfl)
    · exact h
    · exact hx
  · exact fun h => .inl h

/-- what the first loop holds -/
def JRel (B : Nat) (w : World) (l : List Int) (n : Int) (turned there all i : Value) (wr : World) : Prop :=
  ∃ k, k ≤ l.length ∧ i = .int .i64 (k : Int) ∧ wr.ownsRow B 3 1 turned k ((back l k).map (Value.int .i64)) ∧ there = .bool ((l.take k).any (fun x => x == n)) ∧ all = .bool ((l.take k).all lv) ∧ Below B w wr

theorem take_any {l : List Int} {k : Nat} (h : k < l.length) (n : Int) : (l.take (k + 1)).any (fun x => x == n) = ((l.take k).any (fun x => x == n) || (l.getD k 0 == n)) := by
  rw [List.take_add_one, List.any_append, List.getD_eq_getElem?_getD, List.getElem?_eq_getElem h]
  simp
theorem take_all {l : List Int} {k : Nat} (h : k < l.length) : (l.take (k + 1)).all lv = ((l.take k).all lv && lv (l.getD k 0)) := by
  rw [List.take_add_one, List.all_append, List.getD_eq_getElem?_getD, List.getElem?_eq_getElem h]
  simp

set_option maxRecDepth 20000 in
set_option maxHeartbeats 4000000 in
theorem max_walk (w : World) (l : List Int) (v : Value) (hv : ReadI w v l) (b : Int) (hwf : (Lit.int .u8 b).wf = true) :
    Calls Try.prog 5 #[v, .int .u8 b] w fun e w' => e = .returned (.bool true) ∧ Below w.heap.size w w' := by
  obtain ⟨i0, hi, hz0, hz1, hz2⟩ := info_parts Try.infoInt
  have h0 := Below.refl w.heap.size w
  have hm := lvm1
  have hsl := hv.len_slice
  obtain ⟨ad, cap, hv'⟩ := hsl
  by_cases hlen : 1024 < l.length
  · have HV := Lib.hid hv; clear hv
    subst hv'
    go_enter Try.func5, Try.ntmps5
    go_wp2_with (go_at_call 9; refine (check_any _ _).mono ?_; rintro e w1 ⟨rfl, hb⟩; have h1 := step0 h0 hb; clear h0 hb; have h0 := h1; clear h1)
    go_ret
    exact ⟨rfl, h0⟩
  · have hle : l.length ≤ 1024 := by omega
    by_cases hne0 : l = []
    · subst hne0
      subst hv'
      have HV := Lib.hid hv; clear hv
      obtain ⟨nm, hnm⟩ : ∃ x, mxI ([] : List Int) = x := ⟨_, rfl⟩
      obtain ⟨ne, hne⟩ : ∃ x, mxE ([] : List Int) = x := ⟨_, rfl⟩
      obtain rfl : nm = 0 := by rw [← hnm]; rfl
      obtain rfl : ne = 0 := by rw [← hne]; rfl
      have HN := Lib.hid hnm
      have HE := Lib.hid hne
      clear hnm hne hlen hle
      simp only [List.length_nil] at HV ⊢
      go_enter Try.func5, Try.ntmps5
      go_wp2_with (go_at_call 12; refine (maxl_any [] _ _ (HV.out.below h0) (by simp)).mono ?_; rw [HN.out, HE.out]; rintro e w1 ⟨rfl, hb⟩; have h1 := step0 h0 hb; clear h0 hb; have h0 := h1; clear h1)
      go_loopw [7, 8, 9, 10] (fun tu th al i wr => (∃ wa : World, Below w.heap.size w wr ∧ tu = .slice (some ⟨wa.heap.size, 0, none⟩) 0 0 ∧ wr = wa.alloc (.cells #[] 3)) ∧ th = .bool true ∧ al = .bool true ∧ i = .int .i64 0) (fun _ _ _ _ _ => 0)
      case atStart => exact ⟨⟨_, h0.alloc h0.size _, rfl, rfl⟩, rfl, rfl, rfl⟩
      case round =>
        rename World => wq
        obtain ⟨⟨wa, hb6, rfl, rfl⟩, rfl, rfl, rfl⟩ := hrel
        have hr6 : ReadI (wa.alloc (.cells #[] 3)) (.slice (some ⟨wa.heap.size, 0, none⟩) 0 0) [] := ReadI.lit wa 3 [] (by simp)
        go_wp2_with (go_at_call 12; refine (maxl_any _ _ _ hr6 (by simp)).mono ?_; rw [HN.out, HE.out]; rintro e w2 ⟨rfl, hb⟩; have h1 := step0 hb6 hb; clear hb6 hr6 hb; have hb6 := h1; clear h1)
        go_loopw [13] (fun i wr => i = .int .i64 0 ∧ wr = w2) (fun _ _ => 0)
        case atStart => exact ⟨rfl, rfl⟩
        case round =>
          rename World => wz
          obtain ⟨rfl, rfl⟩ := hrel
          go_wp2_with (go_at_call 9; refine (check_any _ _).mono ?_; rintro e w9 ⟨rfl, hb⟩; have h1 := step0 hb6 hb; clear hb6 hb; have hb6 := h1; clear h1)
          go_ret
          exact ⟨rfl, hb6⟩
    · clear hv' ad cap
      have hv2 := hv
      unfold ReadI at hv2
      obtain ⟨bk, off, cap, rfl, _, _, hbw, hc0⟩ := hv2.pos (List.length_pos_iff.2 hne0)
      have hc : ∀ i, i < l.length → w.cell? ⟨bk, off + i, none⟩ = some (.int .i64 (l.getD i 0)) := fun i hi => hc0 i _ (by simp [List.getD_eq_getElem?_getD, List.getElem?_eq_getElem hi])
      clear hc0 hv2
      have HV := Lib.hid hv; clear hv
      have HC := Lib.hid hc; clear hc
      have hb01 : (0 : Int) ≤ b ∧ b < 256 := by have h : (decide (IntKind.u8.min ≤ b) && decide (b ≤ IntKind.u8.max)) = true := hwf; simp only [Bool.and_eq_true, decide_eq_true_eq] at h; have h1 : IntKind.u8.min = 0 := rfl; have h2 : IntKind.u8.max = 255 := rfl; omega
      clear hwf
      obtain ⟨nm, hnm⟩ : ∃ x, mxI l = x := ⟨_, rfl⟩
      obtain ⟨ne, hne⟩ : ∃ x, mxE l = x := ⟨_, rfl⟩
      have hpos : 0 < l.length := List.length_pos_iff.2 hne0
      have hposb : ((l.length : Int) == 0) = false := by simp; omega
      have HN := Lib.hid hnm
      have HE := Lib.hid hne
      go_enter Try.func5, Try.ntmps5
      go_wp2_with (go_at_call 12; refine (maxl_any l _ _ (HV.out.below h0) (by omega)).mono ?_; rw [hnm, hne]; clear hnm hne; rintro e w1 ⟨rfl, hb⟩; have h1 := step0 h0 hb; clear h0 hb; have h0 := h1; clear h1)
      go_loopw [7, 8, 9, 10] (fun tu th al i wr => JRel w.heap.size w l nm tu th al i wr) (fun _ _ _ i _ => l.length - (intOf i).toNat)
      case atStart => exact ⟨0, Nat.zero_le _, rfl, by simpa [back] using World.ownsRow_lit (base := w.heap.size) (e := 3) (size := 1) _ #[] 0 h0.size (by unfold maxLen; omega) (by simp), rfl, rfl, h0.alloc h0.size _⟩
      case round =>
        rename World => wq
        obtain ⟨k, hk, rfl, hown, rfl, rfl, hb⟩ := hrel
        have HO := Lib.hid hown; clear hown
        by_cases hlt : k < l.length
        · have g0 := HC.out k hlt
          have g1 := HC.out (l.length - 1 - k) (by omega)
          have c0 := (hb.cell (p := ⟨bk, off + k, none⟩) hbw).trans g0
          have c1 := (hb.cell (p := ⟨bk, off + (l.length - 1 - k), none⟩) hbw).trans g1
          clear g0 g1
          have hta := take_any hlt nm
          have htl := take_all hlt
          have hbs := back_succ l k hlt
          obtain ⟨x, hx⟩ : ∃ x, l.getD k 0 = x := ⟨_, rfl⟩
          obtain ⟨y, hy⟩ : ∃ y, l.getD (l.length - 1 - k) 0 = y := ⟨_, rfl⟩
          rw [hx] at c0 hta htl
          rw [hy] at c1 hbs
          clear hx hy
          have HBS := Lib.hid hbs; clear hbs
          have HTA := Lib.hid hta; clear hta
          have HTL := Lib.hid htl; clear htl
          have hbk : bk < wq.heap.size := by have := hb.size; omega
          have hbz : w.heap.size ≤ wq.heap.size := hb.size
          have HB := Lib.hid hb; clear hb
          obtain ⟨ta, hta⟩ : ∃ x, (l.take k).any (fun x => x == nm) = x := ⟨_, rfl⟩
          obtain ⟨tl, htl⟩ : ∃ x, (l.take k).all lv = x := ⟨_, rfl⟩
          rw [hta] at HTA
          rw [htl] at HTL
          rw [hta, htl]
          clear hta htl
          obtain ⟨ck, hck⟩ : ∃ ck : Nat, l.length - 1 - k = ck := ⟨_, rfl⟩
          rw [hck] at c1
          have hcki : (l.length : Int) - 1 - (k : Int) = (ck : Int) := by omega
          have HCK := Lib.hid hck; clear hck
          have hone : ∀ u ∈ [Value.int .i64 y], u.oneCell' = true := by intro u hu; simp at hu; subst hu; rfl
          have HONE := Lib.hid hone; clear hone
          cases ta <;> cases tl
          all_goals
            go_wp2_with (first
              | (at_builtin; go_must (refine wpList_append_row rfl (.tmp 38) (.tmp 47) 29 rfl w.heap.size 3 i0 (.int .i64 0) 1 8 Try.underlying29 hi hz0 hz1 hz2 rfl (by decide) u7 k ((back l k).map (Value.int .i64)) rfl (HO.out.alloc _) (.slice (some ⟨wq.heap.size, 0, none⟩) 1 1) 1 [.int .i64 y] rfl (RowAt.lit wq _ #[.int .i64 y] 1 rfl (by unfold maxLen; omega)) HONE.out (by omega) (by unfold maxLen; omega) (by simp; omega) ?_); intro v6 w6 hown6 hg6 hat6; have c06 : w6.cell? ⟨bk, off + k, none⟩ = some (.int .i64 x) := hg6.cell ((((Below.refl _ wq).alloc (Nat.le_refl _) _).cell (p := ⟨bk, off + k, none⟩) hbk).trans c0) (by
                    cases hx : u7.ownBlock with
                    | none => simp
                    | some g => have := (HO.out.lt g hx).1; simp; omega)
                 clear c0 c1
                 have hb6 : Below w.heap.size w w6 := (HB.out.alloc HB.out.size _).grown hg6 (by have := HB.out.size; simp; omega) (fun g hx => (HO.out.lt g hx).1)
                 have HO6 := Lib.hid hown6
                 have hbk6 : bk < w6.heap.size := by have := hb6.size; omega
                 clear hown6 hg6 hat6)
              | (go_at_call 9; refine (check_any _ _).mono ?_; rintro e w1 ⟨rfl, hb⟩; have h1 := step0 hb6 hb; clear hb6; have hb6 := h1; clear h1; have h2 := Lib.hid (ownsRow_below HO6.out hb (fun g hg => (HO6.out.lt g hg).2)); clear HO6 hb; have HO6 := h2; clear h2))
          all_goals
            refine ⟨⟨k + 1, by omega, by go_num, ?_, ?_, ?_, hb6⟩, by simp [intOf]; omega⟩
            · have h := HO6.out
              rw [HBS.out, List.map_append]
              exact h
            · rw [HTA.out]; simp
            · rw [HTL.out]; cases lv x <;> simp
        · obtain rfl : k = l.length := by omega
          rw [List.take_length]
          cases hal : l.all lv
          · obtain rfl : nm = 0 := by rw [← HN.out]; exact mxI_no hal
            obtain rfl : ne = 1 := by rw [← HE.out]; exact mxE_no hal
            clear hal
            go_wp2_with fail
            go_ret
            exact ⟨rfl, hb⟩
          · have hth := gm_there hne0 hal
            obtain rfl : nm = gm l := by rw [← HN.out]; exact mxI_yes hal
            obtain rfl : ne = 0 := by rw [← HE.out]; exact mxE_yes hal
            rw [hth]
            have hget : ∀ i, i < l.length → l.getD i 0 ≤ gm l := fun i hi => gm_ge hi
            obtain ⟨c, hc⟩ : ∃ c : Nat, b.toNat % l.length = c := ⟨_, rfl⟩
            have hcl : c < l.length := by rw [← hc]; exact Nat.mod_lt _ hpos
            have hrem : Int.tmod b (l.length : Int) = (c : Int) := by
              have hb' : ((b.toNat : Nat) : Int) = b := by omega
              rw [← hc, Int.tmod_eq_emod_of_nonneg (by omega), Int.natCast_emod, hb']
            have g0 := HC.out c hcl
            have c0 := (hb.cell (p := ⟨bk, off + c, none⟩) hbw).trans g0
            clear g0
            have hmem : l.getD c 0 ∈ l := by rw [List.getD_eq_getElem?_getD, List.getElem?_eq_getElem hcl]; exact List.getElem_mem hcl
            have hmx := mxI_back hmem hal
            obtain ⟨y, hy⟩ : ∃ y, l.getD c 0 = y := ⟨_, rfl⟩
            rw [hy] at c0 hmx
            clear hy hmem hth hc
            have HG := Lib.hid hget; clear hget
            obtain ⟨g, hg⟩ : ∃ g, gm l = g := ⟨_, rfl⟩
            rw [hg] at HG hmx ⊢
            have HMX := Lib.hid hmx; clear hmx
            have HAL := Lib.hid hal; clear hal
            clear hg HN HE
            have hone : ∀ u ∈ [Value.int .i64 y], u.oneCell' = true := by intro u hu; simp at hu; subst hu; rfl
            have HONE := Lib.hid hone; clear hone
            have hbk : bk < wq.heap.size := by have := hb.size; omega
            have hbz : w.heap.size ≤ wq.heap.size := hb.size
            have HB := Lib.hid hb; clear hb
            go_wp2_with (first
              | (at_builtin; go_must (refine wpList_append_row rfl (.tmp 82) (.tmp 91) 29 rfl w.heap.size 3 i0 (.int .i64 0) 1 8 Try.underlying29 hi hz0 hz1 hz2 rfl (by decide) u7 l.length ((back l l.length).map (Value.int .i64)) rfl (HO.out.alloc _) (.slice (some ⟨wq.heap.size, 0, none⟩) 1 1) 1 [.int .i64 y] rfl (RowAt.lit wq _ #[.int .i64 y] 1 rfl (by unfold maxLen; omega)) HONE.out (by omega) (by unfold maxLen; omega) (by simp; omega) ?_); intro v6 w6 hown6 hg6 hat6
                 have hb6 : Below w.heap.size w w6 := (HB.out.alloc HB.out.size _).grown hg6 (by have := HB.out.size; simp; omega) (fun g hx => (HO.out.lt g hx).1)
                 have hr6 : ReadI w6 v6 (l.reverse ++ [y]) := by
                   have h := RowAt.of_own hown6
                   rw [back_all] at h
                   unfold ReadI
                   simpa using h
                 clear hown6 hg6 hat6 c0)
              | (go_at_call 12; refine (maxl_any _ _ _ hr6 (by simp; omega)).mono ?_; rw [HMX.out.1, HMX.out.2]; rintro e w2 ⟨rfl, hb⟩; have h1 := step0 hb6 hb; clear hb6 hr6 hb; have hb6 := h1; clear h1))
            go_loopw [13] (fun i wr => (∃ k : Nat, k ≤ l.length ∧ i = .int .i64 (k : Int)) ∧ wr = w2) (fun i _ => l.length - (intOf i).toNat)
            case atStart => exact ⟨⟨0, Nat.zero_le _, rfl⟩, rfl⟩
            case round =>
              rename World => wz
              obtain ⟨⟨k, hk, rfl⟩, rfl⟩ := hrel
              by_cases hlt2 : k < l.length
              · have g0 := HC.out k hlt2
                have c0 := (hb6.cell (p := ⟨bk, off + k, none⟩) hbw).trans g0
                clear g0
                have hxg := HG.out k hlt2
                obtain ⟨x, hx⟩ : ∃ x, l.getD k 0 = x := ⟨_, rfl⟩
                rw [hx] at c0 hxg
                have hxb : decide (g < x) = false := by simp; omega
                clear hx
                go_wp2_with fail
                exact ⟨⟨⟨k + 1, by omega, by go_num⟩, trivial⟩, by simp [intOf]; omega⟩
              · obtain rfl : k = l.length := by omega
                go_wp2_with (go_at_call 9; refine (check_any _ _).mono ?_; rintro e w9 ⟨rfl, hb⟩; have h1 := step0 hb6 hb; clear hb6 hb; have hb6 := h1; clear h1)
                go_ret
                exact ⟨rfl, hb6⟩

end Go.Proofs.Ytkkjcgjebaeniaa
