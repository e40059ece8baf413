/- What term.measured comes to, for every row of nodes, where the table of shapes lies as it is laid. -/
import Derived.Test.YtjhgpifccleknaaDoorBinds
import Derived.Test.YtjhgpifccleknaaDoorRowLaws
import Derived.Deep.RegionLaw
namespace Go.Proofs.YtjhgpifccleknaaDoor
set_option linter.unusedSimpArgs false
set_option linter.unusedVariables false
open Go.RowKit

theorem Tryd.infoMeas : (Tryd.prog.info? 83).map (fun i => (i.zero, i.size, i.bytes)) = some (some (.agg #[.int .i64 0, .int .i64 0]), 2, 16) := by kernel_rfl

def meaV (p : Nat × Nat) : List Value := [.int .i64 (p.1 : Int), .int .i64 (p.2 : Int)]
def measL (l : List (Nat × Nat)) : List Value := l.flatMap meaV
theorem measL_length (l : List (Nat × Nat)) : (measL l).length = l.length * 2 := by
  unfold measL
  induction l with
  | nil => rfl
  | cons n r ih => simp [List.flatMap_cons, meaV, ih]; omega
theorem measL_append (a b : List (Nat × Nat)) : measL (a ++ b) = measL a ++ measL b := by unfold measL; rw [List.flatMap_append]
theorem measL_take (l : List (Nat × Nat)) (k : Nat) : (measL l).take (k * 2) = measL (l.take k) := by
  unfold measL
  induction l generalizing k with
  | nil => simp
  | cons n r ih =>
    cases k with
    | zero => simp
    | succ k =>
      rw [List.flatMap_cons, List.take_succ_cons, List.flatMap_cons, List.take_append]
      have e : (k + 1) * 2 - (meaV n).length = k * 2 := by simp [meaV]; omega
      rw [e, ih, List.take_of_length_le (by simp [meaV]; omega)]
theorem measL_get (l : List (Nat × Nat)) (i : Nat) (hi : i < l.length) (j : Nat) (hj : j < 2) : (measL l)[i * 2 + j]? = (meaV l[i])[j]? := by
  unfold measL
  induction l generalizing i with
  | nil => simp at hi
  | cons n r ih =>
    rw [List.flatMap_cons]
    cases i with
    | zero =>
      rw [List.getElem?_append_left (by simp [meaV]; omega)]
      simp
    | succ i =>
      rw [List.getElem?_append_right (by simp [meaV]; omega)]
      have e : (i + 1) * 2 + j - (meaV n).length = i * 2 + j := by simp [meaV]; omega
      rw [e, ih i (by simpa using hi)]
      rfl
theorem measL_one (l : List (Nat × Nat)) : ∀ u, u ∈ measL l → u.oneCell' = true := by
  intro u hu
  obtain ⟨n, _, hn⟩ := List.mem_flatMap.1 hu
  simp [meaV] at hn
  rcases hn with rfl | rfl <;> rfl

/-- all measures so far -/
def tops (l : List Nd) (k : Nat) : List (Nat × Nat) := (List.range k).map (topm l)
theorem tops_length (l : List Nd) (k : Nat) : (tops l k).length = k := by simp [tops]
theorem tops_succ (l : List Nd) (k : Nat) : tops l (k + 1) = tops l k ++ [topm l k] := by simp [tops, List.range_succ]

/-- the nodes' strings are of a size -/
def SmallN (l : List Nd) : Prop := ∀ n, n ∈ l → n.S.size ≤ maxLen

def MeasPost (l : List Nd) (w : World) (e : Ending) (w' : World) : Prop :=
  ∃ v, e = .returned (.tuple #[v, .bool (whole l).isSome]) ∧ ((whole l).isSome = true → w'.ownsRow w.heap.size 83 2 v l.length (measL (tops l l.length))) ∧ Below w.heap.size w w'

/-- what the outer loop holds of its slots and the world -/
def MRel (B : Nat) (w : World) (l : List Nd) (all open_ i : Value) (wr : World) : Prop :=
  ∃ (k : Nat) (st : List Tm), k ≤ l.length ∧ i = .int .i64 (k : Int) ∧ prun [] (l.take k) = some st ∧ wr.ownsRow B 83 2 all k (measL (tops l k)) ∧ wr.ownsRow B 83 2 open_ st.length (measL (opens st)) ∧
    (∀ g, all.ownBlock = some g → open_.ownBlock ≠ some g) ∧ Below B w wr

theorem MRel.start (w : World) (l : List Nd) : MRel w.heap.size w l (.slice none 0 0) (.slice none 0 0) (.int .i64 0) w :=
  ⟨0, [], Nat.zero_le _, rfl, by simp [prun], World.ownsRow_nil _ _ _ _, World.ownsRow_nil _ _ _ _, (fun g h => by cases h), Below.refl _ _⟩

theorem whole_none_of {l : List Nd} {k : Nat} {st : List Tm} (hk : k < l.length) (h : prun [] (l.take k) = some st) (hn : ¬ (rightB l[k] = true ∧ arity l[k] ≤ st.length)) : whole l = none := by
  have h1 : prun [] (l.take (k + 1)) = none := by
    rw [prun_take hk h]
    unfold pstep
    rw [if_neg hn]
  unfold whole
  rw [prun_none h1]

theorem flatL_ge (ts : List Tm) : ts.length ≤ (flatL ts).length := by
  induction ts with
  | nil => simp [flatL_nil]
  | cons t r ih => rw [flatL_cons, List.length_append, List.length_cons]; have := flat_pos t; omega
theorem stack_le {l : List Nd} {k : Nat} {st : List Tm} (h : prun [] (l.take k) = some st) (hk : k ≤ l.length) : st.length ≤ k := by
  have hs := (prun_sound h (fun t ht => by cases ht)).2
  have h1 := flatL_ge st.reverse
  rw [hs] at h1
  simp [flatL_nil] at h1
  omega

theorem dep_le_flat : ∀ t : Tm, t.dep ≤ t.flat.length := by
  refine Tm.ind ?_
  intro n l ih
  rw [dep_mk, flat_mk, List.length_append]
  have hl : ∀ (l : List Tm), (∀ t, t ∈ l → t.dep ≤ t.flat.length) → depL l ≤ (flatL l).length := by
    intro l
    induction l with
    | nil => intro _; simp [depL_nil]
    | cons t r ihr =>
      intro h
      rw [depL_cons, flatL_cons, List.length_append]
      have h1 := h t (by simp)
      have h2 := ihr (fun t ht => h t (by simp [ht]))
      omega
  have := hl l ih
  simp
  omega
theorem opn_small (p : Nat) (ts : List Tm) : ∀ x, x ∈ opn p ts → x.1 ≤ p + (flatL ts).length ∧ x.2 ≤ (flatL ts).length := by
  induction ts generalizing p with
  | nil => intro x hx; simp [opn] at hx
  | cons t r ih =>
    intro x hx
    simp only [opn, List.mem_cons] at hx
    rw [flatL_cons, List.length_append]
    rcases hx with rfl | hx
    · have := dep_le_flat t
      simp only
      omega
    · have := ih _ x hx
      omega
theorem opens_small {l : List Nd} {k : Nat} {st : List Tm} (h : prun [] (l.take k) = some st) (hk : k ≤ l.length) : ∀ x, x ∈ opens st → x.1 ≤ k ∧ x.2 ≤ k := by
  intro x hx
  have hs := (prun_sound h (fun t ht => by cases ht)).2
  have h1 := opn_small 0 st.reverse x hx
  have h2 := congrArg List.length hs
  simp [flatL_nil] at h2
  omega

/-- the measure, after so many parts -/
def mfrom (k : Nat) (ch : List (Nat × Nat)) (j : Nat) : Nat := if j = 0 then k else (ch.headD (k, 0)).1
def mdeep (ch : List (Nat × Nat)) (j : Nat) : Nat := (ch.take j).foldl (fun d x => max d (x.2 + 1)) 1
theorem mfrom_zero (k : Nat) (ch : List (Nat × Nat)) : mfrom k ch 0 = k := rfl
theorem mdeep_zero (ch : List (Nat × Nat)) : mdeep ch 0 = 1 := by simp [mdeep]
theorem mfrom_one (k : Nat) (ch : List (Nat × Nat)) (h : 0 < ch.length) : mfrom k ch 1 = (ch[0]).1 := by
  cases ch with
  | nil => simp at h
  | cons x r => rfl
theorem mfrom_more (k : Nat) (ch : List (Nat × Nat)) {j : Nat} (h : j ≠ 0) : mfrom k ch (j + 1) = mfrom k ch j := by simp [mfrom, h]
theorem mdeep_succ (ch : List (Nat × Nat)) {j : Nat} (h : j < ch.length) : mdeep ch (j + 1) = max (mdeep ch j) ((ch[j]).2 + 1) := by
  unfold mdeep
  rw [List.take_add_one, List.foldl_append, List.getElem?_eq_getElem h]
  rfl
theorem mstep_all (k : Nat) (ch : List (Nat × Nat)) : mstep k ch = (mfrom k ch ch.length, mdeep ch ch.length) := by
  unfold mstep mfrom mdeep
  rw [List.take_length]
  congr 1
  cases ch with
  | nil => rfl
  | cons x r => rfl
theorem mdeep_le (ch : List (Nat × Nat)) (B j : Nat) (h : ∀ x, x ∈ ch → x.2 ≤ B) : mdeep ch j ≤ B + 1 := by
  unfold mdeep
  have : ∀ (l : List (Nat × Nat)) (d : Nat), d ≤ B + 1 → (∀ x, x ∈ l → x.2 ≤ B) → l.foldl (fun d x => max d (x.2 + 1)) d ≤ B + 1 := by
    intro l
    induction l with
    | nil => intro d hd _; exact hd
    | cons x r ih =>
      intro d hd hx
      rw [List.foldl_cons]
      refine ih _ ?_ (fun y hy => hx y (by simp [hy]))
      have := hx x (by simp)
      omega
  exact this _ 1 (by omega) (fun x hx => h x (List.mem_of_mem_take hx))

/-- the inner loop's hold: j parts have been looked at -/
def InRel (wo : World) (bm : Nat) (k ar : Nat) (ch : List (Nat × Nat)) (i : Value) (wq : World) : Prop :=
  ∃ j, j ≤ ar ∧ i = .int .i64 (j : Int) ∧ Blk wq bm 83 #[.int .i64 (mfrom k ch j : Int), .int .i64 (mdeep ch j : Int)] ∧ wo.grownBy wq (some bm)

set_option maxRecDepth 20000 in
set_option maxHeartbeats 4000000 in
theorem measured_any (l : List Nd) (v : Value) (w : World) (hS : ShapesAt w) (hv : ReadN w v l) (hs : SmallN l) (hl : l.length ≤ 4000) :
    Calls Tryd.prog 61 #[v] w (MeasPost l w) := by
  obtain ⟨i0, hi, hz0, hz1, hz2⟩ := info_parts Tryd.infoMeas
  obtain ⟨_, ⟨h0, a, cap, rfl⟩ | ⟨b, off, cap, rfl, hcap1, hcap2, hbw, hc⟩⟩ := hv.cases
  · subst h0
    go_enter Tryd.func61, Tryd.ntmps61
    go_wp2
    go_loopw [4, 5, 14] (fun all open_ i wr => all = .slice none 0 0 ∧ open_ = .slice none 0 0 ∧ i = .int .i64 0 ∧ wr = w) (fun _ _ _ _ => 0)
    case atStart => exact ⟨rfl, rfl, rfl, rfl⟩
    case round =>
      obtain ⟨rfl, rfl, rfl, rfl⟩ := hrel
      go_wp2
      go_ret2
      exact ⟨.slice none 0 0, rfl, (fun h => by cases h), Below.refl _ _⟩
  · have HC := Lib.hid hc; clear hc
    have HS := Lib.hid hS
    have HV := Lib.hid hv; clear hv
    have HSM := Lib.hid hs; clear hs
    go_enter Tryd.func61, Tryd.ntmps61
    go_wp2
    go_loopw [4, 5, 14] (fun all open_ i wr => MRel w.heap.size w l all open_ i wr) (fun _ _ i _ => l.length - (intOf i).toNat)
    case atStart => exact MRel.start w l
    case round =>
      rename World => wa
      obtain ⟨k, st, hk, rfl, hp, hall, hop, hne, hb⟩ := hrel
      by_cases hlt : k < l.length
      · obtain ⟨g0, g1, g2, g3⟩ := HC.out k hlt
        have c0 := (hb.cell (p := ⟨b, off + k * 4, none⟩) hbw).trans g0
        have c1 := (hb.cell (p := ⟨b, off + k * 4 + 1, none⟩) hbw).trans g1
        have c2 := (hb.cell (p := ⟨b, off + k * 4 + 2, none⟩) hbw).trans g2
        have c3 := (hb.cell (p := ⟨b, off + k * 4 + 3, none⟩) hbw).trans g3
        clear g0 g1 g2 g3
        have hS1 := HS.out.below hb
        have hsz : (l[k]).S.size ≤ maxLen := HSM.out _ (List.getElem_mem hlt)
        have hstep := whole_none_of hlt hp
        have hstep2 := topm_step hlt hp
        obtain ⟨nd, hnd⟩ : ∃ nd, l[k] = nd := ⟨_, rfl⟩
        rw [hnd] at c0 c1 c2 c3 hsz hstep hstep2
        clear hnd
        have HB := Lib.hid hb
        have HST := Lib.hid hstep; clear hstep
        have HST2 := Lib.hid hstep2; clear hstep2
        have HALL := Lib.hid hall; clear hall
        have HOP := Lib.hid hop; clear hop
        have HNE := Lib.hid hne; clear hne
        have HP := Lib.hid hp; clear hp
        have hbw' : b < wa.heap.size := by have := hb.size; omega
        clear hb
        cases hr : rightB nd
        · go_wp2_with fail
          refine (right_any nd _ (hS1.alloc _) hsz).mono ?_
          rintro e w1 ⟨rfl, hb1⟩
          rw [hr]
          simp only [World.size_alloc] at hb1
          have hb2 := below_box hb1
          clear hb1
          have hno : Hid (whole l = none) := HST.out (fun h => by rw [hr] at h; cases h.1)
          go_wp2
          go_ret2
          exact ⟨.slice none 0 0, by rw [hno.out]; rfl, (fun h => by rw [hno.out] at h; cases h), (HB.out.trans (hb2.mono HB.out.size))⟩
        · obtain ⟨ao, co, rfl, hoc, hcut⟩ := ownsRow_cut HOP.out (Nat.le_refl _)
          have HCUT := Lib.hid hcut; clear hcut
          by_cases har : arity nd ≤ st.length
          · obtain ⟨K, hK⟩ : ∃ K, st.length = K + arity nd := ⟨st.length - arity nd, by omega⟩
            have hlen := stack_le HP.out hk
            obtain ⟨g1, g2, g3⟩ := HST2.out hr har
            clear HST HST2
            have e1 : st.length - arity nd = K := by omega
            rw [e1] at g1 g3
            have G1 := Lib.hid g1; clear g1
            have G2 := Lib.hid g2; clear g2
            have G3 := Lib.hid g3; clear g3
            obtain ⟨ar, hAR⟩ : ∃ ar, arity nd = ar := ⟨_, rfl⟩
            rw [hAR] at hK har
            have hKb : K + ar ≤ 4000 := by omega
            have HAR := Lib.hid hAR
            have hkk : k < 4000 := by omega
            clear e1 har
            rw [hK] at HOP HCUT hoc hlen ⊢
            have HK := Lib.hid hK; clear hK
            clear hAR
            go_wp2_with fail
            refine (right_any nd _ (hS1.alloc _) hsz).mono ?_
            rintro e w1 ⟨rfl, hb1⟩
            rw [hr]
            simp only [World.size_alloc] at hb1
            obtain ⟨d0, d1, d2, d3, hlt1⟩ := box_cells hb1
            have hb2 := below_box hb1
            clear hb1
            have hS2 := hS1.below hb2
            go_wp2_with fail
            refine (many_any nd _ hS2 hr).mono ?_
            rintro e w2 ⟨rfl, hb3⟩
            rw [HAR.out]
            have f0 := (hb3.cell (p := ⟨wa.heap.size, 0, none⟩) hlt1).trans d0
            have f1 := (hb3.cell (p := ⟨wa.heap.size, 1, none⟩) hlt1).trans d1
            have f2 := (hb3.cell (p := ⟨wa.heap.size, 2, none⟩) hlt1).trans d2
            have f3 := (hb3.cell (p := ⟨wa.heap.size, 3, none⟩) hlt1).trans d3
            have hb4 := hb2.trans (hb3.mono hb2.size)
            have hlt2 : wa.heap.size < w2.heap.size := by have := hb3.size; omega
            have hS3 := hS1.below hb4
            clear hb3 hb2 d0 d1 d2 d3 hlt1 hS2
            go_wp2_with fail
            refine (many_any nd _ hS3 hr).mono ?_
            rintro e w3 ⟨rfl, hb5⟩
            rw [HAR.out]
            have hb6 := hb4.trans (hb5.mono hb4.size)
            have hlt3 : wa.heap.size < w3.heap.size := by have := hb5.size; omega
            clear hb5 hb4 f0 f1 f2 f3 hS3 hlt2 hS1 c0 c1 c2 c3
            obtain ⟨ch, hch⟩ : ∃ ch, (opens st).drop K = ch := ⟨_, rfl⟩
            have hchl : ch.length = ar := by rw [← hch, List.length_drop, opens_length]; have := HK.out; omega
            have hchs : ∀ x, x ∈ ch → x.1 ≤ k ∧ x.2 ≤ k := by
              intro x hx
              rw [← hch] at hx
              exact opens_small HP.out hk x (List.mem_of_mem_drop hx)
            have HCH := Lib.hid hch; clear hch
            have HCHL := Lib.hid hchl; clear hchl
            have HCHS := Lib.hid hchs; clear hchs
            rcases HOP.out.2 with ⟨hnil, hn0⟩ | ⟨g, co', cur, hgv, hg0, hgh, hg2, hg3, hg5, hg6⟩
            · simp only [Value.slice.injEq] at hnil
              obtain ⟨rfl, _, rfl⟩ := hnil
              obtain rfl : K = 0 := by omega
              obtain rfl : ar = 0 := by omega
              simp only [Nat.add_zero] at HOP HCUT hoc hlen HAR HCHL hKb ⊢
              clear hn0
              go_wp2_with fail
              obtain ⟨wo, hwo⟩ : ∃ wo, w3.alloc (Obj.cells #[Value.int IntKind.i64 (k : Int), Value.int IntKind.i64 1] 83) = wo := ⟨_, rfl⟩
              obtain ⟨bm, hbm⟩ : ∃ bm, w3.heap.size = bm := ⟨_, rfl⟩
              have hblk0 : Blk wo bm 83 #[.int .i64 (k : Int), .int .i64 1] := by rw [← hwo, ← hbm]; exact Blk.new w3 _ _
              have hsz0 : wo.heap.size = bm + 1 := by rw [← hwo, ← hbm]; simp
              have hb7 : Below wa.heap.size wa wo := by rw [← hwo]; exact hb6.alloc hb6.size _
              rw [hwo, hbm]
              rw [hbm] at hlt3
              have HB7 := Lib.hid hb7
              clear hb6 hwo hb7
              go_loopw [40] (fun i wq => InRel wo bm k 0 ch i wq) (fun i _ => 0 - (intOf i).toNat)
              case atStart => exact ⟨0, Nat.zero_le _, rfl, by rw [mfrom_zero, mdeep_zero]; exact hblk0, World.grownBy.refl _ _⟩
              case round =>
                rename World => wq
                obtain ⟨j, hj, rfl, hblk, hgr⟩ := hrel
                by_cases hjl : j < 0
                · exfalso; omega
                · obtain rfl : j = 0 := by omega
                  have htop : topm l k = (mfrom k ch 0, mdeep ch 0) := by rw [G1.out, HCH.out, mstep_all, HCHL.out]
                  obtain ⟨f, hf⟩ : ∃ f, mfrom k ch 0 = f := ⟨_, rfl⟩
                  obtain ⟨q, hq⟩ : ∃ q, mdeep ch 0 = q := ⟨_, rfl⟩
                  rw [hf, hq] at htop hblk
                  have HTOP := Lib.hid htop; clear htop hf hq
                  obtain ⟨a', c', hv', hc', hcut⟩ := ownsRow_cut HOP.out (show 0 ≤ 0 + 0 by omega)
                  simp only [Value.slice.injEq] at hv'
                  obtain ⟨rfl, _, rfl⟩ := hv'
                  have hcut2 : wq.ownsRow w.heap.size 83 2 (.slice none 0 0) 0 ((measL (opens st)).take (0 * 2)) :=
                    (ownsRow_below hcut HB7.out (fun x hx => (hcut.lt x hx).2)).kept hgr (by first | exact .inl rfl | exact .inr (by simp [Value.ownBlock]; omega))
                  have HCUT2 := Lib.hid hcut2; clear hcut2 hcut
                  have m0 : wq.cell? ⟨bm, 0, none⟩ = some (.int .i64 (f : Int)) := hblk.cell 0
                  have m1 : wq.cell? ⟨bm, 1, none⟩ = some (.int .i64 (q : Int)) := hblk.cell 1
                  have mlt := hblk.lt
                  have HGR := Lib.hid hgr; clear hgr
                  have HBK := Lib.hid hblk; clear hblk
                  have hwq : Hid (w.heap.size ≤ wq.heap.size) := by
                    show _ ≤ _
                    have := HB.out.size; have := HGR.out.size; omega
                  have hone : ∀ u ∈ meaV (f, q), u.oneCell' = true := measL_one [(f, q)] |> fun h u hu => h u (by simpa [measL] using hu)
                  have HONE := Lib.hid hone; clear hone
                  have hKc2 : (0 : Int) ≤ (0 : Int) := by omega
                  go_wp2_with fail
                  go_region_law ((refine step_append_row rfl (.tmp 60) (.tmp 62) 73 rfl w.heap.size 83 i0 (.agg #[.int .i64 0, .int .i64 0]) 2 16 Tryd.underlying73 hi hz0 hz1 hz2 rfl (by decide) (.slice none 0 0) 0 ((measL (opens st)).take (0 * 2)) (by rfl) (by first | exact HCUT2.out.alloc _ | exact (HCUT2.out.alloc _).drew | exact HCUT2.out.drew.alloc _) (.slice (some ⟨wq.heap.size, 0, none⟩) 1 1) 1 (meaV (f, q)) (by rfl) (by first | exact RowAt.lit wq _ #[.int .i64 (f : Int), .int .i64 (q : Int)] 1 rfl (by unfold maxLen; omega) | exact RowAt.lit wq.drew _ #[.int .i64 (f : Int), .int .i64 (q : Int)] 1 rfl (by unfold maxLen; omega)) HONE.out (by omega) (by unfold maxLen; omega) (by have := hwq.out; simp; omega) ?_; intro v5 w5 hown5 hg5 hat5))
                  have HO5 := Lib.hid hown5; clear hown5
                  have HG5 := Lib.hid hg5; clear hg5
                  have HAT5 := Lib.hid hat5; clear hat5
                  have hbk5 := ((HBK.out.drewN 1).alloc (.cells #[.int .i64 (f : Int), .int .i64 (q : Int)] 83)).grown HG5.out (by first | (simp [Value.ownBlock]; done) | (simp [Value.ownBlock]; omega))
                  have n0 : w5.cell? ⟨bm, 0, none⟩ = some (.int .i64 (f : Int)) := hbk5.cell 0
                  have n1 : w5.cell? ⟨bm, 1, none⟩ = some (.int .i64 (q : Int)) := hbk5.cell 1
                  have hall5 : w5.ownsRow w.heap.size 83 2 u4 k (measL (tops l k)) := by
                    have hlt4 := HALL.out.lt
                    have h1 := (ownsRow_below HALL.out HB7.out (fun x hx => (hlt4 x hx).2)).kept HGR.out (by
                      cases hx : u4.ownBlock with
                      | none => exact .inl rfl
                      | some x => refine .inr ?_; have := (hlt4 x hx).2; simp; omega)
                    have h2 : ((wq.drew).alloc (.cells #[.int .i64 (f : Int), .int .i64 (q : Int)] 83)).ownsRow w.heap.size 83 2 u4 k (measL (tops l k)) := h1.drew.alloc _
                    refine h2.kept HG5.out ?_
                    cases hx : u4.ownBlock with
                    | none => exact .inl rfl
                    | some x =>
                      refine .inr ?_
                      intro he
                      exact HNE.out x hx he.symm
                  have HALL5 := Lib.hid hall5; clear hall5
                  have hsz5 : wq.heap.size + 1 ≤ w5.heap.size := by have := HG5.out.size; simpa using this
                  have hbb : w.heap.size ≤ w5.heap.size := by have := hwq.out; omega
                  clear m0 m1 hbk5
                  go_wp2_with (at_builtin; go_must (refine wpList_append_row rfl (.tmp 64) (.tmp 66) 73 rfl w.heap.size 83 i0 (.agg #[.int .i64 0, .int .i64 0]) 2 16 Tryd.underlying73 hi hz0 hz1 hz2 rfl (by decide) u4 k (measL (tops l k)) rfl (HALL5.out.alloc _) (.slice (some ⟨w5.heap.size, 0, none⟩) 1 1) 1 (meaV (f, q)) rfl (RowAt.lit w5 _ #[.int .i64 (f : Int), .int .i64 (q : Int)] 1 rfl (by unfold maxLen; omega)) HONE.out (by omega) (by unfold maxLen; omega) (by first | (simp; done) | (simp; omega)) ?_); intro v6 w6 hown6 hg6 hat6)
                  have hlen6 : (st.drop (arity nd)).length = 0 := by have h1 := HK.out; have h2 := HAR.out; rw [List.length_drop]; omega
                  have hb8 : Below w.heap.size w w6 := by
                    have h1 : Below w.heap.size w wq := by
                      have h0 := HB.out.trans (HB7.out.mono HB.out.size)
                      exact h0.grown HGR.out (by have := HB.out.size; have := HB7.out.size; omega) (fun x hx => by cases hx; have := HB.out.size; omega)
                    have h2 : Below w.heap.size w w5 := ((h1.drew).alloc (by have := h1.size; simpa using this) _).grown HG5.out (by have := h1.size; simp; omega) (fun x hx => (HCUT2.out.lt x hx).1)
                    refine (h2.alloc h2.size _).grown hg6 (by have := h2.size; simp; omega) (fun x hx => (HALL5.out.lt x hx).1)
                  have hrel' : MRel w.heap.size w l v6 v5 (.int .i64 ((k + 1 : Nat) : Int)) w6 := by
                    refine ⟨k + 1, _, by omega, rfl, G2.out, ?_, ?_, ?_, hb8⟩
                    · have e : measL (tops l (k + 1)) = measL (tops l k) ++ meaV (f, q) := by rw [tops_succ, measL_append, HTOP.out]; simp [measL]
                      rw [e]
                      exact hown6
                    · rw [G3.out, measL_append, ← measL_take, HTOP.out]
                      have e : (Tm.mk nd (st.take (arity nd)).reverse :: st.drop (arity nd)).length = 0 + 1 := by simp [hlen6]
                      rw [e]
                      have h1 := HO5.out
                      have h2 : w6.ownsRow w.heap.size 83 2 v5 (0 + 1) ((measL (opens st)).take (0 * 2) ++ meaV (f, q)) := by
                        refine (h1.alloc _).kept hg6 ?_
                        cases hx : v5.ownBlock with
                        | none => exact .inl rfl
                        | some x =>
                          refine .inr ?_
                          intro he
                          have hy := HALL5.out.lt x he.symm
                          rcases HAT5.out with h | h
                          · exact HNE.out x he.symm (h.symm.trans hx)
                          · rw [hx] at h
                            simp at h
                            have := HALL.out.lt x he.symm
                            omega
                      simpa [measL] using h2
                    · intro x hx he
                      rcases hat6 with h | h
                      · rw [hx] at h
                        have hy := HALL.out.lt x h.symm
                        rcases HAT5.out with h' | h'
                        · exact HNE.out x h.symm (h'.symm.trans he)
                        · rw [he] at h'
                          simp at h'
                          omega
                      · rw [hx] at h
                        have hy := HO5.out.lt x he
                        simp at h
                        omega
                  have HREL := Lib.hid hrel'
                  clear hrel' hb8 hown6 hg6 hat6 hlen6
                  go_wp2
                  refine ⟨?_, by simp [intOf]; omega⟩
                  have h := HREL.out
                  have e : ((k + 1 : Nat) : Int) = (k : Int) + 1 := by omega
                  rw [e] at h
                  exact h
            · simp only [Value.slice.injEq] at hgv
              obtain ⟨rfl, _, rfl⟩ := hgv
              have hg1 : g < wa.heap.size := (Array.getElem?_eq_some_iff.1 hgh).1
              have HGC : Hid (∀ j, j < (K + ar) * 2 → wa.cell? ⟨g, j, none⟩ = (measL (opens st))[j]?) := fun j hj => HOP.out.cellAt j hj
              clear hgh hg2 hg5 hg6
              by_cases hco : co = K
              · subst hco
                obtain rfl : ar = 0 := by omega
                simp only [Nat.add_zero] at HOP HCUT hoc hlen HGC HAR HCHL hKb ⊢
                go_wp2_with fail
                obtain ⟨wo, hwo⟩ : ∃ wo, w3.alloc (Obj.cells #[Value.int IntKind.i64 (k : Int), Value.int IntKind.i64 1] 83) = wo := ⟨_, rfl⟩
                obtain ⟨bm, hbm⟩ : ∃ bm, w3.heap.size = bm := ⟨_, rfl⟩
                have hblk0 : Blk wo bm 83 #[.int .i64 (k : Int), .int .i64 1] := by rw [← hwo, ← hbm]; exact Blk.new w3 _ _
                have hsz0 : wo.heap.size = bm + 1 := by rw [← hwo, ← hbm]; simp
                have hb7 : Below wa.heap.size wa wo := by rw [← hwo]; exact hb6.alloc hb6.size _
                rw [hwo, hbm]
                rw [hbm] at hlt3
                have HB7 := Lib.hid hb7
                clear hb6 hwo hb7
                go_loopw [40] (fun i wq => InRel wo bm k 0 ch i wq) (fun i _ => 0 - (intOf i).toNat)
                case atStart => exact ⟨0, Nat.zero_le _, rfl, by rw [mfrom_zero, mdeep_zero]; exact hblk0, World.grownBy.refl _ _⟩
                case round =>
                  rename World => wq
                  obtain ⟨j, hj, rfl, hblk, hgr⟩ := hrel
                  by_cases hjl : j < 0
                  · exfalso; omega
                  · obtain rfl : j = 0 := by omega
                    have htop : topm l k = (mfrom k ch 0, mdeep ch 0) := by rw [G1.out, HCH.out, mstep_all, HCHL.out]
                    obtain ⟨f, hf⟩ : ∃ f, mfrom k ch 0 = f := ⟨_, rfl⟩
                    obtain ⟨q, hq⟩ : ∃ q, mdeep ch 0 = q := ⟨_, rfl⟩
                    rw [hf, hq] at htop hblk
                    have HTOP := Lib.hid htop; clear htop hf hq
                    obtain ⟨a', c', hv', hc', hcut⟩ := ownsRow_cut HOP.out (show co ≤ co + 0 by omega)
                    simp only [Value.slice.injEq] at hv'
                    obtain ⟨rfl, _, rfl⟩ := hv'
                    have hcut2 : wq.ownsRow w.heap.size 83 2 (.slice (some ⟨g, 0, none⟩) co co) co ((measL (opens st)).take (co * 2)) :=
                      (ownsRow_below hcut HB7.out (fun x hx => (hcut.lt x hx).2)).kept hgr (by first | exact .inl rfl | exact .inr (by simp [Value.ownBlock]; omega))
                    have HCUT2 := Lib.hid hcut2; clear hcut2 hcut
                    have m0 : wq.cell? ⟨bm, 0, none⟩ = some (.int .i64 (f : Int)) := hblk.cell 0
                    have m1 : wq.cell? ⟨bm, 1, none⟩ = some (.int .i64 (q : Int)) := hblk.cell 1
                    have mlt := hblk.lt
                    have HGR := Lib.hid hgr; clear hgr
                    have HBK := Lib.hid hblk; clear hblk
                    have hwq : Hid (w.heap.size ≤ wq.heap.size) := by
                      show _ ≤ _
                      have := HB.out.size; have := HGR.out.size; omega
                    have hone : ∀ u ∈ meaV (f, q), u.oneCell' = true := measL_one [(f, q)] |> fun h u hu => h u (by simpa [measL] using hu)
                    have HONE := Lib.hid hone; clear hone
                    have hKc : co ≤ co := by omega
                    have hKc2 : (0 : Int) ≤ (co : Int) := by omega
                    have hKc3 : (co : Int) ≤ (co : Int) := by omega
                    go_wp2_with fail
                    go_region_law ((refine step_append_row rfl (.tmp 60) (.tmp 62) 73 rfl w.heap.size 83 i0 (.agg #[.int .i64 0, .int .i64 0]) 2 16 Tryd.underlying73 hi hz0 hz1 hz2 rfl (by decide) (.slice (some ⟨g, 0, none⟩) co co) co ((measL (opens st)).take (co * 2)) (by rfl) (by first | exact HCUT2.out.alloc _ | exact (HCUT2.out.alloc _).drew | exact HCUT2.out.drew.alloc _) (.slice (some ⟨wq.heap.size, 0, none⟩) 1 1) 1 (meaV (f, q)) (by rfl) (by first | exact RowAt.lit wq _ #[.int .i64 (f : Int), .int .i64 (q : Int)] 1 rfl (by unfold maxLen; omega) | exact RowAt.lit wq.drew _ #[.int .i64 (f : Int), .int .i64 (q : Int)] 1 rfl (by unfold maxLen; omega)) HONE.out (by omega) (by unfold maxLen; omega) (by have := hwq.out; simp; omega) ?_; intro v5 w5 hown5 hg5 hat5))
                    have HO5 := Lib.hid hown5; clear hown5
                    have HG5 := Lib.hid hg5; clear hg5
                    have HAT5 := Lib.hid hat5; clear hat5
                    have hbk5 := ((HBK.out.drewN 1).alloc (.cells #[.int .i64 (f : Int), .int .i64 (q : Int)] 83)).grown HG5.out (by first | (simp [Value.ownBlock]; done) | (simp [Value.ownBlock]; omega))
                    have n0 : w5.cell? ⟨bm, 0, none⟩ = some (.int .i64 (f : Int)) := hbk5.cell 0
                    have n1 : w5.cell? ⟨bm, 1, none⟩ = some (.int .i64 (q : Int)) := hbk5.cell 1
                    have hall5 : w5.ownsRow w.heap.size 83 2 u4 k (measL (tops l k)) := by
                      have hlt4 := HALL.out.lt
                      have h1 := (ownsRow_below HALL.out HB7.out (fun x hx => (hlt4 x hx).2)).kept HGR.out (by
                        cases hx : u4.ownBlock with
                        | none => exact .inl rfl
                        | some x => refine .inr ?_; have := (hlt4 x hx).2; simp; omega)
                      have h2 : ((wq.drew).alloc (.cells #[.int .i64 (f : Int), .int .i64 (q : Int)] 83)).ownsRow w.heap.size 83 2 u4 k (measL (tops l k)) := h1.drew.alloc _
                      refine h2.kept HG5.out ?_
                      cases hx : u4.ownBlock with
                      | none => exact .inl rfl
                      | some x =>
                        refine .inr ?_
                        intro he
                        exact HNE.out x hx he.symm
                    have HALL5 := Lib.hid hall5; clear hall5
                    have hsz5 : wq.heap.size + 1 ≤ w5.heap.size := by have := HG5.out.size; simpa using this
                    have hbb : w.heap.size ≤ w5.heap.size := by have := hwq.out; omega
                    clear m0 m1 hbk5
                    go_wp2_with (at_builtin; go_must (refine wpList_append_row rfl (.tmp 64) (.tmp 66) 73 rfl w.heap.size 83 i0 (.agg #[.int .i64 0, .int .i64 0]) 2 16 Tryd.underlying73 hi hz0 hz1 hz2 rfl (by decide) u4 k (measL (tops l k)) rfl (HALL5.out.alloc _) (.slice (some ⟨w5.heap.size, 0, none⟩) 1 1) 1 (meaV (f, q)) rfl (RowAt.lit w5 _ #[.int .i64 (f : Int), .int .i64 (q : Int)] 1 rfl (by unfold maxLen; omega)) HONE.out (by omega) (by unfold maxLen; omega) (by simp; omega) ?_); intro v6 w6 hown6 hg6 hat6)
                    have hlen6 : (st.drop (arity nd)).length = co := by have h1 := HK.out; have h2 := HAR.out; rw [List.length_drop]; omega
                    have hb8 : Below w.heap.size w w6 := by
                      have h1 : Below w.heap.size w wq := by
                        have h0 := HB.out.trans (HB7.out.mono HB.out.size)
                        exact h0.grown HGR.out (by have := HB.out.size; have := HB7.out.size; omega) (fun x hx => by cases hx; have := HB.out.size; omega)
                      have h2 : Below w.heap.size w w5 := ((h1.drew).alloc (by have := h1.size; simpa using this) _).grown HG5.out (by have := h1.size; simp; omega) (fun x hx => (HCUT2.out.lt x hx).1)
                      refine (h2.alloc h2.size _).grown hg6 (by have := h2.size; simp; omega) (fun x hx => (HALL5.out.lt x hx).1)
                    have hrel' : MRel w.heap.size w l v6 v5 (.int .i64 ((k + 1 : Nat) : Int)) w6 := by
                      refine ⟨k + 1, _, by omega, rfl, G2.out, ?_, ?_, ?_, hb8⟩
                      · have e : measL (tops l (k + 1)) = measL (tops l k) ++ meaV (f, q) := by rw [tops_succ, measL_append, HTOP.out]; simp [measL]
                        rw [e]
                        exact hown6
                      · rw [G3.out, measL_append, ← measL_take, HTOP.out]
                        have e : (Tm.mk nd (st.take (arity nd)).reverse :: st.drop (arity nd)).length = co + 1 := by simp [hlen6]
                        rw [e]
                        have h1 := HO5.out
                        have h2 : w6.ownsRow w.heap.size 83 2 v5 (co + 1) ((measL (opens st)).take (co * 2) ++ meaV (f, q)) := by
                          refine (h1.alloc _).kept hg6 ?_
                          cases hx : v5.ownBlock with
                          | none => exact .inl rfl
                          | some x =>
                            refine .inr ?_
                            intro he
                            have hy := HALL5.out.lt x he.symm
                            rcases HAT5.out with h | h
                            · exact HNE.out x he.symm (h.symm.trans hx)
                            · rw [hx] at h
                              simp at h
                              have := HALL.out.lt x he.symm
                              omega
                        simpa [measL] using h2
                      · intro x hx he
                        rcases hat6 with h | h
                        · rw [hx] at h
                          have hy := HALL.out.lt x h.symm
                          rcases HAT5.out with h' | h'
                          · exact HNE.out x h.symm (h'.symm.trans he)
                          · rw [he] at h'
                            simp at h'
                            omega
                        · rw [hx] at h
                          have hy := HO5.out.lt x he
                          simp at h
                          omega
                    have HREL := Lib.hid hrel'
                    clear hrel' hb8 hown6 hg6 hat6 hlen6
                    go_wp2
                    refine ⟨?_, by simp [intOf]; omega⟩
                    have h := HREL.out
                    have e : ((k + 1 : Nat) : Int) = (k : Int) + 1 := by omega
                    rw [e] at h
                    exact h
              · 
                go_wp2_with fail
                obtain ⟨wo, hwo⟩ : ∃ wo, w3.alloc (Obj.cells #[Value.int IntKind.i64 (k : Int), Value.int IntKind.i64 1] 83) = wo := ⟨_, rfl⟩
                obtain ⟨bm, hbm⟩ : ∃ bm, w3.heap.size = bm := ⟨_, rfl⟩
                have hblk0 : Blk wo bm 83 #[.int .i64 (k : Int), .int .i64 1] := by rw [← hwo, ← hbm]; exact Blk.new w3 _ _
                have hsz0 : wo.heap.size = bm + 1 := by rw [← hwo, ← hbm]; simp
                have hb7 : Below wa.heap.size wa wo := by rw [← hwo]; exact hb6.alloc hb6.size _
                rw [hwo, hbm]
                rw [hbm] at hlt3
                have HB7 := Lib.hid hb7
                clear hb6 hwo hb7
                go_loopw [40] (fun i wq => InRel wo bm k ar ch i wq) (fun i _ => ar - (intOf i).toNat)
                case atStart => exact ⟨0, Nat.zero_le _, rfl, by rw [mfrom_zero, mdeep_zero]; exact hblk0, World.grownBy.refl _ _⟩
                case round =>
                  rename World => wq
                  obtain ⟨j, hj, rfl, hblk, hgr⟩ := hrel
                  by_cases hjl : j < ar
                  · have hjc : j < ch.length := by rw [HCHL.out]; exact hjl
                    have hx := HCHS.out ch[j] (List.getElem_mem hjc)
                    have hgx : wa.cell? ⟨g, K * 2 + j * 2, none⟩ = some (.int .i64 ((ch[j]).1 : Int)) ∧ wa.cell? ⟨g, K * 2 + j * 2 + 1, none⟩ = some (.int .i64 ((ch[j]).2 : Int)) := by
                      have e : ∀ (hh : K + j < (opens st).length), (opens st)[K + j] = ch[j] := by
                        intro hh
                        have := HCH.out
                        simp [← this]
                      have hh : K + j < (opens st).length := by rw [opens_length, HK.out]; omega
                      have c0 := HGC.out (K * 2 + j * 2) (by omega)
                      have c1 := HGC.out (K * 2 + j * 2 + 1) (by omega)
                      have m0 := measL_get (opens st) (K + j) hh 0 (by omega)
                      have m1 := measL_get (opens st) (K + j) hh 1 (by omega)
                      rw [show (K + j) * 2 + 0 = K * 2 + j * 2 from by omega] at m0
                      rw [show (K + j) * 2 + 1 = K * 2 + j * 2 + 1 from by omega] at m1
                      rw [c0, m0, c1, m1, e hh]
                      exact ⟨rfl, rfl⟩
                    obtain ⟨hgx0, hgx1⟩ := hgx
                    have hgbm : g < bm := by omega
                    have x0 := (hgr.cell ((HB7.out.cell (p := ⟨g, K * 2 + j * 2, none⟩) hg1).trans hgx0) (by simp; omega))
                    have x1 := (hgr.cell ((HB7.out.cell (p := ⟨g, K * 2 + j * 2 + 1, none⟩) hg1).trans hgx1) (by simp; omega))
                    clear hgx0 hgx1
                    have m0 : wq.cell? ⟨bm, 0, none⟩ = some (.int .i64 (mfrom k ch j : Int)) := hblk.cell 0
                    have m1 : wq.cell? ⟨bm, 1, none⟩ = some (.int .i64 (mdeep ch j : Int)) := hblk.cell 1
                    have mf0 := hblk.frozen 0
                    have mf1 := hblk.frozen 1
                    have mlt := hblk.lt
                    have hgw : g < wq.heap.size := by omega
                    have hdle := mdeep_le ch k j (fun x hx => (HCHS.out x hx).2)
                    have hds := mdeep_succ ch hjc
                    have hfo := mfrom_one k ch (by omega)
                    have hfm := fun (h : j ≠ 0) => mfrom_more k ch h
                    obtain ⟨y, hy⟩ : ∃ y, ch[j] = y := ⟨_, rfl⟩
                    obtain ⟨p, d⟩ := y
                    rw [hy] at x0 x1 hx hds
                    obtain ⟨hx1, hx2⟩ := hx
                    simp only at x0 x1 hx1 hx2 hds
                    obtain ⟨q, hq⟩ : ∃ q, mdeep ch j = q := ⟨_, rfl⟩
                    rw [hq] at m1 hds hdle hblk
                    obtain ⟨f, hf⟩ : ∃ f, mfrom k ch j = f := ⟨_, rfl⟩
                    rw [hf] at m0 hfm hblk
                    have HDS := Lib.hid hds; clear hds
                    have HFO := Lib.hid hfo; clear hfo
                    have HFM := Lib.hid hfm; clear hfm
                    have HY := Lib.hid hy; clear hy
                    have HF := Lib.hid hf; clear hf
                    have HBK := Lib.hid hblk; clear hblk
                    have HGR := Lib.hid hgr; clear hgr
                    clear hq
                    have hifc : (if (q : Int) < (d : Int) + 1 then (d : Int) + 1 else (q : Int)) = ((max q (d + 1) : Nat) : Int) := by split <;> omega
                    have HIF := Lib.hid hifc; clear hifc
                    by_cases hj0 : j = 0
                    · subst hj0
                      simp only [Nat.zero_mul, Nat.add_zero] at x0 x1
                      go_wp2
                      refine ⟨⟨1, by omega, rfl, ?_, ?_⟩, by simp [intOf]; omega⟩
                      · rw [HDS.out, HFO.out, HY.out, HIF.out]
                        exact ((HBK.out.set_ 0 _).set_ 1 _).alloc _
                      · exact grown_alloc (grown_set (grown_set HGR.out rfl _) rfl _) _
                    · have hjb : ((j : Int) == 0) = false := by simp; omega
                      have HJ0 := Lib.hid hj0; clear hj0
                      go_wp2
                      refine ⟨⟨j + 1, by omega, by go_num, ?_, ?_⟩, by simp [intOf]; omega⟩
                      · rw [HDS.out, HFM.out HJ0.out, HIF.out]
                        exact (HBK.out.set_ 1 _).alloc _
                      · exact grown_alloc (grown_set HGR.out rfl _) _
                  · obtain rfl : j = ar := by omega
                    have htop : topm l k = (mfrom k ch j, mdeep ch j) := by rw [G1.out, HCH.out, mstep_all, HCHL.out]
                    obtain ⟨f, hf⟩ : ∃ f, mfrom k ch j = f := ⟨_, rfl⟩
                    obtain ⟨q, hq⟩ : ∃ q, mdeep ch j = q := ⟨_, rfl⟩
                    rw [hf, hq] at htop hblk
                    have HTOP := Lib.hid htop; clear htop hf hq
                    obtain ⟨a', c', hv', hc', hcut⟩ := ownsRow_cut HOP.out (show K ≤ K + j by omega)
                    simp only [Value.slice.injEq] at hv'
                    obtain ⟨rfl, _, rfl⟩ := hv'
                    have hcut2 : wq.ownsRow w.heap.size 83 2 (.slice (some ⟨g, 0, none⟩) K co) K ((measL (opens st)).take (K * 2)) :=
                      (ownsRow_below hcut HB7.out (fun x hx => (hcut.lt x hx).2)).kept hgr (by first | exact .inl rfl | exact .inr (by simp [Value.ownBlock]; omega))
                    have HCUT2 := Lib.hid hcut2; clear hcut2 hcut
                    have m0 : wq.cell? ⟨bm, 0, none⟩ = some (.int .i64 (f : Int)) := hblk.cell 0
                    have m1 : wq.cell? ⟨bm, 1, none⟩ = some (.int .i64 (q : Int)) := hblk.cell 1
                    have mlt := hblk.lt
                    have HGR := Lib.hid hgr; clear hgr
                    have HBK := Lib.hid hblk; clear hblk
                    have hwq : Hid (w.heap.size ≤ wq.heap.size) := by
                      show _ ≤ _
                      have := HB.out.size; have := HGR.out.size; omega
                    have hone : ∀ u ∈ meaV (f, q), u.oneCell' = true := measL_one [(f, q)] |> fun h u hu => h u (by simpa [measL] using hu)
                    have HONE := Lib.hid hone; clear hone
                    have hKc : K ≤ co := by omega
                    have hKc2 : (0 : Int) ≤ (K : Int) := by omega
                    have hKc3 : (K : Int) ≤ (co : Int) := by omega
                    go_wp2_with fail
                    go_region_law ((refine step_append_row rfl (.tmp 60) (.tmp 62) 73 rfl w.heap.size 83 i0 (.agg #[.int .i64 0, .int .i64 0]) 2 16 Tryd.underlying73 hi hz0 hz1 hz2 rfl (by decide) (.slice (some ⟨g, 0, none⟩) K co) K ((measL (opens st)).take (K * 2)) (by rfl) (by first | exact HCUT2.out.alloc _ | exact (HCUT2.out.alloc _).drew | exact HCUT2.out.drew.alloc _) (.slice (some ⟨wq.heap.size, 0, none⟩) 1 1) 1 (meaV (f, q)) (by rfl) (by first | exact RowAt.lit wq _ #[.int .i64 (f : Int), .int .i64 (q : Int)] 1 rfl (by unfold maxLen; omega) | exact RowAt.lit wq.drew _ #[.int .i64 (f : Int), .int .i64 (q : Int)] 1 rfl (by unfold maxLen; omega)) HONE.out (by omega) (by unfold maxLen; omega) (by have := hwq.out; simp; omega) ?_; intro v5 w5 hown5 hg5 hat5))
                    have HO5 := Lib.hid hown5; clear hown5
                    have HG5 := Lib.hid hg5; clear hg5
                    have HAT5 := Lib.hid hat5; clear hat5
                    have hbk5 := ((HBK.out.drewN 1).alloc (.cells #[.int .i64 (f : Int), .int .i64 (q : Int)] 83)).grown HG5.out (by first | (simp [Value.ownBlock]; done) | (simp [Value.ownBlock]; omega))
                    have n0 : w5.cell? ⟨bm, 0, none⟩ = some (.int .i64 (f : Int)) := hbk5.cell 0
                    have n1 : w5.cell? ⟨bm, 1, none⟩ = some (.int .i64 (q : Int)) := hbk5.cell 1
                    have hall5 : w5.ownsRow w.heap.size 83 2 u4 k (measL (tops l k)) := by
                      have hlt4 := HALL.out.lt
                      have h1 := (ownsRow_below HALL.out HB7.out (fun x hx => (hlt4 x hx).2)).kept HGR.out (by
                        cases hx : u4.ownBlock with
                        | none => exact .inl rfl
                        | some x => refine .inr ?_; have := (hlt4 x hx).2; simp; omega)
                      have h2 : ((wq.drew).alloc (.cells #[.int .i64 (f : Int), .int .i64 (q : Int)] 83)).ownsRow w.heap.size 83 2 u4 k (measL (tops l k)) := h1.drew.alloc _
                      refine h2.kept HG5.out ?_
                      cases hx : u4.ownBlock with
                      | none => exact .inl rfl
                      | some x =>
                        refine .inr ?_
                        intro he
                        exact HNE.out x hx he.symm
                    have HALL5 := Lib.hid hall5; clear hall5
                    have hsz5 : wq.heap.size + 1 ≤ w5.heap.size := by have := HG5.out.size; simpa using this
                    have hbb : w.heap.size ≤ w5.heap.size := by have := hwq.out; omega
                    clear m0 m1 hbk5
                    go_wp2_with (at_builtin; go_must (refine wpList_append_row rfl (.tmp 64) (.tmp 66) 73 rfl w.heap.size 83 i0 (.agg #[.int .i64 0, .int .i64 0]) 2 16 Tryd.underlying73 hi hz0 hz1 hz2 rfl (by decide) u4 k (measL (tops l k)) rfl (HALL5.out.alloc _) (.slice (some ⟨w5.heap.size, 0, none⟩) 1 1) 1 (meaV (f, q)) rfl (RowAt.lit w5 _ #[.int .i64 (f : Int), .int .i64 (q : Int)] 1 rfl (by unfold maxLen; omega)) HONE.out (by omega) (by unfold maxLen; omega) (by simp; omega) ?_); intro v6 w6 hown6 hg6 hat6)
                    have hlen6 : (st.drop (arity nd)).length = K := by have h1 := HK.out; have h2 := HAR.out; rw [List.length_drop]; omega
                    have hb8 : Below w.heap.size w w6 := by
                      have h1 : Below w.heap.size w wq := by
                        have h0 := HB.out.trans (HB7.out.mono HB.out.size)
                        exact h0.grown HGR.out (by have := HB.out.size; have := HB7.out.size; omega) (fun x hx => by cases hx; have := HB.out.size; omega)
                      have h2 : Below w.heap.size w w5 := ((h1.drew).alloc (by have := h1.size; simpa using this) _).grown HG5.out (by have := h1.size; simp; omega) (fun x hx => (HCUT2.out.lt x hx).1)
                      refine (h2.alloc h2.size _).grown hg6 (by have := h2.size; simp; omega) (fun x hx => (HALL5.out.lt x hx).1)
                    have hrel' : MRel w.heap.size w l v6 v5 (.int .i64 ((k + 1 : Nat) : Int)) w6 := by
                      refine ⟨k + 1, _, by omega, rfl, G2.out, ?_, ?_, ?_, hb8⟩
                      · have e : measL (tops l (k + 1)) = measL (tops l k) ++ meaV (f, q) := by rw [tops_succ, measL_append, HTOP.out]; simp [measL]
                        rw [e]
                        exact hown6
                      · rw [G3.out, measL_append, ← measL_take, HTOP.out]
                        have e : (Tm.mk nd (st.take (arity nd)).reverse :: st.drop (arity nd)).length = K + 1 := by simp [hlen6]
                        rw [e]
                        have h1 := HO5.out
                        have h2 : w6.ownsRow w.heap.size 83 2 v5 (K + 1) ((measL (opens st)).take (K * 2) ++ meaV (f, q)) := by
                          refine (h1.alloc _).kept hg6 ?_
                          cases hx : v5.ownBlock with
                          | none => exact .inl rfl
                          | some x =>
                            refine .inr ?_
                            intro he
                            have hy := HALL5.out.lt x he.symm
                            rcases HAT5.out with h | h
                            · exact HNE.out x he.symm (h.symm.trans hx)
                            · rw [hx] at h
                              simp at h
                              have := HALL.out.lt x he.symm
                              omega
                        simpa [measL] using h2
                      · intro x hx he
                        rcases hat6 with h | h
                        · rw [hx] at h
                          have hy := HALL.out.lt x h.symm
                          rcases HAT5.out with h' | h'
                          · exact HNE.out x h.symm (h'.symm.trans he)
                          · rw [he] at h'
                            simp at h'
                            omega
                        · rw [hx] at h
                          have hy := HO5.out.lt x he
                          simp at h
                          omega
                    have HREL := Lib.hid hrel'
                    clear hrel' hb8 hown6 hg6 hat6 hlen6
                    go_wp2
                    refine ⟨?_, by simp [intOf]; omega⟩
                    have h := HREL.out
                    have e : ((k + 1 : Nat) : Int) = (k : Int) + 1 := by omega
                    rw [e] at h
                    exact h
          · have hno : Hid (whole l = none) := HST.out (fun h => har h.2)
            have hlt' : st.length < arity nd := by omega
            clear HST HST2 har
            go_wp2_with fail
            refine (right_any nd _ (hS1.alloc _) hsz).mono ?_
            rintro e w1 ⟨rfl, hb1⟩
            rw [hr]
            simp only [World.size_alloc] at hb1
            obtain ⟨d0, d1, d2, d3, hlt1⟩ := box_cells hb1
            have hb2 := below_box hb1
            clear hb1
            have hS2 := hS1.below hb2
            go_wp2_with fail
            refine (many_any nd _ hS2 hr).mono ?_
            rintro e w2 ⟨rfl, hb3⟩
            have hb4 := hb2.trans (hb3.mono hb2.size)
            clear hb3 hb2 d0 d1 d2 d3 hlt1
            go_wp2
            go_ret2
            exact ⟨.slice none 0 0, by rw [hno.out]; rfl, (fun h => by rw [hno.out] at h; cases h), (HB.out.trans (hb4.mono HB.out.size))⟩
      · obtain rfl : k = l.length := by omega
        rw [List.take_length] at hp
        obtain ⟨ao, co, rfl, hoc, _⟩ := ownsRow_cut hop (Nat.le_refl _)
        have hw : Hid ((whole l).isSome = ((st.length : Int) == 1)) := by
          show _ = _
          unfold whole
          rw [hp]
          match st with
          | [] => rfl
          | [t] => rfl
          | t :: u :: r => simp; omega
        have HALL := Lib.hid hall; clear hall
        clear hop hne hp
        have HB := Lib.hid hb; clear hb
        go_wp2
        go_ret2
        exact ⟨_, by rw [hw.out]; rfl, fun _ => HALL.out, HB.out⟩

end Go.Proofs.YtjhgpifccleknaaDoor
