/- What the reference's Count, Free and Uses come to, for every term that is one; condition: the strings' sizes, at most 4000 nodes. -/
import Derived.Test.YteldkcpkamgfpaaDoorShLaw
import Derived.Test.YteldkcpkamgfpaaDoorQuietM
namespace Go.Proofs.YteldkcpkamgfpaaDoor
set_option linter.unusedSimpArgs false
set_option linter.unusedVariables false
open Go.RowKit Go.BigFrame

/-! ### plain -/
def cntK (kk : Int) (L : List Int) : Int := if kk < 0 then (L.length : Int) else cntV kk L
def mostK (kk : Int) (L : List Int) : Int := (L.filter fun x => decide (kk < 0) || x == kk).foldl max (-1)
theorem cntK_append (kk : Int) (a b : List Int) : cntK kk (a ++ b) = cntK kk a + cntK kk b := by
  unfold cntK
  split
  · rw [List.length_append]; omega
  · exact cntV_append _ _ _
theorem foldmax (L : List Int) : ∀ c : Int, -1 ≤ c → L.foldl max c = max c (L.foldl max (-1)) := by
  induction L with
  | nil => intro c h; simp; omega
  | cons x r ih =>
    intro c h
    rw [List.foldl_cons, List.foldl_cons, ih (max c x) (by omega), ih (max (-1) x) (by omega)]
    omega
theorem foldmax_ge (L : List Int) : -1 ≤ L.foldl max (-1) := by
  have := foldmax L (-1) (Int.le_refl _)
  omega
theorem mostK_append (kk : Int) (a b : List Int) : mostK kk (a ++ b) = max (mostK kk a) (mostK kk b) := by
  unfold mostK
  rw [List.filter_append, List.foldl_append, foldmax _ _ (foldmax_ge _)]
theorem foldmax_le (L : List Int) (h : ∀ x, x ∈ L → x ≤ 99) : ∀ c : Int, c ≤ 99 → L.foldl max c ≤ 99 := by
  induction L with
  | nil => intro c hc; exact hc
  | cons x r ih =>
    intro c hc
    have := h x (by simp)
    exact ih (fun x hx => h x (by simp [hx])) _ (by omega)
theorem mostK_bd (kk : Int) (L : List Int) (h : ∀ x, x ∈ L → x ≤ 99) : -1 ≤ mostK kk L ∧ mostK kk L ≤ 99 := by
  unfold mostK
  exact ⟨foldmax_ge _, foldmax_le _ (fun x hx => h x (List.mem_filter.1 hx).1) _ (by omega)⟩
theorem cntK_bd (kk : Int) (L : List Int) : 0 ≤ cntK kk L ∧ cntK kk L ≤ L.length := by
  unfold cntK cntV
  have : L.countP (· == kk) ≤ L.length := List.countP_le_length
  split <;> omega
theorem ck_nil (kk : Int) : cntK kk [] = 0 ∧ mostK kk [] = -1 := by
  refine ⟨?_, rfl⟩
  unfold cntK
  split <;> rfl
theorem ck_hit {kk x : Int} (h : kk < 0 ∨ x = kk) (hx : 0 ≤ x) : cntK kk [x] = 1 ∧ mostK kk [x] = x := by
  have e : (decide (kk < 0) || x == kk) = true := by simpa using h
  refine ⟨?_, ?_⟩
  · unfold cntK cntV
    split
    · rfl
    · obtain rfl : x = kk := by omega
      simp
  · unfold mostK
    rw [List.filter_cons_of_pos (by simpa using e)]
    simp only [List.filter_nil, List.foldl_cons, List.foldl_nil]
    omega
theorem ck_miss {kk x : Int} (h : ¬ (kk < 0 ∨ x = kk)) : cntK kk [x] = 0 ∧ mostK kk [x] = -1 := by
  have e : ¬ (decide (kk < 0) || x == kk) = true := by simpa using h
  refine ⟨?_, ?_⟩
  · unfold cntK
    rw [if_neg (by omega)]
    exact cntV_one (by omega)
  · unfold mostK
    rw [List.filter_cons_of_neg (by simpa using e)]
    rfl

theorem zwL_take {β : Type} (g : Nd → Nat → β) : ∀ (l : List Tm) (bs : List Nat) (u j : Nat) (hj : j < l.length), zwL g (l.take (j + 1)) bs u = zwL g (l.take j) bs u ++ (l[j]).zw g (u + bs.getD j 0) := by
  intro l
  induction l with
  | nil => intro bs u j hj; simp at hj
  | cons t r ih =>
    intro bs u j hj
    cases j with
    | zero =>
      simp only [List.take_succ_cons, List.take_zero, zwL_cons, zwL_nil, List.append_nil, List.nil_append, List.getElem_cons_zero]
      cases bs <;> rfl
    | succ j =>
      simp only [List.take_succ_cons, zwL_cons, List.getElem_cons_succ]
      rw [ih bs.tail u j (by simpa using hj), List.append_assoc]
      cases bs <;> rfl
/-- free variables of the first parts -/
def pfv (cs : List Tm) (bs : List Nat) (u j : Nat) : List Int := (zwL fvG (cs.take j) bs u).flatten
theorem pfv_zero (cs : List Tm) (bs : List Nat) (u : Nat) : pfv cs bs u 0 = [] := by unfold pfv; rw [List.take_zero, zwL_nil]; rfl
theorem pfv_succ (cs : List Tm) (bs : List Nat) (u : Nat) {j : Nat} (hj : j < cs.length) : pfv cs bs u (j + 1) = pfv cs bs u j ++ (cs[j]).fv (u + bs.getD j 0) := by
  unfold pfv
  rw [zwL_take _ _ _ _ _ hj, List.flatten_append]
  rfl
theorem pfv_all {nd : Nd} {cs : List Tm} (u : Nat) (hK : nd.K ≠ 0) : (Tm.mk nd cs).fv u = pfv cs (bnds nd) u cs.length := by
  rw [fv_mk]
  unfold pfv fvG
  rw [List.take_length, if_neg (fun h => hK h.1), List.append_nil]
theorem fv_var {nd : Nd} {cs : List Tm} (u : Nat) (hw : (Tm.mk nd cs).wf = true) (hK : nd.K = 0) : (Tm.mk nd cs).fv u = fvG nd u := by
  obtain ⟨h1, h2, h3⟩ := wf_iff.1 hw
  rw [(var_right h1 hK).2.2.2] at h2
  obtain rfl : cs = [] := List.eq_nil_of_length_eq_zero h2
  rw [fv_mk, zwL_nil]
  rfl
theorem zip_short : ∀ (a : List Nd) (b : List Nat) (x : List Int), x ∈ List.zipWith fvG a b → x.length ≤ 1 := by
  intro a
  induction a with
  | nil => intro b x hx; simp at hx
  | cons n r ih =>
    intro b x hx
    cases b with
    | nil => simp at hx
    | cons y s =>
      rw [List.zipWith_cons_cons] at hx
      rcases List.mem_cons.1 hx with rfl | hx
      · exact fvG_len _ _
      · exact ih s x hx
theorem pfv_len (cs : List Tm) (bs : List Nat) (u j : Nat) : (pfv cs bs u j).length ≤ (flatL cs).length := by
  have h1 : ∀ L : List (List Int), (∀ x, x ∈ L → x.length ≤ 1) → L.flatten.length ≤ L.length := by
    intro L
    induction L with
    | nil => intro _; simp
    | cons x r ih => intro h; have := h x (by simp); have := ih (fun y hy => h y (by simp [hy])); simp only [List.flatten_cons, List.length_append, List.length_cons]; omega
  have h2 := h1 (zwL fvG (cs.take j) bs u) (fun x hx => by
    unfold zwL at hx
    exact zip_short _ _ x hx)
  have h3 : (zwL fvG (cs.take j) bs u).length = (flatL (cs.take j)).length := by unfold zwL; rw [List.length_zipWith, undL_length, Nat.min_self]
  have h4 : flatL cs = flatL (cs.take j) ++ flatL (cs.drop j) := by rw [← flatL_append, List.take_append_drop]
  unfold pfv
  rw [h4, List.length_append]
  omega
theorem fv_bd {t : Tm} (hw : t.wf = true) (u : Nat) : ∀ x, x ∈ t.fv u → x ≤ 99 := fun x hx => (fv_bound hw x hx).2
theorem pfv_bd {cs : List Tm} (hw : ∀ t, t ∈ cs → t.wf = true) (bs : List Nat) (u : Nat) : ∀ j, j ≤ cs.length → ∀ x, x ∈ pfv cs bs u j → x ≤ 99 := by
  intro j
  induction j with
  | zero => intro _ x hx; rw [pfv_zero] at hx; cases hx
  | succ j ih =>
    intro hj x hx
    rw [pfv_succ _ _ _ (by omega)] at hx
    rcases List.mem_append.1 hx with hx | hx
    · exact ih (by omega) x hx
    · exact fv_bd (hw _ (List.getElem_mem (by omega))) _ x hx

/-! ### parts and binders, read one by one -/
theorem kid_at {w : World} {pa : Option Addr} {pc : Nat} {cs : List Tm} (h : ReadNN w (.slice pa cs.length pc) (cs.map Tm.flat)) {j : Nat} (hj : j < cs.length) :
    ∃ pb po a1 c1, pa = some ⟨pb, po, none⟩ ∧ pb < w.heap.size ∧ w.cell? ⟨pb, po + j, none⟩ = some (.slice a1 (cs[j]).flat.length c1) ∧ ReadN w (.slice a1 (cs[j]).flat.length c1) (cs[j]).flat := by
  obtain ⟨_, ⟨h0, _⟩ | ⟨pb, po, pcap, hpe, hpb⟩⟩ := ReadNN.shape h
  · have h1 := congrArg List.length h0
    rw [List.length_map] at h1
    simp only [List.length_nil] at h1
    omega
  rw [List.length_map] at hpe
  obtain ⟨rfl, rfl⟩ : pa = some ⟨pb, po, none⟩ ∧ pc = pcap := by simpa using hpe
  have h' : ReadNN w (.slice (some ⟨pb, po, none⟩) (cs.map Tm.flat).length pc) (cs.map Tm.flat) := by rw [List.length_map]; exact h
  obtain ⟨a1, c1, g1, r1⟩ := h'.at (i := j) (by simpa using hj)
  have e1 : (cs.map Tm.flat)[j]'(by simpa using hj) = cs[j].flat := by simp
  rw [e1] at g1 r1
  exact ⟨pb, po, a1, c1, rfl, hpb, g1, r1⟩
theorem bind_at {w : World} {ba : Option Addr} {bc n : Nat} {bs : List Nat} (h : RowAt w 1 (.slice ba n bc) n (bs.map fun y : Nat => Value.int .i64 (y : Int))) {j : Nat} (hj : j < n) (hl : bs.length = n) :
    ∃ gb ob, ba = some ⟨gb, ob, none⟩ ∧ gb < w.heap.size ∧ w.cell? ⟨gb, ob + j, none⟩ = some (.int .i64 ((bs.getD j 0 : Nat) : Int)) := by
  obtain ⟨gb, ob, cb', he, _, _, hgb, hbc⟩ := RowAt.pos h (by omega)
  obtain ⟨rfl, rfl⟩ : ba = some ⟨gb, ob, none⟩ ∧ bc = cb' := by simpa using he
  have hjb : j < bs.length := by omega
  exact ⟨gb, ob, rfl, hgb, hbc j _ (by simp [hjb])⟩
theorem binds_row {w : World} {vb : Value} {nd : Nd} {n : Nat} (h : ReadI w vb ((bnds nd).map Int.ofNat)) (hn : n = arity nd) : ∃ ba bc, vb = .slice ba n bc ∧ RowAt w 1 (.slice ba n bc) n ((bnds nd).map fun y : Nat => Value.int .i64 (y : Int)) ∧ (bnds nd).length = n := by
  subst hn
  obtain ⟨ba, bc, rfl⟩ := ReadI.len_slice h
  refine ⟨ba, bc, by rw [List.length_map]; rfl, ?_, rfl⟩
  unfold ReadI at h
  rw [List.length_map, List.map_map] at h
  exact h

/-! ### Count -/
def CountPost (kk : Int) (L : List Int) (w : World) (e : Ending) (w' : World) : Prop := e = .returned (.tuple #[.int .i64 (cntK kk L), .int .i64 (mostK kk L)]) ∧ Below w.heap.size w w'
def CountIt (kk : Int) (t : Tm) : Prop := t.wf = true → ∀ (u : Nat) (v : Value) (w : World), u + 2 * t.dep ≤ 30000 → ReadN w v t.flat → SmallN t.flat → t.flat.length ≤ 4000 →
    Calls Tryd.prog 89 #[v, .int .i64 kk, .int .i64 (u : Int)] w (CountPost kk (t.fv u) w)

def CountRel (kk : Int) (cs : List Tm) (bs : List Nat) (u : Nat) (w w1 : World) (m q i : Value) (wr : World) : Prop :=
  ∃ j, j ≤ cs.length ∧ i = .int .i64 (j : Int) ∧ m = .int .i64 (cntK kk (pfv cs bs u j)) ∧ q = .int .i64 (mostK kk (pfv cs bs u j)) ∧ Below w.heap.size w wr ∧ Below w1.heap.size w1 wr

set_option maxRecDepth 20000 in
set_option maxHeartbeats 4000000 in
theorem refcount_all (kk : Int) : ∀ t : Tm, CountIt kk t := by
  refine Tm.ind ?_
  intro nd cs ih hwf u v w hu hv hs hlen
  obtain ⟨hr, har, hks⟩ := wf_iff.1 hwf
  obtain ⟨ad, cp, rfl⟩ := ReadN.len_slice hv
  have hsz : nd.S.size ≤ maxLen := hs nd (List.mem_of_getLast? (flat_last _))
  have hroot := root_any (Tm.mk nd cs).flat nd _ w hv (flat_last _)
  by_cases hK : nd.K = 0
  · have hfv := fv_var u hwf hK
    obtain ⟨hN0, hN9⟩ := right_var hr hK
    have hkb : (nd.K == 0) = true := by simpa using hK
    rw [hfv]
    obtain ⟨n, hn⟩ : ∃ n, (Tm.mk nd cs).flat.length = n := ⟨_, rfl⟩
    rw [hn] at hroot hlen ⊢
    have hu3 : u ≤ 30000 := by omega
    have HR := Lib.hid hroot
    clear hroot hv hs hn hfv hwf har hks ih hK
    by_cases hge : 0 ≤ nd.N - (u : Int)
    · have hfg : fvG nd u = [nd.N - u] := by unfold fvG; rw [if_pos ⟨by simpa using hkb, by omega⟩]
      rw [hfg]
      by_cases hkn : kk < 0
      · have hc := ck_hit (kk := kk) (x := nd.N - u) (.inl hkn) hge
        have HC := Lib.hid hc
        clear hc hfg
        go_enter Tryd.func89, Tryd.ntmps89
        go_wp2_with fail
        refine HR.out.mono ?_
        rintro e w1 ⟨rfl, hb1⟩
        have HB1 := Lib.hid hb1; clear hb1 HR
        go_wp2_with fail
        go_ret2
        exact ⟨by rw [HC.out.1, HC.out.2]; rfl, HB1.out.alloc HB1.out.size _⟩
      · by_cases hek : nd.N - u = kk
        · have hc := ck_hit (kk := kk) (x := nd.N - u) (.inr hek) hge
          have hkb2 : (nd.N - (u : Int) == kk) = true := by simpa using hek
          have HC := Lib.hid hc
          clear hc hfg hek
          go_enter Tryd.func89, Tryd.ntmps89
          go_wp2_with fail
          refine HR.out.mono ?_
          rintro e w1 ⟨rfl, hb1⟩
          have HB1 := Lib.hid hb1; clear hb1 HR
          go_wp2_with fail
          go_ret2
          exact ⟨by rw [HC.out.1, HC.out.2]; rfl, HB1.out.alloc HB1.out.size _⟩
        · have hc := ck_miss (kk := kk) (x := nd.N - u) (by omega)
          have hkb2 : (nd.N - (u : Int) == kk) = false := by simpa using hek
          have HC := Lib.hid hc
          clear hc hfg hek
          go_enter Tryd.func89, Tryd.ntmps89
          go_wp2_with fail
          refine HR.out.mono ?_
          rintro e w1 ⟨rfl, hb1⟩
          have HB1 := Lib.hid hb1; clear hb1 HR
          go_wp2_with fail
          go_ret2
          exact ⟨by rw [HC.out.1, HC.out.2]; rfl, HB1.out.alloc HB1.out.size _⟩
    · have hfg : fvG nd u = [] := by unfold fvG; rw [if_neg (by omega)]
      rw [hfg]
      have HC := Lib.hid (ck_nil kk)
      clear hfg
      go_enter Tryd.func89, Tryd.ntmps89
      go_wp2_with fail
      refine HR.out.mono ?_
      rintro e w1 ⟨rfl, hb1⟩
      have HB1 := Lib.hid hb1; clear hb1 HR
      go_wp2_with fail
      go_ret2
      exact ⟨by rw [HC.out.1, HC.out.2]; rfl, HB1.out.alloc HB1.out.size _⟩
  have hkb : (nd.K == 0) = false := by simpa using hK
  have hm4 : cs.length ≤ 4000 := by have := flatL_ge cs; rw [flat_mk, List.length_append] at hlen; omega
  have hfl4 : (flatL cs).length ≤ 4000 := by rw [flat_mk, List.length_append] at hlen; omega
  have HIH : Hid (∀ (k : Nat) (hk : k < cs.length) (y : Nat) (v : Value) (w' : World), y ≤ 2 → ReadN w' v (cs[k]).flat → Calls Tryd.prog 89 #[v, .int .i64 kk, .int .i64 ((u : Int) + (y : Int))] w' (CountPost kk ((cs[k]).fv (u + y)) w')) := by
    show ∀ (k : Nat) (hk : k < cs.length) (y : Nat) (v : Value) (w' : World), _
    intro k hk y v w' hy hv'
    have h1 := part_len (nd := nd) hk
    have h2 := dep_le_depL (List.getElem_mem hk)
    rw [dep_mk] at hu
    have := ih cs[k] (List.getElem_mem hk) (hks _ (List.getElem_mem hk)) (u + y) v w' (by omega) hv' (part_small hs hk) (by omega)
    rw [show (((u + y : Nat)) : Int) = (u : Int) + (y : Int) from by omega] at this
    exact this
  have HPA : Hid (∀ w', Below w.heap.size w w' → Calls Tryd.prog 29 #[.slice ad (Tm.mk nd cs).flat.length cp] w' (PartsPost cs w')) := by
    show ∀ w', _
    intro w' hb
    exact refparts_any nd cs _ w' hwf (hv.below hb) hs hlen
  rw [pfv_all u hK]
  obtain ⟨bs, hbs⟩ : ∃ bs, bnds nd = bs := ⟨_, rfl⟩
  have hb2 : ∀ y, y ∈ bs → y ≤ 2 := by rw [← hbs]; exact bnds_two hr
  have HB2L := Lib.hid hb2
  have HPB : Hid (∀ j, j ≤ cs.length → -1 ≤ mostK kk (pfv cs bs u j) ∧ mostK kk (pfv cs bs u j) ≤ 99 ∧ 0 ≤ cntK kk (pfv cs bs u j) ∧ cntK kk (pfv cs bs u j) ≤ 4000) := by
    show ∀ j, _
    intro j hj
    have h1 := mostK_bd kk _ (pfv_bd hks bs u j hj)
    have h2 := cntK_bd kk (pfv cs bs u j)
    have h3 := pfv_len cs bs u j
    omega
  have hu3 : u ≤ 30000 := by omega
  have HR := Lib.hid hroot
  have HRR := Lib.hid hr
  have HAR := Lib.hid har
  have HKS := Lib.hid hks
  have HBS := Lib.hid hbs
  rw [hbs]
  obtain ⟨n, hn⟩ : ∃ n, (Tm.mk nd cs).flat.length = n := ⟨_, rfl⟩
  rw [hn] at HPA HR hlen ⊢
  clear hroot hv hs hn hwf har hks ih hK hbs hb2 hr
  go_enter Tryd.func89, Tryd.ntmps89
  go_wp2_with fail
  refine HR.out.mono ?_
  rintro e w1 ⟨rfl, hb1⟩
  have HB1 := Lib.hid hb1; clear hb1 HR
  go_wp2_with fail
  refine (refbinds_any nd _ hsz).mono ?_
  rintro e w3 ⟨vb, lb, rfl, hvb, hlb, hb3⟩
  have hlb := hlb HRR.out
  rw [HRR.out]
  subst hlb
  obtain ⟨ba, bc, rfl, hrow, hbl⟩ := binds_row hvb HAR.out
  rw [HBS.out] at hrow hbl
  have HB3 : Hid (Below w.heap.size w w3) := (HB1.out.alloc HB1.out.size _).trans (hb3.mono (by have := HB1.out.size; simp; omega))
  have HROW := Lib.hid hrow
  have HBL := Lib.hid hbl
  clear hb3 hvb hrow hbl
  go_wp2_with fail
  refine (HPA.out _ HB3.out).mono ?_
  rintro e w4 ⟨pa, pc, rfl, hnn, hb4⟩
  have HROW := Lib.hid (HROW.out.below hb4)
  have HB4 := chain HB3 hb4
  have HNN := Lib.hid hnn
  clear hb4 hnn HPA
  go_wp2_with fail
  go_loopw [13, 14, 15] (fun m q i wr => CountRel kk cs bs u w w4 m q i wr) (fun _ _ i _ => cs.length - (intOf i).toNat)
  case atStart => exact ⟨0, Nat.zero_le _, rfl, by rw [pfv_zero, (ck_nil kk).1], by rw [pfv_zero, (ck_nil kk).2], HB4.out, Below.refl _ _⟩
  case round =>
    rename World => wa
    obtain ⟨j, hj, rfl, rfl, rfl, hb, hbb⟩ := hrel
    have HB := Lib.hid hb; clear hb
    have HBB := Lib.hid hbb; clear hbb
    obtain ⟨q0, q1, q2, q3⟩ := HPB.out j hj
    by_cases hlt : j < cs.length
    · obtain ⟨pb, po, a1, c1, rfl, hpb, g1, r1⟩ := kid_at (HNN.out.below HBB.out) hlt
      obtain ⟨gb, ob, rfl, hgb, g2⟩ := bind_at (HROW.out.below HBB.out) hlt HBL.out
      have hst := pfv_succ cs bs u hlt
      obtain ⟨p0, p1, p2, p3⟩ := HPB.out (j + 1) (by omega)
      have hst1 : cntK kk (pfv cs bs u (j + 1)) = cntK kk (pfv cs bs u j) + cntK kk ((cs[j]).fv (u + bs.getD j 0)) := by rw [hst, cntK_append]
      have hst2 : mostK kk (pfv cs bs u (j + 1)) = max (mostK kk (pfv cs bs u j)) (mostK kk ((cs[j]).fv (u + bs.getD j 0))) := by rw [hst, mostK_append]
      have hz := cntK_bd kk ((cs[j]).fv (u + bs.getD j 0))
      have hz2 := mostK_bd kk _ (fv_bd (HKS.out _ (List.getElem_mem hlt)) (u + bs.getD j 0))
      obtain ⟨y, hy⟩ : ∃ y, bs.getD j 0 = y := ⟨_, rfl⟩
      have hy2 : y ≤ 2 := by
        rw [← hy, List.getD_eq_getElem?_getD, List.getElem?_eq_getElem (by rw [HBL.out]; exact hlt)]
        exact HB2L.out _ (List.getElem_mem _)
      rw [hy] at g2 hst1 hst2 hz hz2
      have hcall := HIH.out j hlt y
      obtain ⟨m1, hm1⟩ : ∃ m, cntK kk ((cs[j]).fv (u + y)) = m := ⟨_, rfl⟩
      obtain ⟨m2, hm2⟩ : ∃ m, mostK kk ((cs[j]).fv (u + y)) = m := ⟨_, rfl⟩
      obtain ⟨s1, hs1⟩ : ∃ m, cntK kk (pfv cs bs u j) = m := ⟨_, rfl⟩
      obtain ⟨s2, hs2⟩ : ∃ m, mostK kk (pfv cs bs u j) = m := ⟨_, rfl⟩
      have HCX : Hid (∀ x : BW wa.heap.size wa, Calls Tryd.prog 89 #[.slice a1 (cs[j]).flat.length c1, .int .i64 kk, .int .i64 ((u : Int) + (y : Int))] x.w fun e w' => e = .returned (.tuple #[.int .i64 m1, .int .i64 m2]) ∧ ∃ z : BW wa.heap.size wa, w' = z.w) := by
        show ∀ x : BW wa.heap.size wa, _
        intro x
        have := hcall (.slice a1 (cs[j]).flat.length c1) x.w hy2 (r1.below x.h)
        unfold CountPost at this
        rw [hm1, hm2] at this
        exact this.mono fun e w' ⟨h1, h2⟩ => ⟨h1, ⟨w', x.h.trans (h2.mono x.h.size)⟩, rfl⟩
      rw [hm1, hs1] at hst1
      rw [hm2, hs2] at hst2
      rw [hm1] at hz
      rw [hm2] at hz2
      rw [hs1] at q2 q3 ⊢
      rw [hs2] at q0 q1 ⊢
      obtain ⟨q, hq⟩ : ∃ q, (cs[j]).flat.length = q := ⟨_, rfl⟩
      rw [hq] at g1 HCX
      have HS1 := Lib.hid hst1
      have HS2 := Lib.hid hst2
      have hm10 := hz.1
      have hm14 : m1 ≤ 4000 := by omega
      have hm20 := hz2.1
      have hm29 := hz2.2
      have hj4 : j ≤ 4000 := by omega
      have f1 : ∀ x : BW wa.heap.size wa, x.w.cell? ⟨pb, po + j, none⟩ = some (.slice a1 q c1) := fun x => (x.h.cell (p := ⟨pb, po + j, none⟩) hpb).trans g1
      have f2 : ∀ x : BW wa.heap.size wa, x.w.cell? ⟨gb, ob + j, none⟩ = some (.int .i64 (y : Int)) := fun x => (x.h.cell (p := ⟨gb, ob + j, none⟩) hgb).trans g2
      have C0 : Hid (Below wa.heap.size wa wa.drew) := (Below.refl _ wa).drew
      clear hst hst1 hst2 hz hz2 hcall r1 hy hm1 hm2 hs1 hs2 hq p0 p1 p2 p3
      go_wp2_with fail
      refine wp_region_bw (B := wa.heap.size) (W := wa) (by kernel_rfl) (by kernel_rfl) C0.out ?_
      repeat (first
        | go_big_quiet_skip
        | (go_big_quiet_want; go_big_quiet_op; first | go_big_quiet_on | (apply Exists.intro; refine ⟨?_, ?_⟩; exact HCX.out; go_big_quiet_on)))
      refine wpQuiet_nil ?_
      intro w9 hb9
      have HB9 : Hid (Below w.heap.size w w9) := HB.out.trans (hb9.mono HB.out.size)
      have HBB9 : Hid (Below w4.heap.size w4 w9) := HBB.out.trans (hb9.mono HBB.out.size)
      clear hb9 C0 f1 f2 HCX
      go_wp2_with fail
      go_roundw
      case rel => exact ⟨j + 1, by omega, by go_num, by rw [HS1.out], by rw [HS2.out]; congr 1; omega, HB9.out, HBB9.out⟩
      case measure => simp [intOf]; omega
    · obtain rfl : j = cs.length := by omega
      obtain ⟨s1, hs1⟩ : ∃ m, cntK kk (pfv cs bs u cs.length) = m := ⟨_, rfl⟩
      obtain ⟨s2, hs2⟩ : ∃ m, mostK kk (pfv cs bs u cs.length) = m := ⟨_, rfl⟩
      rw [hs1, hs2]
      have HS1 := Lib.hid hs1
      have HS2 := Lib.hid hs2
      clear hs1 hs2
      go_wp2_with fail
      go_ret2
      exact ⟨by rw [HS1.out, HS2.out]; rfl, HB.out⟩

end Go.Proofs.YteldkcpkamgfpaaDoor

