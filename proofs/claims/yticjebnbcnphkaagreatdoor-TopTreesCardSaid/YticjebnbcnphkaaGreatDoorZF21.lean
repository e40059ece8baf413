/- A part of the proof that the abstract interpreter is sound, and of the two goroutines of the lexer. -/
import Derived.Test.YticjebnbcnphkaaGreatDoorZF12
import Derived.Test.YticjebnbcnphkaaGreatDoorZAiKr
import Derived.Test.YticjebnbcnphkaaGreatDoorZTop

set_option linter.unusedSimpArgs false
set_option linter.unusedVariables false
set_option linter.unusedSectionVars false

namespace Go.Ai
noncomputable section
open Go Go.Proofs Go.Proofs.YticjebnbcnphkaaGreatDoor

theorem rows_of_each {σ : Ai.Sub} {s : Nat} : ∀ (L : List (List AV)) (cells : List Value), cells.length = L.length * s → (∀ r ∈ L, r.length = s ∧ r.all oneA = true) → (∀ (k : Nat) r, L[k]? = some r → VRels σ r ((cells.drop (k * s)).take s)) → RowsR σ s L cells
  | [], cells, hl, _, _ => by
    have : cells = [] := List.eq_nil_of_length_eq_zero (by simpa using hl)
    subst this; exact RowsR.nil σ s
  | r :: L, cells, hl, h1, h2 => by
    have h0 := h2 0 r rfl
    simp only [Nat.zero_mul, List.drop_zero] at h0
    have hl2 : (cells.drop s).length = L.length * s := by rw [List.length_drop, hl, List.length_cons, Nat.add_mul]; omega
    have ih := rows_of_each L (cells.drop s) hl2 (fun q hq => h1 q (by simp [hq])) fun k q hq => by
      have := h2 (k + 1) q hq
      rw [List.drop_drop]
      rwa [show (k + 1) * s = s + k * s by rw [Nat.add_mul]; omega] at this
    have := RowsR.cons (h1 r (by simp)).1 (h1 r (by simp)).2 h0 ih
    rwa [List.take_append_drop] at this

/-- a row that lies at a place -/
theorem row_at {σ : Ai.Sub} {w : World} {cb base s n : Nat} {L : List (List AV)} {c : Array Value} {elem : TypeId} {cells : List Value} (hs : s ≠ 0) (hL : L.length = n) (h0 : 0 < n) (hle : n ≤ 65536) (hc : w.heap[cb]? = some (.cells c elem (0, 0))) (ht : σ.top cb = some c.size) (hR : RowsR σ s L cells) (hp : ∀ (i : Nat) (y : Value), cells[i]? = some y → c[base + i]? = some y) :
    ORel σ w cb base s (.row s n (trOf 0 L .lf)) := by
  have hlen := hR.size
  have hpos : 0 < cells.length := by rw [hlen]; exact Nat.mul_pos (by omega) (by omega)
  have hsz : base + n * s ≤ c.size := by
    have h1 : cells[cells.length - 1]? = some cells[cells.length - 1] := List.getElem?_eq_getElem (by omega)
    have h2 := (Array.getElem?_eq_some_iff.1 (hp _ _ h1)).1
    rw [← hL, ← hlen]; omega
  refine .row n _ c elem 0 0 hs hle hc ht (.inl rfl) hsz fun i cs hi hg => ?_
  rw [trOf_get L 0 i .lf (by omega), if_pos (by omega)] at hg
  simp at hg
  obtain ⟨h1, h2⟩ := hR.1 cs (List.mem_of_getElem? hg)
  refine ⟨h1, h2, ?_⟩
  have h3 := hR.get i cs hg
  have e : (cells.drop (i * s)).take s = (c.toList.drop (base + i * s)).take s := by
    apply List.ext_getElem?
    intro j
    rw [List.getElem?_take, List.getElem?_take]
    split
    · rename_i hj
      rw [List.getElem?_drop, List.getElem?_drop]
      have hij : i * s + j < cells.length := by
        rw [hlen, hL]
        calc i * s + j < i * s + s := by omega
          _ = (i + 1) * s := by rw [Nat.add_mul]; omega
          _ ≤ n * s := Nat.mul_le_mul_right _ (by omega)
      have := hp (i * s + j) _ (List.getElem?_eq_getElem hij)
      rw [List.getElem?_eq_getElem hij]
      rw [Nat.add_assoc]
      simpa using this.symm
    · rfl
  rw [← e]; exact h3

theorem fold_get {b : Pa} (hb : b.length = 5) {o : AO} : ∀ (rows : List (Nat × Nat × List (List AV))) (t : HT), (∀ x ∈ rows, (idOf x.1).length = 5) → HT.get b (rows.foldl (fun t x => HT.set (.ob (.row x.2.1 x.2.2.length (trOf 0 x.2.2 .lf))) (idOf x.1) t) t) = some o →
    HT.get b t = some o ∨ ∃ x ∈ rows, b = idOf x.1 ∧ o = .row x.2.1 x.2.2.length (trOf 0 x.2.2 .lf)
  | [], t, _, h => .inl h
  | x :: rows, t, hl, h => by
    rcases fold_get hb rows _ (fun y hy => hl y (by simp [hy])) h with h1 | ⟨y, h1, h2⟩
    · rw [HT.get_set _ _ _ _ (by rw [hl x (by simp), hb])] at h1
      split at h1
      · rename_i e; cases h1; exact .inr ⟨x, by simp, e, rfl⟩
      · exact .inl h1
    · exact .inr ⟨y, by simp [h1], h2⟩

def sig0 (loc : Nat → Option (Nat × Nat × Nat)) (w : World) : Ai.Sub :=
  ⟨fun b => if b.length = 5 ∧ rom b = true then (match loc (val b) with | some (cb, base, sz) => .at cb base sz | none => .dead) else .pend, fun k => match w.heap[k]? with | some (.cells c _ _) => some c.size | _ => none⟩

theorem ids_ok : ∀ x ∈ rows0, (idOf x.1).length = 5 ∧ rom (idOf x.1) = true ∧ val (idOf x.1) = x.1 := by
  have : (rows0.all fun x => Nat.beq (idOf x.1).length 5 && rom (idOf x.1) && Nat.beq (val (idOf x.1)) x.1) = true := by decide +kernel
  intro x hx
  have := List.all_eq_true.1 this x hx
  simp only [Bool.and_eq_true] at this
  exact ⟨Nat.eq_of_beq_eq_true this.1.1, this.1.2, Nat.eq_of_beq_eq_true this.2⟩
theorem glob_ids : ∀ g, glOk g = true → (idOf g).length = 5 ∧ rom (idOf g) = true ∧ val (idOf g) = g := by
  intro g hg
  simp only [glOk, Bool.or_eq_true] at hg
  rcases hg with ((h | h) | h) | h <;> (rw [Nat.eq_of_beq_eq_true h]; exact ⟨by decide +kernel, by decide +kernel, by decide +kernel⟩)
theorem next0_ok : A0.next.length = 5 ∧ val A0.next = 256 := ⟨by decide +kernel, by decide +kernel⟩
theorem A0_ph : A0.ph = 0 := rfl

theorem rel0 {w : World} (loc : Nat → Option (Nat × Nat × Nat)) (hg : ∀ g, glOk g = true → ∃ sz, loc g = some (g, 0, sz)) (hlow : ∀ n cb base sz, loc n = some (cb, base, sz) → cb < w.heap.size ∧ sz ≠ 0)
    (hrow : ∀ x ∈ rows0, ∃ cb base c el cells, loc x.1 = some (cb, base, x.2.1) ∧ 0 < x.2.2.length ∧ x.2.2.length ≤ 65536 ∧ w.heap[cb]? = some (.cells c el (0, 0)) ∧ RowsR (sig0 loc w) x.2.1 x.2.2 cells ∧ ∀ (i : Nat) (y : Value), cells[i]? = some y → c[base + i]? = some y) : Rel (sig0 loc w) A0 w := by
  have get0 : ∀ b o, b.length = 5 → A0.get b = some o → ∃ x ∈ rows0, b = idOf x.1 ∧ o = .row x.2.1 x.2.2.length (trOf 0 x.2.2 .lf) := fun b o hb h => by
    rcases fold_get hb rows0 .lf (fun x hx => (ids_ok x hx).1) h with h1 | h1
    · rw [HT.get_lf] at h1; cases h1
    · exact h1
  have sigR : ∀ b, b.length = 5 → rom b = true → sig0 loc w b = match loc (val b) with | some (cb, base, sz) => Sig.at cb base sz | none => .dead := fun b h1 h2 => by
    show (if b.length = 5 ∧ rom b = true then _ else _) = _
    rw [if_pos ⟨h1, h2⟩]
  have sigN : ∀ b, ¬ (b.length = 5 ∧ rom b = true) → sig0 loc w b = .pend := fun b h => by
    show (if b.length = 5 ∧ rom b = true then _ else _) = _
    rw [if_neg h]
  have atR : ∀ b cb base sz, sig0 loc w b = .at cb base sz → b.length = 5 ∧ rom b = true ∧ loc (val b) = some (cb, base, sz) := fun b cb base sz h => by
    by_cases hb : b.length = 5 ∧ rom b = true
    · rw [sigR b hb.1 hb.2] at h
      refine ⟨hb.1, hb.2, ?_⟩
      split at h
      · rename_i e; cases h; exact e
      · cases h
    · rw [sigN b hb] at h; cases h
  refine ⟨fun b hb hv => ?_, fun b o hob => ?_, fun b b' cb base sz base' sz' h h' => .inr ⟨(atR _ _ _ _ h).2.1, (atR _ _ _ _ h').2.1⟩, fun g hgl => ?_, fun b cb base sz h => (hlow _ _ _ _ (atR _ _ _ _ h).2.2).1, fun b hb => sigN b fun h => hb h.1, fun k hk => ?_, next0_ok.1, by rw [next0_ok.2]; exact Nat.le_refl _, fun b hb hr => ?_⟩
  · rw [next0_ok.2] at hv
    have hnr : ¬ (b.length = 5 ∧ rom b = true) := fun h => by have := (rom_val h.1).1 h.2; omega
    refine ⟨sigN b hnr, ?_⟩
    cases hg0 : A0.get b with
    | none => rfl
    | some o =>
      obtain ⟨x, hx, e, _⟩ := get0 b o hb hg0
      subst e
      exact absurd ⟨(ids_ok x hx).1, (ids_ok x hx).2.1⟩ hnr
  · by_cases hb : b.length = 5
    · obtain ⟨x, hx, rfl, rfl⟩ := get0 b o hb hob
      obtain ⟨i1, i2, i3⟩ := ids_ok x hx
      obtain ⟨cb, base, c, el, cells, h1, h2, h3, h4, h5, h6⟩ := hrow x hx
      refine .inr (.inr ⟨cb, base, x.2.1, ?_, ?_⟩)
      · rw [sigR _ i1 i2, i3, h1]
      · exact row_at (hlow _ _ _ _ h1).2 rfl h2 h3 h4 (by show (match w.heap[cb]? with | some (.cells c _ _) => some c.size | _ => Option.none) = _; rw [h4]) h5 h6
    · exact .inl (sigN b fun h => hb h.1)
  · obtain ⟨i1, i2, i3⟩ := glob_ids g hgl
    obtain ⟨sz, h1⟩ := hg g hgl
    exact .inr ⟨sz, by rw [sigR _ i1 i2, i3, h1]⟩
  · show (match w.heap[k]? with | some (.cells c _ _) => some c.size | _ => Option.none) = _
    rw [Array.getElem?_eq_none hk]
  · rw [sigR b hb hr]
    split
    · rename_i cb base sz h
      exact .inr ⟨cb, base, sz, rfl, (hlow _ _ _ _ h).2⟩
    · exact .inl rfl

/-! the laid variables -/
def bindsV (e : Shp) : AV := match e.l with | [] => .nil 1 | _ :: _ => .slc (idOf e.id) 0 e.l.length (some e.l.length)
def rowS (e : Shp) : List AV := [bindsV e, .bool e.a, .bool e.b, .bool e.c]
def numsV (k : IntKind) (l : List Nat) : List (List AV) := l.map fun n => [.nat k n]
def pow10 : List Nat := [1, 10, 100, 1000, 10000, 100000, 1000000, 10000000, 100000000, 1000000000, 10000000000, 100000000000, 1000000000000, 10000000000000, 100000000000000, 1000000000000000, 10000000000000000, 100000000000000000, 1000000000000000000, 10000000000000000000]
def tab32 : List Nat := [0, 1, 28, 2, 29, 14, 24, 3, 30, 22, 20, 15, 25, 17, 4, 8, 31, 27, 13, 23, 21, 19, 16, 7, 26, 12, 18, 6, 11, 5, 10, 9]
def tab64 : List Nat := [0, 1, 56, 2, 57, 49, 28, 3, 61, 58, 42, 50, 38, 29, 17, 4, 62, 47, 59, 36, 45, 43, 51, 22, 53, 39, 33, 30, 24, 18, 12, 5, 63, 55, 48, 27, 60, 41, 37, 16, 46, 35, 44, 21, 52, 32, 23, 11, 54, 26, 40, 15, 34, 20, 31, 10, 25, 14, 19, 9, 13, 8, 7, 6]
theorem rows0_eq : rows0 = (2, 4, shTab.map rowS) :: (1, 1, numsV .u64 pow10) :: (3, 1, numsV .u8 tab32) :: (4, 1, numsV .u8 tab64) :: (shTab.filter fun e => !(e.id == 0)).map fun e => (e.id, 1, numsV .i64 e.l) := by kernel_rfl
theorem sh_ids : ∀ k < 30, ∀ k' < 30, ((shTab[k]?).map (·.id)) = ((shTab[k']?).map (·.id)) → ((shTab[k]?).map (·.id)) ≠ some 0 → k = k' := by decide +kernel
theorem sh_small : ∀ k < 30, (shTab[k]?).all (fun e => (e.id == 0 && e.l.isEmpty) || (decide (5 ≤ e.id) && decide (e.id ≤ 22) && !e.l.isEmpty && decide (e.l.length ≤ 100))) = true := by decide +kernel

theorem nums_rows (σ : Ai.Sub) (k : IntKind) : ∀ l : List Nat, RowsR σ 1 (numsV k l) (l.map fun n => .int k (Int.ofNat n))
  | [] => RowsR.nil σ 1
  | n :: l => RowsR.cons (a := [.int k (Int.ofNat n)]) rfl rfl (.cons (.nat k n) .nil) (nums_rows σ k l)

theorem four {l : List Value} {i : Nat} {a b c d : Value} (h0 : l[i]? = some a) (h1 : l[i + 1]? = some b) (h2 : l[i + 2]? = some c) (h3 : l[i + 3]? = some d) : (l.drop i).take 4 = [a, b, c, d] := by
  apply List.ext_getElem?
  intro j
  rw [List.getElem?_take]
  split
  · rename_i hj
    rw [List.getElem?_drop]
    match j, hj with
    | 0, _ => simpa using h0
    | 1, _ => simpa using h1
    | 2, _ => simpa using h2
    | 3, _ => simpa using h3
  · rw [List.getElem?_eq_none (by simp; omega)]

theorem init_rel {w : World} (h : laidMetH Tryz.prog laidList w) : ∃ σ, Rel σ A0 w := by
  classical
  obtain ⟨⟨t3, h3⟩, ⟨t4, h4⟩, ⟨t1, h1⟩, c, t2, h2, hS⟩ := laid_facts h
  -- where the binders lie
  have hB : ∀ i, ∃ bo : Nat × Nat, ∀ (k : Nat) (e : Shp), shTab[k]? = some e → e.id = i → e.id ≠ 0 → ∃ cc el, c[k * 4]? = some (.slice (some ⟨bo.1, bo.2, none⟩) e.l.length e.l.length) ∧ w.heap[bo.1]? = some (.cells cc el (0, 0)) ∧ ∀ (j : Nat) x, e.l[j]? = some x → cc[bo.2 + j]? = some (.int .i64 (Int.ofNat x)) := by
    intro i
    by_cases hi : ∃ (k : Nat) (e : Shp), shTab[k]? = some e ∧ e.id = i ∧ e.id ≠ 0
    · obtain ⟨k, e, hk, hid, hn0⟩ := hi
      have hk30 : k < 30 := (List.getElem?_eq_some_iff.1 hk).1
      obtain ⟨v, g0, _, _, _, hb⟩ := hS.each k e hk
      have hs := sh_small k hk30
      rw [hk] at hs
      simp only [Option.all_some, Bool.or_eq_true, Bool.and_eq_true, beq_iff_eq, decide_eq_true_eq, Bool.not_eq_true', List.isEmpty_eq_false_iff] at hs
      rcases hb with ⟨hb, _⟩ | ⟨b, off, cc, el, _, rfl, hcc, hcj⟩
      · rcases hs with hs | hs
        · exact absurd hs.1 hn0
        · exact absurd hb hs.1.2
      · refine ⟨(b, off), fun k' e' hk' hid' hn' => ?_⟩
        have hk30' : k' < 30 := (List.getElem?_eq_some_iff.1 hk').1
        have := sh_ids k hk30 k' hk30' (by rw [hk, hk']; simp [hid, hid']) (by rw [hk]; simpa using hn0)
        subst this
        rw [hk] at hk'; cases hk'
        exact ⟨cc, el, g0, hcc, hcj⟩
    · exact ⟨(0, 0), fun k e hk hid hn => absurd ⟨k, e, hk, hid, hn⟩ hi⟩
  obtain ⟨B, hB'⟩ := Classical.axiomOfChoice hB
  let loc : Nat → Option (Nat × Nat × Nat) := fun i => if i = 1 then some (1, 0, 1) else if i = 2 then some (2, 0, 4) else if i = 3 then some (3, 0, 1) else if i = 4 then some (4, 0, 1) else if ∃ (k : Nat) (e : Shp), shTab[k]? = some e ∧ e.id = i ∧ e.id ≠ 0 then some ((B i).1, (B i).2, 1) else none
  have lt : ∀ {g : Nat} {o : Obj}, w.heap[g]? = some o → g < w.heap.size := fun h => (Array.getElem?_eq_some_iff.1 h).1
  have locE : ∀ (k : Nat) (e : Shp), shTab[k]? = some e → e.id ≠ 0 → loc e.id = some ((B e.id).1, (B e.id).2, 1) := fun k e hk hn => by
    have hk30 : k < 30 := (List.getElem?_eq_some_iff.1 hk).1
    have hs := sh_small k hk30
    rw [hk] at hs
    simp only [Option.all_some, Bool.or_eq_true, Bool.and_eq_true, beq_iff_eq, decide_eq_true_eq] at hs
    have h5 : 5 ≤ e.id := by
      rcases hs with hs | hs
      · exact absurd hs.1 hn
      · exact hs.1.1.1
    show (if e.id = 1 then _ else _) = _
    rw [if_neg (by omega), if_neg (by omega), if_neg (by omega), if_neg (by omega), if_pos ⟨k, e, hk, rfl, hn⟩]
  refine ⟨sig0 loc w, rel0 loc (fun g hg => ?_) (fun n cb base sz hl => ?_) fun x hx => ?_⟩
  · simp only [glOk, Bool.or_eq_true] at hg
    rcases hg with ((h | h) | h) | h <;> (rw [Nat.eq_of_beq_eq_true h]; exact ⟨_, rfl⟩)
  · have hl' : (if n = 1 then some (1, 0, 1) else if n = 2 then some (2, 0, 4) else if n = 3 then some (3, 0, 1) else if n = 4 then some (4, 0, 1) else if ∃ (k : Nat) (e : Shp), shTab[k]? = some e ∧ e.id = n ∧ e.id ≠ 0 then some ((B n).1, (B n).2, 1) else none) = some (cb, base, sz) := hl
    split at hl'
    · cases hl'; exact ⟨lt h1, by decide⟩
    split at hl'
    · cases hl'; exact ⟨lt h2, by decide⟩
    split at hl'
    · cases hl'; exact ⟨lt h3, by decide⟩
    split at hl'
    · cases hl'; exact ⟨lt h4, by decide⟩
    split at hl'
    · rename_i hex
      cases hl'
      obtain ⟨k, e, hk, hid, hn⟩ := hex
      obtain ⟨cc, el, _, hcc, _⟩ := hB' n k e hk hid hn
      exact ⟨lt hcc, by decide⟩
    · cases hl'
  · rw [rows0_eq] at hx
    simp only [List.mem_cons, List.mem_map, List.mem_filter] at hx
    have nums : ∀ {g : Nat} {t : TypeId} {k : IntKind} {l : List Nat}, w.heap[g]? = some (.cells (l.map fun n => Value.int k (Int.ofNat n)).toArray t (0, 0)) → 0 < l.length → l.length ≤ 65536 → loc g = some (g, 0, 1) →
        ∃ cb base c el cells, loc g = some (cb, base, 1) ∧ 0 < (numsV k l).length ∧ (numsV k l).length ≤ 65536 ∧ w.heap[cb]? = some (.cells c el (0, 0)) ∧ RowsR (sig0 loc w) 1 (numsV k l) cells ∧ ∀ (i : Nat) (y : Value), cells[i]? = some y → c[base + i]? = some y := fun hh hp hm hl =>
      ⟨_, 0, _, _, _, hl, by simpa [numsV] using hp, by simpa [numsV] using hm, hh, nums_rows _ _ _, fun i y hy => by rw [Nat.zero_add]; simpa using hy⟩
    rcases hx with rfl | rfl | rfl | rfl | ⟨e, ⟨hmem, hn⟩, rfl⟩
    · refine ⟨2, 0, c, t2, c.toList, rfl, by simp; decide, by simp; decide, h2, rows_of_each _ _ (by simp [hS.size]; decide) (fun r hr => ?_) (fun k r hr => ?_), fun i y hy => by rw [Nat.zero_add]; simpa using hy⟩
      · obtain ⟨e, _, rfl⟩ := List.mem_map.1 hr
        refine ⟨rfl, ?_⟩
        unfold rowS bindsV
        split <;> rfl
      · rw [List.getElem?_map] at hr
        obtain ⟨e, hk, rfl⟩ := Option.map_eq_some_iff.1 hr
        obtain ⟨v, g0, g1, g2, g3, hb⟩ := hS.each k e hk
        rw [four (a := v) (by simpa using g0) (by simpa using g1) (by simpa using g2) (by simpa using g3)]
        refine .cons ?_ (.cons (.bool _) (.cons (.bool _) (.cons (.bool _) .nil)))
        have hk30 : k < 30 := (List.getElem?_eq_some_iff.1 hk).1
        have hs := sh_small k hk30
        rw [hk] at hs
        simp only [Option.all_some, Bool.or_eq_true, Bool.and_eq_true, beq_iff_eq, decide_eq_true_eq, Bool.not_eq_true', List.isEmpty_iff, List.isEmpty_eq_false_iff] at hs
        rcases hs with ⟨_, hs⟩ | ⟨⟨⟨h5, _⟩, hs⟩, _⟩
        · rcases hb with ⟨_, rfl⟩ | ⟨b, off, cc, el, hne, rfl, _⟩
          · unfold bindsV; rw [hs]; exact .nils
          · exact absurd hs hne
        · have hn : e.id ≠ 0 := by omega
          obtain ⟨cc, el, q1, q2, q3⟩ := hB' e.id k e hk rfl hn
          rw [g0] at q1
          cases q1
          have hbv : bindsV e = .slc (idOf e.id) 0 e.l.length (some e.l.length) := by
            unfold bindsV
            cases hl : e.l with
            | nil => exact absurd hl hs
            | cons _ _ => rfl
          have hidm : (e.id, 1, numsV .i64 e.l) ∈ rows0 := by
            rw [rows0_eq]
            simp only [List.mem_cons, List.mem_map, List.mem_filter]
            exact .inr (.inr (.inr (.inr ⟨e, ⟨List.mem_of_getElem? hk, by simpa using hn⟩, rfl⟩)))
          obtain ⟨i1, i2, i3⟩ := ids_ok _ hidm
          have hat : sig0 loc w (idOf e.id) = .at (B e.id).1 (B e.id).2 1 := by
            show (if (idOf e.id).length = 5 ∧ rom (idOf e.id) = true then _ else _) = _
            rw [if_pos ⟨i1, i2⟩]
            have i3' : val (idOf e.id) = e.id := i3
            rw [i3', locE k e hk hn]
          rw [hbv]
          refine .slc _ 0 _ _ _ _ (by rw [hat]; simp) (fun cb base sz hh => ?_) (fun x hx => by cases hx; rfl) (Nat.le_refl _) (fun cb base sz hh => ?_)
          · rw [hat] at hh; cases hh; rfl
          · rw [hat] at hh; cases hh
            refine ⟨cc.size, by show (match w.heap[(B e.id).1]? with | some (.cells c _ _) => some c.size | _ => Option.none) = _; rw [q2], ?_⟩
            have hlp : 0 < e.l.length := List.length_pos_iff.2 hs
            have := q3 (e.l.length - 1) _ (List.getElem?_eq_getElem (by omega))
            have := (Array.getElem?_eq_some_iff.1 this).1
            omega
    · exact nums h1 (by decide) (by decide) rfl
    · exact nums h3 (by decide) (by decide) rfl
    · exact nums h4 (by decide) (by decide) rfl
    · obtain ⟨k, hk30, hk⟩ := List.mem_iff_getElem.1 hmem
      have hk : shTab[k]? = some e := by rw [List.getElem?_eq_getElem hk30, hk]
      have hn : e.id ≠ 0 := by simpa using hn
      obtain ⟨cc, el, q1, q2, q3⟩ := hB' e.id k e hk rfl hn
      have hs := sh_small k hk30
      rw [hk] at hs
      simp only [Option.all_some, Bool.or_eq_true, Bool.and_eq_true, beq_iff_eq, decide_eq_true_eq, Bool.not_eq_true', List.isEmpty_eq_false_iff] at hs
      have hs : e.l ≠ [] ∧ e.l.length ≤ 100 := by
        rcases hs with hs | hs
        · exact absurd hs.1 hn
        · exact ⟨hs.1.2, hs.2⟩
      have hlp : 0 < e.l.length := List.length_pos_iff.2 hs.1
      refine ⟨(B e.id).1, (B e.id).2, cc, el, _, locE k e hk hn, by simpa [numsV] using hlp, by simp [numsV]; omega, q2, nums_rows _ _ _, fun i y hy => ?_⟩
      rw [List.getElem?_map] at hy
      obtain ⟨x, hx, rfl⟩ := Option.map_eq_some_iff.1 hy
      exact q3 i x hx
end
end Go.Ai
