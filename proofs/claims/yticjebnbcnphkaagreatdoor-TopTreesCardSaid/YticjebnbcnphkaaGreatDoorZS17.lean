/- A part of the proof that the abstract interpreter is sound, and of the two goroutines of the lexer. -/
import Derived.Test.YticjebnbcnphkaaGreatDoorZS8
import Derived.Lib.FrozenHead
import Derived.Laws.BytesString

set_option linter.unusedSimpArgs false
set_option linter.unusedVariables false
set_option linter.unusedSectionVars false

namespace Go.Ai
open Go
variable {P : Program}

/- elements of a row -/
theorem elems_t {t : Tr (List AV)} : ∀ {n i : Nat} {L : List (List AV)}, elems t n i = some L → L.length = n ∧ ∀ j, j < n → t.get (i + j) = L[j]?
  | 0, i, L, h => by cases h; exact ⟨rfl, fun j hj => by omega⟩
  | n + 1, i, L, h => by
    simp only [elems] at h
    split at h
    · rename_i c hc
      split at h
      · rename_i l hl
        cases h
        obtain ⟨h1, h2⟩ := elems_t hl
        refine ⟨by simp [h1], fun j hj => ?_⟩
        cases j with
        | zero => simpa using hc
        | succ j => rw [show i + (j + 1) = i + 1 + j by omega, h2 j (by omega)]; simp
      · cases h
    · cases h

theorem RowAt.rows {σ : Ai.Sub} {w : World} {b : Pa} {s n : Nat} {t : Tr (List AV)} {cb base : Nat} {c : Array Value} {elem : TypeId} {lo hi : Nat} (r : RowAt σ w b s n t cb base c elem lo hi) {i : Nat} : ∀ {m : Nat} {L : List (List AV)}, L.length = m → i + m ≤ n → (∀ j, j < m → t.get (i + j) = L[j]?) →
    RowsR σ s L ((c.toList.drop (base + i * s)).take (m * s))
  | m, [], hl, _, _ => by
    have : m = 0 := by simpa using hl.symm
    subst this
    simpa using RowsR.nil σ s
  | m, x :: L, hl, hm, hg => by
    cases m with
    | zero => simp at hl
    | succ m =>
      have h0 := hg 0 (by omega)
      obtain ⟨g1, g2, g3⟩ := r.h i x (by omega) (by simpa using h0)
      have ih := r.rows (i := i + 1) (m := m) (L := L) (by simpa using hl) (by omega) (fun j hj => by
        have := hg (j + 1) (by omega)
        rw [show i + (j + 1) = i + 1 + j by omega] at this
        simpa using this)
      have e : (c.toList.drop (base + i * s)).take ((m + 1) * s) = (c.toList.drop (base + i * s)).take s ++ (c.toList.drop (base + (i + 1) * s)).take (m * s) := by
        rw [show (m + 1) * s = s + m * s by rw [Nat.add_mul]; omega, List.take_add, List.drop_drop]
        rw [show base + i * s + s = base + (i + 1) * s by rw [Nat.add_mul]; omega]
      rw [e]
      exact RowsR.cons g1 g2 g3 ih

/-- what a slice, or a text, holds -/
def SrcV (sz : Nat) (xv : Value) (n : Nat) (cells : List Value) (w : World) (P : Program) : Prop :=
  (Builtin.lenOf xv).run P w = .ok n w ∧ ∀ k, k ≤ n → (Builtin.firstCells sz k xv).run P w = .ok (cells.take (k * sz)).toArray w

theorem rowOf_t {sz : Nat} {x : AV} {A : AH} {f : Nat → List (List AV) → Bool} (h : rowOf sz x A f = true) : ∃ n L, f n L = true ∧ L.length = n ∧ ∀ A2 σ w xv, A.Sub A2 → VRel σ x xv → Rel σ A2 w →
    ∃ a cp cells, xv = .slice a n cp ∧ RowsR σ sz L cells ∧ (n = 0 ∨ ∃ ad, a = some ad ∧ ∀ (j : Nat) v, cells[j]? = some v → w.cell? (ad.add j) = some v) := by
  unfold rowOf at h
  split at h
  · obtain ⟨h1, h2⟩ := and_t.1 h
    refine ⟨0, [], h2, rfl, fun A2 σ w xv _ hx _ => ?_⟩
    cases hx <;> first | exact ⟨_, _, [], rfl, RowsR.nil σ sz, .inl rfl⟩ | (simp at h1)
  · rename_i t b i n c
    obtain ⟨h1, h2⟩ := and_t.1 h
    have := Nat.eq_of_beq_eq_true h1
    subst this
    obtain ⟨s, m, tr, hg, h3⟩ := asRow_t.1 h2
    obtain ⟨h4, h5⟩ := and_t.1 h3
    obtain ⟨h6, h7⟩ := and_t.1 h4
    have hs := Nat.eq_of_beq_eq_true h6
    subst hs
    obtain ⟨L, hL, hf⟩ := optK_t.1 h5
    obtain ⟨e1, e2⟩ := elems_t hL
    have him := Nat.le_of_ble_eq_true h7
    refine ⟨n, L, hf, e1, fun A2 σ w xv hS hx hA => ?_⟩
    cases hx with
    | slc b i n' c a mm h0 ha hcm hnm =>
      obtain ⟨cb, base, cc, elem, lo, hi', r⟩ := hA.row (hS.get (hA.len4 h0) hg) h0
      refine ⟨some a, mm, _, rfl, r.rows e1 him e2, .inr ⟨a, rfl, fun j v hv => ?_⟩⟩
      rw [ha cb base s r.at', addr_add, cell_at r.hc]
      have := get_drop_take hv
      simpa using this
  · cases h

theorem firstCells_run {sz n k : Nat} {a : Option Addr} {cp : Nat} {cells : List Value} {w : World} (hlen : cells.length = n * sz) (hk : k ≤ n) (h : n = 0 ∨ ∃ ad, a = some ad ∧ ∀ (j : Nat) v, cells[j]? = some v → w.cell? (ad.add j) = some v) :
    (Builtin.firstCells sz k (.slice a n cp)).run P w = .ok (cells.take (k * sz)).toArray w := by
  rcases h with rfl | ⟨ad, rfl, hc⟩
  · have : k = 0 := by omega
    subst this
    cases a with
    | none => simp [Builtin.firstCells]
    | some ad =>
      have := run_loadCells_list (P := P) w ad [] (fun j v hv => by simp at hv)
      simp only [Builtin.firstCells, Nat.zero_mul]
      simpa using this
  · have hl : (cells.take (k * sz)).length = k * sz := by
      rw [List.length_take, hlen]
      exact Nat.min_eq_left (Nat.mul_le_mul_right sz hk)
    have := run_loadCells_list (P := P) w ad (cells.take (k * sz)) (fun j v hv => by
      rw [List.getElem?_take] at hv
      split at hv
      · exact hc j v hv
      · cases hv)
    rw [hl] at this
    exact this

section ops
variable {n : Nat} {o : Oper} {run : Run}

/- conversions -/
theorem bytesOf_t : ∀ {L : List (List AV)} {f : List Nat → Bool}, bytesOf L f = true → ∃ s, f s = true ∧ s.length = L.length ∧ (∀ c ∈ s, c < 256) ∧ ∀ σ cells, RowsR σ 1 L cells → cells = s.map fun c => .int .u8 (.ofNat c)
  | [], f, h => ⟨[], h, rfl, by simp, fun σ cells hR => by
    have := hR.size
    simp at this
    simp [this]⟩
  | r :: L, f, h => by
    cases r with
    | nil => cases h
    | cons x xs =>
      simp only [bytesOf] at h
      obtain ⟨k, c, e1, h1⟩ := asNat_t.1 h
      obtain ⟨h2, h3⟩ := and_t.1 h1
      obtain ⟨h4, h5⟩ := and_t.1 h2
      have hk := kEq_t.1 h4
      subst hk; subst e1
      obtain ⟨s, hs, hl, hc, hr⟩ := bytesOf_t h3
      refine ⟨c :: s, hs, by simp [hl], fun d hd => ?_, fun σ cells hR => ?_⟩
      · rcases List.mem_cons.1 hd with rfl | hd
        · simpa using h5
        · exact hc d hd
      · have hx := (hR.1 (.nat .u8 c :: xs) (by simp)).1
        simp at hx
        subst hx
        have hf := hR.2
        simp only [List.flatten_cons, List.cons_append, List.nil_append] at hf
        cases hf with
        | cons h1 h2 =>
          rw [nat_inv h1, hr σ _ ⟨fun q hq => hR.1 q (by simp [hq]), h2⟩]
          simp

theorem push_fold : ∀ (ns : List Int) (s : ByteArray), ns.foldl (fun r n => r.push (UInt8.ofNat n.toNat)) s = ⟨s.data ++ (ns.map fun n => UInt8.ofNat n.toNat).toArray⟩
  | [], s => by simp
  | n :: ns, s => by
    rw [List.foldl_cons, push_fold ns]
    simp [ByteArray.push]

theorem toString_run {a : Option Addr} {m cp : Nat} {s : List Nat} {cells : List Value} {w : World} (hcs : cells = s.map fun c => .int .u8 (.ofNat c)) (hl : s.length = m) (h : m = 0 ∨ ∃ ad, a = some ad ∧ ∀ (j : Nat) v, cells[j]? = some v → w.cell? (ad.add j) = some v) :
    (Conv.bytesToString (.slice a m cp)).run P w = .ok (.string (AV.bytes s)) w := by
  have some_ : ∀ ad, (loadCells ad m).run P w = .ok cells.toArray w → (Conv.bytesToString (.slice (some ad) m cp)).run P w = .ok (.string (AV.bytes s)) w := fun ad hld => by
    have := run_bytesToString (P := P) w ad m cp (s.map Int.ofNat) (by rw [hld, hcs]; simp [Function.comp_def])
    rw [this, push_fold]
    congr 2
    simp only [AV.bytes, List.map_map, Function.comp_def, Int.ofNat_eq_natCast, Int.toNat_natCast]
    congr 1
    simp [ByteArray.empty, ByteArray.emptyWithCapacity]
    rfl
  have hlen : cells.length = m := by rw [hcs, List.length_map, hl]
  rcases h with h0 | ⟨ad, rfl, hc⟩
  · subst h0
    have hs : s = [] := by simpa using hl
    subst hs
    cases a with
    | none => rfl
    | some ad =>
      refine some_ ad ?_
      have hc0 : cells = [] := by simpa using hcs
      subst hc0
      have := run_loadCells_list (P := P) w ad [] (fun j v hv => by simp at hv)
      simpa using this
  · refine some_ ad ?_
    have := run_loadCells_list (P := P) w ad cells hc
    rwa [hlen] at this

theorem s_convert {src dst : TypeId} {x : Operand} (ho : o.op = .convert src dst x) (h : cOp P o = some run) (hd : elemTy P dst = none) : SoundP P n o run := by
  have hx : x ∈ o.op.operands := by rw [ho]; simp [Op.operands]
  have hF : ∀ tmps, execOp (evT tmps) o = (do Pure.pure (Next.value (← convert src dst (evT tmps x)))) := fun tmps => by unfold execOp; rw [ho]
  have hc : cConvert P src dst x = some run := by unfold cOp at h; rw [ho] at h; exact h
  unfold cConvert at hc
  split at hc
  · rename_i k hs
    split at hc
    · rename_i k' hd'
      refine pure1 hc hx (F := fun v => convert src dst v) hF fun v A K hk => ?_
      have hund1 := fun w => run_underlying hs w
      have hund2 := fun w => run_underlying hd' w
      unfold toKind at hk
      split at hk
      · rename_i kk m
        obtain ⟨u, hu, hr⟩ := mkNat_t hk
        refine ⟨u, hu, fun A2 σ w xv _ hxv _ => ⟨_, ?_, hr σ⟩⟩
        rw [nat_inv hxv]
        simp [convert, hund1 w, hund2 w, Conv.intToInt]
      · rename_i kk m
        refine ⟨_, hk, fun A2 σ w xv _ hxv _ => ⟨_, ?_, ofInt_rel σ _ _⟩⟩
        rw [neg_inv hxv]
        simp [convert, hund1 w, hund2 w, Conv.intToInt]
      · cases hk
    · cases hc
  · rename_i hs
    split at hc
    · rename_i hd'
      refine pure1 hc hx (F := fun v => convert src dst v) hF fun v A K hk => ?_
      have hund1 := fun w => run_underlying hs w
      have hund2 := fun w => run_underlying hd' w
      obtain ⟨s, e1, h1⟩ := asStr_t.1 hk
      subst e1
      refine ⟨_, h1, fun A2 σ w xv _ hxv _ => ⟨xv, ?_, hxv⟩⟩
      rw [(str_inv hxv).1]
      simp [convert, hund1 w, hund2 w]
    · rename_i el hd'
      have : elemTy P dst = some el := by unfold elemTy; rw [hd']
      rw [hd] at this; cases this
    · cases hc
  · rename_i el hs
    split at hc
    · rename_i hd'
      split at hc
      · rename_i hel
        refine pure1 hc hx (F := fun v => convert src dst v) hF fun v A K hk => ?_
        have hund1 := fun w => run_underlying hs w
        have hund2 := fun w => run_underlying hd' w
        have hund3 := fun w => run_underlying hel w
        obtain ⟨m, L, h1, h2, h3⟩ := rowOf_t hk
        obtain ⟨s, h4, h5, h6, h7⟩ := bytesOf_t h1
        refine ⟨_, h4, fun A2 σ w xv hS hxv hA => ?_⟩
        obtain ⟨a, cp, cells, rfl, hR, hcell⟩ := h3 A2 σ w xv hS hxv hA
        have hcs := h7 σ cells hR
        refine ⟨.string (AV.bytes s), ?_, .str s h6⟩
        have hconv := toString_run (P := P) (cp := cp) hcs (by rw [h5, h2]) hcell
        simp [convert, hund1 w, hund2 w, hund3 w, hconv]
      · cases hc
    · cases hc
  · cases hc
end ops
end Go.Ai

namespace Go.Ai
open Go
variable {P : Program}

/-- writing cells -/
theorem storeCells_run {cb : Nat} {elem : TypeId} {lo hi : Nat} : ∀ (vs : List Value) (i o : Nat) (cur : Array Value) (w : World), w.heap[cb]? = some (.cells cur elem (lo, hi)) → (hi = 0 ∨ cur.size ≤ lo) → o + i + vs.length ≤ cur.size → (∀ v ∈ vs, v.oneCell' = true) →
    ∃ w', (storeCells ⟨cb, o, none⟩ vs i).run P w = .ok () w' ∧ w'.heap[cb]? = some (.cells (splice cur.toList (o + i) vs).toArray elem (lo, hi)) ∧ (∀ k, k ≠ cb → w'.heap[k]? = w.heap[k]?) ∧ w'.heap.size = w.heap.size ∧ (w'.os = w.os ∧ w'.output = w.output)
  | [], i, o, cur, w, hc, hf, hl, h1 => ⟨w, rfl, by simp [splice, hc], fun _ _ => rfl, rfl, rfl, rfl⟩
  | v :: vs, i, o, cur, w, hc, hf, hl, h1 => by
    simp at hl
    have hi' : o + i < cur.size := by omega
    have hcell : w.cell? ⟨cb, o + i, none⟩ = some cur[o + i] := by simp [World.cell?, hc, hi']
    have hfro : w.frozen? ⟨cb, o + i, none⟩ = false := by
      simp only [World.frozen?, hc, Bool.and_eq_false_iff, decide_eq_false_iff_not]
      rcases hf with h | h
      · right; omega
      · left; omega
    let w1 := w.setCell ⟨cb, o + i, none⟩ v
    have hst : (store ((⟨cb, o, none⟩ : Addr).add i) v).run P w = .ok () w1 := by
      rw [addr_add, run_store P w _ v _ (h1 v (by simp)), hcell]
      simp [hfro, w1]
    have hlt : cb < w.heap.size := (Array.getElem?_eq_some_iff.1 hc).1
    have hw1 : w1.heap[cb]? = some (.cells (cur.setIfInBounds (o + i) v) elem (lo, hi)) := by
      simp [w1, World.setCell, Array.getElem?_modify, hc]
    obtain ⟨w', g1, g2, g3, g4, g5⟩ := storeCells_run vs (i + 1) o (cur.setIfInBounds (o + i) v) w1 hw1 (by simpa using hf) (by simp; omega) (fun x hx => h1 x (by simp [hx]))
    refine ⟨w', ?_, ?_, fun k hk => ?_, ?_, g5⟩
    · simp only [storeCells, Sem.run_bind, hst, Result.andThen_ok, g1]
    · rw [g2]
      have := foldl_splice (v :: vs) (o + i) 0 cur (by simp; omega)
      have h2 := foldl_splice vs (o + i + 1) 0 (cur.setIfInBounds (o + i) v) (by simp; omega)
      rw [List.zipIdx_cons, List.foldl_cons] at this
      simp only [Nat.zero_add] at this h2
      rw [show o + (i + 1) = o + i + 1 by omega, ← h2, this]
    · rw [g3 k hk]
      simp [w1, World.setCell, Array.getElem?_modify, Ne.symm hk]
    · rw [g4]; simp [w1, World.setCell]
theorem splice_get {a : List Value} {off : Nat} {l : List Value} (h : off + l.length ≤ a.length) (i : Nat) : (splice a off l)[i]? = if off ≤ i ∧ i < off + l.length then l[i - off]? else a[i]? := by
  unfold splice
  simp only [List.getElem?_append, List.length_append, List.length_take]
  rw [Nat.min_eq_left (by omega)]
  by_cases h1 : i < off
  · rw [if_pos (by omega), if_pos h1, if_neg (by omega), List.getElem?_take, if_pos h1]
  · by_cases h2 : i < off + l.length
    · rw [if_pos h2, if_neg h1, if_pos (by omega)]
    · rw [if_neg h2, if_neg (by omega), List.getElem?_drop]
      congr 1; omega
theorem splice_apart {a : List Value} {off : Nat} {l : List Value} (h : off + l.length ≤ a.length) {k m : Nat} (hd : k + m ≤ off ∨ off + l.length ≤ k) : ((splice a off l).drop k).take m = (a.drop k).take m := by
  apply List.ext_getElem?
  intro j
  rw [List.getElem?_take, List.getElem?_take]
  split
  · rename_i hj
    rw [List.getElem?_drop, List.getElem?_drop, splice_get h, if_neg (by omega)]
  · rfl
theorem splice_in {a : List Value} {k m f : Nat} {l : List Value} (h : k + m ≤ a.length) (hf : f + l.length ≤ m) : ((splice a (k + f) l).drop k).take m = splice ((a.drop k).take m) f l := by
  have hl : ((a.drop k).take m).length = m := by simp; omega
  apply List.ext_getElem?
  intro j
  rw [List.getElem?_take, splice_get (by rw [hl]; exact hf), List.getElem?_take]
  by_cases hj : j < m
  · rw [if_pos hj, if_pos hj, List.getElem?_drop, List.getElem?_drop, splice_get (by omega)]
    by_cases h1 : f ≤ j ∧ j < f + l.length
    · rw [if_pos (by omega), if_pos h1]; congr 1; omega
    · rw [if_neg (by omega), if_neg h1]
  · rw [if_neg hj, if_neg hj, if_neg (by omega)]
theorem splice_part {a : List Value} {off : Nat} {l : List Value} (h : off + l.length ≤ a.length) {k m : Nat} (h1 : off ≤ k) (h2 : k + m ≤ off + l.length) : ((splice a off l).drop k).take m = (l.drop (k - off)).take m := by
  apply List.ext_getElem?
  intro j
  rw [List.getElem?_take, List.getElem?_take]
  split
  · rename_i hj
    rw [List.getElem?_drop, List.getElem?_drop, splice_get h, if_pos (by omega)]
    congr 1; omega
  · rfl

theorem one_cell {σ : Ai.Sub} {v : AV} {x : Value} (h : VRel σ v x) (h1 : oneA v = true) : x.oneCell' = true := by
  cases h <;> first | rfl | (cases h1)
theorem ones_cell {σ : Ai.Sub} : ∀ {cs : List AV} {xs : List Value}, VRels σ cs xs → cs.all oneA = true → ∀ x ∈ xs, x.oneCell' = true
  | [], _, .nil, _ => by simp
  | c :: cs, _, .cons h hs, ha => by
    simp only [List.all_cons, Bool.and_eq_true] at ha
    intro x hx
    rcases List.mem_cons.1 hx with rfl | hx
    · exact one_cell h ha.1
    · exact ones_cell hs ha.2 x hx

/-- a row after a write -/
theorem row_after {σ : Ai.Sub} {w w' : World} {b : Pa} {s n : Nat} {t t' : Tr (List AV)} {cb base : Nat} {c : Array Value} {elem : TypeId} {lo hi off : Nat} {l : List Value} (r : RowAt σ w b s n t cb base c elem lo hi) (hl : off + l.length ≤ c.size)
    (hc : w'.heap[cb]? = some (.cells (splice c.toList off l).toArray elem (lo, hi)))
    (h : ∀ j cs, j < n → t'.get j = some cs → (t.get j = some cs ∧ (base + j * s + s ≤ off ∨ off + l.length ≤ base + j * s)) ∨ (cs.length = s ∧ cs.all oneA = true ∧ VRels σ cs (((splice c.toList off l).drop (base + j * s)).take s))) :
    ORel σ w' cb base s (.row s n t') := by
  have hsz : (splice c.toList off l).toArray.size = c.size := by
    have := splice_len (a := c.toList) (off := off) (l := l) (by simpa using hl)
    simpa using this
  refine .row n t' _ elem lo hi r.pos r.le hc (by rw [hsz]; exact r.ht) (by rw [hsz]; exact r.hf) (by rw [hsz]; exact r.hn) fun j cs hj hg => ?_
  rcases h j cs hj hg with ⟨h1, h2⟩ | h3
  · obtain ⟨g1, g2, g3⟩ := r.h j cs hj h1
    exact ⟨g1, g2, by simp only; rw [splice_apart (by simpa using hl) h2]; exact g3⟩
  · exact h3

section ops
variable {n : Nat} {o : Oper} {run : Run}

theorem s_store {t : TypeId} {a x : Operand} (ho : o.op = .store t a x) (h : cOp P o = some run) : Sound P n o run := by
  unfold cOp at h
  rw [ho] at h
  simp only at h
  split at h
  case h_2 => cases h
  rename_i m hm
  refine gen2 h (by rw [ho]; simp [Op.operands]) (by rw [ho]; simp [Op.operands]) (F := fun av xv => (do Instr.storeAt t av xv; pure .skip)) (fun tmps => by unfold execOp; rw [ho]) fun v v2 A K hk => ?_
  obtain ⟨b, i, f, c0, e1, h1⟩ := asPtr_t.1 hk
  obtain ⟨cs, hcs, hcl, h2⟩ := cellsK_t.1 h1
  obtain ⟨hrm, s, nn, tr, hg, h3⟩ := asRowW_t.1 h2
  obtain ⟨hi, cold, hold, h4⟩ := elemK_t.1 h3
  obtain ⟨c', hc', hK⟩ := optK_t.1 h4
  subst e1
  refine ⟨_, _, hK, fun σ w xv yv hx hy hA => ?_⟩
  cases hx with
  | ptr b i f c ad h0 ha =>
    obtain ⟨cb, base, c, elem, lo, hh, r⟩ := hA.row hg h0
    obtain ⟨g1, g2, g3⟩ := r.h i cold hi hold
    obtain ⟨q1, q2⟩ := cellsO_rel hcs hy
    obtain ⟨q3, q4⟩ := setAt_rel hc' q1 g3
    have hlen := q1.length
    have hreg : ((c.toList.drop (base + i * s)).take s).length = s := by rw [← g3.length, g1]
    rw [hreg] at q4
    have hle : base + (i + 1) * s ≤ c.size := Nat.le_trans (Nat.add_le_add_left (Nat.mul_le_mul_right s (by omega)) base) r.hn
    rw [Nat.add_mul] at hle
    have hl : base + i * s + f + yv.cells.toList.length ≤ c.size := by omega
    obtain ⟨w', s1, s2, s3, s4, s5⟩ := storeCells_run (P := P) yv.cells.toList 0 (base + i * s + f) c w r.hc r.hf (by simpa using hl) (ones_cell q1 q2)
    have hrun : (do Instr.storeAt t (.pointer (some ad)) yv; pure .skip : Sem Next).run P w = .ok .skip w' := by
      have hsz : ¬ (yv.cells.size ≠ m) := by
        have : yv.cells.size = m := by rw [← hcl, hlen]; simp
        simp [this]
      rw [ha cb base s r.at']
      simp only [Instr.storeAt, Instr.sureAddr, storeVar, Sem.run_bind, Sem.run_pure, Result.andThen_ok, size_run hm, hsz, if_false, s1]
    have hob : ORel σ w' cb base s (.row s nn (Tr.set c' 20 tr i)) := by
      refine row_after r hl (by simpa using s2) fun j cs' hj hg' => ?_
      rw [Tr.get_set c' 20 tr i j (Nat.lt_of_lt_of_le (show i + 1 < 65538 by have := r.le; omega) (by decide))] at hg'
      by_cases hji : j = i
      · subst hji
        rw [if_pos rfl] at hg'
        cases hg'
        refine .inr ⟨?_, setAt_all hc' q2 g2, ?_⟩
        · have := q3.length
          rw [this, splice_len (by rw [hreg]; exact q4), hreg]
        · rw [splice_in (by simp; omega) q4]; exact q3
      · rw [if_neg hji] at hg'
        refine .inl ⟨hg', ?_⟩
        rcases Nat.lt_or_gt_of_ne hji with hlt | hgt
        · left
          have : (j + 1) * s ≤ i * s := Nat.mul_le_mul_right s hlt
          rw [Nat.add_mul] at this
          omega
        · right
          have : (i + 1) * s ≤ j * s := Nat.mul_le_mul_right s hgt
          rw [Nat.add_mul] at this
          omega
    obtain ⟨hA', hX⟩ := hA.change hrm s5 hg r.at' s3 s4 hob
    exact ⟨σ, undef, w', .inr ⟨hrun, rfl⟩, by simp, hX, hA', .tuple 0 [] [] #[] .nil⟩
end ops
end Go.Ai

namespace Go.Ai
open Go
variable {P : Program}

theorem rows_after {σ : Ai.Sub} {w w' : World} {b : Pa} {s n : Nat} {t : Tr (List AV)} {cb base : Nat} {c : Array Value} {elem : TypeId} {lo hi i : Nat} {L : List (List AV)} {cells : List Value} (r : RowAt σ w b s n t cb base c elem lo hi) (hR : RowsR σ s L cells) (hi' : i + L.length ≤ n)
    (hc : w'.heap[cb]? = some (.cells (splice c.toList (base + i * s) cells).toArray elem (lo, hi))) : ORel σ w' cb base s (.row s n (trOf i L t)) ∧ base + i * s + cells.length ≤ c.size := by
  have hsz := hR.size
  have h1 : (i + L.length) * s ≤ n * s := Nat.mul_le_mul_right s hi'
  rw [Nat.add_mul] at h1
  have hn := r.hn
  have hl : base + i * s + cells.length ≤ c.size := by omega
  refine ⟨row_after r hl hc fun j cs hj hg => ?_, hl⟩
  rw [trOf_get L i j t (by have := r.le; omega)] at hg
  by_cases hin : i ≤ j ∧ j < i + L.length
  · rw [if_pos hin] at hg
    obtain ⟨q1, q2⟩ := hR.1 cs (List.mem_of_getElem? hg)
    refine .inr ⟨q1, q2, ?_⟩
    have h2 : i * s ≤ j * s := Nat.mul_le_mul_right s hin.1
    have h3 : (j + 1) * s ≤ (i + L.length) * s := Nat.mul_le_mul_right s (by omega)
    rw [Nat.add_mul, Nat.add_mul] at h3
    rw [splice_part (by simpa using hl) (by omega) (by omega)]
    have := hR.get (j - i) cs hg
    rw [Nat.sub_mul] at this
    rwa [show base + j * s - (base + i * s) = j * s - i * s by omega]
  · rw [if_neg hin] at hg
    refine .inl ⟨hg, ?_⟩
    by_cases hlt : j < i
    · left
      have : (j + 1) * s ≤ i * s := Nat.mul_le_mul_right s hlt
      rw [Nat.add_mul] at this
      omega
    · right
      have : (i + L.length) * s ≤ j * s := Nat.mul_le_mul_right s (by omega)
      rw [Nat.add_mul] at this
      omega

theorem RowsR.take {σ : Ai.Sub} {s : Nat} {L : List (List AV)} {cells : List Value} (h : RowsR σ s L cells) (k : Nat) (hk : k ≤ L.length) : RowsR σ s (L.take k) (cells.take (k * s)) := by
  refine ⟨fun r hr => h.1 r (List.mem_of_mem_take hr), ?_⟩
  have h1 : (L.take k).flatten.length = k * s := by
    rw [flatten_len (s := s) (fun r hr => (h.1 r (List.mem_of_mem_take hr)).1), List.length_take, Nat.min_eq_left hk]
  have h2 : L.flatten.take (k * s) = (L.take k).flatten := by
    have e : L.flatten = (L.take k).flatten ++ (L.drop k).flatten := by rw [← List.flatten_append, List.take_append_drop]
    rw [e, List.take_left' h1]
  rw [← h2]
  exact h.2.take _
theorem RowsR.cell1 {σ : Ai.Sub} {s : Nat} {L : List (List AV)} {cells : List Value} (h : RowsR σ s L cells) : ∀ x ∈ cells, x.oneCell' = true :=
  ones_cell h.2 (by
    rw [List.all_eq_true]
    intro x hx
    obtain ⟨r, hr, hx⟩ := List.mem_flatten.1 hx
    have := (h.1 r hr).2
    rw [List.all_eq_true] at this
    exact this x hx)

/-- what is read: its length, its first cells -/
structure Src (P : Program) (sz : Nat) (xv : Value) (n : Nat) (cells : List Value) (w : World) : Prop where
  len : (Builtin.lenOf xv).run P w = .ok n w
  first : ∀ k, k ≤ n → (Builtin.firstCells sz k xv).run P w = .ok (cells.take (k * sz)).toArray w

theorem u8s_R (σ : Ai.Sub) : ∀ (s : List Nat), (∀ c ∈ s, c < 256) → RowsR σ 1 (u8s s) (s.map fun c => .int .u8 (.ofNat c)) ∧ (u8s s).length = s.length
  | [], _ => ⟨RowsR.nil σ 1, rfl⟩
  | c :: s, h => by
    obtain ⟨h1, h2⟩ := u8s_R σ s fun d hd => h d (by simp [hd])
    exact ⟨by simpa [u8s] using RowsR.cons (r := [.nat .u8 c]) (a := [.int .u8 (.ofNat c)]) rfl rfl (.cons (.nat .u8 c) .nil) h1, by simp [u8s, h2]⟩

theorem rowOrStr_t {sz : Nat} {x : AV} {A : AH} {f : Nat → List (List AV) → Bool} (h : rowOrStr sz x A f = true) : ∃ n L, f n L = true ∧ L.length = n ∧ ∀ A2 σ w xv, A.Sub A2 → VRel σ x xv → Rel σ A2 w → ∃ cells, Src P sz xv n cells w ∧ RowsR σ sz L cells ∧
    ((∃ a cp, xv = .slice a n cp) ∨ ∃ s, xv = .string s) := by
  have row : rowOf sz x A f = true → ∃ n L, f n L = true ∧ L.length = n ∧ ∀ A2 σ w xv, A.Sub A2 → VRel σ x xv → Rel σ A2 w → ∃ cells, Src P sz xv n cells w ∧ RowsR σ sz L cells ∧ ((∃ a cp, xv = .slice a n cp) ∨ ∃ s, xv = .string s) := fun h => by
    obtain ⟨n, L, h1, h2, h3⟩ := rowOf_t h
    refine ⟨n, L, h1, h2, fun A2 σ w xv hS hx hA => ?_⟩
    obtain ⟨a, cp, cells, e, hR, hc⟩ := h3 A2 σ w xv hS hx hA
    subst e
    exact ⟨cells, ⟨rfl, fun k hk => firstCells_run (by rw [hR.size, h2]) hk hc⟩, hR, .inl ⟨a, cp, rfl⟩⟩
  cases x with
  | str s =>
    obtain ⟨h1, h2⟩ := and_t.1 h
    have := Nat.eq_of_beq_eq_true h1
    subst this
    have hlen : ∀ s : List Nat, (u8s s).length = s.length := fun s => by
      induction s with
      | nil => rfl
      | cons c s ih => simp [u8s, ih]
    refine ⟨_, _, h2, hlen s, fun A2 σ w xv _ hx _ => ?_⟩
    obtain ⟨e, hs⟩ := str_inv hx
    subst e
    obtain ⟨g1, g2⟩ := u8s_R σ s hs
    refine ⟨_, ⟨by simp [Builtin.lenOf, bytes_size], fun k hk => ?_⟩, g1, .inr ⟨_, rfl⟩⟩
    have : ((AV.bytes s).extract 0 k).data.map (fun b => Value.int .u8 b.toNat) = ((s.map fun c => (Value.int .u8 (.ofNat c))).take (k * 1)).toArray := by
      rw [bytes_extract]
      apply Array.toList_inj.1
      simp only [AV.bytes, List.drop_zero, Nat.sub_zero, Array.toList_map, List.map_map, Nat.mul_one, List.map_take, Function.comp_def]
      congr 1
      apply List.map_congr_left
      intro c hc
      have := hs c hc
      simp
      omega
    simp only [Builtin.firstCells, this, Sem.run_pure]
  | _ => exact row h

section ops
variable {n : Nat} {o : Oper} {run : Run}

theorem minN_min (a b : Nat) : minN a b = Nat.min b a := by rw [minN_eq]; exact Nat.min_comm a b

theorem s_copy {c : Call} (ho : o.op = .call c) (hc : c.callee = .builtin .copy) (h : cOp P o = some run) : Sound P n o run := by
  have hb := call_op ho hc h
  have h2 : ∃ x y t r el sz, c.args.toList = [x, y] ∧ c.argTypes.toList = t :: r ∧ P.underlying t = some (.slice el) ∧ size P el = some sz ∧ sz ≠ 0 ∧ c2 x y (copyR sz) = some run := by
    generalize c.args.toList = l at hb
    generalize c.argTypes.toList = ts at hb
    cases l with
    | nil => cases hb
    | cons x l => cases l with
      | nil => cases hb
      | cons y l => cases l with
        | cons _ _ => cases hb
        | nil => cases ts with
          | nil => cases hb
          | cons t r =>
            have hb' : (match elemTy P t with
              | some el => (match size P el with | some sz => bif Nat.beq sz 0 then none else c2 x y (copyR sz) | none => none)
              | none => none) = some run := hb
            split at hb'
            · rename_i el hel
              split at hb'
              · rename_i sz hsz
                cases hz : Nat.beq sz 0 with
                | true => rw [hz] at hb'; cases hb'
                | false => rw [hz] at hb'; exact ⟨x, y, t, r, el, sz, rfl, rfl, elemTy_t hel, hsz, fun e => (by subst e; cases hz), hb'⟩
              · cases hb'
            · cases hb'
  obtain ⟨x, y, t, r, el, sz, hargs, hts, hu, hsz, hz, hb⟩ := h2
  have ha := arr2 hargs
  have ht0 := arr_hd hts
  refine gen2 hb (by rw [ho]; simp [Op.operands, Call.operands, hc, ha]) (by rw [ho]; simp [Op.operands, Call.operands, hc, ha]) (F := fun a b => (do Pure.pure (Next.value (← Builtin.copy_ c.argTypes o.type #[a, b])))) (fun tmps => by obtain ⟨cs, e⟩ := exec_builtin ho hc tmps; rw [e, ha]; simp [builtin]) fun v v2 A K hk => ?_
  obtain ⟨sn, L, h1, h2, h3⟩ := rowOrStr_t (P := P) hk
  split at h1
  · rename_i t'
    obtain ⟨g1, g2⟩ := and_t.1 h1
    refine ⟨_, A, g2, fun σ w xv yv hx hy hA => ?_⟩
    obtain ⟨cells, hS, hR, _⟩ := h3 A σ w yv (AH.Sub.refl A) hy hA
    have hsl : ∃ a cp, xv = .slice a 0 cp ∧ (a = none ∨ ∃ ad, a = some ad) := by
      cases hx <;> first | exact ⟨_, _, rfl, .inl rfl⟩ | exact ⟨_, _, rfl, .inr ⟨_, rfl⟩⟩ | (simp at g1)
    obtain ⟨a, cp, e, hac⟩ := hsl
    subst e
    refine Out.pure (x := goInt 0) (vals _ _ w w ?_) hA (.nat .i64 0)
    have hf := hS.first 0 (Nat.zero_le _)
    have hund := run_underlying hu w
    rcases hac with rfl | ⟨ad, rfl⟩
    · simp [Builtin.copy_, ht0, hund, hS.len, size_run hsz, hf]
    · simp [Builtin.copy_, ht0, hund, hS.len, size_run hsz, hf, storeCells]
  · rename_i t' b i nn cap
    obtain ⟨g1, g2⟩ := and_t.1 h1
    have := Nat.eq_of_beq_eq_true g1
    subst this
    obtain ⟨new, g3, g4⟩ := optK_t.1 g2
    obtain ⟨hrm, z, m, tr, hg, g5⟩ := asRowW_t.1 g4
    obtain ⟨g6, hK⟩ := and_t.1 g5
    obtain ⟨g7, g8⟩ := and_t.1 g6
    have e := Nat.eq_of_beq_eq_true g7
    subst e
    have him := Nat.le_of_ble_eq_true g8
    obtain ⟨q1, q2⟩ := takeN_eq _ _ _ g3
    refine ⟨_, _, hK, fun σ w xv yv hx hy hA => ?_⟩
    obtain ⟨cells, hS, hR, _⟩ := h3 A σ w yv (AH.Sub.refl A) hy hA
    cases hx with
    | slc b i n' c0 ad mm h0 hadd hcm hnm =>
      obtain ⟨cb, base, cc, elem, lo, hh, r⟩ := hA.row hg h0
      have hmin : minN nn sn = Nat.min sn nn := minN_min nn sn
      have hle : minN nn sn ≤ sn := by rw [hmin]; exact Nat.min_le_left _ _
      have hR' : RowsR σ z new (cells.take (minN nn sn * z)) := by
        rw [q1]; exact hR.take _ q2
      have hnl : new.length = minN nn sn := by rw [q1, List.length_take, Nat.min_eq_left q2]
      have hsz' := hR'.size
      have hbound : base + i * z + (cells.take (minN nn sn * z)).length ≤ cc.size := by
        rw [hsz', hnl]
        have h1 : (i + minN nn sn) * z ≤ m * z := Nat.mul_le_mul_right z him
        rw [Nat.add_mul] at h1
        have := r.hn
        omega
      obtain ⟨w', s1, s2, s3, s4, s5⟩ := storeCells_run (P := P) (cells.take (minN nn sn * z)) 0 (base + i * z) cc w r.hc r.hf (by simpa using hbound) hR'.cell1
      obtain ⟨hob, _⟩ := rows_after (w' := w') r hR' (by rw [hnl]; exact him) (by simpa using s2)
      obtain ⟨hA', hX⟩ := hA.change hrm s5 hg r.at' s3 s4 hob
      refine ⟨σ, goInt (minN nn sn), w', .inl (vals _ _ w w' ?_), by simp, hX, hA', .nat .i64 _⟩
      have hf := hS.first _ hle
      have hund := run_underlying hu w
      rw [hadd cb base z r.at']
      simp only [Builtin.copy_, ht0, Sem.run_bind, hund, Result.andThen_ok, hS.len, size_run hsz]
      simp only [List.getElem?_toArray, List.getElem?_cons_zero, List.getElem?_cons_succ, Sem.run_bind, hund, Result.andThen_ok, hS.len, size_run hsz, ← hmin, hf, s1, Sem.run_pure]
  · cases h1

theorem s_clear {c : Call} (ho : o.op = .call c) (hc : c.callee = .builtin .clear) (h : cOp P o = some run) : Sound P n o run := by
  have hb := call_op ho hc h
  have h2 : ∃ x t r el sz z, c.args.toList = [x] ∧ c.argTypes.toList = t :: r ∧ P.underlying t = some (.slice el) ∧ size P el = some sz ∧ zeroC P el = some z ∧ c1 x (clearR sz z) = some run := by
    generalize c.args.toList = l at hb
    generalize c.argTypes.toList = ts at hb
    cases l with
    | nil => cases hb
    | cons x l => cases l with
      | cons _ _ => cases hb
      | nil => cases ts with
        | nil => cases hb
        | cons t r =>
          have hb' : (match elemTy P t with
            | some el => (match size P el, zeroC P el with | some sz, some z => c1 x (clearR sz z) | _, _ => none)
            | none => none) = some run := hb
          split at hb'
          · rename_i el hel
            split at hb'
            · rename_i sz z hsz hz
              exact ⟨x, t, r, el, sz, z, rfl, rfl, elemTy_t hel, hsz, hz, hb'⟩
            · cases hb'
          · cases hb'
  obtain ⟨x, t, r, el, sz, z, hargs, hts, hu, hsz, hz, hb⟩ := h2
  have ha := arr1 hargs
  have ht0 := arr_hd hts
  obtain ⟨zv, hz1, hz2, hz3, hz4⟩ := zeroC_t hz
  have hzl : z.length = sz := by rw [hz2] at hsz; exact Option.some.inj hsz
  refine gen1 hb (by rw [ho]; simp [Op.operands, Call.operands, hc, ha]) (F := fun a => (do Pure.pure (Next.value (← Builtin.clear_ c.argTypes o.type #[a])))) (fun tmps => by obtain ⟨cs, e⟩ := exec_builtin ho hc tmps; rw [e, ha]; simp [builtin]) fun v A K hk => ?_
  unfold clearR at hk
  split at hk
  · rename_i t' b i nn cap
    obtain ⟨g1, g2⟩ := and_t.1 hk
    have := Nat.eq_of_beq_eq_true g1
    subst this
    obtain ⟨hrm, s, m, tr, hg, g3⟩ := asRowW_t.1 g2
    obtain ⟨g4, hK⟩ := and_t.1 g3
    obtain ⟨g5, g6⟩ := and_t.1 g4
    have e := Nat.eq_of_beq_eq_true g5
    subst e
    have him := Nat.le_of_ble_eq_true g6
    refine ⟨_, _, hK, fun σ w xv hx hA => ?_⟩
    cases hx with
    | slc b i n' c0 ad mm h0 hadd hcm hnm =>
      obtain ⟨cb, base, cc, elem, lo, hh, rr⟩ := hA.row hg h0
      obtain ⟨hR, hRl⟩ := rowFrom_R σ hzl hz3 (hz4 σ) nn
      have hzs : zv.cells.size = s := by
        have := (hz4 σ).length
        rw [hzl] at this
        simpa using this.symm
      have hcells : (Builtin.zeroCells zv.cells nn).toList = (List.replicate nn zv.cells.toList).flatten := zeroCells_list zv.cells nn
      have hsz' := hR.size
      rw [hRl] at hsz'
      have hbound : base + i * s + (List.replicate nn zv.cells.toList).flatten.length ≤ cc.size := by
        rw [hsz']
        have h1 : (i + nn) * s ≤ m * s := Nat.mul_le_mul_right s him
        rw [Nat.add_mul] at h1
        have := rr.hn
        omega
      have hund := run_underlying hu w
      obtain ⟨w', s1, s2, s3, s4, s5⟩ := storeCells_run (P := P) (List.replicate nn zv.cells.toList).flatten 0 (base + i * s) cc w rr.hc rr.hf (by simpa using hbound) hR.cell1
      obtain ⟨hob, _⟩ := rows_after (w' := w') rr hR (by rw [hRl]; exact him) (by simpa using s2)
      obtain ⟨hA', hX⟩ := hA.change hrm s5 hg rr.at' s3 s4 hob
      refine ⟨σ, .tuple #[], w', .inl (vals _ _ w w' ?_), by simp, hX, hA', .tuple 0 [] [] #[] .nil⟩
      by_cases hn0 : nn = 0
      · subst hn0
        have hw : w' = w := by simpa [storeCells] using s1.symm
        subst hw
        simp only [Builtin.clear_, ht0, List.getElem?_toArray, List.getElem?_cons_zero, Sem.run_bind, hund, Result.andThen_ok, Sem.run_pure]
      · rw [hadd cb base s rr.at']
        have hne : nn = (nn - 1) + 1 := by omega
        rw [hne] at s1 hcells ⊢
        simp only [Builtin.clear_, ht0, List.getElem?_toArray, List.getElem?_cons_zero, Sem.run_bind, hund, Result.andThen_ok, Sem.run_pure, hz1, hcells, s1]
  · rename_i t'
    obtain ⟨g1, g2⟩ := and_t.1 hk
    refine ⟨_, A, g2, fun σ w xv hx hA => ?_⟩
    have hund := run_underlying hu w
    refine Out.pure (x := .tuple #[]) (vals _ _ w w ?_) hA (.tuple 0 [] [] #[] .nil)
    cases hx <;> first | (simp at g1; done) | simp [Builtin.clear_, ht0, hund]
  · cases hk
end ops
end Go.Ai

namespace Go.Ai
open Go
variable {P : Program}

def isIntD (d : TypeDesc) : Bool := match d with | .int _ => true | _ => false

/-- what is appended: how many, and their cells -/
structure AppSrc (P : Program) (d2 : TypeDesc) (el : TypeId) (sz n : Nat) (x : Value) (new : Array Value) (w : World) : Prop where
  src : (isIntD d2 = false ∧ (Builtin.lenOf x).run P w = .ok n w ∧ (Builtin.firstCells sz n x).run P w = .ok new w) ∨
    (isIntD d2 = true ∧ (∃ k, x = .int k (.ofNat n)) ∧ ∃ z, (zeroValue el).run P w = .ok z w ∧ new = Builtin.zeroCells z.cells n)
  n0 : n ≠ 0
  sz0 : sz ≠ 0
  le : n ≤ 65536

/-- an append that has room -/
theorem app_in {at' : Array TypeId} {ty t t2 el : TypeId} {d2 : TypeDesc} {sz n len cap : Nat} {ad : Addr} {x : Value} {new : Array Value} {w w' : World} {i : TypeInfo} (h0 : at'[0]? = some t) (h1 : at'[1]? = some t2) (hu : P.underlying t = some (.slice el)) (hd : P.underlying t2 = some d2) (hs : size P el = some sz) (hi : P.info? el = some i) (hib : i.bytes ≤ 65536)
    (A : AppSrc P d2 el sz n x new w) (hle : len + n ≤ cap) (hst : (storeCells (ad.add (len * sz)) new.toList).run P w = .ok () w') :
    (Builtin.append_ at' ty #[.slice (some ad) len cap, x]).run P w = .ok (.slice (some ad) (len + n) cap) w' := by
  have hund := run_underlying hu w
  have hund2 := run_underlying hd w
  rcases A.src with ⟨hi', hl, hf⟩ | ⟨hi', ⟨k, hx⟩, z, hz, hnew⟩
  · cases d2 <;> first
      | (simp [isIntD] at hi'; done)
      | simp only [Builtin.append_, h0, h1, List.getElem?_toArray, List.getElem?_cons_zero, List.getElem?_cons_succ, Sem.run_bind, hund, hund2, Result.andThen_ok, size_run hs, Sem.run_pure, Bool.false_eq_true, if_false, hl, hle, if_true, Bool.not_false, hf, hst]
  · cases d2 with
    | int kk =>
      subst hx
      have hw : IntKind.i64.wrap (Int.ofNat n) = Int.ofNat n := wrap_nat (by have := A.le; simp [maxOf]; omega)
      have hneg : ¬ ((Int.ofNat n) < 0) := by have := Int.natCast_nonneg n; simp only [Int.ofNat_eq_natCast]; omega
      have hbig : ¬ ((Int.ofNat n) * (i.bytes : Int) > 2 ^ 48) := by
        have h1 : n * i.bytes ≤ 65536 * 65536 := Nat.mul_le_mul A.le hib
        have h2 : ((Int.ofNat n) * (i.bytes : Int)) = ((n * i.bytes : Nat) : Int) := by simp
        rw [h2]
        have h3 : (2 : Int) ^ 48 = 281474976710656 := by decide
        rw [h3]; omega
      have hns : ¬ (n * sz = 0) := fun h => by rcases Nat.mul_eq_zero.1 h with h | h; exact A.n0 h; exact A.sz0 h
      have hinfo : (typeInfo el).run P w = .ok i w := by simp [typeInfo, hi]
      simp only [Builtin.append_, h0, h1, List.getElem?_toArray, List.getElem?_cons_zero, List.getElem?_cons_succ, Sem.run_bind, hund, hund2, Result.andThen_ok, size_run hs, Sem.run_pure, if_true, asInt, asIntOf, hw, hneg, if_false, hinfo, hbig, Int.toNat_natCast, Int.ofNat_eq_natCast]
      have hneg' : ¬ ((n : Int) < 0) := by omega
      have hbig' : ¬ ((n : Int) * (i.bytes : Int) > 2 ^ 48) := hbig
      have hw' : IntKind.i64.wrap (n : Int) = (n : Int) := hw
      simp only [hw', hneg', if_false, Sem.run_bind, hinfo, Result.andThen_ok]
      simp only [hbig', if_false, Int.toNat_natCast, Sem.run_bind, Sem.run_pure, Result.andThen_ok, hle, if_true, Bool.not_true, Bool.false_eq_true, hns, hz, ← hnew, hst]
    | _ => simp [isIntD] at hi'

theorem grow_le : ∀ (r need c : Nat), need ≤ 131072 → c ≤ 131072 * 2 → Builtin.growBy need r c ≤ 4000000
  | 0, need, c, _, h => by simp [Builtin.growBy]; omega
  | r + 1, need, c, hn, h => by
    simp only [Builtin.growBy]
    split
    · omega
    · exact grow_le r need (c + (c + 768) / 4) hn (by omega)

theorem nextslicecap_le {need cap : Nat} (h : need ≤ 131072) (hc : cap < need) : Builtin.nextslicecap need cap ≤ 4000000 := by
  unfold Builtin.nextslicecap
  split
  · omega
  · split
    · omega
    · exact grow_le 4 need cap h (by omega)

/-- an append that has none -/
theorem app_out {at' : Array TypeId} {ty t t2 el : TypeId} {d2 : TypeDesc} {sz n len cap : Nat} {a : Option Addr} {x : Value} {new new0 old : Array Value} {w : World} {i : TypeInfo} {z : Value} (h0 : at'[0]? = some t) (h1 : at'[1]? = some t2) (hu : P.underlying t = some (.slice el)) (hd : P.underlying t2 = some d2) (hs : size P el = some sz) (hi : P.info? el = some i) (hib : i.bytes ≤ 65536) (hi0 : i.bytes ≠ 0)
    (hz : ∀ w, (zeroValue el).run P w = .ok z w) (A : AppSrc P d2 el sz n x new0 w) (A' : AppSrc P d2 el sz n x new { w with drawn := w.drawn + 1 }) (hgt : ¬ len + n ≤ cap) (hb : len + n ≤ 131072) (hold : (Builtin.firstCells sz len (.slice a len cap)).run P { w with drawn := w.drawn + 1 } = .ok old { w with drawn := w.drawn + 1 }) :
    ∃ nc, len + n ≤ nc ∧ (Builtin.append_ at' ty #[.slice a len cap, x]).run P w = .ok (.slice (some ⟨w.heap.size, 0, none⟩) (len + n) nc) { w with drawn := w.drawn + 1, heap := w.heap.push (.cells (old ++ new ++ Builtin.zeroCells z.cells (nc - (len + n))) el) } := by
  have hund := run_underlying hu w
  have hund2 := run_underlying hd w
  have hinfo : ∀ w, (typeInfo el).run P w = .ok i w := fun w => by simp [typeInfo, hi]
  let nc := (Question.appendCap (len + n) cap el).cut (w.tape w.drawn (.appendCap (len + n) cap el))
  have hnc : len + n ≤ nc := by simp only [nc, Question.cut]; omega
  have hch : (choose (.appendCap (len + n) cap el)).run P w = .ok nc { w with drawn := w.drawn + 1 } := by
    simp [choose, Sem.run, Question.forced, nc]
  have hroom : ∀ w : World, (askRoom (nc * i.bytes)).run P w = .ok () w := fun w => by
    unfold askRoom
    split
    · rfl
    · rfl
  have hmax : ¬ (((len + n : Nat) : Int) > IntKind.i64.max) := by rw [i64_max]; omega
  have hcap : ¬ (Builtin.nextslicecap (len + n) cap * i.bytes > 2 ^ 48) := by
    have h1 := nextslicecap_le hb (Nat.lt_of_not_le hgt)
    have h2 : Builtin.nextslicecap (len + n) cap * i.bytes ≤ 4000000 * 65536 := Nat.mul_le_mul h1 hib
    have h3 : (2 : Nat) ^ 48 = 281474976710656 := by decide
    rw [h3]; omega
  refine ⟨nc, hnc, ?_⟩
  rcases A'.src with ⟨hi', _, hf'⟩ | ⟨hi', ⟨k, hx⟩, z', hz', hnew⟩
  · have hl : (Builtin.lenOf x).run P w = .ok n w := by
      rcases A.src with ⟨_, h, _⟩ | ⟨h, _⟩
      · exact h
      · rw [hi'] at h; cases h
    cases d2 <;> first
      | (simp [isIntD] at hi'; done)
      | simp only [Builtin.append_, h0, h1, List.getElem?_toArray, List.getElem?_cons_zero, List.getElem?_cons_succ, Sem.run_bind, hund, hund2, Result.andThen_ok, size_run hs, Sem.run_pure, Bool.false_eq_true, if_false, hl, hgt, hinfo, hi0, hmax, false_or, false_and, hcap, hch, hroom, hold, Bool.not_false, if_true, hf', hz, newRow_run]
  · cases d2 with
    | int kk =>
      subst hx
      have hw' : IntKind.i64.wrap (n : Int) = (n : Int) := wrap_nat (by have := A.le; simp [maxOf]; omega)
      have hneg' : ¬ ((n : Int) < 0) := by omega
      have hbig' : ¬ ((n : Int) * (i.bytes : Int) > 2 ^ 48) := by
        have h1 : n * i.bytes ≤ 65536 * 65536 := Nat.mul_le_mul A.le hib
        have h2 : ((n : Int) * (i.bytes : Int)) = ((n * i.bytes : Nat) : Int) := by simp
        rw [h2]
        have h3 : (2 : Int) ^ 48 = 281474976710656 := by decide
        rw [h3]; omega
      have hns : ¬ (n * sz = 0) := fun h => by rcases Nat.mul_eq_zero.1 h with h | h; exact A.n0 h; exact A.sz0 h
      have hzz : z' = z := by have := hz { w with drawn := w.drawn + 1 }; rw [hz'] at this; cases this; rfl
      subst hzz
      simp only [Builtin.append_, h0, h1, List.getElem?_toArray, List.getElem?_cons_zero, List.getElem?_cons_succ, Sem.run_bind, hund, hund2, Result.andThen_ok, size_run hs, Sem.run_pure, if_true, asInt, asIntOf, if_false, Int.ofNat_eq_natCast]
      simp only [hw', hneg', if_false, Sem.run_bind, hinfo, Result.andThen_ok]
      simp only [hbig', if_false, Int.toNat_natCast, Sem.run_bind, Sem.run_pure, Result.andThen_ok, hgt, hinfo, hmax, false_and, hcap, hch, hroom, hold, Bool.not_true, Bool.false_eq_true, hns, hz, ← hnew, newRow_run]
    | _ => simp [isIntD] at hi'

/-- an append of nothing -/
theorem app_zero {at' : Array TypeId} {ty t t2 el : TypeId} {d2 : TypeDesc} {sz len cap : Nat} {a : Option Addr} {x : Value} {w : World} {i : TypeInfo} (h0 : at'[0]? = some t) (h1 : at'[1]? = some t2) (hu : P.underlying t = some (.slice el)) (hd : P.underlying t2 = some d2) (hs : size P el = some sz) (hi : P.info? el = some i)
    (A : (isIntD d2 = false ∧ (Builtin.lenOf x).run P w = .ok 0 w ∧ (Builtin.firstCells sz 0 x).run P w = .ok #[] w) ∨ (isIntD d2 = true ∧ ∃ k, x = .int k (.ofNat 0))) (hle : len ≤ cap) :
    (Builtin.append_ at' ty #[.slice a len cap, x]).run P w = .ok (.slice a len cap) w := by
  have hund := run_underlying hu w
  have hund2 := run_underlying hd w
  rcases A with ⟨hi', hl, hf⟩ | ⟨hi', ⟨k, hx⟩⟩
  · cases a <;> cases d2 <;> first
      | (simp [isIntD] at hi'; done)
      | simp only [Builtin.append_, h0, h1, List.getElem?_toArray, List.getElem?_cons_zero, List.getElem?_cons_succ, Sem.run_bind, hund, hund2, Result.andThen_ok, size_run hs, Sem.run_pure, Bool.false_eq_true, if_false, hl, hle, if_true, Bool.not_false, hf, Nat.add_zero, storeCells]
  · cases d2 with
    | int kk =>
      subst hx
      have hw' : IntKind.i64.wrap (Int.ofNat 0) = 0 := by decide
      have hinfo : (typeInfo el).run P w = .ok i w := by simp [typeInfo, hi]
      have hbig : ¬ ((0 : Int) * (i.bytes : Int) > 2 ^ 48) := by
        rw [Int.zero_mul]; decide
      have hneg : ¬ ((0 : Int) < 0) := by decide
      simp only [Builtin.append_, h0, h1, List.getElem?_toArray, List.getElem?_cons_zero, List.getElem?_cons_succ, Sem.run_bind, hund, hund2, Result.andThen_ok, size_run hs, Sem.run_pure, if_true, asInt, asIntOf, hw', hneg, if_false, hinfo]
      simp only [hbig, if_false, Sem.run_bind, Sem.run_pure, Result.andThen_ok, Int.toNat_zero, Nat.zero_mul, Nat.add_zero, hle, if_true, Bool.not_true, Bool.false_eq_true]
      cases a <;> simp [storeCells]
    | _ => simp [isIntD] at hi'
end Go.Ai
