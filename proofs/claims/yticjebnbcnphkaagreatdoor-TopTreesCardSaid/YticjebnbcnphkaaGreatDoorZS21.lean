/- A part of the proof that the abstract interpreter is sound, and of the two goroutines of the lexer. -/
import Derived.Test.YticjebnbcnphkaaGreatDoorZS17
import Derived.Lib.ConvBytes

set_option linter.unusedSimpArgs false
set_option linter.unusedVariables false
set_option linter.unusedSectionVars false

namespace Go.Ai
open Go
variable {P : Program}

def Sub.kill (σ : Ai.Sub) (b : Pa) : Ai.Sub := ⟨fun z => if z = b then .dead else σ z, σ.top⟩
theorem Sub.kill_self (σ : Ai.Sub) (b : Pa) : σ.kill b b = .dead := by simp [Sub.kill]
theorem Sub.kill_ne {σ : Ai.Sub} {b z : Pa} (h : z ≠ b) : σ.kill b z = σ z := by simp [Sub.kill, h]
theorem Sub.le_kill {σ : Ai.Sub} {b : Pa} {cb base s : Nat} (hb : σ b = .at cb base s) (hs : s ≠ 0) : σ.le (σ.kill b) := ⟨fun z => by
  by_cases hz : z = b
  · subst hz; exact ⟨fun _ => .inr (Sub.kill_self ..), fun r hr => by rw [hb] at hr; cases hr; exact absurd rfl hs⟩
  · rw [Sub.kill_ne hz]; exact ⟨fun _ => .inl rfl, fun _ h => h⟩, fun _ _ h => h⟩
theorem Sub.kill_at {σ : Ai.Sub} {b z : Pa} {c bs s : Nat} (h : σ.kill b z = .at c bs s) : z ≠ b ∧ σ z = .at c bs s := by
  by_cases hz : z = b
  · subst hz; rw [Sub.kill_self] at h; cases h
  · exact ⟨hz, by rwa [Sub.kill_ne hz] at h⟩

theorem Rel.kill {σ : Ai.Sub} {A : AH} {w : World} (hA : Rel σ A w) {b : Pa} {cb base s : Nat} {o : AO} (hr : rom b = false) (hg : A.get b = some o) (hb : σ b = .at cb base s) (hs : s ≠ 0) : Rel (σ.kill b) (A.put b .dead) w ∧ Ext σ A w (σ.kill b) (A.put b .dead) w := by
  have hbl : b.length = 5 := hA.len4 (by rw [hb]; simp)
  have hget : ∀ z, z.length = 5 → (A.put b .dead).get z = if z = b then some .dead else A.get z := fun z hl => AH.get_put (by rw [hl, hbl])
  have hle := Sub.le_kill hb hs
  refine ⟨⟨fun z hzl hz => ?_, fun z o' hz => ?_, fun z z' c bs s1 bs' s2 h h' => ?_, fun g hg' => ?_, fun z c bs s1 h => hA.low z c bs s1 (Sub.kill_at h).2, fun z hz => ?_, hA.tops, by rw [AH.put_next]; exact hA.len, by rw [AH.put_next]; exact hA.high, fun z hzl hzr => ?_⟩, hle, Nat.le_refl _, fun k hk hno => ⟨rfl, fun z bs s1 hz => ?_⟩, fun z hl hv hz => ?_, by rw [AH.put_next]; omega, fun z hz hzg => by
    have hne : z ≠ b := fun e => by rw [e, hg] at hzg; cases hzg
    exact ⟨Sub.kill_ne hne, by rw [hget z (hA.len4 hz)]; simp [hne, hzg]⟩, rfl, rfl⟩
  · rw [AH.put_next] at hz
    obtain ⟨h1, h2⟩ := hA.fresh z hzl hz
    have : z ≠ b := fun e => by rw [e, hb] at h1; cases h1
    exact ⟨by rw [Sub.kill_ne this]; exact h1, by rw [hget z hzl]; simp [this, h2]⟩
  · by_cases hl : z.length = 5
    · rw [hget z hl] at hz
      by_cases h : z = b
      · subst h; simp at hz; subst hz; exact .inr (.inl ⟨rfl, Sub.kill_self ..⟩)
      · simp [h] at hz
        rw [Sub.kill_ne h]
        rcases hA.obj z o' hz with h1 | h1 | ⟨c, bs, s1, h1, h2⟩
        · exact .inl h1
        · exact .inr (.inl h1)
        · exact .inr (.inr ⟨c, bs, s1, h1, h2.keep hle rfl (Nat.le_refl _)⟩)
    · have : z ≠ b := fun e => hl (by rw [e]; exact hbl)
      exact .inl (by rw [Sub.kill_ne this]; exact hA.four z hl)
  · exact hA.inj z z' c bs s1 bs' s2 (Sub.kill_at h).2 (Sub.kill_at h').2
  · by_cases h : idOf g = b
    · left; rw [h]; exact Sub.kill_self ..
    · rw [Sub.kill_ne h]; exact hA.glob g hg'
  · have : z ≠ b := fun e => hz (by rw [e]; exact hbl)
    rw [Sub.kill_ne this]; exact hA.four z hz
  · have : z ≠ b := fun e => by rw [e, hr] at hzr; cases hzr
    rw [Sub.kill_ne this]; exact hA.roms z hzl hzr
  · obtain ⟨h1, h2⟩ := Sub.kill_at hz
    have hzl := hA.len4 (b := z) (by rw [h2]; simp)
    exact ⟨h2, (hno z bs s1 h2).imp (fun h3 => by rw [hget z hzl]; simp [h1, h3]) id⟩
  · have hne : z ≠ b := fun e => by rw [e, hb] at hz; cases hz
    exact ⟨by rw [Sub.kill_ne hne]; exact hz, by rw [hget z hl]; simp [hne]⟩

theorem Rel.placeAt {σ : Ai.Sub} {A : AH} {w : World} (hA : Rel σ A w) {b : Pa} {o : AO} {cb base sz tp : Nat} (hb : σ b = .pend) (hl : b.length = 5) (hg : A.get b = some o) (hno : ∀ z bs s, σ z ≠ .at cb bs s) (hlt : cb < w.heap.size) (ht : σ.top cb = some tp)
    (ho : ORel (σ.upd b cb base sz tp) w cb base sz o) : Rel (σ.upd b cb base sz tp) A w where
  fresh z hzl hz := by
    obtain ⟨h1, h2⟩ := hA.fresh z hzl hz
    have : z ≠ b := fun e => by subst e; rw [hg] at h2; cases h2
    exact ⟨by rw [Sub.upd_ne this]; exact h1, h2⟩
  obj z o' hz := by
    by_cases h : z = b
    · subst h
      rw [hg] at hz; cases hz
      exact .inr (.inr ⟨_, _, _, Sub.upd_self .., ho⟩)
    · rw [Sub.upd_ne h]
      rcases hA.obj z o' hz with h1 | h1 | ⟨c, bs, s, h1, h2⟩
      · exact .inl h1
      · exact .inr (.inl h1)
      · exact .inr (.inr ⟨c, bs, s, h1, h2.keep (Sub.le_upd hb (.inr ht)) rfl (Nat.le_refl _)⟩)
  inj z z' c bs s bs' s' h h' := by
    by_cases h1 : z = b <;> by_cases h2 : z' = b
    · exact .inl (by rw [h1, h2])
    · subst h1; rw [Sub.upd_self] at h; rw [Sub.upd_ne h2] at h'; cases h; exact absurd h' (hno _ _ _)
    · subst h2; rw [Sub.upd_self] at h'; rw [Sub.upd_ne h1] at h; cases h'; exact absurd h (hno _ _ _)
    · rw [Sub.upd_ne h1] at h; rw [Sub.upd_ne h2] at h'; exact hA.inj z z' c bs s bs' s' h h'
  glob g hg' := by
    rcases hA.glob g hg' with hs | ⟨s, hs⟩
    · left
      rw [Sub.upd_ne (fun e => by rw [e, hb] at hs; cases hs)]; exact hs
    · refine .inr ⟨s, ?_⟩
      rw [Sub.upd_ne (fun e => by rw [e, hb] at hs; cases hs)]; exact hs
  low z c bs s h := by
    by_cases h1 : z = b
    · subst h1; rw [Sub.upd_self] at h; cases h; exact hlt
    · rw [Sub.upd_ne h1] at h
      exact hA.low z c bs s h
  four z hz := by
    have : z ≠ b := fun e => hz (by rw [e]; exact hl)
    rw [Sub.upd_ne this]; exact hA.four z hz
  tops k hk := by
    rw [Sub.upd_top_ne (by omega)]; exact hA.tops k hk
  len := hA.len
  high := hA.high
  roms z hl' hz := by
    have : z ≠ b := fun e => by subst e; rw [hA.nrom_pend hl hb] at hz; cases hz
    rw [Sub.upd_ne this]; exact hA.roms z hl' hz

/-- a block gives its cells to a new one -/
theorem Rel.regrow {σ : Ai.Sub} {A : AH} {w w2 : World} (hA : Rel σ A w) {b : Pa} {cb base s base2 tp : Nat} {o o2 : AO} (hr : rom b = false) (hsd : w2.os = w.os ∧ w2.output = w.output) (hg : A.get b = some o) (hb : σ b = .at cb base s) (hs : s ≠ 0) (hn : allZ (inc A.next) = false) (ht : σ.top cb = some tp) (hk : ∀ k, k ≠ cb → w2.heap[k]? = w.heap[k]?) (hsz : w2.heap.size = w.heap.size)
    (ho : ORel ((σ.kill b).upd A.next cb base2 s tp) w2 cb base2 s o2) : Rel ((σ.kill b).upd A.next cb base2 s tp) ((A.put b .dead).new o2) w2 ∧ Ext σ A w ((σ.kill b).upd A.next cb base2 s tp) ((A.put b .dead).new o2) w2 := by
  obtain ⟨hK, hX⟩ := hA.kill hr hg hb hs
  have hbl : b.length = 5 := hA.len4 (by rw [hb]; simp)
  have hnn : (A.put b .dead).next = A.next := AH.put_next ..
  have nobody : ∀ z bs s1, σ.kill b z ≠ .at cb bs s1 := fun z bs s1 h => by
    obtain ⟨h1, h2⟩ := Sub.kill_at h
    exact h1 (hA.inj1 hr hb h2)
  have hp : σ.kill b A.next = .pend := by have := hK.next_pend; rwa [hnn] at this
  have h1 := hK.other nobody hk hsz
  have h2 := h1.new_pend (by rw [hnn]; exact hn) o2
  have hgn : ((A.put b .dead).new o2).get A.next = some o2 := by have := AH.get_new_self (A := A.put b .dead) (o := o2); rwa [hnn] at this
  have hlow := hA.low b cb base s hb
  refine ⟨h2.placeAt hp hA.len hgn nobody (by rw [hsz]; exact hlow) ht ho, hX.le.trans (Sub.le_upd hp (.inr ht)), Nat.le_of_eq hsz.symm, fun k hk' hno => ?_, fun z hl hv hz => ?_, by rw [AH.new_next, hnn, inc_val hn]; omega, fun z hz hzg => by
    have h3 : z ≠ A.next := fun e => hz (by rw [e]; exact hA.next_pend)
    have h4 : z ≠ b := fun e => by rw [e, hg] at hzg; cases hzg
    have hl := hA.len4 hz
    exact ⟨by rw [Sub.upd_ne h3, Sub.kill_ne h4], by rw [AH.get_new_ne (by rw [hnn, hA.len, hl]) (by rw [hnn]; exact h3), AH.get_put (by rw [hbl, hl])]; simp [h4, hzg]⟩, hsd.1, hsd.2⟩
  · have hkc : k ≠ cb := fun e => by
      subst e
      rcases hno b base s hb with this | this
      · rw [hg] at this; cases this
      · rw [hr] at this; cases this
    refine ⟨hk k hkc, fun z bs s1 hz => ?_⟩
    by_cases h3 : z = A.next
    · subst h3; rw [Sub.upd_self] at hz; injection hz with hz; exact absurd hz.symm hkc
    · rw [Sub.upd_ne h3] at hz
      obtain ⟨q1, q2⟩ := Sub.kill_at hz
      have hzl := hA.len4 (b := z) (by rw [q2]; simp)
      exact ⟨q2, (hno z bs s1 q2).imp (fun h5 => by rw [AH.get_new_ne (by rw [hnn, hA.len, hzl]) (by rw [hnn]; exact h3), AH.get_put (by rw [hbl, hzl])]; simp [q1, h5]) id⟩
  · have h3 : z ≠ A.next := fun e => by rw [e] at hv; omega
    have h4 : z ≠ b := fun e => by rw [e, hb] at hz; cases hz
    exact ⟨by rw [Sub.upd_ne h3, Sub.kill_ne h4]; exact hz, by rw [AH.get_new_ne (by rw [hnn, hA.len, hl]) (by rw [hnn]; exact h3), AH.get_put (by rw [hbl, hl])]; simp [h4]⟩

/- the tree behind an append -/
def Grown (t t' : Tr (List AV)) (i len : Nat) (L : List (List AV)) : Prop := ∀ j cs, j < len + L.length → t'.get j = some cs → (j < len ∧ t.get (i + j) = some cs) ∨ (len ≤ j ∧ L[j - len]? = some cs)

theorem grown0 {t : Tr (List AV)} {len : Nat} {L : List (List AV)} (h : len + L.length ≤ 65536) : Grown t (trOf len L t) 0 len L := fun j cs hj hg => by
  rw [trOf_get L len j t h] at hg
  by_cases h1 : len ≤ j
  · rw [if_pos ⟨h1, hj⟩] at hg; exact .inr ⟨h1, hg⟩
  · rw [if_neg (fun h => h1 h.1)] at hg; exact .inl ⟨by omega, by simpa using hg⟩
theorem grownI {t : Tr (List AV)} {i len : Nat} {L old : List (List AV)} (h : len + L.length ≤ 65536) (ho : elems t len i = some old) : Grown t (trOf 0 (old ++ L) .lf) i len L := by
  obtain ⟨e1, e2⟩ := elems_t ho
  intro j cs hj hg
  rw [trOf_get _ 0 j .lf (by simp; omega), if_pos (by simp; omega)] at hg
  simp only [Nat.sub_zero, List.getElem?_append] at hg
  by_cases h1 : j < len
  · rw [if_pos (by omega)] at hg
    exact .inl ⟨h1, by rw [e2 j h1]; exact hg⟩
  · rw [if_neg (by omega), e1] at hg; exact .inr ⟨by omega, hg⟩

theorem row_grown {σ σ' : Ai.Sub} {w w' : World} {b : Pa} {s nr : Nat} {t t' : Tr (List AV)} {cb base : Nat} {c : Array Value} {elem : TypeId} {lo hi i len : Nat} {L : List (List AV)} {cells : List Value} (r : RowAt σ w b s nr t cb base c elem lo hi) (hle : σ.le σ') (ht : σ'.top cb = some c.size) (hR : RowsR σ s L cells) (hi' : i + len ≤ nr) (h65 : len + L.length ≤ 65536) (hG : Grown t t' i len L) (hb : base + (i + len + L.length) * s ≤ c.size)
    (hc : w'.heap[cb]? = some (.cells (splice c.toList (base + (i + len) * s) cells).toArray elem (lo, hi))) : ORel σ' w' cb (base + i * s) s (.row s (len + L.length) t') := by
  have hsz := hR.size
  have e1 : (i + len + L.length) * s = i * s + len * s + L.length * s := by rw [Nat.add_mul, Nat.add_mul]
  have e2 : (i + len) * s = i * s + len * s := Nat.add_mul ..
  have hl : base + (i + len) * s + cells.length ≤ c.toList.length := by simp; omega
  have hss : (splice c.toList (base + (i + len) * s) cells).toArray.size = c.size := by simpa using splice_len hl
  refine .row _ t' _ elem lo hi r.pos h65 hc (by rw [hss]; exact ht) (by rw [hss]; exact r.hf) (by rw [hss, Nat.add_mul]; omega) fun j cs hj hg => ?_
  have e4 : (j + 1) * s = j * s + s := by rw [Nat.add_mul]; omega
  rcases hG j cs hj hg with ⟨h1, h2⟩ | ⟨h1, h2⟩
  · obtain ⟨g1, g2, g3⟩ := r.h (i + j) cs (by omega) h2
    refine ⟨g1, g2, VRels.mono hle ?_⟩
    have h3 : (j + 1) * s ≤ len * s := Nat.mul_le_mul_right s (by omega)
    simp only
    rw [splice_apart hl (by left; omega)]
    rwa [Nat.add_mul, ← Nat.add_assoc] at g3
  · obtain ⟨q1, q2⟩ := hR.1 cs (List.mem_of_getElem? h2)
    refine ⟨q1, q2, VRels.mono hle ?_⟩
    have h3 : (j + 1) * s ≤ (len + L.length) * s := Nat.mul_le_mul_right s (by omega)
    have h4 : len * s ≤ j * s := Nat.mul_le_mul_right s h1
    rw [Nat.add_mul len] at h3
    have := hR.get (j - len) cs h2
    simp only
    rw [splice_part hl (by omega) (by omega)]
    rw [Nat.sub_mul] at this
    rwa [show base + i * s + j * s - (base + (i + len) * s) = j * s - len * s by omega]

theorem row_moved {σ σ' : Ai.Sub} {w w' : World} {b : Pa} {s nr : Nat} {t t' : Tr (List AV)} {cb base : Nat} {c c2 : Array Value} {elem elem2 : TypeId} {lo hi i len k : Nat} {L : List (List AV)} {cells rest : List Value} (r : RowAt σ w b s nr t cb base c elem lo hi) (hle : σ.le σ') (hR : RowsR σ s L cells) (hi' : i + len ≤ nr) (h65 : len + L.length ≤ 65536) (hG : Grown t t' i len L)
    (hc : w'.heap[k]? = some (.cells c2 elem2 (0, 0))) (ht : σ'.top k = some c2.size) (hc2 : c2.toList = (c.toList.drop (base + i * s)).take (len * s) ++ cells ++ rest) : ORel σ' w' k 0 s (.row s (len + L.length) t') := by
  have hsz := hR.size
  have hn := r.hn
  have h0 : (i + len) * s ≤ nr * s := Nat.mul_le_mul_right s hi'
  rw [Nat.add_mul] at h0
  have hol : ((c.toList.drop (base + i * s)).take (len * s)).length = len * s := by simp; omega
  have hc2s : c2.size = len * s + L.length * s + rest.length := by
    have := congrArg List.length hc2
    rw [List.length_append, List.length_append, hol, hsz] at this
    simpa using this
  refine .row _ t' c2 elem2 0 0 r.pos h65 hc ht (.inl rfl) (by rw [hc2s, Nat.add_mul]; omega) fun j cs hj hg => ?_
  have e4 : (j + 1) * s = j * s + s := by rw [Nat.add_mul]; omega
  rcases hG j cs hj hg with ⟨h1, h2⟩ | ⟨h1, h2⟩
  · obtain ⟨g1, g2, g3⟩ := r.h (i + j) cs (by omega) h2
    refine ⟨g1, g2, VRels.mono hle ?_⟩
    have h3 : (j + 1) * s ≤ len * s := Nat.mul_le_mul_right s (by omega)
    have heq : (c2.toList.drop (0 + j * s)).take s = (c.toList.drop (base + (i + j) * s)).take s := by
      rw [hc2]
      apply List.ext_getElem?
      intro q
      rw [List.getElem?_take, List.getElem?_take]
      split
      · rename_i hq
        rw [List.getElem?_drop, List.getElem?_drop, List.append_assoc, List.getElem?_append, if_pos (by rw [hol]; omega), List.getElem?_take, if_pos (by omega), List.getElem?_drop]
        congr 1
        rw [Nat.add_mul]; omega
      · rfl
    rw [heq]; exact g3
  · obtain ⟨q1, q2⟩ := hR.1 cs (List.mem_of_getElem? h2)
    refine ⟨q1, q2, VRels.mono hle ?_⟩
    have h3 : (j + 1) * s ≤ (len + L.length) * s := Nat.mul_le_mul_right s (by omega)
    have h4 : len * s ≤ j * s := Nat.mul_le_mul_right s h1
    rw [Nat.add_mul len] at h3
    have := hR.get (j - len) cs h2
    rw [Nat.sub_mul] at this
    have heq : (c2.toList.drop (0 + j * s)).take s = (cells.drop (j * s - len * s)).take s := by
      rw [hc2]
      apply List.ext_getElem?
      intro q
      rw [List.getElem?_take, List.getElem?_take]
      split
      · rename_i hq
        rw [List.getElem?_drop, List.getElem?_drop, List.append_assoc, List.getElem?_append, if_neg (by rw [hol]; omega), List.getElem?_append, if_pos (by rw [hol]; omega), hol]
        congr 1
        omega
      · rfl
    rw [heq]; exact this
end Go.Ai

namespace Go.Ai
open Go
variable {P : Program}

structure AppTy (P : Program) (at' : Array TypeId) (t t2 el : TypeId) (d2 : TypeDesc) (sz : Nat) (i : TypeInfo) (zv : Value) : Prop where
  h0 : at'[0]? = some t
  h1 : at'[1]? = some t2
  hu : P.underlying t = some (.slice el)
  hd : P.underlying t2 = some d2
  hs : size P el = some sz
  hi : P.info? el = some i
  hib : i.bytes ≤ 65536
  hi0 : i.bytes ≠ 0
  sz0 : sz ≠ 0
  hz : ∀ w, (zeroValue el).run P w = .ok zv w
  zsz : zv.cells.size = sz

/-- what is appended -/
structure SrcOf (P : Program) (d2 : TypeDesc) (el : TypeId) (sz n : Nat) (x : Value) (cells : List Value) (w : World) : Prop where
  src : (isIntD d2 = false ∧ (Builtin.lenOf x).run P w = .ok n w ∧ (Builtin.firstCells sz n x).run P w = .ok cells.toArray w) ∨
    (isIntD d2 = true ∧ (∃ k, x = .int k (.ofNat n)) ∧ ∃ z, (zeroValue el).run P w = .ok z w ∧ cells.toArray = Builtin.zeroCells z.cells n)

theorem SrcOf.app {d2 : TypeDesc} {el : TypeId} {sz n : Nat} {x : Value} {cells : List Value} {w : World} (h : SrcOf P d2 el sz n x cells w) (hn : n ≠ 0) (hs : sz ≠ 0) (hle : n ≤ 65536) : AppSrc P d2 el sz n x cells.toArray w := ⟨h.src, hn, hs, hle⟩
theorem SrcOf.zero {d2 : TypeDesc} {el : TypeId} {sz : Nat} {x : Value} {cells : List Value} {w : World} (h : SrcOf P d2 el sz 0 x cells w) (hc : cells = []) : (isIntD d2 = false ∧ (Builtin.lenOf x).run P w = .ok 0 w ∧ (Builtin.firstCells sz 0 x).run P w = .ok #[] w) ∨ (isIntD d2 = true ∧ ∃ k, x = .int k (.ofNat 0)) := by
  subst hc
  rcases h.src with ⟨h1, h2, h3⟩ | ⟨h1, h2, _⟩
  · exact .inl ⟨h1, h2, h3⟩
  · exact .inr ⟨h1, h2⟩

theorem old_run {σ : Ai.Sub} {w : World} {b : Pa} {s nr : Nat} {t : Tr (List AV)} {cb base : Nat} {c : Array Value} {elem : TypeId} {lo hi i len mm : Nat} (r : RowAt σ w b s nr t cb base c elem lo hi) (hi' : i + len ≤ nr) (w1 : World) (hh : w1.heap = w.heap) :
    (Builtin.firstCells s len (.slice (some ⟨cb, base + i * s, none⟩) len mm)).run P w1 = .ok ((c.toList.drop (base + i * s)).take (len * s)).toArray w1 := by
  have h0 : (i + len) * s ≤ nr * s := Nat.mul_le_mul_right s hi'
  rw [Nat.add_mul] at h0
  have hn := r.hn
  have hol : ((c.toList.drop (base + i * s)).take (len * s)).length = len * s := by simp; omega
  have := run_loadCells_list (P := P) w1 ⟨cb, base + i * s, none⟩ ((c.toList.drop (base + i * s)).take (len * s)) (fun j v hv => by
    rw [addr_add, cell_at (by rw [hh]; exact r.hc)]
    have := get_drop_take hv
    simpa using this)
  rw [hol] at this
  exact this

theorem out_moved {σ σ1 : Ai.Sub} {A A1 : AH} {w : World} (hK : Rel σ1 A1 w) (hX : Ext σ A w σ1 A1 w) (hph : A1.ph = A.ph) (hn : allZ (inc A1.next) = false) {s N nc : Nat} {c2 : Array Value} {el : TypeId} {tr : Tr (List AV)} {m : Sem Next}
    (hrun : m.run P w = .ok (.value (.slice (some ⟨w.heap.size, 0, none⟩) N nc)) { w with drawn := w.drawn + 1, heap := w.heap.push (.cells c2 el) })
    (ho : ∀ σ' w', σ1.le σ' → w'.heap[w.heap.size]? = some (.cells c2 el (0, 0)) → σ'.top w.heap.size = some c2.size → ORel σ' w' w.heap.size 0 s (.row s N tr)) (hN : N ≤ nc) (hc : nc * s ≤ c2.size) :
    Out P m σ A w (.slc A1.next 0 N none) (A1.new (.row s N tr)) := by
  obtain ⟨h1, h1x⟩ := hK.same (w2 := { w with drawn := w.drawn + 1 }) (fun _ _ => rfl) (Nat.le_refl _) rfl rfl
  obtain ⟨h2, h2x⟩ := h1.push hn (cobj := .cells c2 el) (sz := s) (o := .row s N tr) (ho _ _ (Sub.le_upd h1.next_pend h1.fresh_at) (by simp) (Sub.upd_top ..))
  refine ⟨_, _, _, .inl hrun, by simp [hph], hX.trans (h1x.trans h2x), h2, .slc _ 0 N none _ nc (by rw [Sub.upd_self]; simp) (fun cb base sz e => ?_) (fun x hx => by cases hx) hN (fun cb base sz e => ?_)⟩
  · rw [Sub.upd_self] at e; cases e; simp
  · rw [Sub.upd_self] at e; cases e
    exact ⟨_, Sub.upd_top .., by simp only [csz, Nat.zero_add]; omega⟩

theorem newSlc_t {s n m : Nat} {c : Option Nat} {l : List (List AV)} {A : AH} {K : KV} (h : newSlc s n c m l A K = true) : m ≤ 65536 ∧ allZ (inc A.next) = false ∧ K (.slc A.next 0 n c) (A.new (.row s m (trOf 0 l .lf))) = true := by
  obtain ⟨h1, h2⟩ := and_t.1 h
  obtain ⟨h3, h4⟩ := newK_t h2
  exact ⟨Nat.le_of_ble_eq_true h1, h3, h4⟩

theorem grow_t {i s len n : Nat} {L : List (List AV)} {t : Tr (List AV)} {A1 : AH} {K : KV} (h : (bif Nat.beq i 0 then newK A1 (.row s (len + n) (trOf len L t)) fun b A => K (.slc b 0 (len + n) none) A else optK (elems t len i) fun old => newSlc s (len + n) none (len + n) (old ++ L) A1 K) = true) (hL : L.length = n) (h65 : len + n ≤ 65536) :
    ∃ tr', Grown t tr' i len L ∧ allZ (inc A1.next) = false ∧ K (.slc A1.next 0 (len + n) none) (A1.new (.row s (len + n) tr')) = true := by
  cases hb : Nat.beq i 0 with
  | true =>
    have := Nat.eq_of_beq_eq_true hb
    subst this
    have h' : newK A1 (.row s (len + n) (trOf len L t)) (fun b A => K (.slc b 0 (len + n) none) A) = true := h
    obtain ⟨h1, h2⟩ := newK_t h'
    exact ⟨_, grown0 (by omega), h1, h2⟩
  | false =>
    rw [hb] at h
    obtain ⟨old, h1, h2⟩ := optK_t.1 h
    obtain ⟨_, h3, h4⟩ := newSlc_t h2
    exact ⟨_, grownI (by omega) h1, h3, h4⟩

theorem zcells_size (z : Array Value) (m : Nat) : (Builtin.zeroCells z m).size = m * z.size := by simp [Builtin.zeroCells]

theorem appendL_t {at' : Array TypeId} {ty t t2 el : TypeId} {d2 : TypeDesc} {sz : Nat} {ti : TypeInfo} {zv : Value} (T : AppTy P at' t t2 el d2 sz ti zv) {x : AV} {L : List (List AV)} {n : Nat} {A : AH} {K : KV} (h : appendL sz x L n A K = true) (hL : L.length = n) :
    ∃ u A', K u A' = true ∧ ∀ σ w xv yv, VRel σ x xv → Rel σ A w → (∀ w2, Rel σ A w2 → ∃ cells, SrcOf P d2 el sz n yv cells w2 ∧ RowsR σ sz L cells) → Out P (do Pure.pure (Next.value (← Builtin.append_ at' ty #[xv, yv]))) σ A w u A' := by
  have empty : ∀ {σ : Ai.Sub} {cells : List Value}, n = 0 → RowsR σ sz L cells → cells = [] := fun hn hR => by
    have := hR.size
    rw [hL, hn] at this
    simpa using this
  unfold appendL at h
  split at h
  · rename_i t'
    by_cases hn0 : n = 0
    · subst hn0
      obtain ⟨g1, g2⟩ := and_t.1 h
      refine ⟨_, A, g2, fun σ w xv yv hx hA hsrc => ?_⟩
      obtain ⟨cells, hS, hR⟩ := hsrc w hA
      have hz := hS.zero (empty rfl hR)
      have hx0 := hx
      cases hx <;> first
        | (simp at g1; done)
        | exact Out.pure (vals _ _ w w (app_zero T.h0 T.h1 T.hu T.hd T.hs T.hi hz (Nat.zero_le _))) hA hx0
    · have hnb : Nat.beq n 0 = false := by
        cases hb : Nat.beq n 0 with
        | false => rfl
        | true => exact absurd (Nat.eq_of_beq_eq_true hb) hn0
      rw [hnb] at h
      obtain ⟨g1, g2⟩ := and_t.1 h
      obtain ⟨g3, g4⟩ := and_t.1 g1
      have := Nat.eq_of_beq_eq_true g3
      subst this
      have h65 := Nat.le_of_ble_eq_true g4
      obtain ⟨_, hn, hK⟩ := newSlc_t g2
      refine ⟨_, _, hK, fun σ w xv yv hx hA hsrc => ?_⟩
      obtain ⟨cells0, hS0, _⟩ := hsrc w hA
      obtain ⟨cells, hS, hR⟩ := hsrc { w with drawn := w.drawn + 1 } (hA.same (w2 := { w with drawn := w.drawn + 1 }) (fun _ _ => rfl) (Nat.le_refl _) rfl rfl).1
      cases hx
      obtain ⟨nc, hnc, hrun⟩ := app_out (ty := ty) (a := none) (len := 0) (cap := 0) (old := #[]) T.h0 T.h1 T.hu T.hd T.hs T.hi T.hib T.hi0 T.hz (hS0.app hn0 T.sz0 h65) (hS.app hn0 T.sz0 h65) (by omega) (by omega) rfl
      rw [Nat.zero_add] at hnc hrun
      have hsz := hR.size
      refine out_moved hA (Ext.refl ..) rfl hn (vals _ _ w _ hrun) (fun σ' w' hle hc' ht' => new_row T.sz0 hL h65 hc' ht' ⟨hR.1, VRels.mono hle hR.2⟩ fun j y hy => ?_) hnc ?_
      · have hlt := (List.getElem?_eq_some_iff.1 hy).1
        rw [Array.empty_append, Array.getElem?_append_left (by simpa using hlt)]
        simpa using hy
      · rw [Array.size_append, zcells_size, T.zsz, Nat.sub_mul]
        have : n * sz ≤ nc * sz := Nat.mul_le_mul_right sz hnc
        simp [hsz, hL]; omega
  · rename_i t' b i len cap
    obtain ⟨g1, g2⟩ := and_t.1 h
    have := Nat.eq_of_beq_eq_true g1
    subst this
    by_cases hn0 : n = 0
    · subst hn0
      refine ⟨_, A, g2, fun σ w xv yv hx hA hsrc => ?_⟩
      obtain ⟨cells, hS, hR⟩ := hsrc w hA
      have hz := hS.zero (empty rfl hR)
      have hx0 := hx
      cases hx with
      | slc b i n' c0 ad mm h0 hadd hcm hnm htt =>
        exact Out.pure (vals _ _ w w (app_zero T.h0 T.h1 T.hu T.hd T.hs T.hi hz hnm)) hA hx0
    · have hnb : Nat.beq n 0 = false := by
        cases hb : Nat.beq n 0 with
        | false => rfl
        | true => exact absurd (Nat.eq_of_beq_eq_true hb) hn0
      rw [hnb] at g2
      obtain ⟨hrm, z, m, tr, hg, g3⟩ := asRowW_t.1 g2
      obtain ⟨g4, g5⟩ := and_t.1 g3
      obtain ⟨g6, g7⟩ := and_t.1 g4
      obtain ⟨g8, g9⟩ := and_t.1 g6
      have := Nat.eq_of_beq_eq_true g8
      subst this
      have him := Nat.le_of_ble_eq_true g9
      have h65 := Nat.le_of_ble_eq_true g7
      have hn65 : n ≤ 65536 := by omega
      -- a move
      have moved : ∀ {A1 : AH} {tr' : Tr (List AV)}, Grown tr tr' i len L → A1.ph = A.ph → allZ (inc A1.next) = false → ∀ (σ σ1 : Ai.Sub) w ad mm yv, Rel σ A w → Rel σ1 A1 w → Ext σ A w σ1 A1 w → σ b ≠ .pend → (∀ cb base sz, σ b = .at cb base sz → ad = ⟨cb, base + i * sz, none⟩) → ¬ len + n ≤ mm → (∀ w2, Rel σ A w2 → ∃ cells, SrcOf P d2 el z n yv cells w2 ∧ RowsR σ z L cells) →
          Out P (do Pure.pure (Next.value (← Builtin.append_ at' ty #[.slice (some ad) len mm, yv]))) σ A w (.slc A1.next 0 (len + n) none) (A1.new (.row z (len + n) tr')) := by
        intro A1 tr' hG hph hn σ σ1 w ad mm yv hA hA1 hX h0 hadd hno hsrc
        obtain ⟨cb, base, c, elem, lo, hh, r⟩ := hA.row hg h0
        obtain ⟨cells0, hS0, _⟩ := hsrc w hA
        obtain ⟨cells, hS, hR⟩ := hsrc { w with drawn := w.drawn + 1 } (hA.same (w2 := { w with drawn := w.drawn + 1 }) (fun _ _ => rfl) (Nat.le_refl _) rfl rfl).1
        have hold := old_run (P := P) (mm := mm) r him { w with drawn := w.drawn + 1 } rfl
        rw [← hadd cb base z r.at'] at hold
        obtain ⟨nc, hnc, hrun⟩ := app_out (ty := ty) T.h0 T.h1 T.hu T.hd T.hs T.hi T.hib T.hi0 T.hz (hS0.app hn0 T.sz0 hn65) (hS.app hn0 T.sz0 hn65) hno (by omega) hold
        have hsz := hR.size
        have hn' := r.hn
        have h00 : (i + len) * z ≤ m * z := Nat.mul_le_mul_right z him
        rw [Nat.add_mul] at h00
        have hol : ((c.toList.drop (base + i * z)).take (len * z)).length = len * z := by simp; omega
        refine out_moved hA1 hX hph hn (vals _ _ w _ hrun) (fun σ' w' hle hc' ht' => ?_) hnc ?_
        · have := row_moved (rest := (Builtin.zeroCells zv.cells (nc - (len + n))).toList) r (hX.le.trans hle) hR him (by omega) hG hc' ht' (by simp)
          rwa [hL] at this
        · rw [Array.size_append, Array.size_append, zcells_size, T.zsz, Nat.sub_mul]
          have : (len + n) * z ≤ nc * z := Nat.mul_le_mul_right z hnc
          rw [Nat.add_mul] at this ⊢
          simp only [List.size_toArray, hol, hsz, hL]; omega
      unfold appendTo at g5
      cases cap with
      | none =>
        obtain ⟨tr', hG, hn, hK⟩ := grow_t g5 hL h65
        refine ⟨_, _, hK, fun σ w xv yv hx hA hsrc => ?_⟩
        have hx0 := hx
        cases hx with
        | slc b i n' c0 ad mm h0 hadd hcm hnm htt =>
          obtain ⟨cb, base, c, elem, lo, hh, r⟩ := hA.row hg h0
          by_cases hroom : len + n ≤ mm
          · obtain ⟨cells, hS, hR⟩ := hsrc w hA
            obtain ⟨tp, ht1, ht2⟩ := htt cb base z r.at'
            have ht3 : tp = c.size := by rw [r.ht] at ht1; exact (Option.some.inj ht1).symm
            subst ht3
            have hsz := hR.size
            have hb1 : (i + len + n) * z ≤ (i + mm) * z := Nat.mul_le_mul_right z (by omega)
            have e1 : (i + len + n) * z = i * z + len * z + n * z := by rw [Nat.add_mul, Nat.add_mul]
            have e2 : (i + len) * z = i * z + len * z := Nat.add_mul ..
            obtain ⟨w', s1, s2, s3, s4, s5⟩ := storeCells_run (P := P) cells 0 (base + (i + len) * z) c w r.hc r.hf (by rw [hsz, hL]; omega) hR.cell1
            have hnn : (A.put b .dead).next = A.next := AH.put_next ..
            have hp : σ.kill b A.next = .pend := by have := (hA.kill hrm hg r.at' r.pos).1.next_pend; rwa [hnn] at this
            rw [hnn] at hn
            obtain ⟨q1, q2⟩ := hA.regrow (o2 := .row z (len + n) tr') hrm s5 hg r.at' r.pos hn r.ht s3 s4 (by
              have := row_grown (w' := w') r ((Sub.le_kill r.at' r.pos).trans (Sub.le_upd (base := base + i * z) (sz := z) hp (.inr r.ht))) (Sub.upd_top ..) hR him (by omega) hG (by rw [hL]; omega) (by simpa using s2)
              rwa [hL] at this)
            have hrun := app_in (ty := ty) (cap := mm) (ad := ad) T.h0 T.h1 T.hu T.hd T.hs T.hi T.hib (hS.app hn0 T.sz0 hn65) hroom (by
              rw [hadd cb base z r.at', addr_add, Nat.add_assoc, ← e2]; exact s1)
            rw [hnn]
            refine ⟨_, _, _, .inl (vals _ _ w w' hrun), by simp, q2, q1, .slc _ 0 (len + n) none _ mm (by rw [Sub.upd_self]; simp) (fun cb' base' sz' e => ?_) (fun x hx => by cases hx) hroom (fun cb' base' sz' e => ?_)⟩
            · rw [Sub.upd_self] at e; cases e; rw [hadd cb base z r.at']; simp
            · rw [Sub.upd_self] at e; cases e
              exact ⟨_, Sub.upd_top .., by rw [Nat.zero_add]; rw [Nat.add_mul] at ht2; omega⟩
          · obtain ⟨k1, k2⟩ := hA.kill hrm hg r.at' r.pos
            exact moved hG (by simp) hn σ _ w ad mm yv hA k1 k2 h0 hadd hroom hsrc
      | some cp =>
        cases hb : Nat.blt cp (len + n) with
        | true =>
          simp only [hb, cond_true] at g5
          obtain ⟨tr', hG, hn, hK⟩ := grow_t g5 hL h65
          refine ⟨_, _, hK, fun σ w xv yv hx hA hsrc => ?_⟩
          cases hx with
          | slc b i n' c0 ad mm h0 hadd hcm hnm htt =>
            have hlt : cp < len + n := by simpa using hb
            have := hcm cp rfl
            exact moved hG rfl hn σ σ w ad mm yv hA hA (Ext.refl ..) h0 hadd (by omega) hsrc
        | false =>
          simp only [hb, cond_false] at g5
          obtain ⟨q1, hK⟩ := and_t.1 g5
          have him2 := Nat.le_of_ble_eq_true q1
          refine ⟨_, _, hK, fun σ w xv yv hx hA hsrc => ?_⟩
          cases hx with
          | slc b i n' c0 ad mm h0 hadd hcm hnm htt =>
            have hge : ¬ cp < len + n := fun h => by
              have : Nat.blt cp (len + n) = true := by simpa using h
              rw [hb] at this; cases this
            have hmm := hcm cp rfl
            obtain ⟨cb, base, c, elem, lo, hh, r⟩ := hA.row hg h0
            obtain ⟨cells, hS, hR⟩ := hsrc w hA
            have hsz := hR.size
            have hn' := r.hn
            have hb1 : (i + len + n) * z ≤ m * z := Nat.mul_le_mul_right z him2
            have e1 : (i + len + n) * z = i * z + len * z + n * z := by rw [Nat.add_mul, Nat.add_mul]
            have e2 : (i + len) * z = i * z + len * z := Nat.add_mul ..
            obtain ⟨w', s1, s2, s3, s4, s5⟩ := storeCells_run (P := P) cells 0 (base + (i + len) * z) c w r.hc r.hf (by rw [hsz, hL]; omega) hR.cell1
            obtain ⟨hob, _⟩ := rows_after (w' := w') r hR (by rw [hL]; exact him2) (by simpa using s2)
            obtain ⟨hA', hX⟩ := hA.change hrm s5 hg r.at' s3 s4 hob
            have hrun := app_in (ty := ty) (len := len) (cap := mm) (ad := ad) T.h0 T.h1 T.hu T.hd T.hs T.hi T.hib (hS.app hn0 T.sz0 hn65) (by omega) (by
              rw [hadd cb base z r.at', addr_add, Nat.add_assoc, ← e2]; exact s1)
            exact ⟨σ, _, w', .inl (vals _ _ w w' hrun), by simp, hX, hA', .slc b i (len + n) (some cp) ad mm h0 hadd hcm (by omega) htt⟩
  · cases h
end Go.Ai

namespace Go.Ai
open Go
variable {P : Program}

theorem arr_hd2 {a : Array TypeId} {t t2 : TypeId} {r : List TypeId} (h : a.toList = t :: t2 :: r) : a[1]? = some t2 := by
  cases a; simp at h; simp [h]
theorem isIntD_of {d : TypeDesc} (h : isIntD d = true) : ∃ k, d = .int k := by
  cases d <;> first | exact ⟨_, rfl⟩ | cases h

/-- a new row -/
theorem new_rowF {σ : Ai.Sub} {w : World} {cb : Nat} {s n : Nat} {L : List (List AV)} {c : Array Value} {elem : TypeId} {lo hi : Nat} (hs : s ≠ 0) (hn : L.length = n) (hle : n ≤ 65536) (hc : w.heap[cb]? = some (.cells c elem (lo, hi))) (hf : hi = 0 ∨ c.size ≤ lo) (ht : σ.top cb = some c.size) {cells : List Value} (hR : RowsR σ s L cells) (hp : ∀ (i : Nat) (y : Value), cells[i]? = some y → c[i]? = some y) :
    ORel σ w cb 0 s (.row s n (trOf 0 L .lf)) := by
  have hsz : cells.length ≤ c.size := by
    rcases Nat.lt_or_ge c.size cells.length with h | h
    · have h1 : cells[c.size]? = some cells[c.size] := List.getElem?_eq_getElem h
      have := hp _ _ h1
      simp at this
    · exact h
  refine .row n _ c elem lo hi hs hle hc ht hf (by rw [hR.size, hn] at hsz; omega) fun i cs hi hg => ?_
  rw [trOf_get L 0 i .lf (by omega), if_pos (by omega)] at hg
  simp at hg
  obtain ⟨h1, h2⟩ := hR.1 cs (List.mem_of_getElem? hg)
  refine ⟨h1, h2, ?_⟩
  have := hR.get i cs hg
  have hlen := hR.size
  have heq : (c.toList.drop (0 + i * s)).take s = (cells.drop (i * s)).take s := by
    apply List.ext_getElem?
    intro j
    rw [List.getElem?_take, List.getElem?_take]
    split
    · rename_i hj
      rw [List.getElem?_drop, List.getElem?_drop, Nat.zero_add]
      have hb : i * s + j < cells.length := by
        rw [hlen, hn]
        have : (i + 1) * s ≤ n * s := Nat.mul_le_mul_right s (by omega)
        rw [Nat.add_mul] at this
        omega
      have h1 : cells[i * s + j]? = some cells[i * s + j] := List.getElem?_eq_getElem hb
      rw [h1]
      simpa using hp _ _ h1
    · rfl
  rw [heq]; exact this

section ops
variable {n : Nat} {o : Oper} {run : Run}

theorem s_append {c : Call} (ho : o.op = .call c) (hc : c.callee = .builtin .append) (h : cOp P o = some run) : Sound P n o run := by
  have hb := call_op ho hc h
  have h2 : ∃ x y t t2 r el d2 sz z, c.args.toList = [x, y] ∧ c.argTypes.toList = t :: t2 :: r ∧ P.underlying t = some (.slice el) ∧ P.underlying t2 = some d2 ∧ small P el = some sz ∧ zeroC P el = some z ∧ ((isIntD d2 = true ∧ c2 x y (appendZ sz z) = some run) ∨ (isIntD d2 = false ∧ c2 x y (appendR sz) = some run)) := by
    generalize c.args.toList = l at hb
    generalize c.argTypes.toList = ts at hb
    cases l with
    | nil => cases hb
    | cons x l => cases l with
      | nil => cases hb
      | cons y l => cases l with
        | cons _ _ => cases hb
        | nil => cases ts with
          | nil => cases hb
          | cons t r => cases r with
            | nil => cases hb
            | cons t2 r =>
              have hb' : (match elemTy P t, P.underlying t2 with
                | some el, some d2 => (match small P el, zeroC P el with
                  | some sz, some z => (match d2 with | .int _ => c2 x y (appendZ sz z) | _ => c2 x y (appendR sz))
                  | _, _ => none)
                | _, _ => none) = some run := hb
              split at hb'
              · rename_i el d2 hel hd2
                split at hb'
                · rename_i sz z hsz hz
                  refine ⟨x, y, t, t2, r, el, d2, sz, z, rfl, rfl, elemTy_t hel, hd2, hsz, hz, ?_⟩
                  cases d2 <;> first
                    | exact .inl ⟨rfl, hb'⟩
                    | exact .inr ⟨rfl, hb'⟩
                · cases hb'
              · cases hb'
  obtain ⟨x, y, t, t2, r, el, d2, sz, z, hargs, hts, hu, hd2, hsm, hz, hb⟩ := h2
  have ha := arr2 hargs
  obtain ⟨ti, hi1, hi2, hi3, hi4, hi5⟩ := small_t hsm
  obtain ⟨zv, hz1, hz2, hz3, hz4⟩ := zeroC_t hz
  have hsz : size P el = some sz := by unfold size; rw [hi1]; simp [hi2]
  have hzl : z.length = sz := by rw [hz2] at hsz; exact Option.some.inj hsz
  have hzs : zv.cells.size = sz := by
    have := (hz4 ⟨fun _ => .pend, fun _ => none⟩).length
    rw [hzl] at this
    simpa using this.symm
  have T : AppTy P c.argTypes t t2 el d2 sz ti zv := ⟨arr_hd hts, arr_hd2 hts, hu, hd2, hsz, hi1, hi3, by omega, hi5, hz1, hzs⟩
  have hF : ∀ tmps, execOp (evT tmps) o = (do Pure.pure (Next.value (← Builtin.append_ c.argTypes o.type #[evT tmps x, evT tmps y]))) := fun tmps => by obtain ⟨cs, e⟩ := exec_builtin ho hc tmps; rw [e, ha]; simp [builtin]
  have hx : x ∈ o.op.operands := by rw [ho]; simp [Op.operands, Call.operands, hc, ha]
  have hy : y ∈ o.op.operands := by rw [ho]; simp [Op.operands, Call.operands, hc, ha]
  rcases hb with ⟨hint, hb⟩ | ⟨hint, hb⟩
  · refine gen2 hb hx hy (F := fun a b => (do Pure.pure (Next.value (← Builtin.append_ c.argTypes o.type #[a, b])))) hF fun v v2 A K hk => ?_
    obtain ⟨k, m, e, h1⟩ := asNat_t.1 hk
    subst e
    obtain ⟨_, h2⟩ := and_t.1 h1
    have hlen : (rowFrom z m).length = m := (rowFrom_R ⟨fun _ => .pend, fun _ => none⟩ hzl hz3 (hz4 _) m).2
    obtain ⟨u, A', hK, hs⟩ := appendL_t (ty := o.type) T h2 hlen
    refine ⟨u, A', hK, fun σ w xv yv hxv hyv hA => ?_⟩
    refine hs σ w xv yv hxv hA fun w2 _ => ⟨_, ⟨.inr ⟨hint, ⟨k, nat_inv hyv⟩, zv, hz1 w2, ?_⟩⟩, (rowFrom_R σ hzl hz3 (hz4 σ) m).1⟩
    rw [← zeroCells_list]; rfl
  · refine gen2 hb hx hy (F := fun a b => (do Pure.pure (Next.value (← Builtin.append_ c.argTypes o.type #[a, b])))) hF fun v v2 A K hk => ?_
    obtain ⟨m, L, h1, h2, h3⟩ := rowOrStr_t (P := P) hk
    obtain ⟨u, A', hK, hs⟩ := appendL_t (ty := o.type) T h1 h2
    refine ⟨u, A', hK, fun σ w xv yv hxv hyv hA => ?_⟩
    refine hs σ w xv yv hxv hA fun w2 hA2 => ?_
    obtain ⟨cells, hS, hR, _⟩ := h3 A σ w2 yv (AH.Sub.refl A) hyv hA2
    refine ⟨cells, ⟨.inl ⟨hint, hS.len, ?_⟩⟩, hR⟩
    have := hS.first m (Nat.le_refl _)
    rwa [List.take_of_length_le (by rw [hR.size, h2]; exact Nat.le_refl _)] at this

/-- a text's bytes, laid anew -/
theorem s_toBytes {src dst : TypeId} {x : Operand} {el : TypeId} (ho : o.op = .convert src dst x) (h : cOp P o = some run) (hd : elemTy P dst = some el) : Sound P n o run := by
  have hx : x ∈ o.op.operands := by rw [ho]; simp [Op.operands]
  have hF : ∀ tmps, execOp (evT tmps) o = (do Pure.pure (Next.value (← convert src dst (evT tmps x)))) := fun tmps => by unfold execOp; rw [ho]
  have hc : cConvert P src dst x = some run := by unfold cOp at h; rw [ho] at h; exact h
  have hdu := elemTy_t hd
  unfold cConvert at hc
  rw [hdu] at hc
  split at hc
  · cases hc
  · rename_i hs
    simp only at hc
    split at hc
    · rename_i hel hsz
      refine gen1 hc hx (F := fun v => (do Pure.pure (Next.value (← convert src dst v)))) hF fun v A K hk => ?_
      obtain ⟨s, e, h1⟩ := asStr_t.1 hk
      subst e
      obtain ⟨h65, hn, hK⟩ := newSlc_t h1
      refine ⟨_, _, hK, fun σ w xv hxv hA => ?_⟩
      obtain ⟨e1, e2⟩ := str_inv hxv
      subst e1
      have hrun := Lib.run_convert_string_bytes w src dst el (AV.bytes s) hs hdu hel
      obtain ⟨g1, g2⟩ := u8s_R σ s e2
      have hbs := bytes_size s
      have hgc : s.length ≤ grownCap w (AV.bytes s).size 0 el := by
        rw [hbs]; simp [grownCap, Question.cut]
      have hsize : (Lib.bytesCells w el (AV.bytes s)).size = grownCap w (AV.bytes s).size 0 el := by
        have h3 : (AV.bytes s).data.size = s.length := hbs
        simp only [Lib.bytesCells, Array.size_append, Array.size_map, Array.size_replicate, h3]
        rw [hbs] at hgc ⊢; omega
      let w3 : World := { w with drawn := w.drawn + 1, heap := w.heap.push (.cells (Lib.bytesCells w el (AV.bytes s)) el ((Lib.bytesCells w el (AV.bytes s)).size, (Lib.bytesCells w el (AV.bytes s)).size + 1)) }
      obtain ⟨k1, k1x⟩ := hA.same (w2 := { w with drawn := w.drawn + 1 }) (fun _ _ => rfl) (Nat.le_refl _) rfl rfl
      obtain ⟨k2, k2x⟩ := k1.push hn (cobj := .cells (Lib.bytesCells w el (AV.bytes s)) el ((Lib.bytesCells w el (AV.bytes s)).size, (Lib.bytesCells w el (AV.bytes s)).size + 1)) (sz := 1) (o := .row 1 s.length (trOf 0 (u8s s) .lf)) (new_rowF (elem := el) (c := Lib.bytesCells w el (AV.bytes s)) (lo := (Lib.bytesCells w el (AV.bytes s)).size) (hi := (Lib.bytesCells w el (AV.bytes s)).size + 1) (by decide) g2 h65 (by simp) (.inr (Nat.le_refl _)) (Sub.upd_top ..) (cells := s.map fun c => .int .u8 (.ofNat c)) ⟨g1.1, VRels.mono (Sub.le_upd k1.next_pend k1.fresh_at) g1.2⟩ fun i y hy => by
        have hlt := (List.getElem?_eq_some_iff.1 hy).1
        simp only [List.length_map] at hlt
        rw [Lib.bytesCells, Array.getElem?_append_left (by simp [AV.bytes]; exact hlt)]
        rw [List.getElem?_map] at hy
        cases hsi : s[i]? with
        | none => rw [hsi] at hy; cases hy
        | some c =>
          rw [hsi] at hy
          have hc8 : c < 256 := e2 c (List.mem_of_getElem? hsi)
          simp only [Option.map_some, Option.some.injEq] at hy
          subst hy
          have : c % 256 = c := Nat.mod_eq_of_lt hc8
          simp [AV.bytes, hsi, this])
      obtain ⟨k3, k3x⟩ := k2.same (w2 := Lib.bytesWorld w el (AV.bytes s)) (fun k hk => by
        simp only [Array.size_push] at hk
        by_cases hkk : k = w.heap.size
        · subst hkk; rw [Lib.bytesWorld_at_new]; simp
        · rw [Lib.bytesWorld_at_old _ _ _ _ (by omega)]
          simp [Array.getElem?_push, hkk]) (by rw [Lib.bytesWorld_size]; simp) rfl rfl
      refine ⟨_, _, _, .inl (vals _ _ w _ hrun), by simp, k1x.trans (k2x.trans k3x), k3, ?_⟩
      rw [hbs] at hgc hsize ⊢
      exact .slc _ 0 s.length none _ _ (by rw [Sub.upd_self]; simp) (fun cb base sz e => by rw [Sub.upd_self] at e; cases e; simp) (fun x hx => by cases hx) hgc (fun cb base sz e => by rw [Sub.upd_self] at e; cases e; exact ⟨_, Sub.upd_top .., by simp only [csz, Nat.zero_add]; omega⟩)
    · cases hc
  · simp only at hc
    cases hc
  · cases hc
end ops
end Go.Ai

namespace Go.Ai
open Go
variable {P : Program}

/-- a map's object is set -/
theorem Rel.mapSet {σ : Ai.Sub} {A : AH} {w : World} (hA : Rel σ A w) {b : Pa} {r clock clock' : Nat} {es es' : List (Nat × AV × AV)} {ents : Array MapEntry} (hg : A.get b = some (.map clock es)) (hb : σ b = .at r 0 0) (hE : EntR σ es' ents.toList) :
    ∃ w', (setObj r (.map ents clock')).run P w = .ok () w' ∧ Rel σ (A.put b (.map clock' es')) w' ∧ Ext σ A w σ (A.put b (.map clock' es')) w' := by
  obtain ⟨ents0, h1, _⟩ := hA.mapAt hg hb
  have hlt := hA.low b r 0 0 hb
  refine ⟨{ w with heap := w.heap.setIfInBounds r (.map ents clock') }, by simp [setObj, Sem.run, h1], ?_⟩
  refine hA.change (hA.nrom_zero hb) ⟨rfl, rfl⟩ hg hb (fun k hk => ?_) (by simp) (.map clock' es' ents ⟨rfl, rfl⟩ ?_ hE.hb hE.hk hE.hv)
  · simp [Array.getElem?_setIfInBounds, Ne.symm hk]
  · simp [Array.getElem?_setIfInBounds, hlt]

/-- the object is set to what it was -/
theorem Rel.mapKeep {σ : Ai.Sub} {A : AH} {w : World} (hA : Rel σ A w) {r clock : Nat} {ents : Array MapEntry} (hc : w.heap[r]? = some (.map ents clock)) :
    ∃ w', (setObj r (.map ents clock)).run P w = .ok () w' ∧ Rel σ A w' ∧ Ext σ A w σ A w' := by
  refine ⟨{ w with heap := w.heap.setIfInBounds r (.map ents clock) }, by simp [setObj, Sem.run, hc], ?_⟩
  have hlt := (Array.getElem?_eq_some_iff.1 hc).1
  refine hA.same (fun k _ => ?_) (by simp) rfl rfl
  by_cases hk : r = k
  · subst hk; rw [hc]; simp [Array.getElem?_setIfInBounds, hlt]
  · simp [Array.getElem?_setIfInBounds, hk]

theorem putM_sound {t : TypeId} {e : TypeId × EqF} {kt : TypeId} {d : TypeDesc} (M : MapT P t e kt d) {k v : AV} : ∀ (es : List (Nat × AV × AV)) (f : Option (List (Nat × AV × AV)) → Bool), putM e.2 k v es f = true →
    ∃ r, f r = true ∧ ∀ σ kv xv ms i0, VRel σ k kv → VRel σ v xv → EntR σ es ms →
      (match r with
        | none => Instr.findNow d kv ms i0 = some none
        | some es' => ∃ i m, ms[i]? = some m ∧ Instr.findNow d kv ms i0 = some (some (i0 + i, m.val)) ∧ kv = m.key ∧ Instr.sameBits 10000 kv kv = true ∧ EntR σ es' (ms.modify i fun e => { e with key := kv, val := xv }))
  | [], f, h => ⟨none, h, fun σ kv xv ms i0 _ _ hE => by rw [hE.nil_inv]; rfl⟩
  | x :: es, f, h => by
    obtain ⟨b, hb, hr⟩ := M.eq _ _ _ h
    cases b with
    | true =>
      refine ⟨_, hb, fun σ kv xv ms i0 hk hv hE => ?_⟩
      obtain ⟨m, r, rfl, h1, h2, h3, h4⟩ := hE.cons_inv
      obtain ⟨q1, q2, q3⟩ := hr σ kv m.key hk h2
      exact ⟨0, m, rfl, by simp [Instr.findNow, q1], q2 rfl, q3, EntR.cons h1 hk hv h4⟩
    | false =>
      obtain ⟨r, hr', hs⟩ := putM_sound M es _ hb
      cases r with
      | none =>
        refine ⟨none, hr', fun σ kv xv ms i0 hk hv hE => ?_⟩
        obtain ⟨m, ms', rfl, h1, h2, h3, h4⟩ := hE.cons_inv
        obtain ⟨q1, _, _⟩ := hr σ kv m.key hk h2
        have hst := hs σ kv xv ms' (i0 + 1) hk hv h4
        show Instr.findNow d kv (m :: ms') i0 = some none
        have e1 : Instr.findNow d kv (m :: ms') i0 = Instr.findNow d kv ms' (i0 + 1) := by simp [Instr.findNow, q1]
        rw [e1]; exact hst
      | some l =>
        refine ⟨some (x :: l), hr', fun σ kv xv ms i0 hk hv hE => ?_⟩
        obtain ⟨m, ms', rfl, h1, h2, h3, h4⟩ := hE.cons_inv
        obtain ⟨q1, _, _⟩ := hr σ kv m.key hk h2
        obtain ⟨i, m', g1, g2, g3, g4, g5⟩ := hs σ kv xv ms' (i0 + 1) hk hv h4
        have e1 : Instr.findNow d kv (m :: ms') i0 = Instr.findNow d kv ms' (i0 + 1) := by simp [Instr.findNow, q1]
        exact ⟨i + 1, m', by simpa using g1, by rw [e1, g2]; congr 3; omega, g3, g4, by simpa using EntR.cons h1 h2 h3 g5⟩

theorem delM_sound {t : TypeId} {e : TypeId × EqF} {kt : TypeId} {d : TypeDesc} (M : MapT P t e kt d) {k : AV} : ∀ (es : List (Nat × AV × AV)) (f : List (Nat × AV × AV) → Bool), delM e.2 k es f = true →
    ∃ r, f r = true ∧ ∀ σ kv ms i0, VRel σ k kv → EntR σ es ms →
      (Instr.findNow d kv ms i0 = some none ∧ EntR σ r ms) ∨ ∃ i m, ms[i]? = some m ∧ Instr.findNow d kv ms i0 = some (some (i0 + i, m.val)) ∧ EntR σ r (ms.eraseIdx i)
  | [], f, h => ⟨[], h, fun σ kv ms i0 _ hE => by rw [hE.nil_inv]; exact .inl ⟨rfl, EntR.nil σ⟩⟩
  | x :: es, f, h => by
    obtain ⟨b, hb, hr⟩ := M.eq _ _ _ h
    cases b with
    | true =>
      refine ⟨_, hb, fun σ kv ms i0 hk hE => ?_⟩
      obtain ⟨m, r, rfl, h1, h2, h3, h4⟩ := hE.cons_inv
      obtain ⟨q1, q2, q3⟩ := hr σ kv m.key hk h2
      exact .inr ⟨0, m, rfl, by simp [Instr.findNow, q1], h4⟩
    | false =>
      obtain ⟨r, hr', hs⟩ := delM_sound M es _ hb
      refine ⟨x :: r, hr', fun σ kv ms i0 hk hE => ?_⟩
      obtain ⟨m, ms', rfl, h1, h2, h3, h4⟩ := hE.cons_inv
      obtain ⟨q1, _, _⟩ := hr σ kv m.key hk h2
      have e1 : Instr.findNow d kv (m :: ms') i0 = Instr.findNow d kv ms' (i0 + 1) := by simp [Instr.findNow, q1]
      rcases hs σ kv ms' (i0 + 1) hk h4 with ⟨g1, g2⟩ | ⟨i, m', g1, g2, g3⟩
      · exact .inl ⟨by rw [e1]; exact g1, EntR.cons h1 h2 h3 g2⟩
      · exact .inr ⟨i + 1, m', by simpa using g1, by rw [e1, g2]; congr 3; omega, by simpa using EntR.cons h1 h2 h3 g3⟩

theorem stM_sound {s : Nat} {v : AV} : ∀ {es es' : List (Nat × AV × AV)}, stM s v es = some es' → ∀ σ xv ms, VRel σ v xv → EntR σ es ms → ∃ i, ms.findIdx? (fun e => (e.born : Int) == (Int.ofNat s)) = some i ∧ EntR σ es' (ms.modify i fun e => { e with val := xv })
  | [], es', h => by cases h
  | x :: es, es', h => by
    intro σ xv ms hv hE
    obtain ⟨m, ms', rfl, h1, h2, h3, h4⟩ := hE.cons_inv
    simp only [stM] at h
    cases hb : Nat.beq x.1 s with
    | true =>
      rw [hb] at h
      cases h
      have e := Nat.eq_of_beq_eq_true hb
      refine ⟨0, ?_, EntR.cons h1 h2 hv h4⟩
      have : ((m.born : Int) == Int.ofNat s) = true := by rw [← h1, e]; simp
      rw [List.findIdx?_cons, this]; rfl
    | false =>
      rw [hb] at h
      simp only [cond_false] at h
      split at h
      · rename_i l hl
        cases h
        obtain ⟨i, g1, g2⟩ := stM_sound hl σ xv ms' hv h4
        have : ((m.born : Int) == Int.ofNat s) = false := by
          rw [beq_eq_false_iff_ne]
          intro e
          have : m.born = s := Int.ofNat.inj e
          rw [h1, this, Nat.beq_refl] at hb; cases hb
        exact ⟨i + 1, by rw [List.findIdx?_cons, this, g1]; rfl, by simpa using EntR.cons h1 h2 h3 g2⟩
      · cases h

theorem mapK_t {m : AV} {A : AH} {f : Pa → Nat → List (Nat × AV × AV) → Bool} (h : mapK m A f = true) : ∃ b i n c clock es, m = .ref 2 b i n c ∧ A.get b = some (.map clock es) ∧ f b clock es = true := by
  obtain ⟨b, i, n, c, e, h1⟩ := asMap_t.1 h
  obtain ⟨o, ho, h2⟩ := optK_t.1 h1
  obtain ⟨clock, es, e2, h3⟩ := oMap_t.1 h2
  subst e2
  exact ⟨b, i, n, c, clock, es, e, ho, h3⟩

theorem keyStays_run {kv old : Value} (h : kv = old) (hs : Instr.sameBits 10000 kv kv = true) (w : World) : (Instr.keyThatStays old kv).run P w = .ok kv w := by
  subst h
  simp [Instr.keyThatStays, hs]

section ops
variable {n : Nat} {o : Oper} {run : Run}

theorem s_upd {t : TypeId} {m k x : Operand} (ho : o.op = .mapUpdate t m k x ∨ o.op = .insert t m k x) (h : cOp P o = some run) : Sound P n o run := by
  have hm : m ∈ o.op.operands := by rcases ho with ho | ho <;> (rw [ho]; simp [Op.operands])
  have hk : k ∈ o.op.operands := by rcases ho with ho | ho <;> (rw [ho]; simp [Op.operands])
  have hx : x ∈ o.op.operands := by rcases ho with ho | ho <;> (rw [ho]; simp [Op.operands])
  have h2 : ∃ e, mapTy P t = some e ∧ c3 m k x (updR e.2) = some run := by
    unfold cOp at h
    rcases ho with ho | ho <;>
    · rw [ho] at h
      simp only at h
      split at h
      · rename_i e he; exact ⟨e, he, h⟩
      · cases h
  obtain ⟨e, he, h⟩ := h2
  obtain ⟨kt, d, M⟩ := mapTy_t he
  refine gen3 h hm hk hx (F := fun a b c => (do Instr.mapUpdate t a b c; pure .skip)) (fun tmps => by unfold execOp; rcases ho with ho | ho <;> rw [ho]) fun v v2 v3 A K hK0 => ?_
  obtain ⟨b, i, nn, c, clock, es, e1, hg, h1⟩ := mapK_t hK0
  subst e1
  obtain ⟨r, hr, hs⟩ := putM_sound M es _ h1
  cases r with
  | none =>
    refine ⟨_, _, hr, fun σ w mv kv xv hmv hkv hxv hA => ?_⟩
    cases hmv with
    | map b i n' c r hr' =>
      obtain ⟨ents, g1, g2⟩ := hA.mapAt hg hr'
      have hf := findKey_run M (hs σ kv xv ents.toList 0 hkv hxv g2) w
      have hund := run_underlying M.ht w
      have hobj : (getObj r).run P w = .ok (.map ents clock) w := by simp [getObj, Sem.run, g1]
      obtain ⟨w', s1, s2, s3⟩ := hA.mapSet (P := P) (clock' := clock + 1) (es' := es ++ [(clock, v2, v3)]) (ents := ents.push { key := kv, val := xv, born := clock }) hg hr' (by simpa using EntR.snoc (x := (clock, v2, v3)) (m := { key := kv, val := xv, born := clock }) rfl hkv hxv g2)
      refine ⟨σ, undef, w', .inr ⟨?_, rfl⟩, by simp, s3, s2, .tuple 0 [] [] #[] .nil⟩
      simp only [Instr.mapUpdate, Sem.run_bind, hund, Result.andThen_ok, hobj, M.check, hf, s1, Sem.run_pure]
  | some es' =>
    refine ⟨_, _, hr, fun σ w mv kv xv hmv hkv hxv hA => ?_⟩
    cases hmv with
    | map b i n' c r hr' =>
      obtain ⟨ents, g1, g2⟩ := hA.mapAt hg hr'
      obtain ⟨j, m', q1, q2, q3, q4, q5⟩ := hs σ kv xv ents.toList 0 hkv hxv g2
      have hf := findKey_run M q2 w
      rw [Nat.zero_add] at hf
      have hund := run_underlying M.ht w
      have hobj : (getObj r).run P w = .ok (.map ents clock) w := by simp [getObj, Sem.run, g1]
      have hj : ents[j]? = some m' := by simpa using q1
      obtain ⟨w', s1, s2, s3⟩ := hA.mapSet (P := P) (clock' := clock) (es' := es') (ents := ents.modify j fun e => { e with key := kv, val := xv }) hg hr' (by simpa using q5)
      refine ⟨σ, undef, w', .inr ⟨?_, rfl⟩, by simp, s3, s2, .tuple 0 [] [] #[] .nil⟩
      simp only [Instr.mapUpdate, Sem.run_bind, hund, Result.andThen_ok, hobj, M.check, hf, hj, Option.map_some, Option.getD_some, keyStays_run q3 q4, s1, Sem.run_pure]

theorem s_entryStore {t : TypeId} {m s x : Operand} (ho : o.op = .entryStore t m s x) (h : cOp P o = some run) : Sound P n o run := by
  unfold cOp at h
  rw [ho] at h
  simp only at h
  refine gen3 h (by rw [ho]; simp [Op.operands]) (by rw [ho]; simp [Op.operands]) (by rw [ho]; simp [Op.operands]) (F := fun a b c => (do Instr.entryStore t a b c; pure .skip)) (fun tmps => by unfold execOp; rw [ho]) fun v v2 v3 A K hK0 => ?_
  obtain ⟨b, i, nn, c, clock, es, e1, hg, h1⟩ := mapK_t hK0
  obtain ⟨k, q, e2, h2⟩ := asNat_t.1 h1
  obtain ⟨es', h3, hK⟩ := optK_t.1 h2
  subst e1; subst e2
  refine ⟨_, _, hK, fun σ w mv kv xv hmv hkv hxv hA => ?_⟩
  cases hmv with
  | map b i n' c r hr' =>
    obtain ⟨ents, g1, g2⟩ := hA.mapAt hg hr'
    obtain ⟨j, q1, q2⟩ := stM_sound h3 σ xv ents.toList hxv g2
    have hobj : (getObj r).run P w = .ok (.map ents clock) w := by simp [getObj, Sem.run, g1]
    have hf : ents.findIdx? (fun e => (e.born : Int) == (Int.ofNat q)) = some j := by rw [← q1]; cases ents; rw [List.findIdx?_toArray]
    obtain ⟨w', s1, s2, s3⟩ := hA.mapSet (P := P) (clock' := clock) (es' := es') (ents := ents.modify j fun e => { e with val := xv }) hg hr' (by simpa using q2)
    refine ⟨σ, undef, w', .inr ⟨?_, rfl⟩, by simp, s3, s2, .tuple 0 [] [] #[] .nil⟩
    rw [nat_inv hkv]
    simp only [Instr.entryStore, Sem.run_bind, hobj, Result.andThen_ok, asInt, asIntOf, Sem.run_pure, hf, s1]

theorem s_mapEntry {t : TypeId} {m k : Operand} (ho : o.op = .mapEntry t m k) (h : cOp P o = some run) : Sound P n o run := by
  unfold cOp at h
  rw [ho] at h
  simp only at h
  split at h
  case h_2 => cases h
  rename_i e he
  split at h
  case h_2 => cases h
  rename_i z hz
  obtain ⟨kt, d, M⟩ := mapTy_t he
  obtain ⟨zv, hzr, hzv⟩ := zeroV_run hz
  refine gen2 h (by rw [ho]; simp [Op.operands]) (by rw [ho]; simp [Op.operands]) (F := fun a b => (do Pure.pure (Next.value (← Instr.mapEntry t a b)))) (fun tmps => by unfold execOp; rw [ho]) fun v v2 A K hK0 => ?_
  obtain ⟨b, i, nn, c, clock, es, e1, hg, h1⟩ := mapK_t hK0
  subst e1
  obtain ⟨r, hr, hs⟩ := findM_sound M es _ h1
  cases r with
  | none =>
    refine ⟨_, _, hr, fun σ w mv kv hmv hkv hA => ?_⟩
    cases hmv with
    | map b i n' c r hr' =>
      obtain ⟨ents, g1, g2⟩ := hA.mapAt hg hr'
      have hf := findKey_run M (hs σ kv ents.toList 0 hkv g2) w
      have hund := run_underlying M.ht w
      have hobj : (getObj r).run P w = .ok (.map ents clock) w := by simp [getObj, Sem.run, g1]
      obtain ⟨w', s1, s2, s3⟩ := hA.mapSet (P := P) (clock' := clock + 1) (es' := es ++ [(clock, v2, z)]) (ents := ents.push { key := kv, val := zv, born := clock }) hg hr' (by simpa using EntR.snoc (x := (clock, v2, z)) (m := { key := kv, val := zv, born := clock }) rfl hkv (hzv σ) g2)
      refine ⟨σ, .tuple #[zv, goInt clock], w', .inl (vals _ _ w w' ?_), by simp, s3, s2, .tuple 0 _ [] _ (.cons (hzv σ) (.cons (.nat .i64 clock) .nil))⟩
      simp only [Instr.mapEntry, Sem.run_bind, hund, Result.andThen_ok, hobj, M.check, hf, hzr, s1, Sem.run_pure]
  | some bv =>
    refine ⟨_, _, hr, fun σ w mv kv hmv hkv hA => ?_⟩
    cases hmv with
    | map b i n' c r hr' =>
      obtain ⟨ents, g1, g2⟩ := hA.mapAt hg hr'
      obtain ⟨j, m', q1, q2, q3, q4, q5, q6⟩ := hs σ kv ents.toList 0 hkv g2
      have hf := findKey_run M q2 w
      rw [Nat.zero_add] at hf
      have hund := run_underlying M.ht w
      have hobj : (getObj r).run P w = .ok (.map ents clock) w := by simp [getObj, Sem.run, g1]
      have hj : ents[j]? = some m' := by simpa using q1
      have hmod : (ents.modify j fun e => { e with key := kv }) = ents := by
        apply Array.ext_getElem?
        intro q
        rw [Array.getElem?_modify]
        by_cases hqj : j = q
        · subst hqj
          rw [hj, q5]; simp
        · simp [hqj]
      obtain ⟨w', s1, s2, s3⟩ := hA.mapKeep (P := P) g1
      refine ⟨σ, .tuple #[m'.val, goInt m'.born], w', .inl (vals _ _ w w' ?_), by simp, s3, s2, .tuple 0 _ [] _ (.cons q4 (.cons ?_ .nil))⟩
      · simp only [Instr.mapEntry, Sem.run_bind, hund, Result.andThen_ok, hobj, M.check, hf, hj, Option.map_some, Option.getD_some, keyStays_run q5 q6, hmod, s1, Sem.run_pure]
      · rw [q3]; exact .nat .i64 _
end ops
end Go.Ai

namespace Go.Ai
open Go
variable {P : Program}

theorem memN_mem {n : Nat} : ∀ {l : List Nat}, memN n l = l.contains n
  | [] => rfl
  | x :: r => by
    have ih := memN_mem (n := n) (l := r)
    show cond (Nat.beq n x) true (memN n r) = _
    rw [ih, List.contains_cons]
    cases hb : Nat.beq n x with
    | true => have := Nat.eq_of_beq_eq_true hb; simp [this]
    | false =>
      have : (n == x) = false := by
        rw [beq_eq_false_iff_ne]
        intro e; subst e; rw [Nat.beq_refl] at hb; cases hb
      simp [this]

theorem leftM_R {σ : Ai.Sub} {seen : List Nat} : ∀ {es : List (Nat × AV × AV)} {ms : List MapEntry}, EntR σ es ms → EntR σ (leftM seen es) (ms.filter fun e => !seen.toArray.contains e.born)
  | [], ms, h => by rw [h.nil_inv]; exact EntR.nil σ
  | x :: es, ms, h => by
    obtain ⟨m, r, rfl, h1, h2, h3, h4⟩ := h.cons_inv
    have ih := leftM_R (seen := seen) h4
    simp only [leftM, memN_mem, h1]
    cases hb : seen.contains m.born with
    | true =>
      rw [List.filter_cons_of_neg (by simp only [List.contains_toArray, hb]; decide)]
      exact ih
    | false =>
      rw [List.filter_cons_of_pos (by simp only [List.contains_toArray, hb]; decide)]
      exact EntR.cons h1 h2 h3 ih

theorem anyOld_R {σ : Ai.Sub} {last : Nat} : ∀ {es : List (Nat × AV × AV)} {ms : List MapEntry}, EntR σ es ms → anyOld last es = true → (ms.all fun e => decide (e.born ≥ last)) = false
  | [], ms, h, ha => by cases ha
  | x :: es, ms, h, ha => by
    obtain ⟨m, r, rfl, h1, h2, h3, h4⟩ := h.cons_inv
    simp only [anyOld] at ha
    cases hb : Nat.blt x.1 last with
    | true =>
      have : m.born < last := by rw [← h1]; simpa using hb
      have h2 : decide (m.born ≥ last) = false := by simp; exact this
      simp [h2]
    | false =>
      rw [hb] at ha
      have := anyOld_R h4 ha
      rw [List.all_cons, this, Bool.and_false]

theorem stepsOk_R {σ : Ai.Sub} {seen : List Nat} {last : Nat} {es : List (Nat × AV × AV)} {ents : Array MapEntry} (h : stepsOk seen last es = true) (hE : EntR σ es ents.toList) : (!seen.toArray.isEmpty && !ents.isEmpty && ents.all fun e => decide (e.born ≥ last)) = false := by
  cases seen with
  | nil => simp
  | cons a b =>
    cases es with
    | nil =>
      have := hE.nil_inv
      have : ents = #[] := by cases ents; simpa using this
      subst this
      simp
    | cons x es =>
      have := anyOld_R hE h
      have h2 : (ents.all fun e => decide (e.born ≥ last)) = false := by rw [← this, Array.all_toList]
      rw [h2, Bool.and_false]

theorem bornM_R {σ : Ai.Sub} {s : Nat} {kv : AV × AV} : ∀ {es : List (Nat × AV × AV)} {ms : List MapEntry}, EntR σ es ms → bornM s es = some kv → ∃ m, ms.find? (fun e => e.born == s) = some m ∧ VRel σ kv.1 m.key ∧ VRel σ kv.2 m.val
  | [], ms, h, ha => by cases ha
  | x :: es, ms, h, ha => by
    obtain ⟨m, r, rfl, h1, h2, h3, h4⟩ := h.cons_inv
    simp only [bornM] at ha
    cases hb : Nat.beq x.1 s with
    | true =>
      rw [hb] at ha
      cases ha
      have : m.born = s := by rw [← h1]; exact Nat.eq_of_beq_eq_true hb
      exact ⟨m, by simp [this], h2, h3⟩
    | false =>
      rw [hb] at ha
      obtain ⟨m', g1, g2⟩ := bornM_R h4 ha
      refine ⟨m', ?_, g2⟩
      have : (m.born == s) = false := by
        rw [beq_eq_false_iff_ne]
        intro e
        rw [h1, e, Nat.beq_refl] at hb; cases hb
      simp [this, g1]
theorem lastN_eq : ∀ (l : List Nat), lastN l = l.getLast?
  | [] => rfl
  | [x] => rfl
  | x :: y :: r => by
    show lastN (y :: r) = _
    rw [lastN_eq (y :: r)]; simp [List.getLast?_cons]

def IterM (σ : Ai.Sub) (m : Option Pa) (mo : Option Nat) : Prop := match m with | none => mo = none | some b => ∃ r, mo = some r ∧ σ b = .at r 0 0
theorem Rel.iterAt {σ : Ai.Sub} {A : AH} {w : World} (hA : Rel σ A w) {b : Pa} {m : Option Pa} {since : Nat} {seen : List Nat} {last : Nat} (hg : A.get b = some (.iter m since seen last)) (hp : σ b ≠ .pend) :
    ∃ r mo, σ b = .at r 0 0 ∧ w.heap[r]? = some (.mapIter mo since seen.toArray last) ∧ IterM σ m mo := by
  obtain ⟨cb, base, sz, h1, h2⟩ := hA.get_at hg (by simp) hp
  cases h2 with
  | iter m since seen stepped mo h0 hc hm => obtain ⟨rfl, rfl⟩ := h0; exact ⟨cb, mo, h1, hc, hm⟩

section ops
variable {n : Nat} {o : Oper} {run : Run}

theorem s_delete {c : Call} (ho : o.op = .call c) (hc : c.callee = .builtin .delete) (h : cOp P o = some run) : Sound P n o run := by
  have hb := call_op ho hc h
  have h2 : ∃ x y t r e, c.args.toList = [x, y] ∧ c.argTypes.toList = t :: r ∧ mapTy P t = some e ∧ c2 x y (deleteR e.2) = some run := by
    generalize c.args.toList = l at hb
    generalize c.argTypes.toList = ts at hb
    cases l with
    | nil => cases hb
    | cons x l => cases l with
      | nil => cases hb
      | cons y l => cases l with
        | cons _ _ => cases hb
        | nil => cases ts with
          | nil => cases hb
          | cons t r =>
            have hb' : (match mapTy P t with | some e => c2 x y (deleteR e.2) | none => none) = some run := hb
            split at hb'
            · rename_i e he; exact ⟨x, y, t, r, e, rfl, rfl, he, hb'⟩
            · cases hb'
  obtain ⟨x, y, t, r, e, hargs, hts, he, hb⟩ := h2
  have ha := arr2 hargs
  have ht0 := arr_hd hts
  obtain ⟨kt, d, M⟩ := mapTy_t he
  refine gen2 hb (by rw [ho]; simp [Op.operands, Call.operands, hc, ha]) (by rw [ho]; simp [Op.operands, Call.operands, hc, ha]) (F := fun a b => (do Pure.pure (Next.value (← Builtin.delete_ c.argTypes o.type #[a, b])))) (fun tmps => by obtain ⟨cs, e⟩ := exec_builtin ho hc tmps; rw [e, ha]; simp [builtin]) fun v v2 A K hk => ?_
  obtain ⟨b, i, nn, c0, clock, es, e1, hg, h1⟩ := mapK_t hk
  subst e1
  obtain ⟨es', hr, hs⟩ := delM_sound M es _ h1
  refine ⟨_, _, hr, fun σ w mv kv hmv hkv hA => ?_⟩
  cases hmv with
  | map b i n' c0 r hr' =>
    obtain ⟨ents, g1, g2⟩ := hA.mapAt hg hr'
    have hund := run_underlying M.ht w
    have hobj : (getObj r).run P w = .ok (.map ents clock) w := by simp [getObj, Sem.run, g1]
    rcases hs σ kv ents.toList 0 hkv g2 with ⟨q1, q2⟩ | ⟨j, m', q1, q2, q3⟩
    · have hf := findKey_run M q1 w
      obtain ⟨w', s1, s2, s3⟩ := hA.mapSet (P := P) (clock' := clock) (es' := es') (ents := ents) hg hr' q2
      refine ⟨σ, .tuple #[], w', .inl (vals _ _ w w' ?_), by simp, s3, s2, .tuple 0 [] [] #[] .nil⟩
      simp only [Builtin.delete_, ht0, List.getElem?_toArray, List.getElem?_cons_zero, List.getElem?_cons_succ, Sem.run_bind, hund, Result.andThen_ok, hobj, M.check, hf, s1, Sem.run_pure]
    · have hf := findKey_run M q2 w
      rw [Nat.zero_add] at hf
      obtain ⟨w', s1, s2, s3⟩ := hA.mapSet (P := P) (clock' := clock) (es' := es') (ents := ents.eraseIdxIfInBounds j) hg hr' (by
        have hj : j < ents.size := by have := (List.getElem?_eq_some_iff.1 q1).1; simpa using this
        rw [Array.eraseIdxIfInBounds, dif_pos hj, Array.toList_eraseIdx]; exact q3)
      refine ⟨σ, .tuple #[], w', .inl (vals _ _ w w' ?_), by simp, s3, s2, .tuple 0 [] [] #[] .nil⟩
      simp only [Builtin.delete_, ht0, List.getElem?_toArray, List.getElem?_cons_zero, List.getElem?_cons_succ, Sem.run_bind, hund, Result.andThen_ok, hobj, M.check, hf, s1, Sem.run_pure]

theorem s_range {t : TypeId} {x : Operand} (ho : o.op = .range t x) (h : cOp P o = some run) : Sound P n o run := by
  unfold cOp at h
  rw [ho] at h
  simp only at h
  split at h
  case h_2 => cases h
  rename_i k el hu
  refine gen1 h (by rw [ho]; simp [Op.operands]) (F := fun a => (do Pure.pure (Next.value (← Instr.range t a)))) (fun tmps => by unfold execOp; rw [ho]) fun v A K hk => ?_
  unfold rangeR at hk
  split at hk
  · obtain ⟨h1, h2⟩ := and_t.1 hk
    have := Nat.eq_of_beq_eq_true h1
    subst this
    obtain ⟨h3, h4⟩ := newK_t h2
    refine ⟨_, _, h4, fun σ w xv hx hA => ?_⟩
    cases hx
    have hund := run_underlying hu w
    obtain ⟨q1, q2⟩ := hA.push h3 (cobj := .mapIter none 0 #[] 0) (sz := 0) (o := .iter none 0 [] 0) (.iter none 0 [] 0 none ⟨rfl, rfl⟩ (by simp) rfl)
    refine ⟨_, _, _, .inl (vals _ _ w _ ?_), by simp, q2, q1, ptr_new (Sub.upd_self ..)⟩
    simp only [Instr.range, Sem.run_bind, hund, Result.andThen_ok, Sem.run_pure, newObj, Sem.run]
  · rename_i t' m i n' c
    obtain ⟨h1, h2⟩ := and_t.1 hk
    have := Nat.eq_of_beq_eq_true h1
    subst this
    obtain ⟨o', ho', h3⟩ := optK_t.1 h2
    obtain ⟨clock, es, h4, h5⟩ := oMap_t.1 h3
    subst h4
    obtain ⟨h6, h7⟩ := newK_t h5
    refine ⟨_, _, h7, fun σ w xv hx hA => ?_⟩
    cases hx with
    | map b i n' c r hr =>
      obtain ⟨ents, g1, g2⟩ := hA.mapAt ho' hr
      have hund := run_underlying hu w
      have hobj : (getObj r).run P w = .ok (.map ents clock) w := by simp [getObj, Sem.run, g1]
      have hne : m ≠ A.next := fun e => by rw [e, hA.next_pend] at hr; cases hr
      obtain ⟨q1, q2⟩ := hA.push h6 (cobj := .mapIter (some r) clock #[] clock) (sz := 0) (o := .iter (some m) clock [] clock) (.iter (some m) clock [] clock (some r) ⟨rfl, rfl⟩ (by simp) ⟨r, rfl, by rw [Sub.upd_ne hne]; exact hr⟩)
      refine ⟨_, _, _, .inl (vals _ _ w _ ?_), by simp, q2, q1, ptr_new (Sub.upd_self ..)⟩
      simp only [Instr.range, Sem.run_bind, hund, Result.andThen_ok, Sem.run_pure, hobj]
      simp only [newObj, Sem.run, Result.andThen_ok]
  · cases hk

theorem forced_one : (Question.mapNext 1).forced = true := rfl
theorem choose_one (w : World) : (choose (.mapNext 1)).run P w = .ok 0 w := by simp [choose, Sem.run, Question.forced]

theorem s_next {it : Operand} (ho : o.op = .next it false) (h : cOp P o = some run) : Sound P n o run := by
  unfold cOp at h
  rw [ho] at h
  simp only at h
  refine gen1 h (by rw [ho]; simp [Op.operands]) (F := fun a => (do Pure.pure (Next.value (← Instr.next a false o.type)))) (fun tmps => by unfold execOp; rw [ho]) fun v A K hk => ?_
  obtain ⟨b, i, f, c0, e1, h1⟩ := asPtr_t.1 hk
  obtain ⟨h2, h3⟩ := and_t.1 h1
  obtain ⟨h4, h5⟩ := and_t.1 h2
  have hi := Nat.eq_of_beq_eq_true h4
  have hf := Nat.eq_of_beq_eq_true h5
  subst hi; subst hf; subst e1
  obtain ⟨o', hg, h6⟩ := optK_t.1 h3
  obtain ⟨m, since, seen, last, e2, h7⟩ := oIter_t.1 h6
  subst e2
  cases m with
  | none =>
    refine ⟨_, A, h7, fun σ w xv hx hA => ?_⟩
    cases hx with
    | ptr b i f c a h0 ha =>
      obtain ⟨r, mo, g1, g2, g3⟩ := hA.iterAt hg h0
      have g3 : mo = none := g3
      subst g3
      have hobj : (getObj r).run P w = .ok (.mapIter none since seen.toArray last) w := by simp [getObj, Sem.run, g2]
      refine Out.pure (x := .tuple #[.bool false]) (vals _ _ w w ?_) hA (.tuple 0 _ [] _ (.cons (.bool false) .nil))
      rw [ha r 0 0 g1]
      simp only [Instr.next, Nat.mul_zero, Nat.add_zero, Sem.run_bind, hobj, Result.andThen_ok, Sem.run_pure]
  | some m =>
    obtain ⟨o2, hg2, h8⟩ := optK_t.1 h7
    obtain ⟨clock, es, e3, h9⟩ := oMap_t.1 h8
    subst e3
    obtain ⟨h10, h11⟩ := and_t.1 h9
    unfold nextIt at h11
    have common : ∀ (σ : Ai.Sub) (w : World) (a : Addr), Rel σ A w → σ b ≠ .pend → (∀ cb base sz, σ b = .at cb base sz → a = ⟨cb, base + 0 * sz + 0, none⟩) → ∃ (r r2 : Nat) (ents : Array MapEntry), a = ⟨r, 0, none⟩ ∧ σ b = .at r 0 0 ∧ σ m = .at r2 0 0 ∧ EntR σ (leftM seen es) (ents.filter fun e => !seen.toArray.contains e.born).toList ∧
        (getObj r).run P w = .ok (.mapIter (some r2) since seen.toArray last) w ∧ (getObj r2).run P w = .ok (.map ents clock) w ∧ (!seen.toArray.isEmpty && !ents.isEmpty && ents.all fun e => decide (e.born ≥ last)) = false := by
      intro σ w a hA h0 ha
      obtain ⟨r, mo, g1, g2, r2, g3, g4⟩ := hA.iterAt hg h0
      subst g3
      obtain ⟨ents, g5, g6⟩ := hA.mapAt hg2 g4
      refine ⟨r, r2, ents, by rw [ha r 0 0 g1], g1, g4, by rw [Array.toList_filter]; exact leftM_R g6, by simp [getObj, Sem.run, g2], by simp [getObj, Sem.run, g5], stepsOk_R h10 g6⟩
    split at h11
    · rename_i hl
      refine ⟨_, A, h11, fun σ w xv hx hA => ?_⟩
      cases hx with
      | ptr b i f c a h0 ha =>
        obtain ⟨r, r2, ents, q1, q2, q3, q4, q5, q6, q7⟩ := common σ w a hA h0 ha
        subst q1
        rw [hl] at q4
        have hleft : (ents.filter fun e => !seen.toArray.contains e.born) = #[] := by
          have := q4.nil_inv
          exact Array.toList_inj.1 this
        refine Out.pure (x := .tuple #[.bool false]) (vals _ _ w w ?_) hA (.tuple 0 _ [] _ (.cons (.bool false) .nil))
        simp only [Instr.next, Sem.run_bind, q5, q6, Result.andThen_ok, q7, Bool.false_eq_true, if_false, hleft]
        simp [forced_one]
    · rename_i s k v hl
      obtain ⟨h12, h13⟩ := and_t.1 h11
      have hlt : s < since := by simpa using h12
      refine ⟨_, _, h13, fun σ w xv hx hA => ?_⟩
      cases hx with
      | ptr b i f c a h0 ha =>
        obtain ⟨r, r2, ents, q1, q2, q3, q4, q5, q6, q7⟩ := common σ w a hA h0 ha
        subst q1
        rw [hl] at q4
        obtain ⟨e, rest, p1, p2, p3, p4, p5⟩ := q4.cons_inv
        have hr := p5.nil_inv
        subst hr
        have hleft : (ents.filter fun e => !seen.toArray.contains e.born) = #[e] := Array.toList_inj.1 p1
        have hold : e.born < since := by rw [← p2]; exact hlt
        have hge : ¬ (e.born ≥ since) := by omega
        have hlow := hA.low b r 0 0 q2
        have hiter : w.heap[r]? = some (.mapIter (some r2) since seen.toArray last) := by
          obtain ⟨r', mo, g1, g2, g3⟩ := hA.iterAt hg h0
          rw [q2] at g1; cases g1
          obtain ⟨r3, g4, g5⟩ := g3
          rw [q3] at g5; cases g5
          rw [g4] at g2; exact g2
        have hset : (setObj r (.mapIter (some r2) since (seen.toArray.push e.born) clock)).run P w = .ok () { w with heap := w.heap.setIfInBounds r (.mapIter (some r2) since (seen.toArray.push e.born) clock) } := by simp [setObj, Sem.run, hiter]
        have hob : ORel σ { w with heap := w.heap.setIfInBounds r (.mapIter (some r2) since (seen.toArray.push e.born) clock) } r 0 0 (.iter (some m) since (seen ++ [s]) clock) := by
          refine ORel.iter (some m) since (seen ++ [s]) clock (some r2) (And.intro rfl rfl) ?_ (Exists.intro r2 (And.intro rfl q3))
          have p2' : s = e.born := p2
          simp [hlow, p2']
        obtain ⟨s1, s2⟩ := hA.change (hA.nrom_zero q2) (by exact ⟨rfl, rfl⟩) hg q2 (fun k hk => by simp [Ne.symm hk]) (by simp) hob
        refine ⟨σ, .tuple #[.bool true, e.key, e.val], _, .inl (vals _ _ w _ ?_), by simp, s2, s1, .tuple 0 _ [] _ (.cons (.bool true) (.cons p3 (.cons p4 .nil)))⟩
        simp only [Instr.next, Sem.run_bind, q5, q6, Result.andThen_ok, q7, Bool.false_eq_true, if_false, hleft]
        simp only [List.push_toArray] at hset ⊢
        simp [forced_one, hold]
        rw [hset]; rfl
    · cases h11

theorem s_entry {it : Operand} (ho : o.op = .entry it) (h : cOp P o = some run) : Sound P n o run := by
  unfold cOp at h
  rw [ho] at h
  simp only at h
  refine gen1 h (by rw [ho]; simp [Op.operands]) (F := fun a => (do Pure.pure (Next.value (← Instr.entry a)))) (fun tmps => by unfold execOp; rw [ho]) fun v A K hk => ?_
  obtain ⟨b, i, f, c0, e1, h1⟩ := asPtr_t.1 hk
  obtain ⟨h2, h3⟩ := and_t.1 h1
  obtain ⟨h4, h5⟩ := and_t.1 h2
  have hi := Nat.eq_of_beq_eq_true h4
  have hf := Nat.eq_of_beq_eq_true h5
  subst hi; subst hf; subst e1
  obtain ⟨o', hg, h6⟩ := optK_t.1 h3
  obtain ⟨m, since, seen, stepped, e2, h7⟩ := oIter_t.1 h6
  subst e2
  obtain ⟨m', e3, h8⟩ := optK_t.1 h7
  subst e3
  obtain ⟨o2, hg2, h9⟩ := optK_t.1 h8
  obtain ⟨clock, es, e4, h10⟩ := oMap_t.1 h9
  subst e4
  obtain ⟨h11, h12⟩ := and_t.1 h10
  have hcs := Nat.eq_of_beq_eq_true h11
  subst hcs
  obtain ⟨s, hs, h13⟩ := optK_t.1 h12
  obtain ⟨kv, hkv, hK⟩ := optK_t.1 h13
  refine ⟨_, A, hK, fun σ w xv hx hA => ?_⟩
  cases hx with
  | ptr b i f c a h0 ha =>
    obtain ⟨r, mo, g1, g2, r2, g3, g4⟩ := hA.iterAt hg h0
    subst g3
    obtain ⟨ents, g5, g6⟩ := hA.mapAt hg2 g4
    obtain ⟨e, q1, q2, q3⟩ := bornM_R g6 hkv
    have hobj : (getObj r).run P w = .ok (.mapIter (some r2) since seen.toArray clock) w := by simp [getObj, Sem.run, g2]
    have hobj2 : (getObj r2).run P w = .ok (.map ents clock) w := by simp [getObj, Sem.run, g5]
    have hback : seen.toArray.back? = some s := by rw [List.back?_toArray, ← lastN_eq]; exact hs
    have hfind : ents.find? (fun e => e.born == s) = some e := by rw [← q1, Array.find?_toList]
    refine Out.pure (x := .tuple #[e.key, e.val]) (vals _ _ w w ?_) hA (.tuple 0 _ [] _ (.cons q2 (.cons q3 .nil)))
    rw [ha r 0 0 g1]
    simp [Instr.entry, hobj, hobj2, hback, hfind]
end ops
end Go.Ai

namespace Go.Ai
open Go
variable {P : Program}

theorem call_P {n : Nat} {o : Oper} {run : Run} {c : Call} (ho : o.op = .call c) (hc : calmOp P o = true) (h : cOp P o = some run) : SoundP P n o run := by
  unfold calmOp at hc
  rw [ho] at hc
  have hc := (and_t.1 hc).2
  cases hcal : c.callee with
  | builtin b =>
    simp only [hcal] at hc
    cases b with
    | len => exact s_len ho hcal h
    | cap => exact s_cap ho hcal h
    | max => exact s_max ho hcal h
    | min => exact s_min ho hcal h
    | _ => cases hc
  | _ => simp only [hcal] at hc; cases hc

theorem hopP_ok : ∀ n o run, calmOp P o = true → allocOp o = false → cOp P o = some run → SoundP P n o run := by
  intro n o run hc ha h
  have hc0 := hc
  unfold calmOp at hc
  unfold allocOp at ha
  have hc := (and_t.1 hc).2
  cases ho : o.op with
  | move x => exact s_move (.inl ho) h
  | pick c a b => exact s_pick ho h
  | load t a => exact s_load ho h
  | fieldAddr s x i => exact s_fieldAddr ho h
  | field t x i => exact s_field ho h
  | binOp op t x y ty => exact bin_sound ho h
  | unOp op t x => exact s_unOp ho h
  | extract t i => exact s_extract ho h
  | index t x ix => exact s_index ho h
  | indexAddr t x ix => exact s_indexAddr ho h
  | slice t x lo hi mx => exact s_slice ho h
  | makeInterface t x => exact s_mkIface ho h
  | makeFunc fn a b => exact s_makeFunc ho h
  | build t ps => exact s_build ho h
  | nilCheck x => exact s_nilCheck ho h
  | lookup t x k ok => exact s_lookup ho h
  | convert src dst x =>
    rw [ho] at hc
    simp only at hc
    split at hc
    · cases hc
    · rename_i hd; exact s_convert ho h hd
  | call c => exact call_P ho hc0 h
  | _ => first
    | (rw [ho] at hc; cases hc; done)
    | (rw [ho] at ha; cases ha; done)

theorem hopN_ok : ∀ n o run, calmOp P o = true → allocOp o = true → cOp P o = some run → SoundN P n o run := by
  intro n o run hc ha h
  unfold allocOp at ha
  cases ho : o.op with
  | alloc t => exact s_alloc ho h
  | box t x => exact s_box ho h
  | buildSlice t m ps => exact s_buildSlice ho h
  | makeMap t r => exact s_makeMap ho h
  | makeSlice t l c => exact s_makeSlice ho h
  | _ => rw [ho] at ha; cases ha

theorem hop_ok : ∀ n o run, cOp P o = some run → Sound P n o run := by
  intro n o run h
  have h0 := h
  unfold cOp at h0
  cases ho : o.op with
  | move x => exact (s_move (.inl ho) h).sound
  | assign x => exact (s_move (.inr ho) h).sound
  | pick c a b => exact (s_pick ho h).sound
  | load t a => exact (s_load ho h).sound
  | fieldAddr s x i => exact (s_fieldAddr ho h).sound
  | field t x i => exact (s_field ho h).sound
  | binOp op t x y ty => exact (bin_sound ho h).sound
  | unOp op t x => exact (s_unOp ho h).sound
  | extract t i => exact (s_extract ho h).sound
  | index t x ix => exact (s_index ho h).sound
  | indexAddr t x ix => exact (s_indexAddr ho h).sound
  | slice t x lo hi mx => exact (s_slice ho h).sound
  | makeInterface t x => exact (s_mkIface ho h).sound
  | makeFunc fn a b => exact (s_makeFunc ho h).sound
  | build t ps => exact (s_build ho h).sound
  | nilCheck x => exact (s_nilCheck ho h).sound
  | lookup t x k ok => exact (s_lookup ho h).sound
  | typeAssert x xt t ok => exact (s_typeAssert ho h).sound
  | convert src dst x =>
    cases hd : elemTy P dst with
    | none => exact (s_convert ho h hd).sound
    | some el => exact s_toBytes ho h hd
  | alloc t => exact (s_alloc ho h).sound
  | box t x => exact (s_box ho h).sound
  | buildSlice t m ps => exact (s_buildSlice ho h).sound
  | makeMap t r => exact (s_makeMap ho h).sound
  | makeSlice t l c => exact (s_makeSlice ho h).sound
  | store t a x => exact s_store ho h
  | mapUpdate t m k x => exact s_upd (.inl ho) h
  | insert t m k x => exact s_upd (.inr ho) h
  | mapEntry t m k => exact s_mapEntry ho h
  | entryStore t m s x => exact s_entryStore ho h
  | range t x => exact s_range ho h
  | next it b =>
    cases b with
    | true => rw [ho] at h0; cases h0
    | false => exact s_next ho h
  | entry it => exact s_entry ho h
  | call c =>
    rw [ho] at h0
    cases hcal : c.callee with
    | builtin b =>
      cases b with
      | len => exact (s_len ho hcal h).sound
      | cap => exact (s_cap ho hcal h).sound
      | max => exact (s_max ho hcal h).sound
      | min => exact (s_min ho hcal h).sound
      | append => exact s_append ho hcal h
      | copy => exact s_copy ho hcal h
      | clear => exact s_clear ho hcal h
      | delete => exact s_delete ho hcal h
      | _ =>
        have hb := call_op ho hcal h
        simp only [cBuiltin] at hb
        cases hb
    | _ => simp only [hcal] at h0; cases h0
  | _ => rw [ho] at h0; cases h0
end Go.Ai
